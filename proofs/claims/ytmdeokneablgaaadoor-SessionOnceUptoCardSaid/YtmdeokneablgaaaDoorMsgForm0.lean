/- Contract of the program's test of a message of another kind. -/
import Derived.Test.YtmdeokneablgaaaDoorMsgSpec
import Derived.Test.YtmdeokneablgaaaDoorMsgForm1
import Derived.Test.YtmdeokneablgaaaDoorMsgForm3
namespace Go.Proofs.YtmdeokneablgaaaDoor
open Go.ChangeShapes Go.WideShapes Go.ChangeAt Go.RowKit

set_option maxRecDepth 100000 in
set_option maxHeartbeats 1600000 in
theorem wireFormed0 (x : Msg) (vi vv vn vb : Value) (w : World) (hI : MsgI x) (h : MsgV w w.heap.size vi vv vn vb x) (hT : TzTab w) (k1 : ¬ x.kind = 1) (k3 : ¬ x.kind = 3) :
    Calls Tryd.prog 31 #[.agg #[.int .i64 x.kind, .int .i64 x.from_, .int .i64 x.to_, .int .i64 x.session, .int .i64 x.seq, vi, vv, vn, .int .i64 x.body.object, .int .i64 x.body.stamp.count, .int .i64 x.body.stamp.node, vb]] w fun e w' => e = .returned (.bool (msgFormed x)) ∧ Below w.heap.size w w' := by
  have hl1 := h.interest.len_le
  have hl2 := h.vector.len_le
  have hl3 := h.notes.len_le
  have hl4 := h.value.len_le
  obtain ⟨A1, c1, rfl, -⟩ := id h.interest
  obtain ⟨A2, c2, rfl, -⟩ := id h.vector
  obtain ⟨A3, c3, rfl, -⟩ := id h.notes
  obtain ⟨A4, c4, rfl, -⟩ := id h.value
  have HH := Lib.hid h
  have HT := Lib.hid hT
  clear h hT
  obtain ⟨kd, fr, tt, se, sq, li, lv, ln, ⟨bo, ⟨bc, bn⟩, lb⟩⟩ := x
  dsimp only at *
  unfold msgFormed
  dsimp only
  generalize hv : (nodeB fr && nodeB tt && _ : Bool) = V
  unfold msgRest bodyFormed bodyEmpty at hv
  dsimp only at hv
  generalize hr1 : nodeB fr = r1 at hv
  generalize hr2 : nodeB tt = r2 at hv
  have HE := Lib.hid (rfl : ln = ln)
  generalize hn1 : li.length = n1 at *
  generalize hn2 : lv.length = n2 at *
  generalize hn3 : ln.length = n3 at *
  generalize hn4 : lb.length = n4 at *
  have HV := Lib.hid hv
  have HN1 := Lib.hid hn1
  have HN2 := Lib.hid hn2
  have HN3 := Lib.hid hn3
  have H1 := Lib.hid hr1
  have H2 := Lib.hid hr2
  clear hr1 hr2 hv hn1 hn2 hn3 hn4 hI
  go_enter Tryd.func31, Tryd.ntmps31
  go_wp2_with fail
  refine BW.sameR (wireNode _ _) (congrArg Value.bool H1.out) ?_
  cases r1
  · go_wp2_with fail
    go_ret
    exact ⟨ret_bool (by rw [← HV.out]; simp), balloc (Below.refl _ _)⟩
  go_wp2_with fail
  refine BW.sameR (wireNode _ _) (congrArg Value.bool H2.out) ?_
  cases r2
  · go_wp2_with fail
    go_ret
    exact ⟨ret_bool (by rw [← HV.out]; simp), balloc (Below.refl _ _)⟩
  clear H1 H2
  have k1' : (kd == 1) = false := by simpa using k1
  have k3' : (kd == 3) = false := by simpa using k3
  simp only [if_neg k1, if_neg k3] at HV
  by_cases hok : n1 = 0 ∧ n2 = 0 ∧ n3 = 0 ∧ se = 0 ∧ sq = 0
  · obtain ⟨rfl, rfl, rfl, rfl, rfl⟩ := hok
    by_cases k2 : kd = 2
    · subst k2
      by_cases hb : bc = 0 ∧ bn = 0 ∧ n4 = 0 ∧ bo = 0
      · obtain ⟨rfl, rfl, rfl, rfl⟩ := hb
        obtain rfl : V = true := by rw [← HV.out]; rfl
        go_wp2_with fail
        go_ret
        exact ⟨rfl, balloc (Below.refl _ _)⟩
      · obtain rfl : V = false := by
          rw [← HV.out]
          simp
          omega
        go_wp2_with fail
        all_goals first | (go_ret; exact ⟨rfl, balloc (Below.refl _ _)⟩) | (go_ret; exact ⟨ret_bool (Bool.eq_iff_iff.2 (by simp <;> omega)), balloc (Below.refl _ _)⟩) | (exfalso; simp at *; omega)
    have k2' : (kd == 2) = false := by simpa using k2
    by_cases k4 : kd = 4
    · subst k4
      by_cases hb : bc = 0 ∧ bn = 0 ∧ n4 = 0 ∧ 0 ≤ bo ∧ bo ≤ 255
      · obtain ⟨rfl, rfl, rfl, g1, g2⟩ := hb
        have g3 : bo < 256 := by omega
        obtain rfl : V = true := by rw [← HV.out]; simp [g1, g2]
        go_wp2_with fail
        go_ret
        exact ⟨rfl, balloc (Below.refl _ _)⟩
      · obtain rfl : V = false := by
          rw [← HV.out]
          simp
          omega
        go_wp2_with fail
        all_goals first | (go_ret; exact ⟨rfl, balloc (Below.refl _ _)⟩) | (go_ret; exact ⟨ret_bool (Bool.eq_iff_iff.2 (by simp <;> omega)), balloc (Below.refl _ _)⟩) | (exfalso; simp at *; omega)
    have k4' : (kd == 4) = false := by simpa using k4
    by_cases k5 : kd = 5
    · subst k5
      have HW := Lib.hid (show V = (decide (0 ≤ bo ∧ bo ≤ 255) && rightB bc bn && decide (n4 ≤ 256)) by rw [← HV.out]; simp)
      clear HV
      go_wp2_with fail
      all_goals
        refine BW.callR (z := (BW.self w).alloc _) (wireRight _ _ _ _ _ _ _ hl4) rfl ?_
        intro z
        go_wp2_with fail
        go_ret
        exact ⟨ret_bool (by rw [HW.out]; simp [*]), z.below⟩
    · have k5' : (kd == 5) = false := by simpa using k5
      obtain rfl : V = false := by
        rw [← HV.out]
        simp [k2, k4, k5]
      go_wp2_with fail
      all_goals first | (go_ret; exact ⟨rfl, balloc (Below.refl _ _)⟩) | (go_ret; exact ⟨ret_bool (Bool.eq_iff_iff.2 (by simp <;> omega)), balloc (Below.refl _ _)⟩) | (exfalso; simp at *; omega)
  · obtain rfl : V = false := by
      rw [← HV.out]
      simp
      omega
    have hcs : (0 : Int) < (n1 : Int) + n2 ∨ (n1 = 0 ∧ n2 = 0 ∧ (0 : Int) < (n3 : Int)) ∨ (n1 = 0 ∧ n2 = 0 ∧ n3 = 0 ∧ ¬ se = 0) ∨ (n1 = 0 ∧ n2 = 0 ∧ n3 = 0 ∧ se = 0 ∧ ¬ sq = 0) := by omega
    rcases hcs with g | ⟨rfl, rfl, g⟩ | ⟨rfl, rfl, rfl, g⟩ | ⟨rfl, rfl, rfl, rfl, g⟩
    · go_wp2_with fail
      all_goals (go_ret; exact ⟨rfl, balloc (Below.refl _ _)⟩)
    · go_wp2_with fail
      all_goals (go_ret; exact ⟨rfl, balloc (Below.refl _ _)⟩)
    · have g' : (se != 0) = true := by simpa using g
      go_wp2_with fail
      all_goals (go_ret; exact ⟨rfl, balloc (Below.refl _ _)⟩)
    · have g' : (sq != 0) = true := by simpa using g
      go_wp2_with fail
      all_goals (go_ret; exact ⟨rfl, balloc (Below.refl _ _)⟩)

theorem wireFormed (x : Msg) (vi vv vn vb : Value) (w : World) (hI : MsgI x) (h : MsgV w w.heap.size vi vv vn vb x) (hT : TzTab w) :
    Calls Tryd.prog 31 #[.agg (msgCells vi vv vn vb x)] w fun e w' => e = .returned (.bool (msgFormed x)) ∧ Below w.heap.size w w' := by
  by_cases k3 : x.kind = 3
  · exact wireFormed3 x vi vv vn vb w hI h hT k3
  · by_cases k1 : x.kind = 1
    · exact wireFormed1 x vi vv vn vb w hI h hT k1
    · exact wireFormed0 x vi vv vn vb w hI h hT k1 k3
end Go.Proofs.YtmdeokneablgaaaDoor
