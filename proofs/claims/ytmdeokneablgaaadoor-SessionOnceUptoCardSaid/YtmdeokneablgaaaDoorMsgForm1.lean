/- Contract of the program's test of a message that subscribes. -/
import Derived.Test.YtmdeokneablgaaaDoorMsgSpec
import Derived.Test.YtmdeokneablgaaaDoorNoteWalk
namespace Go.Proofs.YtmdeokneablgaaaDoor
open Go.ChangeShapes Go.WideShapes Go.ChangeAt Go.RowKit

set_option maxRecDepth 100000 in
set_option maxHeartbeats 1600000 in
theorem wireFormed1 (x : Msg) (vi vv vn vb : Value) (w : World) (hI : MsgI x) (h : MsgV w w.heap.size vi vv vn vb x) (hT : TzTab w) (k1 : x.kind = 1) :
    Calls Tryd.prog 31 #[.agg #[.int .i64 x.kind, .int .i64 x.from_, .int .i64 x.to_, .int .i64 x.session, .int .i64 x.seq, vi, vv, vn, .int .i64 x.body.object, .int .i64 x.body.stamp.count, .int .i64 x.body.stamp.node, vb]] w fun e w' => e = .returned (.bool (msgFormed x)) ∧ Below w.heap.size w w' := by
  have hl1 := h.interest.len_le
  have hl2 := h.vector.len_le
  have hl3 := h.notes.len_le
  have hl4 := h.value.len_le
  obtain ⟨A1, c1, rfl, -⟩ := id h.interest
  obtain ⟨A2, c2, rfl, -⟩ := id h.vector
  obtain ⟨A3, c3, rfl, -⟩ := id h.notes
  obtain ⟨A4, c4, rfl, -⟩ := id h.value
  have HH := Lib.hid h
  have HT := Lib.hid hT
  clear h hT
  obtain ⟨kd, fr, tt, se, sq, li, lv, ln, ⟨bo, ⟨bc, bn⟩, lb⟩⟩ := x
  dsimp only at *
  unfold msgFormed
  dsimp only
  generalize hv : (nodeB fr && nodeB tt && _ : Bool) = V
  unfold msgRest bodyFormed bodyEmpty at hv
  dsimp only at hv
  generalize hr1 : nodeB fr = r1 at hv
  generalize hr2 : nodeB tt = r2 at hv
  have HE := Lib.hid (rfl : ln = ln)
  generalize hn1 : li.length = n1 at *
  generalize hn2 : lv.length = n2 at *
  generalize hn3 : ln.length = n3 at *
  generalize hn4 : lb.length = n4 at *
  have HV := Lib.hid hv
  have HN1 := Lib.hid hn1
  have HN2 := Lib.hid hn2
  have HN3 := Lib.hid hn3
  have H1 := Lib.hid hr1
  have H2 := Lib.hid hr2
  clear hr1 hr2 hv hn1 hn2 hn3 hn4 hI
  subst k1
  go_enter Tryd.func31, Tryd.ntmps31
  go_wp2_with fail
  refine BW.sameR (wireNode _ _) (congrArg Value.bool H1.out) ?_
  cases r1
  · go_wp2_with fail
    go_ret
    exact ⟨ret_bool (by rw [← HV.out]; simp), balloc (Below.refl _ _)⟩
  go_wp2_with fail
  refine BW.sameR (wireNode _ _) (congrArg Value.bool H2.out) ?_
  cases r2
  · go_wp2_with fail
    go_ret
    exact ⟨ret_bool (by rw [← HV.out]; simp), balloc (Below.refl _ _)⟩
  clear H1 H2
  by_cases hok : 0 ≤ se ∧ sq = 0 ∧ n3 = 0 ∧ bo = 0 ∧ 0 < n1 ∧ bc = 0 ∧ bn = 0 ∧ n4 = 0
  · obtain ⟨q1, rfl, rfl, rfl, q2, rfl, rfl, rfl⟩ := hok
    generalize hr1 : spanFormed li = r1 at HV
    generalize hr2 : vecFormed lv = r2 at HV
    have H1 := Lib.hid hr1
    have H2 := Lib.hid hr2
    have HW := Lib.hid (show V = (r1 && r2) by rw [← HV.out]; simp [q1, q2])
    clear HV hr1 hr2
    go_wp2_with fail
    have kB := balloc (o := .cells #[.int .i64 1, .int .i64 fr, .int .i64 tt, .int .i64 se, .int .i64 0, .slice A1 n1 c1, .slice A2 n2 c2, .slice A3 0 c3, .int .i64 0, .int .i64 0, .int .i64 0, .slice A4 0 c4] 42) (Below.refl _ w)
    have B := Blk.new w 42 #[.int .i64 1, .int .i64 fr, .int .i64 tt, .int .i64 se, .int .i64 0, .slice A1 n1 c1, .slice A2 n2 c2, .slice A3 0 c3, .int .i64 0, .int .i64 0, .int .i64 0, .slice A4 0 c4]
    generalize hW : w.alloc _ = W at *
    have B5 := Lib.hid (B.cell 5)
    have B6 := Lib.hid (B.cell 6)
    have q6 : ∀ z : BW W, z.val.cell? ⟨w.heap.size, 6, none⟩ = some (.slice A2 n2 c2) := fun z => z.cell B6.out
    clear hW B
    refine BW.start (w := W) ?_
    intro z
    refine BW.callR (z := z) (spanFormedWalk li _ _ ((HH.out.next kB).next z.below).interest) (congrArg Value.bool H1.out) ?_
    clear z
    intro z
    cases r1
    · go_wp2_with fail
      go_ret
      exact ⟨ret_bool (by rw [HW.out]; rfl), bnext kB z.below⟩
    go_wp2_with fail
    refine BW.callR (z := z) (vectorFormed lv _ _ ((HH.out.next kB).next z.below).vector) (congrArg Value.bool H2.out) ?_
    clear z
    intro z
    go_wp2_with fail
    go_ret
    exact ⟨ret_bool (by rw [HW.out]; rfl), bnext kB z.below⟩
  · obtain rfl : V = false := by
      rw [← HV.out]
      simp
      omega
    go_wp2_with fail
    all_goals first | (go_ret; exact ⟨rfl, balloc (Below.refl _ _)⟩) | (exfalso; simp at *; omega)

end Go.Proofs.YtmdeokneablgaaaDoor
