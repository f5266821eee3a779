/- Contract of the program's test of a message of notes. -/
import Derived.Test.YtmdeokneablgaaaDoorMsgSpec
import Derived.Test.YtmdeokneablgaaaDoorNoteWalk
namespace Go.Proofs.YtmdeokneablgaaaDoor
open Go.ChangeShapes Go.WideShapes Go.ChangeAt Go.RowKit

set_option maxRecDepth 100000 in
set_option maxHeartbeats 1600000 in
theorem wireFormed3 (x : Msg) (vi vv vn vb : Value) (w : World) (hI : MsgI x) (h : MsgV w w.heap.size vi vv vn vb x) (hT : TzTab w) (k3 : x.kind = 3) :
    Calls Tryd.prog 31 #[.agg #[.int .i64 x.kind, .int .i64 x.from_, .int .i64 x.to_, .int .i64 x.session, .int .i64 x.seq, vi, vv, vn, .int .i64 x.body.object, .int .i64 x.body.stamp.count, .int .i64 x.body.stamp.node, vb]] w fun e w' => e = .returned (.bool (msgFormed x)) ∧ Below w.heap.size w w' := by
  have hl1 := h.interest.len_le
  have hl2 := h.vector.len_le
  have hl3 := h.notes.len_le
  have hl4 := h.value.len_le
  obtain ⟨A1, c1, rfl, -⟩ := id h.interest
  obtain ⟨A2, c2, rfl, -⟩ := id h.vector
  obtain ⟨A3, c3, rfl, -⟩ := id h.notes
  obtain ⟨A4, c4, rfl, -⟩ := id h.value
  have HH := Lib.hid h
  have HT := Lib.hid hT
  clear h hT
  obtain ⟨kd, fr, tt, se, sq, li, lv, ln, ⟨bo, ⟨bc, bn⟩, lb⟩⟩ := x
  dsimp only at *
  unfold msgFormed
  dsimp only
  generalize hv : (nodeB fr && nodeB tt && _ : Bool) = V
  unfold msgRest bodyFormed bodyEmpty at hv
  dsimp only at hv
  generalize hr1 : nodeB fr = r1 at hv
  generalize hr2 : nodeB tt = r2 at hv
  have HE := Lib.hid (rfl : ln = ln)
  generalize hn1 : li.length = n1 at *
  generalize hn2 : lv.length = n2 at *
  generalize hn3 : ln.length = n3 at *
  generalize hn4 : lb.length = n4 at *
  have HV := Lib.hid hv
  have HN1 := Lib.hid hn1
  have HN2 := Lib.hid hn2
  have HN3 := Lib.hid hn3
  have H1 := Lib.hid hr1
  have H2 := Lib.hid hr2
  clear hr1 hr2 hv hn1 hn2 hn3 hn4 hI
  subst k3
  go_enter Tryd.func31, Tryd.ntmps31
  go_wp2_with fail
  refine BW.sameR (wireNode _ _) (congrArg Value.bool H1.out) ?_
  cases r1
  · go_wp2_with fail
    go_ret
    exact ⟨ret_bool (by rw [← HV.out]; simp), balloc (Below.refl _ _)⟩
  go_wp2_with fail
  refine BW.sameR (wireNode _ _) (congrArg Value.bool H2.out) ?_
  cases r2
  · go_wp2_with fail
    go_ret
    exact ⟨ret_bool (by rw [← HV.out]; simp), balloc (Below.refl _ _)⟩
  clear H1 H2
  by_cases hok : n3 ≤ 257 ∧ 0 ≤ se ∧ 0 ≤ sq ∧ n1 = 0 ∧ n2 = 0 ∧ bo = 0 ∧ bc = 0 ∧ bn = 0 ∧ n4 = 0
  · obtain ⟨q1, q2, q3, rfl, rfl, rfl, rfl, rfl, rfl⟩ := hok
    have HW := Lib.hid (show V = ln.all noteFormed by rw [← HV.out]; simp [q1, q2, q3])
    clear HV
    have HB := Lib.hid hl3
    go_wp2_with fail
    have kB := balloc (o := .cells #[.int .i64 3, .int .i64 fr, .int .i64 tt, .int .i64 se, .int .i64 sq, .slice A1 0 c1, .slice A2 0 c2, .slice A3 n3 c3, .int .i64 0, .int .i64 0, .int .i64 0, .slice A4 0 c4] 42) (Below.refl _ w)
    go_loopw [115] (fun i wr => ∃ (m : Nat) (z : BW w), m ≤ n3 ∧ i = .int .i64 m ∧ ln.all noteFormed = (ln.drop m).all noteFormed ∧ wr = z.val) (fun i _ => n3 - (intOf i).toNat)
    case atStart => exact ⟨0, ⟨_, kB⟩, Nat.zero_le _, rfl, rfl, rfl⟩
    case round =>
      obtain ⟨m, z, hm, rfl, hv, rfl⟩ := hrel
      by_cases hlt : m < n3
      · obtain ⟨y, hy⟩ : ∃ y, ln[m]? = some y := ⟨ln[m]'(by rw [HN3.out]; exact hlt), List.getElem?_eq_getElem (by rw [HN3.out]; exact hlt)⟩
        obtain ⟨b, off, c', v0, v1, v2, v3, hv', hbb, e0, e1, e2, e3, hn⟩ := notes_at HH.out.notes hy
        rw [HN3.out] at hv'
        injection hv' with hv1 hv2 hv3
        rw [drop_cons hy, List.all_cons] at hv
        subst hv1
        replace e0 := z.cell e0
        replace e1 := z.cell e1
        replace e2 := z.cell e2
        replace e3 := z.cell e3
        obtain ⟨a0, d0, rfl, -⟩ := id hn.start
        obtain ⟨a1, d1, rfl, -⟩ := id hn.end_
        obtain ⟨a2, d2, rfl, -⟩ := id hn.blur
        obtain ⟨a3, d3, rfl, -⟩ := id hn.writes
        generalize hr : noteFormed y = r at hv
        have HR := Lib.hid hr
        have HY := Lib.hid hv
        have HQ := Lib.hid hn
        clear hv hv2 hv3 hr hy hn kB
        generalize hs0 : y.start.length = s0 at *
        generalize hs1 : y.end_.length = s1 at *
        generalize hs2 : y.blur.length = s2 at *
        generalize hs3 : y.writes.length = s3 at *
        clear hs0 hs1 hs2 hs3
        go_wp2_with fail
        refine BW.callR (z := z.alloc _) (noteFormedWalk y _ _ _ _ _ (HQ.out.next (z.alloc _).below) (HT.out.next (z.alloc _).below)) (congrArg Value.bool HR.out) ?_
        intro z1
        clear e0 e1 e2 e3
        cases r
        · go_wp2_with fail
          go_ret
          exact ⟨ret_bool (by rw [HW.out, HY.out]; rfl), z1.below⟩
        · go_wp2_with fail
          refine ⟨⟨m + 1, z1, by omega, by go_num, ?_, rfl⟩, by simp [intOf]; omega⟩
          rw [HY.out]; rfl
      · obtain rfl : m = n3 := by omega
        have HX := Lib.hid (show V = true by rw [HW.out, hv, List.drop_of_length_le (by rw [HN3.out]; exact Nat.le_refl _)]; rfl)
        clear hv
        go_wp2_with fail
        go_ret
        exact ⟨ret_bool HX.out.symm, z.below⟩
  · obtain rfl : V = false := by
      rw [← HV.out]
      simp
      omega
    go_wp2_with fail
    all_goals first | (go_ret; exact ⟨rfl, balloc (Below.refl _ _)⟩) | (exfalso; simp at *; omega)

end Go.Proofs.YtmdeokneablgaaaDoor
