/- Contract of the program's test of a message of another kind. -/
import Derived.Test.YtmdeokneablgaaaDoorPNote
import Derived.Test.YtmdeokneablgaaaDoorPMsgSpec
/- Contract of the program's test whether a note is formed. -/
namespace Go.Proofs.YtmdeokneablgaaaDoor
open Go.ChangeShapes Go.WideShapes Go.ChangeAt Go.RowKit

theorem noteObject (o : Int) (w : World) :
    Calls Tryd.prog 71 #[.int .i64 o] w fun e w' => e = .returned (.bool (decide (0 ≤ o ∧ o ≤ 255))) ∧ w = w' := by
  go_enter Tryd.func71, Tryd.ntmps71
  go_wp2_with fail
  all_goals (go_ret; refine ⟨ret_bool ?_, rfl⟩; first | (rw [eq_comm, decide_eq_true_eq]; omega) | (rw [eq_comm, decide_eq_false_iff_not]; omega) | (rw [Bool.eq_iff_iff]; simp <;> omega))

set_option maxHeartbeats 1600000 in
theorem noteFormedWalk (x : Note) (v0 v1 v2 v3 : Value) (w : World) (h : NoteV w w.heap.size v0 v1 v2 v3 x) (hT : TzTab w) :
    Calls Tryd.prog 56 #[.agg #[v0, v1, v2, v3]] w fun e w' => e = .returned (.bool (noteFormed x)) ∧ Below w.heap.size w w' := by
  have hle := h.writes.len_le
  obtain ⟨A0, c0, rfl, _⟩ := id h.start
  obtain ⟨A1, c1, rfl, _⟩ := id h.end_
  obtain ⟨A2, c2, rfl, _⟩ := id h.blur
  obtain ⟨A3, c3, rfl, _⟩ := id h.writes
  unfold noteFormed
  generalize hr0 : vecFormed x.start = r0
  generalize hr1 : vecFormed x.end_ = r1
  generalize hr2 : coversB x.end_ x.start = r2
  generalize hr3 : spanFormed x.blur = r3
  have H0 := Lib.hid hr0
  have H1 := Lib.hid hr1
  have H2 := Lib.hid hr2
  have H3 := Lib.hid hr3
  have HT := Lib.hid hT
  clear hr0 hr1 hr2 hr3 hT
  go_enter Tryd.func56, Tryd.ntmps56
  go_wp2_with fail
  generalize hv0 : Value.slice A0 x.start.length c0 = v0 at *
  generalize hv1 : Value.slice A1 x.end_.length c1 = v1 at *
  generalize hv2 : Value.slice A2 x.blur.length c2 = v2 at *
  generalize hv3 : Value.slice A3 x.writes.length c3 = v3 at *
  have Hv3 := Lib.hid hv3
  clear hv0 hv1 hv2 hv3
  have k := balloc (o := .cells #[v0, v1, v2, v3] 31) (Below.refl _ w)
  have B := Blk.new w 31 #[v0, v1, v2, v3]
  generalize hW0 : w.alloc (.cells #[v0, v1, v2, v3] 31) = W0 at *
  clear hW0
  have hn := h.next k
  have hT := Lib.hid (HT.out.next k)
  refine (vectorFormed x.start _ _ hn.start).mono ?_
  rw [H0.out]
  rintro e w1 ⟨rfl, hb1⟩
  replace k := bnext k hb1
  replace B := B.next hb1
  replace hn := hn.next hb1
  replace hT := Lib.hid (hT.out.next hb1)
  clear hb1
  have b0 := B.cell 0
  have b1 := B.cell 1
  have b2 := B.cell 2
  have b3 := B.cell 3
  simp only [List.getElem?_toArray, List.getElem?_cons_zero, List.getElem?_cons_succ] at b0 b1 b2 b3
  cases r0
  · go_wp2_with fail
    go_ret
    exact ⟨rfl, k⟩
  go_wp2_with fail
  refine (vectorFormed x.end_ _ _ hn.end_).mono ?_
  rw [H1.out]
  rintro e w2 ⟨rfl, hb1⟩
  replace k := bnext k hb1
  replace B := B.next hb1
  replace hn := hn.next hb1
  replace hT := Lib.hid (hT.out.next hb1)
  replace b0 := kept_cell hb1 b0
  replace b1 := kept_cell hb1 b1
  replace b2 := kept_cell hb1 b2
  replace b3 := kept_cell hb1 b3
  clear hb1
  cases r1
  · go_wp2_with fail
    go_ret
    exact ⟨rfl, k⟩
  go_wp2_with fail
  refine (vectorCovers x.end_ x.start _ _ _ hn.end_ hn.start hT.out).mono ?_
  rw [H2.out]
  rintro e w3 ⟨rfl, hb1⟩
  replace k := bnext k hb1
  replace B := B.next hb1
  replace hn := hn.next hb1
  replace hT := Lib.hid (hT.out.next hb1)
  replace b0 := kept_cell hb1 b0
  replace b1 := kept_cell hb1 b1
  replace b2 := kept_cell hb1 b2
  replace b3 := kept_cell hb1 b3
  clear hb1
  cases r2
  · go_wp2_with fail
    go_ret
    exact ⟨rfl, k⟩
  go_wp2_with fail
  refine (spanFormedWalk x.blur _ _ hn.blur).mono ?_
  rw [H3.out]
  rintro e w4 ⟨rfl, hb1⟩
  replace k := bnext k hb1
  replace B := B.next hb1
  replace hn := hn.next hb1
  replace hT := Lib.hid (hT.out.next hb1)
  replace b0 := kept_cell hb1 b0
  replace b1 := kept_cell hb1 b1
  replace b2 := kept_cell hb1 b2
  replace b3 := kept_cell hb1 b3
  clear hb1
  cases r3
  · go_wp2_with fail
    go_ret
    exact ⟨rfl, k⟩
  rw [← Hv3.out] at b3
  go_wp2_with fail
  have HB := Lib.hid B
  have HN := Lib.hid hn
  clear b0 b1 b2 b3 B hn HT H0 H1 H2 H3 h
  go_loopw [3, 33] (fun a i wr => ∃ (m : Nat) (e : Int), m ≤ x.writes.length ∧ i = .int .i64 m ∧ a = .int .i64 e ∧ writesFrom x (-1) x.writes = writesFrom x e (x.writes.drop m) ∧ Below w4.heap.size w4 wr) (fun _ i _ => x.writes.length - (intOf i).toNat)
  case atStart => exact ⟨0, -1, Nat.zero_le _, rfl, rfl, rfl, Below.refl _ _⟩
  case round =>
    obtain ⟨m, e, hm, rfl, rfl, hv, hb⟩ := hrel
    have hn := HN.out.next hb
    have B := HB.out.next hb
    replace k := bnext k hb
    by_cases hlt : m < x.writes.length
    · obtain ⟨y, hy⟩ : ∃ y, x.writes[m]? = some y := ⟨x.writes[m], List.getElem?_eq_getElem hlt⟩
      obtain ⟨b, off, c', hv', hbb, e0, e1, e2, e3, _⟩ := writes_at hn.writes hy
      rw [← Hv3.out] at hv'
      injection hv' with hv1 hv2 hv3
      rw [drop_cons hy, writesFrom] at hv
      obtain ⟨⟨yc, yn⟩, yo, yg⟩ := y
      simp only at e0 e1 e2 e3 hv
      have HV := Lib.hid hv
      subst hv1
      have b1 := B.cell 1
      have b2 := B.cell 2
      simp only [List.getElem?_toArray, List.getElem?_cons_zero, List.getElem?_cons_succ] at b1 b2
      clear hv hv2 hv3 hy hbb
      by_cases p1 : yo ≤ e
      · go_wp2_with fail
        go_ret
        refine ⟨ret_bool ?_, balloc k⟩
        rw [HV.out, decide_eq_false (p := e < yo ∧ 0 ≤ yo ∧ yo ≤ 255) (by omega)]
        rfl
      · go_wp2_with fail
        have kB := balloc (o := .cells #[.int .i64 yc, .int .i64 yn, .int .i64 yo, .bool yg] 66) (Below.refl _ wr)
        have B5 := Blk.new wr 66 #[.int .i64 yc, .int .i64 yn, .int .i64 yo, .bool yg]
        replace hn := hn.next kB
        replace B := B.next kB
        have hT2 := Lib.hid ((hT.out.next hb).next kB)
        replace k := bnext k kB
        replace hb := bnext hb kB
        clear e0 e1 e2 e3 b1 b2
        have HVn := Lib.hid hn
        clear hn
        refine (noteObject yo _).mono ?_
        by_cases p2 : 0 ≤ yo ∧ yo ≤ 255
        · rw [decide_eq_true p2]
          rintro e' w5 ⟨rfl, rfl⟩
          have hd : decide (e < yo ∧ 0 ≤ yo ∧ yo ≤ 255) = true := decide_eq_true (by omega)
          have HD := Lib.hid hd
          clear hd
          generalize hW5 : wr.alloc (.cells #[.int .i64 yc, .int .i64 yn, .int .i64 yo, .bool yg] 66) = w5 at *
          have d0 := B5.cell 0
          have d1 := B5.cell 1
          have d2 := B5.cell 2
          have b1 := B.cell 1
          have b2 := B.cell 2
          simp only [List.getElem?_toArray, List.getElem?_cons_zero, List.getElem?_cons_succ] at b1 b2 d0 d1 d2
          clear hW5 kB
          go_wp2_with fail
          refine (spanHasWalk x.blur yo _ _ HVn.out.blur).mono ?_
          generalize hq : spanHas x.blur yo = q at HV ⊢
          clear hq
          rintro e' w6 ⟨rfl, hb1⟩
          replace k := bnext k hb1
          replace hb := bnext hb hb1
          replace HVn := Lib.hid (HVn.out.next hb1)
          replace B5 := B5.next hb1
          replace b1 := kept_cell hb1 b1
          replace b2 := kept_cell hb1 b2
          replace d0 := kept_cell hb1 d0
          replace d1 := kept_cell hb1 d1
          replace d2 := kept_cell hb1 d2
          clear hb1
          cases q with
          | true =>
            go_wp2_with fail
            go_ret
            refine ⟨ret_bool ?_, k⟩
            rw [HV.out, HD.out]
            rfl
          | false =>
            go_wp2_with fail
            refine (vectorHas x.end_ ⟨yc, yn⟩ _ _ HVn.out.end_).mono ?_
            generalize hq : vecHas x.end_ ⟨yc, yn⟩ = q at HV ⊢
            clear hq
            rintro e' w7 ⟨rfl, hb1⟩
            replace k := bnext k hb1
            replace hb := bnext hb hb1
            replace d2 := kept_cell hb1 d2
            clear hb1
            cases q with
            | false =>
              go_wp2_with fail
              go_ret
              refine ⟨ret_bool ?_, k⟩
              rw [HV.out, HD.out]
              rfl
            | true =>
              go_wp2_with fail
              refine ⟨⟨m + 1, yo, by omega, by go_num, rfl, ?_, hb⟩, by simp [intOf]; omega⟩
              rw [HV.out, HD.out]
              rfl
        · rw [decide_eq_false p2]
          rintro e' w5 ⟨rfl, rfl⟩
          go_wp2_with fail
          go_ret
          refine ⟨ret_bool ?_, k⟩
          rw [HV.out, decide_eq_false (p := e < yo ∧ 0 ≤ yo ∧ yo ≤ 255) (by omega)]
          rfl
    · obtain rfl : m = x.writes.length := by omega
      rw [List.drop_length] at hv
      have HV := Lib.hid hv
      clear hv
      go_wp2_with fail
      go_ret
      exact ⟨ret_bool (by rw [HV.out]; rfl), k⟩
end Go.Proofs.YtmdeokneablgaaaDoor
/- Contract of the program's test of a message that subscribes. -/
namespace Go.Proofs.YtmdeokneablgaaaDoor
open Go.ChangeShapes Go.WideShapes Go.ChangeAt Go.RowKit

set_option maxRecDepth 100000 in
set_option maxHeartbeats 1600000 in
theorem wireFormed1 (x : Msg) (vi vv vn vb : Value) (w : World) (hI : MsgI x) (h : MsgV w w.heap.size vi vv vn vb x) (hT : TzTab w) (k1 : x.kind = 1) :
    Calls Tryd.prog 31 #[.agg #[.int .i64 x.kind, .int .i64 x.from_, .int .i64 x.to_, .int .i64 x.session, .int .i64 x.seq, vi, vv, vn, .int .i64 x.body.object, .int .i64 x.body.stamp.count, .int .i64 x.body.stamp.node, vb]] w fun e w' => e = .returned (.bool (msgFormed x)) ∧ Below w.heap.size w w' := by
  have hl1 := h.interest.len_le
  have hl2 := h.vector.len_le
  have hl3 := h.notes.len_le
  have hl4 := h.value.len_le
  obtain ⟨A1, c1, rfl, -⟩ := id h.interest
  obtain ⟨A2, c2, rfl, -⟩ := id h.vector
  obtain ⟨A3, c3, rfl, -⟩ := id h.notes
  obtain ⟨A4, c4, rfl, -⟩ := id h.value
  have HH := Lib.hid h
  have HT := Lib.hid hT
  clear h hT
  obtain ⟨kd, fr, tt, se, sq, li, lv, ln, ⟨bo, ⟨bc, bn⟩, lb⟩⟩ := x
  dsimp only at *
  unfold msgFormed
  dsimp only
  generalize hv : (nodeB fr && nodeB tt && _ : Bool) = V
  unfold msgRest bodyFormed bodyEmpty at hv
  dsimp only at hv
  generalize hr1 : nodeB fr = r1 at hv
  generalize hr2 : nodeB tt = r2 at hv
  have HE := Lib.hid (rfl : ln = ln)
  generalize hn1 : li.length = n1 at *
  generalize hn2 : lv.length = n2 at *
  generalize hn3 : ln.length = n3 at *
  generalize hn4 : lb.length = n4 at *
  have HV := Lib.hid hv
  have HN1 := Lib.hid hn1
  have HN2 := Lib.hid hn2
  have HN3 := Lib.hid hn3
  have H1 := Lib.hid hr1
  have H2 := Lib.hid hr2
  clear hr1 hr2 hv hn1 hn2 hn3 hn4 hI
  subst k1
  go_enter Tryd.func31, Tryd.ntmps31
  go_wp2_with fail
  refine BW.sameR (wireNode _ _) (congrArg Value.bool H1.out) ?_
  cases r1
  · go_wp2_with fail
    go_ret
    exact ⟨ret_bool (by rw [← HV.out]; simp), balloc (Below.refl _ _)⟩
  go_wp2_with fail
  refine BW.sameR (wireNode _ _) (congrArg Value.bool H2.out) ?_
  cases r2
  · go_wp2_with fail
    go_ret
    exact ⟨ret_bool (by rw [← HV.out]; simp), balloc (Below.refl _ _)⟩
  clear H1 H2
  by_cases hok : 0 ≤ se ∧ sq = 0 ∧ n3 = 0 ∧ bo = 0 ∧ 0 < n1 ∧ bc = 0 ∧ bn = 0 ∧ n4 = 0
  · obtain ⟨q1, rfl, rfl, rfl, q2, rfl, rfl, rfl⟩ := hok
    generalize hr1 : spanFormed li = r1 at HV
    generalize hr2 : vecFormed lv = r2 at HV
    have H1 := Lib.hid hr1
    have H2 := Lib.hid hr2
    have HW := Lib.hid (show V = (r1 && r2) by rw [← HV.out]; simp [q1, q2])
    clear HV hr1 hr2
    go_wp2_with fail
    have kB := balloc (o := .cells #[.int .i64 1, .int .i64 fr, .int .i64 tt, .int .i64 se, .int .i64 0, .slice A1 n1 c1, .slice A2 n2 c2, .slice A3 0 c3, .int .i64 0, .int .i64 0, .int .i64 0, .slice A4 0 c4] 42) (Below.refl _ w)
    have B := Blk.new w 42 #[.int .i64 1, .int .i64 fr, .int .i64 tt, .int .i64 se, .int .i64 0, .slice A1 n1 c1, .slice A2 n2 c2, .slice A3 0 c3, .int .i64 0, .int .i64 0, .int .i64 0, .slice A4 0 c4]
    generalize hW : w.alloc _ = W at *
    have B5 := Lib.hid (B.cell 5)
    have B6 := Lib.hid (B.cell 6)
    have q6 : ∀ z : BW W, z.val.cell? ⟨w.heap.size, 6, none⟩ = some (.slice A2 n2 c2) := fun z => z.cell B6.out
    clear hW B
    refine BW.start (w := W) ?_
    intro z
    refine BW.callR (z := z) (spanFormedWalk li _ _ ((HH.out.next kB).next z.below).interest) (congrArg Value.bool H1.out) ?_
    clear z
    intro z
    cases r1
    · go_wp2_with fail
      go_ret
      exact ⟨ret_bool (by rw [HW.out]; rfl), bnext kB z.below⟩
    go_wp2_with fail
    refine BW.callR (z := z) (vectorFormed lv _ _ ((HH.out.next kB).next z.below).vector) (congrArg Value.bool H2.out) ?_
    clear z
    intro z
    go_wp2_with fail
    go_ret
    exact ⟨ret_bool (by rw [HW.out]; rfl), bnext kB z.below⟩
  · obtain rfl : V = false := by
      rw [← HV.out]
      simp
      omega
    go_wp2_with fail
    all_goals first | (go_ret; exact ⟨rfl, balloc (Below.refl _ _)⟩) | (exfalso; simp at *; omega)

end Go.Proofs.YtmdeokneablgaaaDoor
/- Contract of the program's test of a message of notes. -/
namespace Go.Proofs.YtmdeokneablgaaaDoor
open Go.ChangeShapes Go.WideShapes Go.ChangeAt Go.RowKit

set_option maxRecDepth 100000 in
set_option maxHeartbeats 1600000 in
theorem wireFormed3 (x : Msg) (vi vv vn vb : Value) (w : World) (hI : MsgI x) (h : MsgV w w.heap.size vi vv vn vb x) (hT : TzTab w) (k3 : x.kind = 3) :
    Calls Tryd.prog 31 #[.agg #[.int .i64 x.kind, .int .i64 x.from_, .int .i64 x.to_, .int .i64 x.session, .int .i64 x.seq, vi, vv, vn, .int .i64 x.body.object, .int .i64 x.body.stamp.count, .int .i64 x.body.stamp.node, vb]] w fun e w' => e = .returned (.bool (msgFormed x)) ∧ Below w.heap.size w w' := by
  have hl1 := h.interest.len_le
  have hl2 := h.vector.len_le
  have hl3 := h.notes.len_le
  have hl4 := h.value.len_le
  obtain ⟨A1, c1, rfl, -⟩ := id h.interest
  obtain ⟨A2, c2, rfl, -⟩ := id h.vector
  obtain ⟨A3, c3, rfl, -⟩ := id h.notes
  obtain ⟨A4, c4, rfl, -⟩ := id h.value
  have HH := Lib.hid h
  have HT := Lib.hid hT
  clear h hT
  obtain ⟨kd, fr, tt, se, sq, li, lv, ln, ⟨bo, ⟨bc, bn⟩, lb⟩⟩ := x
  dsimp only at *
  unfold msgFormed
  dsimp only
  generalize hv : (nodeB fr && nodeB tt && _ : Bool) = V
  unfold msgRest bodyFormed bodyEmpty at hv
  dsimp only at hv
  generalize hr1 : nodeB fr = r1 at hv
  generalize hr2 : nodeB tt = r2 at hv
  have HE := Lib.hid (rfl : ln = ln)
  generalize hn1 : li.length = n1 at *
  generalize hn2 : lv.length = n2 at *
  generalize hn3 : ln.length = n3 at *
  generalize hn4 : lb.length = n4 at *
  have HV := Lib.hid hv
  have HN1 := Lib.hid hn1
  have HN2 := Lib.hid hn2
  have HN3 := Lib.hid hn3
  have H1 := Lib.hid hr1
  have H2 := Lib.hid hr2
  clear hr1 hr2 hv hn1 hn2 hn3 hn4 hI
  subst k3
  go_enter Tryd.func31, Tryd.ntmps31
  go_wp2_with fail
  refine BW.sameR (wireNode _ _) (congrArg Value.bool H1.out) ?_
  cases r1
  · go_wp2_with fail
    go_ret
    exact ⟨ret_bool (by rw [← HV.out]; simp), balloc (Below.refl _ _)⟩
  go_wp2_with fail
  refine BW.sameR (wireNode _ _) (congrArg Value.bool H2.out) ?_
  cases r2
  · go_wp2_with fail
    go_ret
    exact ⟨ret_bool (by rw [← HV.out]; simp), balloc (Below.refl _ _)⟩
  clear H1 H2
  by_cases hok : n3 ≤ 257 ∧ 0 ≤ se ∧ 0 ≤ sq ∧ n1 = 0 ∧ n2 = 0 ∧ bo = 0 ∧ bc = 0 ∧ bn = 0 ∧ n4 = 0
  · obtain ⟨q1, q2, q3, rfl, rfl, rfl, rfl, rfl, rfl⟩ := hok
    have HW := Lib.hid (show V = ln.all noteFormed by rw [← HV.out]; simp [q1, q2, q3])
    clear HV
    have HB := Lib.hid hl3
    go_wp2_with fail
    have kB := balloc (o := .cells #[.int .i64 3, .int .i64 fr, .int .i64 tt, .int .i64 se, .int .i64 sq, .slice A1 0 c1, .slice A2 0 c2, .slice A3 n3 c3, .int .i64 0, .int .i64 0, .int .i64 0, .slice A4 0 c4] 42) (Below.refl _ w)
    go_loopw [115] (fun i wr => ∃ (m : Nat) (z : BW w), m ≤ n3 ∧ i = .int .i64 m ∧ ln.all noteFormed = (ln.drop m).all noteFormed ∧ wr = z.val) (fun i _ => n3 - (intOf i).toNat)
    case atStart => exact ⟨0, ⟨_, kB⟩, Nat.zero_le _, rfl, rfl, rfl⟩
    case round =>
      obtain ⟨m, z, hm, rfl, hv, rfl⟩ := hrel
      by_cases hlt : m < n3
      · obtain ⟨y, hy⟩ : ∃ y, ln[m]? = some y := ⟨ln[m]'(by rw [HN3.out]; exact hlt), List.getElem?_eq_getElem (by rw [HN3.out]; exact hlt)⟩
        obtain ⟨b, off, c', v0, v1, v2, v3, hv', hbb, e0, e1, e2, e3, hn⟩ := notes_at HH.out.notes hy
        rw [HN3.out] at hv'
        injection hv' with hv1 hv2 hv3
        rw [drop_cons hy, List.all_cons] at hv
        subst hv1
        replace e0 := z.cell e0
        replace e1 := z.cell e1
        replace e2 := z.cell e2
        replace e3 := z.cell e3
        obtain ⟨a0, d0, rfl, -⟩ := id hn.start
        obtain ⟨a1, d1, rfl, -⟩ := id hn.end_
        obtain ⟨a2, d2, rfl, -⟩ := id hn.blur
        obtain ⟨a3, d3, rfl, -⟩ := id hn.writes
        generalize hr : noteFormed y = r at hv
        have HR := Lib.hid hr
        have HY := Lib.hid hv
        have HQ := Lib.hid hn
        clear hv hv2 hv3 hr hy hn kB
        generalize hs0 : y.start.length = s0 at *
        generalize hs1 : y.end_.length = s1 at *
        generalize hs2 : y.blur.length = s2 at *
        generalize hs3 : y.writes.length = s3 at *
        clear hs0 hs1 hs2 hs3
        go_wp2_with fail
        refine BW.callR (z := z.alloc _) (noteFormedWalk y _ _ _ _ _ (HQ.out.next (z.alloc _).below) (HT.out.next (z.alloc _).below)) (congrArg Value.bool HR.out) ?_
        intro z1
        clear e0 e1 e2 e3
        cases r
        · go_wp2_with fail
          go_ret
          exact ⟨ret_bool (by rw [HW.out, HY.out]; rfl), z1.below⟩
        · go_wp2_with fail
          refine ⟨⟨m + 1, z1, by omega, by go_num, ?_, rfl⟩, by simp [intOf]; omega⟩
          rw [HY.out]; rfl
      · obtain rfl : m = n3 := by omega
        have HX := Lib.hid (show V = true by rw [HW.out, hv, List.drop_of_length_le (by rw [HN3.out]; exact Nat.le_refl _)]; rfl)
        clear hv
        go_wp2_with fail
        go_ret
        exact ⟨ret_bool HX.out.symm, z.below⟩
  · obtain rfl : V = false := by
      rw [← HV.out]
      simp
      omega
    go_wp2_with fail
    all_goals first | (go_ret; exact ⟨rfl, balloc (Below.refl _ _)⟩) | (exfalso; simp at *; omega)

end Go.Proofs.YtmdeokneablgaaaDoor
namespace Go.Proofs.YtmdeokneablgaaaDoor
open Go.ChangeShapes Go.WideShapes Go.ChangeAt Go.RowKit

set_option maxRecDepth 100000 in
set_option maxHeartbeats 1600000 in
theorem wireFormed0 (x : Msg) (vi vv vn vb : Value) (w : World) (hI : MsgI x) (h : MsgV w w.heap.size vi vv vn vb x) (hT : TzTab w) (k1 : ¬ x.kind = 1) (k3 : ¬ x.kind = 3) :
    Calls Tryd.prog 31 #[.agg #[.int .i64 x.kind, .int .i64 x.from_, .int .i64 x.to_, .int .i64 x.session, .int .i64 x.seq, vi, vv, vn, .int .i64 x.body.object, .int .i64 x.body.stamp.count, .int .i64 x.body.stamp.node, vb]] w fun e w' => e = .returned (.bool (msgFormed x)) ∧ Below w.heap.size w w' := by
  have hl1 := h.interest.len_le
  have hl2 := h.vector.len_le
  have hl3 := h.notes.len_le
  have hl4 := h.value.len_le
  obtain ⟨A1, c1, rfl, -⟩ := id h.interest
  obtain ⟨A2, c2, rfl, -⟩ := id h.vector
  obtain ⟨A3, c3, rfl, -⟩ := id h.notes
  obtain ⟨A4, c4, rfl, -⟩ := id h.value
  have HH := Lib.hid h
  have HT := Lib.hid hT
  clear h hT
  obtain ⟨kd, fr, tt, se, sq, li, lv, ln, ⟨bo, ⟨bc, bn⟩, lb⟩⟩ := x
  dsimp only at *
  unfold msgFormed
  dsimp only
  generalize hv : (nodeB fr && nodeB tt && _ : Bool) = V
  unfold msgRest bodyFormed bodyEmpty at hv
  dsimp only at hv
  generalize hr1 : nodeB fr = r1 at hv
  generalize hr2 : nodeB tt = r2 at hv
  have HE := Lib.hid (rfl : ln = ln)
  generalize hn1 : li.length = n1 at *
  generalize hn2 : lv.length = n2 at *
  generalize hn3 : ln.length = n3 at *
  generalize hn4 : lb.length = n4 at *
  have HV := Lib.hid hv
  have HN1 := Lib.hid hn1
  have HN2 := Lib.hid hn2
  have HN3 := Lib.hid hn3
  have H1 := Lib.hid hr1
  have H2 := Lib.hid hr2
  clear hr1 hr2 hv hn1 hn2 hn3 hn4 hI
  go_enter Tryd.func31, Tryd.ntmps31
  go_wp2_with fail
  refine BW.sameR (wireNode _ _) (congrArg Value.bool H1.out) ?_
  cases r1
  · go_wp2_with fail
    go_ret
    exact ⟨ret_bool (by rw [← HV.out]; simp), balloc (Below.refl _ _)⟩
  go_wp2_with fail
  refine BW.sameR (wireNode _ _) (congrArg Value.bool H2.out) ?_
  cases r2
  · go_wp2_with fail
    go_ret
    exact ⟨ret_bool (by rw [← HV.out]; simp), balloc (Below.refl _ _)⟩
  clear H1 H2
  have k1' : (kd == 1) = false := by simpa using k1
  have k3' : (kd == 3) = false := by simpa using k3
  simp only [if_neg k1, if_neg k3] at HV
  by_cases hok : n1 = 0 ∧ n2 = 0 ∧ n3 = 0 ∧ se = 0 ∧ sq = 0
  · obtain ⟨rfl, rfl, rfl, rfl, rfl⟩ := hok
    by_cases k2 : kd = 2
    · subst k2
      by_cases hb : bc = 0 ∧ bn = 0 ∧ n4 = 0 ∧ bo = 0
      · obtain ⟨rfl, rfl, rfl, rfl⟩ := hb
        obtain rfl : V = true := by rw [← HV.out]; rfl
        go_wp2_with fail
        go_ret
        exact ⟨rfl, balloc (Below.refl _ _)⟩
      · obtain rfl : V = false := by
          rw [← HV.out]
          simp
          omega
        go_wp2_with fail
        all_goals first | (go_ret; exact ⟨rfl, balloc (Below.refl _ _)⟩) | (go_ret; exact ⟨ret_bool (Bool.eq_iff_iff.2 (by simp <;> omega)), balloc (Below.refl _ _)⟩) | (exfalso; simp at *; omega)
    have k2' : (kd == 2) = false := by simpa using k2
    by_cases k4 : kd = 4
    · subst k4
      by_cases hb : bc = 0 ∧ bn = 0 ∧ n4 = 0 ∧ 0 ≤ bo ∧ bo ≤ 255
      · obtain ⟨rfl, rfl, rfl, g1, g2⟩ := hb
        have g3 : bo < 256 := by omega
        obtain rfl : V = true := by rw [← HV.out]; simp [g1, g2]
        go_wp2_with fail
        go_ret
        exact ⟨rfl, balloc (Below.refl _ _)⟩
      · obtain rfl : V = false := by
          rw [← HV.out]
          simp
          omega
        go_wp2_with fail
        all_goals first | (go_ret; exact ⟨rfl, balloc (Below.refl _ _)⟩) | (go_ret; exact ⟨ret_bool (Bool.eq_iff_iff.2 (by simp <;> omega)), balloc (Below.refl _ _)⟩) | (exfalso; simp at *; omega)
    have k4' : (kd == 4) = false := by simpa using k4
    by_cases k5 : kd = 5
    · subst k5
      have HW := Lib.hid (show V = (decide (0 ≤ bo ∧ bo ≤ 255) && rightB bc bn && decide (n4 ≤ 256)) by rw [← HV.out]; simp)
      clear HV
      go_wp2_with fail
      all_goals
        refine BW.callR (z := (BW.self w).alloc _) (wireRight _ _ _ _ _ _ _ hl4) rfl ?_
        intro z
        go_wp2_with fail
        go_ret
        exact ⟨ret_bool (by rw [HW.out]; simp [*]), z.below⟩
    · have k5' : (kd == 5) = false := by simpa using k5
      obtain rfl : V = false := by
        rw [← HV.out]
        simp [k2, k4, k5]
      go_wp2_with fail
      all_goals first | (go_ret; exact ⟨rfl, balloc (Below.refl _ _)⟩) | (go_ret; exact ⟨ret_bool (Bool.eq_iff_iff.2 (by simp <;> omega)), balloc (Below.refl _ _)⟩) | (exfalso; simp at *; omega)
  · obtain rfl : V = false := by
      rw [← HV.out]
      simp
      omega
    have hcs : (0 : Int) < (n1 : Int) + n2 ∨ (n1 = 0 ∧ n2 = 0 ∧ (0 : Int) < (n3 : Int)) ∨ (n1 = 0 ∧ n2 = 0 ∧ n3 = 0 ∧ ¬ se = 0) ∨ (n1 = 0 ∧ n2 = 0 ∧ n3 = 0 ∧ se = 0 ∧ ¬ sq = 0) := by omega
    rcases hcs with g | ⟨rfl, rfl, g⟩ | ⟨rfl, rfl, rfl, g⟩ | ⟨rfl, rfl, rfl, rfl, g⟩
    · go_wp2_with fail
      all_goals (go_ret; exact ⟨rfl, balloc (Below.refl _ _)⟩)
    · go_wp2_with fail
      all_goals (go_ret; exact ⟨rfl, balloc (Below.refl _ _)⟩)
    · have g' : (se != 0) = true := by simpa using g
      go_wp2_with fail
      all_goals (go_ret; exact ⟨rfl, balloc (Below.refl _ _)⟩)
    · have g' : (sq != 0) = true := by simpa using g
      go_wp2_with fail
      all_goals (go_ret; exact ⟨rfl, balloc (Below.refl _ _)⟩)

theorem wireFormed (x : Msg) (vi vv vn vb : Value) (w : World) (hI : MsgI x) (h : MsgV w w.heap.size vi vv vn vb x) (hT : TzTab w) :
    Calls Tryd.prog 31 #[.agg (msgCells vi vv vn vb x)] w fun e w' => e = .returned (.bool (msgFormed x)) ∧ Below w.heap.size w w' := by
  by_cases k3 : x.kind = 3
  · exact wireFormed3 x vi vv vn vb w hI h hT k3
  · by_cases k1 : x.kind = 1
    · exact wireFormed1 x vi vv vn vb w hI h hT k1
    · exact wireFormed0 x vi vv vn vb w hI h hT k1 k3
end Go.Proofs.YtmdeokneablgaaaDoor
