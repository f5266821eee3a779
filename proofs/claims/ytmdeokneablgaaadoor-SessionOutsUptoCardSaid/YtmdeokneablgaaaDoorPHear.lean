/- A message of a session is heard: the program's. -/
import Derived.Test.YtmdeokneablgaaaDoorPFail
import Derived.Test.YtmdeokneablgaaaDoorPMsgForm0
namespace Go.Proofs.YtmdeokneablgaaaDoor
open Go.ChangeShapes Go.WideShapes Go.ChangeAt Go.RowKit

set_option maxRecDepth 100000 in
set_option maxHeartbeats 3200000 in
theorem sessionHear (m : Msg) (l : List Sub) (v vi vv vn vb : Value) (V w : World) (hV : Ext V w) (h : Subs V V.heap.size v l) (hI : MsgI m) (hM : MsgV w w.heap.size vi vv vn vb m) (hT : TzTab w) :
    Calls Tryd.prog 8 #[v, .agg (msgCells vi vv vn vb m)] w fun e w' => RetSubs (hearS l m) V w e w' := by
  have hle := h.len_le
  have HH0 := Lib.hid h
  have HH := Lib.hid (Subs.ext h hV)
  have HM := Lib.hid hM
  have HT := Lib.hid hT
  have HI := Lib.hid hI
  obtain ⟨A, c, rfl, -⟩ := id h
  obtain ⟨A1, c1, rfl, -⟩ := id hM.interest
  obtain ⟨A2, c2, rfl, -⟩ := id hM.vector
  obtain ⟨A3, c3, rfl, -⟩ := id hM.notes
  obtain ⟨A4, c4, rfl, -⟩ := id hM.value
  have hl3 := hM.notes.len_le
  generalize hr1 : subsFormed l = r1
  generalize hr2 : msgFormed m = r2
  have H1 := Lib.hid hr1
  have H2 := Lib.hid hr2
  generalize hs : hearS l m = res
  have HS := Lib.hid hs
  clear h hr1 hr2 hs hM hT hI
  have HC2 := Lib.hid (fun (W : World) (z : BW W) (kB : Below w.heap.size w W) => wireFormed m _ _ _ _ z.val HI.out ((HM.out.next kB).next z.below) ((HT.out.next kB).next z.below))
  rw [H2.out] at HC2
  obtain ⟨kd, fr, tt, se, sq, li, lv, ln, ⟨bo, ⟨bc, bn⟩, lb⟩⟩ := m
  dsimp only [msgCells] at *
  go_enter Tryd.func8, Tryd.ntmps8
  go_wp2_with fail
  have kB := balloc (o := .cells #[.int .i64 kd, .int .i64 fr, .int .i64 tt, .int .i64 se, .int .i64 sq, .slice A1 li.length c1, .slice A2 lv.length c2, .slice A3 ln.length c3, .int .i64 bo, .int .i64 bc, .int .i64 bn, .slice A4 lb.length c4] 42) (Below.refl _ w)
  have B := Blk.new w 42 #[.int .i64 kd, .int .i64 fr, .int .i64 tt, .int .i64 se, .int .i64 sq, .slice A1 li.length c1, .slice A2 lv.length c2, .slice A3 ln.length c3, .int .i64 bo, .int .i64 bc, .int .i64 bn, .slice A4 lb.length c4]
  generalize hW : w.alloc _ = W at *
  have HB := Lib.hid B
  clear hW B
  have q0 : ∀ z : BW W, z.val.cell? ⟨w.heap.size, 0, none⟩ = some (.int .i64 kd) := fun z => z.cell (HB.out.cell 0)
  have q1 : ∀ z : BW W, z.val.cell? ⟨w.heap.size, 1, none⟩ = some (.int .i64 fr) := fun z => z.cell (HB.out.cell 1)
  have q2 : ∀ z : BW W, z.val.cell? ⟨w.heap.size, 2, none⟩ = some (.int .i64 tt) := fun z => z.cell (HB.out.cell 2)
  have q3 : ∀ z : BW W, z.val.cell? ⟨w.heap.size, 3, none⟩ = some (.int .i64 se) := fun z => z.cell (HB.out.cell 3)
  have q4 : ∀ z : BW W, z.val.cell? ⟨w.heap.size, 4, none⟩ = some (.int .i64 sq) := fun z => z.cell (HB.out.cell 4)
  have q5 : ∀ z : BW W, z.val.cell? ⟨w.heap.size, 5, none⟩ = some (.slice A1 li.length c1) := fun z => z.cell (HB.out.cell 5)
  have q6 : ∀ z : BW W, z.val.cell? ⟨w.heap.size, 6, none⟩ = some (.slice A2 lv.length c2) := fun z => z.cell (HB.out.cell 6)
  have q7 : ∀ z : BW W, z.val.cell? ⟨w.heap.size, 7, none⟩ = some (.slice A3 ln.length c3) := fun z => z.cell (HB.out.cell 7)
  have q8 : ∀ z : BW W, z.val.cell? ⟨w.heap.size, 8, none⟩ = some (.int .i64 bo) := fun z => z.cell (HB.out.cell 8)
  have q9 : ∀ z : BW W, z.val.cell? ⟨w.heap.size, 9, none⟩ = some (.int .i64 bc) := fun z => z.cell (HB.out.cell 9)
  have q10 : ∀ z : BW W, z.val.cell? ⟨w.heap.size, 10, none⟩ = some (.int .i64 bn) := fun z => z.cell (HB.out.cell 10)
  have q11 : ∀ z : BW W, z.val.cell? ⟨w.heap.size, 11, none⟩ = some (.slice A4 lb.length c4) := fun z => z.cell (HB.out.cell 11)
  refine BW.start (w := W) ?_
  intro z
  refine BW.callR (z := z) (sessionFormedSubs l _ _ ((HH.out.next kB).next z.below)) (congrArg Value.bool H1.out) ?_
  clear z
  intro z
  cases r1
  · go_wp2_with fail
    go_ret2
    exact RetSubs.nil_ (by rw [← HS.out]; exact hearS_bad (by simp [hearOk, H1.out])) (bnext kB z.below)
  by_cases k3 : ¬ kd = 3
  · have k3' : (kd == 3) = false := by simpa using k3
    go_wp2_with fail
    go_ret2
    exact RetSubs.nil_ (by rw [← HS.out]; exact hearS_bad (by simp [hearOk, k3])) (bnext kB z.below)
  obtain rfl : kd = 3 := by omega
  clear k3
  go_wp2_with fail
  refine BW.call (z := z) (HC2.out W z kB) ?_
  clear z
  intro z
  cases r2
  · go_wp2_with fail
    go_ret2
    exact RetSubs.nil_ (by rw [← HS.out]; exact hearS_bad (by simp [hearOk, H2.out])) (bnext kB z.below)
  have HOK := Lib.hid (show hearOk l ⟨3, fr, tt, se, sq, li, lv, ln, ⟨bo, ⟨bc, bn⟩, lb⟩⟩ = true by simp [hearOk, H1.out, H2.out])
  clear HC2
  go_wp2_with fail
  refine BW.call (z := z) (sessionFrom fr l _ _ ((HH.out.next kB).next z.below)) ?_
  clear z
  intro z
  rcases idxFrom_spec (isFrom fr) l 0 with ⟨hk, hno⟩ | ⟨i, x, hx, hp, hk, hno⟩
  · rw [hk]
    have HX := Lib.hid (HS.out.symm.trans (hearS_none HOK.out fun x hx => by have := hno x hx; simp only [isFrom, decide_eq_false_iff_not] at this; simp [isSess, this]))
    clear hk hno
    go_wp2_with fail
    go_ret2
    exact RetSubs.nil_ HX.out (bnext kB z.below)
  · rw [hk, Nat.zero_add]
    have hil := (List.getElem?_eq_some_iff.1 hx).1
    have HN := Lib.hid hno
    have HX0 := Lib.hid hx
    simp only [isFrom, decide_eq_true_eq] at hp
    obtain ⟨b, off, _, vi', hv, hbb, e0, e1, e2, e3, e4, e5, e6, hs, i1, i2, i3⟩ := subs_at (HH.out.next kB) hx
    injection hv with hv1 hv2 hv3
    subst hv1
    have p2 : ∀ z : BW W, z.val.cell? ⟨b, off + i * 7 + 2, none⟩ = some (.int .i64 x.session) := fun z => z.cell e2
    have p3 : ∀ z : BW W, z.val.cell? ⟨b, off + i * 7 + 3, none⟩ = some (.int .i64 x.seq) := fun z => z.cell e3
    have hi3 : (i : Int) < (l.length : Int) := by omega
    have hi4 : (0 : Int) ≤ (i : Int) := by omega
    clear hk hno hv2 hv3 e0 e1 e2 e3 e4 e5 e6 hs hx hbb
    by_cases g1 : ¬ x.session = se
    · have HX := Lib.hid (HS.out.symm.trans (hearS_none HOK.out (sess_none H1.out HX0.out hp g1)))
      have g2 : (x.session != se) = true := by simpa using g1
      go_wp2_with fail
      refine region_bw (z0 := z) (by kernel_rfl) (by kernel_rfl) ?_
      repeat (go_big_quiet_step (fail))
      refine wpQuiet_nil ?_
      clear z
      intro z
      go_wp2_with fail
      go_ret2
      exact RetSubs.nil_ HX.out (bnext kB z.below)
    obtain rfl : se = x.session := by omega
    clear g1
    have HX1 := Lib.hid (HS.out.symm.trans (hearS_at HOK.out HX0.out (by simp [isSess, hp]) fun k y hk hy => by
      have := HN.out k y hk hy
      simp only [isFrom, decide_eq_false_iff_not] at this
      simp [isSess, this]))
    obtain ⟨n1, n2, n3⟩ := subsFormed_num H1.out (List.mem_of_getElem? HX0.out)
    simp only [numB, decide_eq_true_eq] at n1
    obtain ⟨n4, n5⟩ := n1
    clear n2 n3
    by_cases g1 : sq < x.seq
    · have HX := Lib.hid (HX1.out.trans (show hearAt _ _ _ _ = ([], 13) by rw [hearAt, if_pos g1]))
      go_wp2_with fail
      refine region_bw (z0 := z) (by kernel_rfl) (by kernel_rfl) ?_
      repeat (go_big_quiet_step (fail))
      refine wpQuiet_nil ?_
      clear z
      intro z
      go_wp2_with fail
      refine region_bw (z0 := z) (by kernel_rfl) (by kernel_rfl) ?_
      repeat (go_big_quiet_step (fail))
      refine wpQuiet_nil ?_
      clear z
      intro z
      go_wp2_with fail
      go_ret2
      exact RetSubs.nil_ HX.out (bnext kB z.below)
    by_cases g2 : x.seq < sq
    · have HX := Lib.hid (HX1.out.trans (show hearAt _ _ _ _ = ([], 3) by rw [hearAt, if_neg g1, if_pos g2]))
      go_wp2_with fail
      refine region_bw (z0 := z) (by kernel_rfl) (by kernel_rfl) ?_
      repeat (go_big_quiet_step (fail))
      refine wpQuiet_nil ?_
      clear z
      intro z
      go_wp2_with fail
      refine region_bw (z0 := z) (by kernel_rfl) (by kernel_rfl) ?_
      repeat (go_big_quiet_step (fail))
      refine wpQuiet_nil ?_
      clear z
      intro z
      go_wp2_with fail
      refine region_bw (z0 := z) (by kernel_rfl) (by kernel_rfl) ?_
      repeat (go_big_quiet_step (fail))
      refine wpQuiet_nil ?_
      clear z
      intro z
      go_wp2_with fail
      go_ret2
      exact RetSubs.nil_ HX.out (bnext kB z.below)
    obtain rfl : sq = x.seq := by omega
    have HX := Lib.hid (HX1.out.trans (show hearAt _ _ _ _ = (l.set i (subHear _ x), 0) by rw [hearAt, if_neg g1, if_neg g2]))
    clear g1 g2
    go_wp2_with fail
    refine region_bw (z0 := z) (by kernel_rfl) (by kernel_rfl) ?_
    repeat (go_big_quiet_step (fail))
    refine wpQuiet_nil ?_
    clear z
    intro z
    go_wp2_with fail
    refine region_bw (z0 := z) (by kernel_rfl) (by kernel_rfl) ?_
    repeat (go_big_quiet_step (fail))
    refine wpQuiet_nil ?_
    clear z
    intro z
    go_wp2_with fail
    refine region_bw (z0 := z) (by kernel_rfl) (by kernel_rfl) ?_
    repeat (go_big_quiet_step (fail))
    refine wpQuiet_nil ?_
    clear z
    intro z
    go_wp2_with fail
    refine (sessionSubs l _ V _ ((hV.trans (Ext.of_below kB)).trans z.ext) HH0.out).mono ?_
    rintro e w2 ⟨⟨v2, rfl, hown⟩, hb2⟩
    rcases hown.forms with ⟨rfl, rfl⟩ | ⟨g, c5, rfl, hg1, hg2⟩
    · simp at hil
    obtain ⟨cs, ⟨vi, rfl, -, -, -, -⟩, -, hc⟩ := OwnSl.at_ hown HX0.out
    have e3 := hc 3 _ rfl
    have e4 := hc 4 _ rfl
    have e5 := hc 5 _ rfl
    have e6 := hc 6 _ rfl
    have z3 := OwnSl.frozen hown (i * 7 + 3)
    have z4 := OwnSl.frozen hown (i * 7 + 4)
    have z5 := OwnSl.frozen hown (i * 7 + 5)
    have z6 := OwnSl.frozen hown (i * 7 + 6)
    have HO := Lib.hid hown
    have m4 := kept_cell hb2 (q4 z)
    have m7 := kept_cell hb2 (q7 z)
    clear hown hc q0 q1 q2 q3 q4 q5 q6 q7 q8 q9 q10 q11 p2 p3
    have hg3 : ¬ g = w.heap.size := by have := z.size; have := (HB.out).lt; omega
    go_wp2_with fail
    go_region
    go_wp2_with fail
    have h3 := OwnSubs.setB (j := 3) (u := .int .i64 ((x.seq + 1) % 1099511627776)) (x' := { x with seq := nextN x.seq }) HO.out HX0.out (by omega) (by
      rintro W cs ⟨vi, rfl, i1, i2, i3, hs⟩ _
      exact ⟨vi, rfl, i1, i2, I64.of (by simp only [nextN]; omega) (by simp only [nextN]; omega), hs⟩)
    have h4 := OwnSubs.setB (i := i) (j := 4) (u := .bool true) (x := { x with seq := nextN x.seq }) (x' := { x with seq := nextN x.seq, live := true }) h3 (by simp [hil]) (by omega) (by
      rintro W cs ⟨vi, rfl, i1, i2, i3, hs⟩ _
      exact ⟨vi, rfl, i1, i2, i3, hs⟩)
    have h5 := OwnSubs.setB (i := i) (j := 5) (u := .bool true) (x := { x with seq := nextN x.seq, live := true }) (x' := { x with seq := nextN x.seq, live := true, heard := true }) h4 (by simp [hil]) (by omega) (by
      rintro W cs ⟨vi, rfl, i1, i2, i3, hs⟩ _
      exact ⟨vi, rfl, i1, i2, i3, hs⟩)
    have h6 := OwnSubs.setB (i := i) (j := 6) (u := .bool ((ln.length : Int) == 0)) (x := { x with seq := nextN x.seq, live := true, heard := true }) (x' := { x with seq := nextN x.seq, live := true, heard := true, idle := ((ln.length : Int) == 0) }) h5 (by simp [hil]) (by omega) (by
      rintro W cs ⟨vi, rfl, i1, i2, i3, hs⟩ _
      exact ⟨vi, rfl, i1, i2, i3, hs⟩)
    simp only [List.set_set] at h6
    have hbb : ∀ {W' : World} {j : Nat} {u : Value}, Below w.heap.size w W' → Below w.heap.size w (W'.setCell ⟨g, j, none⟩ u) := fun h => bset h (by have := z.size; have := kB.size; simp; omega)
    have hb6 := hbb (j := i * 7 + 6) (u := .bool ((ln.length : Int) == 0)) (hbb (j := i * 7 + 5) (u := .bool true) (hbb (j := i * 7 + 4) (u := .bool true) (hbb (j := i * 7 + 3) (u := .int .i64 ((x.seq + 1) % 1099511627776)) (bnext (bnext kB z.below) hb2))))
    have e7 : ((ln.length : Int) == 0) = decide (ln.length = 0) := by rw [Bool.eq_iff_iff]; simp
    have H6 := Lib.hid (Subs.ext (OwnN.sl h6 extSub (Nat.le_refl _)) (mix_later hV (Nat.le_trans kB.size z.size)))
    clear h3 h4 h5 h6
    go_ret2
    refine ⟨.slice (some ⟨g, 0, none⟩) l.length c5, by rw [HX.out]; rfl, ?_, hb6.drew⟩
    rw [HX.out]
    have := H6.out
    rw [List.length_set] at this
    simp only [subHear]
    rw [← e7]
    exact Subs.ext this (mix_below (Below.refl _ _).drew)
end Go.Proofs.YtmdeokneablgaaaDoor
