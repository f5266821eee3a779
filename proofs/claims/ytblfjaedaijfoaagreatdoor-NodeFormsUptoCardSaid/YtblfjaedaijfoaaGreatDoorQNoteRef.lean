/- Contract of the reference's test whether a note is formed. -/
import Derived.Test.YtblfjaedaijfoaaGreatDoorQNoteWalk
set_option linter.all false
set_option linter.unnecessarySimpa false
set_option linter.unusedSimpArgs false
set_option linter.unusedVariables false
namespace Go.Proofs.YtblfjaedaijfoaaGreatDoor
open Go.ChangeShapes Go.WideShapes Go.ChangeAt Go.RowKit
set_option maxHeartbeats 1600000 in
theorem T9 (x : Bc) (v0 v1 v2 v3 : Value) (w : World) (h : Qg w w.heap.size v0 v1 v2 v3 x) :
    Calls Tryz.prog 123 #[.agg #[v0, v1, v2, v3]] w fun e w' => e = .returned (.bool (Ax x)) /\ Below w.heap.size w w' := by
  have hle := h.writes.len_le
  obtain ⟨A0, c0, rfl, _⟩ := id h.start
  obtain ⟨A1, c1, rfl, _⟩ := id h.end_
  obtain ⟨A2, c2, rfl, _⟩ := id h.blur
  obtain ⟨A3, c3, rfl, _⟩ := id h.writes
  unfold Ax
  generalize hr0 : Ak x.start = r0
  generalize hr1 : Ak x.end_ = r1
  generalize hr2 : Aw x.end_ x.start = r2
  generalize hr3 : Br x.blur = r3
  have H0 := Lib.hid hr0
  have H1 := Lib.hid hr1
  have H2 := Lib.hid hr2
  have H3 := Lib.hid hr3
  clear hr0 hr1 hr2 hr3
  go_enter Tryz.func123, Tryz.ntmps123
  go_wp2_with fail
  generalize hv0 : Value.slice A0 x.start.length c0 = v0 at *
  generalize hv1 : Value.slice A1 x.end_.length c1 = v1 at *
  generalize hv2 : Value.slice A2 x.blur.length c2 = v2 at *
  generalize hv3 : Value.slice A3 x.writes.length c3 = v3 at *
  have Hv3 := Lib.hid hv3
  clear hv0 hv1 hv2 hv3
  have k := Ai (o := .cells #[v0, v1, v2, v3] 98) (Below.refl _ w)
  have B := Blk.new w 98 #[v0, v1, v2, v3]
  generalize hW0 : w.alloc (.cells #[v0, v1, v2, v3] 98) = W0 at *
  clear hW0
  have hn := h.next k
  refine (Jm x.start _ _ hn.start).mono ?_
  rw [H0.out]
  rintro e w1 ⟨rfl, hb1⟩
  replace k := Av k hb1
  replace B := B.next hb1
  replace hn := hn.next hb1
  clear hb1
  have b0 := B.cell 0
  have b1 := B.cell 1
  have b2 := B.cell 2
  have b3 := B.cell 3
  simp only [List.getElem?_toArray, List.getElem?_cons_zero, List.getElem?_cons_succ] at b0 b1 b2 b3
  cases r0
  · go_wp2_with fail
    go_ret
    exact ⟨rfl, k⟩
  go_wp2_with fail
  refine (Jm x.end_ _ _ hn.end_).mono ?_
  rw [H1.out]
  rintro e w2 ⟨rfl, hb1⟩
  replace k := Av k hb1
  replace B := B.next hb1
  replace hn := hn.next hb1
  replace b0 := As hb1 b0
  replace b1 := As hb1 b1
  replace b2 := As hb1 b2
  replace b3 := As hb1 b3
  clear hb1
  cases r1
  · go_wp2_with fail
    go_ret
    exact ⟨rfl, k⟩
  go_wp2_with fail
  refine (Wu x.end_ x.start _ _ _ hn.end_ hn.start).mono ?_
  rw [H2.out]
  rintro e w3 ⟨rfl, hb1⟩
  replace k := Av k hb1
  replace B := B.next hb1
  replace hn := hn.next hb1
  replace b0 := As hb1 b0
  replace b1 := As hb1 b1
  replace b2 := As hb1 b2
  replace b3 := As hb1 b3
  clear hb1
  cases r2
  · go_wp2_with fail
    go_ret
    exact ⟨rfl, k⟩
  go_wp2_with fail
  refine (Nf x.blur _ _ hn.blur).mono ?_
  rw [H3.out]
  rintro e w4 ⟨rfl, hb1⟩
  replace k := Av k hb1
  replace B := B.next hb1
  replace hn := hn.next hb1
  replace b0 := As hb1 b0
  replace b1 := As hb1 b1
  replace b2 := As hb1 b2
  replace b3 := As hb1 b3
  clear hb1
  cases r3
  · go_wp2_with fail
    go_ret
    exact ⟨rfl, k⟩
  rw [<- Hv3.out] at b3
  go_wp2_with fail
  have HB := Lib.hid B
  have HN := Lib.hid hn
  clear b0 b1 b2 b3 B hn H0 H1 H2 H3 h
  go_loopw [3] (fun i wr => ∃ (m : Nat) (e : Int), m <= x.writes.length /\ i = .int .i64 m /\ (m = 0 -> e = -1) /\ (∀ i y, m = i + 1 -> x.writes[i]? = some y -> e = y.object) /\ Dj x (-1) x.writes = Dj x e (x.writes.drop m) /\ Below w4.heap.size w4 wr) (fun i _ => x.writes.length - (intOf i).toNat)
  case atStart => exact ⟨0, -1, Nat.zero_le _, rfl, fun _ => rfl, fun i _ hi => by omega, rfl, Below.refl _ _⟩
  case round =>
    obtain ⟨m, e, hm, rfl, he0, he1, hv, hb⟩ := hrel
    have hn := HN.out.next hb
    have B := HB.out.next hb
    replace k := Av k hb
    have b3 := B.cell 3
    simp only [List.getElem?_toArray, List.getElem?_cons_zero, List.getElem?_cons_succ] at b3
    rw [<- Hv3.out] at b3
    by_cases hlt : m < x.writes.length
    · obtain ⟨y, hy⟩ : ∃ y, x.writes[m]? = some y := ⟨x.writes[m], List.getElem?_eq_getElem hlt⟩
      obtain ⟨b, off, c', hv', hbb, e0, e1, e2, e3, _⟩ := Nq hn.writes hy
      rw [<- Hv3.out] at hv'
      injection hv' with hv1 hv2 hv3
      rw [Eh hy, Dj] at hv
      have Hy := Lib.hid hy
      obtain ⟨⟨yc, yn⟩, yo, yg⟩ := y
      simp only at e0 e1 e2 e3 hv
      have HV := Lib.hid hv
      subst hv1
      have i2 : (m : Int) < (x.writes.length : Int) := by omega
      have He0 := Lib.hid he0
      have He1 := Lib.hid he1
      clear hv hv2 hv3 hy he0 he1
      go_wp2_with fail
      have kB := Ai (o := .cells #[.int .i64 yc, .int .i64 yn, .int .i64 yo, .bool yg] 102) (Below.refl _ wr)
      have B5 := Blk.new wr 102 #[.int .i64 yc, .int .i64 yn, .int .i64 yo, .bool yg]
      have hn2 := hn.next kB
      have B2 := B.next kB
      have k2 := Av k kB
      have hb2 := Av hb kB
      generalize hW : wr.alloc (.cells #[.int .i64 yc, .int .i64 yn, .int .i64 yo, .bool yg] 102) = W at *
      have KB := Lib.hid kB
      have d0 := B5.cell 0
      have d1 := B5.cell 1
      have d2 := B5.cell 2
      have b1 := B2.cell 1
      have b2 := B2.cell 2
      have b4 := B2.cell 3
      simp only [List.getElem?_toArray, List.getElem?_cons_zero, List.getElem?_cons_succ] at b1 b2 b4 d0 d1 d2
      rw [<- Hv3.out] at b4
      have q0 : ∀ z : BW W, z.val.cell? ⟨wr.heap.size, 0, none⟩ = some (.int .i64 yc) := fun z => z.cell d0
      have q1 : ∀ z : BW W, z.val.cell? ⟨wr.heap.size, 1, none⟩ = some (.int .i64 yn) := fun z => z.cell d1
      have q2 : ∀ z : BW W, z.val.cell? ⟨wr.heap.size, 2, none⟩ = some (.int .i64 yo) := fun z => z.cell d2
      have q3 : ∀ z : BW W, z.val.cell? ⟨w.heap.size, 1, none⟩ = some v1 := fun z => z.cell b1
      have q4 : ∀ z : BW W, z.val.cell? ⟨w.heap.size, 2, none⟩ = some v2 := fun z => z.cell b2
      have q5 : ∀ z : BW W, z.val.cell? ⟨w.heap.size, 3, none⟩ = some (.slice (some ⟨b, off, none⟩) x.writes.length c3) := fun z => z.cell b4
      generalize hr : E4 x.end_ ⟨yc, yn⟩ = r at HV
      generalize hq : Er x.blur yo = q at HV
      have HC1 := Lib.hid (fun z : BW W => hr ▸ Bx2 x.end_ ⟨yc, yn⟩ v1 z.val (hn2.next z.below).end_)
      have HC2 := Lib.hid (fun z : BW W => hq ▸ B70 x.blur yo v2 z.val (hn2.next z.below).blur)
      clear d0 d1 d2 b1 b2 b3 b4 e0 e1 e2 e3 hr hq hW hn2 B2 B5 kB
      have hcs : r = false \/ (r = true /\ yo < 0 /\ decide (yo < 0) = true) \/ (r = true /\ 0 <= yo /\ 255 < yo /\ decide (yo < 0) = false /\ decide (255 < yo) = true) \/ (r = true /\ q = true /\ 0 <= yo /\ yo <= 255 /\ decide (yo < 0) = false /\ decide (255 < yo) = false) \/ (r = true /\ q = false /\ 0 <= yo /\ yo <= 255 /\ decide (yo < 0) = false /\ decide (255 < yo) = false) := by
        simp only [decide_eq_true_eq, decide_eq_false_iff_not]
        cases r <;> cases q <;> simp <;> omega
      cases m with
      | zero =>
        rcases hcs with rfl | ⟨rfl, h1, g1⟩ | ⟨rfl, h1, h2, g1, g2⟩ | ⟨rfl, rfl, h1, h2, g1, g2⟩ | ⟨rfl, rfl, h1, h2, g1, g2⟩
        all_goals
          refine Cd (by kernel_rfl) (by kernel_rfl) ?_
          repeat (go_big_quiet_step (first | (go_at_call 206; exact Fl (HC1.out _)) | (go_at_call 171; exact Fl (HC2.out _))))
          refine wpQuiet_nil ?_
          intro w5 hb5
          have k5 := Av k2 hb5
          have hb6 := Av hb2 hb5
          go_wp2_with fail
        all_goals first
          | (go_ret
             refine ⟨Ad ?_, k5⟩
             first
               | (rw [HV.out]; simp; done)
               | (rw [HV.out, decide_eq_false (p := e < yo /\ 0 <= yo /\ yo <= 255) (by omega)]; rfl))
          | (refine ⟨⟨1, yo, by omega, rfl, fun h => by omega, fun i y hi hyi => ?_, ?_, hb6⟩, by simp [intOf]; omega⟩
             · obtain rfl : i = 0 := by omega
               rw [Hy.out] at hyi
               injection hyi with hyi
               subst hyi
               rfl
             · rw [HV.out, decide_eq_true (p := e < yo /\ 0 <= yo /\ yo <= 255) (by have := He0.out rfl; omega)]
               rfl)
      | succ i =>
        obtain ⟨y', hy'⟩ : ∃ y', x.writes[i]? = some y' := ⟨x.writes[i], List.getElem?_eq_getElem (by omega)⟩
        obtain rfl := He1.out i y' rfl hy'
        obtain ⟨b', off', c'', hv', hbb', _, _, e2, _, _⟩ := Nq hn.writes hy'
        rw [<- Hv3.out] at hv'
        injection hv' with hv1 hv2 hv3
        injection hv1 with hv1
        injection hv1 with hv4 hv5
        subst hv4 hv5
        have q6 : ∀ z : BW W, z.val.cell? ⟨b, off + i * 4 + 2, none⟩ = some (.int .i64 y'.object) := fun z => z.cell (As KB.out e2)
        have i1 : (0 : Int) < (i : Int) + 1 := by omega
        have i3 : (i : Int) < (x.writes.length : Int) := by omega
        have s1 : IntKind.i64.wrap ((i : Int) + 1) = (i : Int) + 1 := IntWalk.i64_in _ (by omega)
        have s2 : IntKind.i64.wrap (i : Int) = (i : Int) := IntWalk.i64_in _ (by omega)
        clear hv2 hv3 hy' e2 hbb'
        rcases hcs with rfl | ⟨rfl, h1, g1⟩ | ⟨rfl, h1, h2, g1, g2⟩ | ⟨rfl, rfl, h1, h2, g1, g2⟩ | ⟨rfl, rfl, h1, h2, g1, g2⟩
        all_goals
          refine Cd (by kernel_rfl) (by kernel_rfl) ?_
          repeat (go_big_quiet_step (first | (go_at_call 206; exact Fl (HC1.out _)) | (go_at_call 171; exact Fl (HC2.out _))))
          refine wpQuiet_nil ?_
          intro w5 hb5
          have k5 := Av k2 hb5
          have hb6 := Av hb2 hb5
          clear s1 s2
          go_wp2_with fail
        all_goals first
          | (go_ret
             refine ⟨Ad ?_, k5⟩
             first
               | (rw [HV.out]; simp; done)
               | (rw [HV.out, decide_eq_false (p := y'.object < yo /\ 0 <= yo /\ yo <= 255) (by omega)]; rfl))
          | (refine ⟨⟨i + 1 + 1, yo, by omega, by go_num, fun h => by omega, fun i' y hi hyi => ?_, ?_, hb6⟩, by simp [intOf]; omega⟩
             · obtain rfl : i' = i + 1 := by omega
               rw [Hy.out] at hyi
               injection hyi with hyi
               subst hyi
               rfl
             · rw [HV.out, decide_eq_true (p := y'.object < yo /\ 0 <= yo /\ yo <= 255) (by omega)]
               rfl)
    · obtain rfl : m = x.writes.length := by omega
      rw [List.drop_length] at hv
      have HV := Lib.hid hv
      clear hv he0 he1
      go_wp2_with fail
      go_ret
      exact ⟨Ad (by rw [HV.out]; rfl), k⟩
end Go.Proofs.YtblfjaedaijfoaaGreatDoor
