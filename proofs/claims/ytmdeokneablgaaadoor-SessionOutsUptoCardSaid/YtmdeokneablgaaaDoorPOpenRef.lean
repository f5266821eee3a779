/- Another one subscribed: the reference's. -/
import Derived.Test.YtmdeokneablgaaaDoorPOpen
namespace Go.Proofs.YtmdeokneablgaaaDoor
open Go.ChangeShapes Go.WideShapes Go.ChangeAt Go.RowKit

/-- one that was subscribed, of one's own, lies apart from the row that it is appended to -/
theorem outs_fresh {V2 V W z w2 : World} {base : Nat} {e : TypeId} {o v2 : Value} {lo m : List Out} (HN : OwnOuts V W z base e o lo) (hW : W.heap.size ≤ z.heap.size) (h2 : OwnOuts V2 z w2 z.heap.size e v2 m) (hb : Below z.heap.size z w2) (hV2 : Ext V2 (minusO (mixW V W z) o)) :
    Sl (OutR (minusO (mixW V W w2) o) (minusO (mixW V W w2) o).heap.size) 5 w2 w2.heap.size v2 m :=
  (OwnSl.sl h2).ext (fun cs x hx => extOut _ _ cs x ((minusO_ext _ _).trans (mix_apart2 hV2 hb hW fun g hg => (HN.lt g hg).2)) hx) (Ext.refl w2)

set_option maxRecDepth 100000 in
set_option maxHeartbeats 3200000 in
theorem refOpen (x : Out) (l : List Out) (v vi : Value) (V w : World) (hV : Ext V w) (h : Outs V V.heap.size v l) (hs : Spans V V.heap.size vi x.interest) (i1 : I64 x.to_) (i2 : I64 x.session) (i3 : I64 x.at_) (i4 : I64 x.seq) :
    Calls Tryd.prog 18 #[v, .agg #[.int .i64 x.to_, .int .i64 x.session, vi, .int .i64 x.at_, .int .i64 x.seq]] w fun e w' => RetOuts (openS l x) V w e w' := by
  have hle := h.len_le
  have HH0 := Lib.hid h
  have HH := Lib.hid (Outs.ext h hV)
  have HS0 := Lib.hid hs
  have HSx := Lib.hid (hs.ext (fun _ _ h => h) hV)
  obtain ⟨A, c, rfl, ⟨hlc, -⟩, -⟩ := id h
  obtain ⟨A1, c1, rfl, -⟩ := id hs
  generalize hr : outsFormed 9223372036854775807 l = r
  have HR := Lib.hid hr
  generalize hr2 : outsFormed 9223372036854775807 [x] = r2
  have HR2 := Lib.hid hr2
  generalize hq : openS l x = res
  have HS := Lib.hid hq
  clear h hs hr hr2 hq
  go_enter Tryd.func18, Tryd.ntmps18
  go_wp2_with fail
  have kB := balloc (o := .cells #[.int .i64 x.to_, .int .i64 x.session, .slice A1 x.interest.length c1, .int .i64 x.at_, .int .i64 x.seq] 54) (Below.refl _ w)
  have B := Blk.new w 54 #[.int .i64 x.to_, .int .i64 x.session, .slice A1 x.interest.length c1, .int .i64 x.at_, .int .i64 x.seq]
  generalize hW : w.alloc _ = W at *
  have HB := Lib.hid B
  clear hW B
  have hkB := kB.size
  have q0 : ∀ z : BW W, z.val.cell? ⟨w.heap.size, 0, none⟩ = some (.int .i64 x.to_) := fun z => z.cell (HB.out.cell 0)
  have q1 : ∀ z : BW W, z.val.cell? ⟨w.heap.size, 1, none⟩ = some (.int .i64 x.session) := fun z => z.cell (HB.out.cell 1)
  have q2 : ∀ z : BW W, z.val.cell? ⟨w.heap.size, 2, none⟩ = some (.slice A1 x.interest.length c1) := fun z => z.cell (HB.out.cell 2)
  have q3 : ∀ z : BW W, z.val.cell? ⟨w.heap.size, 3, none⟩ = some (.int .i64 x.at_) := fun z => z.cell (HB.out.cell 3)
  have q4 : ∀ z : BW W, z.val.cell? ⟨w.heap.size, 4, none⟩ = some (.int .i64 x.seq) := fun z => z.cell (HB.out.cell 4)
  refine BW.start (w := W) ?_
  intro z0
  refine BW.callR (z := z0) (refFormedOuts l _ _ _ ((HH.out.next kB).next z0.below)) (congrArg Value.bool HR.out) ?_
  intro z
  cases r
  · go_wp2_with fail
    go_ret2
    exact RetOuts.nil_ (by rw [← HS.out, openS, if_neg (by rw [HR.out]; simp)]) (bnext kB z.below)
  go_wp2_with fail
  have hone : ∀ z : BW W, Outs (z.val.alloc (.cells #[.int .i64 x.to_, .int .i64 x.session, .slice A1 x.interest.length c1, .int .i64 x.at_, .int .i64 x.seq] 54)) (z.val.alloc (.cells #[.int .i64 x.to_, .int .i64 x.session, .slice A1 x.interest.length c1, .int .i64 x.at_, .int .i64 x.seq] 54)).heap.size (.slice (some ⟨z.val.heap.size, 0, none⟩) 1 1) [x] := fun z =>
    (OwnSl.of_blk (R := OutR _ _) (k := 5) (l := [x]) (Blk.new z.val 54 #[.int .i64 x.to_, .int .i64 x.session, .slice A1 x.interest.length c1, .int .i64 x.at_, .int .i64 x.seq]) (Chunks.one rfl ⟨_, rfl, i1, i2, i3, i4, ((HSx.out.next kB).next z.below).next (balloc (Below.refl _ _))⟩) (by simp)).sl
  refine BW.callR (z := z.alloc _) (refFormedOuts [x] _ _ _ (hone z)) (congrArg Value.bool HR2.out) ?_
  clear hone
  intro z1
  cases r2
  · go_wp2_with fail
    go_ret2
    exact RetOuts.nil_ (by rw [← HS.out, openS, if_neg (by rw [HR.out, HR2.out]; simp)]) (bnext kB z1.below)
  have hbig : l.length < 268435456 := by have := outsFormed_len HR.out; omega
  have HRi := Lib.hid (outsFrom_rises (show outsFrom _ (-1) l = true from HR.out))
  have HX := Lib.hid (HS.out.symm.trans (show openS l x = ((if (openUpto x l l.length).2 = true then (openUpto x l l.length).1 else (openUpto x l l.length).1 ++ [x]), 0) by
    have := openFold x l [] HRi.out
    unfold openUpto
    rw [List.take_length, openS, HR.out, HR2.out]
    exact congrArg (fun t => (t, (0 : Int))) this.symm))
  have hz1 := z1.size
  have hVs := hV.size
  have hVW : Ext V W := hV.trans (Ext.of_below kB)
  go_wp2_with fail
  go_loopw [6, 7, 8] (fun o d i wr => ∃ (m : Nat) (z' : BW W), m ≤ l.length ∧ i = .int .i64 m ∧ d = .bool (openUpto x l m).2 ∧ OwnOuts V W wr W.heap.size 54 o (openUpto x l m).1 ∧ wr = z'.val) (fun _ _ i _ => l.length - (intOf i).toNat)
  case atStart => exact ⟨0, z1, Nat.zero_le _, rfl, rfl, OwnN.nil_ _ _ _ _ _, rfl⟩
  case round =>
    obtain ⟨m, z', hm, rfl, rfl, hn, rfl⟩ := hrel
    by_cases hlt : m < l.length
    · obtain ⟨y, hy⟩ : ∃ y, l[m]? = some y := ⟨l[m], List.getElem?_eq_getElem hlt⟩
      obtain ⟨b, off, _, vy, hv', hbb, e0, -⟩ := outs_at (HH.out.next kB) hy
      injection hv' with hv1 hv2 hv3
      subst hv1
      have HT := Lib.hid (openUpto_succ (x := x) hy)
      have HY := Lib.hid hy
      have HL := Lib.hid (openUpto_len x l m)
      generalize hqq : openUpto x l m = qq at *
      obtain ⟨lo, d⟩ := qq
      dsimp only at *
      have HN := Lib.hid hn
      have p0 : ∀ zz : BW z'.val, zz.val.cell? ⟨b, off + m * 5, none⟩ = some (.int .i64 y.to_) := fun zz => zz.cell (z'.cell e0)
      have p1 : ∀ zz : BW z'.val, zz.val.cell? ⟨w.heap.size, 0, none⟩ = some (.int .i64 x.to_) := fun zz => zz.cell (q0 z')
      have i5 : (m : Int) < (l.length : Int) := by omega
      clear hv2 hv3 hy hn hqq
      cases d
      · by_cases hd : x.to_ ≤ y.to_
        · have hd1 : decide (x.to_ ≤ y.to_) = true := decide_eq_true hd
          have HT1 := Lib.hid (HT.out.trans (show openStep x (lo, false) y = (if y.to_ ≠ x.to_ then ((lo ++ [x]) ++ [y], true) else (lo ++ [x], true)) by simp [openStep, hd]))
          go_wp2_with fail
          refine region_below (by kernel_rfl) (by kernel_rfl) ?_
          repeat (go_big_quiet_step (fail))
          refine wpQuiet_nil ?_
          intro w1 hb1
          obtain ⟨z6, hz⟩ : ∃ z : BW W, z.val = w1 := ⟨⟨w1, bnext (z').below hb1⟩, rfl⟩
          subst hz
          have HN1 := Lib.hid (HN.out.next extOut hb1)
          clear HN HT p0 p1 hb1
          have hsz1 := (z6).size
          have ha := balloc (o := .cells #[.int .i64 x.to_, .int .i64 x.session, .slice A1 x.interest.length c1, .int .i64 x.at_, .int .i64 x.seq] 54) (Below.refl _ (z6).val)
          have hB6 := Blk.new (z6).val 54 #[.int .i64 x.to_, .int .i64 x.session, .slice A1 x.interest.length c1, .int .i64 x.at_, .int .i64 x.seq]
          have hlt0 := HN1.out.lt
          have hsz6 := ha.size
          have hn6 := HN1.out.next extOut ha
          have hV6 := ext_apart (z := (z6).val.alloc (.cells #[.int .i64 x.to_, .int .i64 x.session, .slice A1 x.interest.length c1, .int .i64 x.at_, .int .i64 x.seq] 54)) hVW (by omega) (fun g hg => (hlt0 g hg).1)
          have hone := OwnSl.apart (V := V) (w0 := W) (OwnSl.of_blk (R := OutR _ _) (k := 5) (l := [x]) hB6 (Chunks.one rfl ⟨_, rfl, i1, i2, i3, i4, HS0.out.ext (fun _ _ h => h) hV6⟩) (by simp)) (by omega) (fun g hg => (hlt0 g hg).2)
          have HC := Lib.hid (refOuts [x] _ _ _ ((minusO_ext _ _).trans (mix_ext_at (hVW.trans ((z6).ext.trans (Ext.of_below ha))))) hone)
          have HB3 := Lib.hid (bnext (z6).below ha)
          have HN6 := Lib.hid hn6
          have HL0 := Lib.hid hlt0
          have HB6 := Lib.hid hB6
          clear hone hV6 ha hn6 hlt0 hB6
          go_wp2_with fail
          refine HC.out.mono ?_
          rintro e w2 ⟨⟨v2, rfl, hown2⟩, hb2⟩
          have HSL := Lib.hid (outs_fresh HN6.out (by omega) hown2 hb2 (Ext.refl _))
          have HN2 := Lib.hid (HN6.out.next extOut hb2)
          obtain ⟨A6, c6, rfl⟩ := hown2.form
          have hb2s := hb2.size
          clear hown2
          go_wp2_with (at_builtin; refine append_slN infoOutRow Tryd.underlying52 (by omega) (by omega) extOut oneOutR rfl (.tmp 36) (.tmp 39) rfl W.heap.size _ _ rfl HN2.out _ [x] rfl w2 HSL.out (Ext.refl w2) (by simp only [List.length_singleton]; have := HL.out; omega) (by omega) ?_; intro v' w' h1 h2)
          have HN7 := Lib.hid h1
          have hb3 : Below W.heap.size W w' := (bnext HB3.out hb2).grown h2 (by omega) (fun k hk => (HL0.out k hk).1)
          obtain ⟨z7, hz7⟩ : ∃ z : BW W, z.val = w' := ⟨⟨w', hb3⟩, rfl⟩
          subst hz7
          clear h1 h2 hb3 HSL HN2 HC hb2s hb2
          clear HN1
          by_cases hne : y.to_ ≠ x.to_
          · have p0 : ∀ zz : BW (z7).val, zz.val.cell? ⟨b, off + m * 5, none⟩ = some (.int .i64 y.to_) := fun zz => zz.cell ((z7).cell e0)
            have p1 : ∀ zz : BW (z7).val, zz.val.cell? ⟨w.heap.size, 0, none⟩ = some (.int .i64 x.to_) := fun zz => zz.cell (q0 (z7))
            have hne1 : (y.to_ != x.to_) = true := by simpa using hne
            go_wp2_with fail
            refine region_below (by kernel_rfl) (by kernel_rfl) ?_
            repeat (go_big_quiet_step (fail))
            refine wpQuiet_nil ?_
            intro w1 hb1
            have HN8 := Lib.hid (HN7.out.next extOut hb1)
            obtain ⟨z8, hz8⟩ : ∃ z : BW W, z.val = w1 := ⟨⟨w1, bnext (z7).below hb1⟩, rfl⟩
            subst hz8
            clear hb1 p0 p1
            go_wp2_with fail
            have hsz1 := (z8).size
            have hlt0 := HN8.out.lt
            have hV6 := ext_apart (z := (z8).val) hVW (by omega) (fun g hg => (hlt0 g hg).1)
            have hsub : Outs V V.heap.size (.slice (some ⟨b, off + m * 5, none⟩) 1 (c - m)) [y] := by
              have := Sl.piece HH0.out (i := m) (j := m + 1) (by omega) (by omega)
              rw [show (l.drop m).take (m + 1 - m) = [y] by rw [show m + 1 - m = 1 by omega, drop_cons HY.out]; rfl] at this
              exact this
            have HC := Lib.hid (refOuts [y] _ V (z8).val (hVW.trans (z8).ext) hsub)
            have HL0 := Lib.hid hlt0
            have HV6 := Lib.hid hV6
            have hm1 : (m : Int) + 1 ≤ (c : Int) := by omega
            have hm2 : (m : Int) ≤ (m : Int) + 1 := by omega
            have hm3 : m + 1 - m = 1 := by omega
            have hcm : ¬ (c = m) := by omega
            clear hsub hlt0 hV6
            go_wp2_with fail
            refine HC.out.mono ?_
            rintro e w2 ⟨⟨v2, rfl, hown2⟩, hb2⟩
            have HSL := Lib.hid (outs_fresh HN8.out (by omega) hown2 hb2 HV6.out)
            have HN2 := Lib.hid (HN8.out.next extOut hb2)
            obtain ⟨A6, c6, rfl⟩ := hown2.form
            have hb2s := hb2.size
            clear hown2
            go_wp2_with (at_builtin; refine append_slN infoOutRow Tryd.underlying52 (by omega) (by omega) extOut oneOutR rfl (.tmp 49) (.tmp 55) rfl W.heap.size _ _ rfl HN2.out _ [y] rfl w2 HSL.out (Ext.refl w2) (by simp only [List.length_singleton, List.length_append]; have := HL.out; omega) (by omega) ?_; intro v' w' h1 h2)
            have HT2 := Lib.hid (HT1.out.trans (show (if y.to_ ≠ x.to_ then ((lo ++ [x]) ++ [y], true) else ((lo ++ [x]), true)) = ((lo ++ [x]) ++ [y], true) by rw [if_pos hne]))
            have hq : OwnOuts V W w' W.heap.size 54 v' (openUpto x l (m + 1)).1 := by rw [HT2.out]; exact h1
            have HN9 := Lib.hid hq
            have hb3 : Below W.heap.size W w' := (bnext (z8).below hb2).grown h2 (by omega) (fun k hk => (HL0.out k hk).1)
            clear h1 h2 hq HSL HN2 HC hb2
            go_wp2_with fail
            exact ⟨⟨m + 1, ⟨w', hb3⟩, by omega, by go_num, by rw [HT2.out], HN9.out, rfl⟩, by simp [intOf]; omega⟩
          · have p0 : ∀ zz : BW (z7).val, zz.val.cell? ⟨b, off + m * 5, none⟩ = some (.int .i64 y.to_) := fun zz => zz.cell ((z7).cell e0)
            have p1 : ∀ zz : BW (z7).val, zz.val.cell? ⟨w.heap.size, 0, none⟩ = some (.int .i64 x.to_) := fun zz => zz.cell (q0 (z7))
            have hne1 : (y.to_ != x.to_) = false := by simpa using hne
            go_wp2_with fail
            refine region_below (by kernel_rfl) (by kernel_rfl) ?_
            repeat (go_big_quiet_step (fail))
            refine wpQuiet_nil ?_
            intro w1 hb1
            have HN8 := Lib.hid (HN7.out.next extOut hb1)
            obtain ⟨z8, hz8⟩ : ∃ z : BW W, z.val = w1 := ⟨⟨w1, bnext (z7).below hb1⟩, rfl⟩
            subst hz8
            clear hb1 p0 p1
            have HT2 := Lib.hid (HT1.out.trans (show (if y.to_ ≠ x.to_ then ((lo ++ [x]) ++ [y], true) else ((lo ++ [x]), true)) = ((lo ++ [x]), true) by rw [if_neg hne]))
            have hq := HN8.out
            rw [show (lo ++ [x]) = (openUpto x l (m + 1)).1 by rw [HT2.out]] at hq
            have HN9 := Lib.hid hq
            clear hq
            go_wp2_with fail
            exact ⟨⟨m + 1, z8, by omega, by go_num, by rw [HT2.out], HN9.out, rfl⟩, by simp [intOf]; omega⟩
        · have hd1 : decide (x.to_ ≤ y.to_) = false := decide_eq_false hd
          have HT1 := Lib.hid (HT.out.trans (show openStep x (lo, false) y = (if y.to_ ≠ x.to_ then (lo ++ [y], false) else (lo, false)) by simp [openStep, hd]))
          go_wp2_with fail
          refine region_below (by kernel_rfl) (by kernel_rfl) ?_
          repeat (go_big_quiet_step (fail))
          refine wpQuiet_nil ?_
          intro w1 hb1
          obtain ⟨z6, hz⟩ : ∃ z : BW W, z.val = w1 := ⟨⟨w1, bnext (z').below hb1⟩, rfl⟩
          subst hz
          have HN1 := Lib.hid (HN.out.next extOut hb1)
          clear HN HT p0 p1 hb1
          have hne : y.to_ ≠ x.to_ := by omega
          have p0 : ∀ zz : BW (z6).val, zz.val.cell? ⟨b, off + m * 5, none⟩ = some (.int .i64 y.to_) := fun zz => zz.cell ((z6).cell e0)
          have p1 : ∀ zz : BW (z6).val, zz.val.cell? ⟨w.heap.size, 0, none⟩ = some (.int .i64 x.to_) := fun zz => zz.cell (q0 (z6))
          have hne1 : (y.to_ != x.to_) = true := by simpa using hne
          go_wp2_with fail
          refine region_below (by kernel_rfl) (by kernel_rfl) ?_
          repeat (go_big_quiet_step (fail))
          refine wpQuiet_nil ?_
          intro w1 hb1
          have HN8 := Lib.hid (HN1.out.next extOut hb1)
          obtain ⟨z8, hz8⟩ : ∃ z : BW W, z.val = w1 := ⟨⟨w1, bnext (z6).below hb1⟩, rfl⟩
          subst hz8
          clear hb1 p0 p1
          go_wp2_with fail
          have hsz1 := (z8).size
          have hlt0 := HN8.out.lt
          have hV6 := ext_apart (z := (z8).val) hVW (by omega) (fun g hg => (hlt0 g hg).1)
          have hsub : Outs V V.heap.size (.slice (some ⟨b, off + m * 5, none⟩) 1 (c - m)) [y] := by
            have := Sl.piece HH0.out (i := m) (j := m + 1) (by omega) (by omega)
            rw [show (l.drop m).take (m + 1 - m) = [y] by rw [show m + 1 - m = 1 by omega, drop_cons HY.out]; rfl] at this
            exact this
          have HC := Lib.hid (refOuts [y] _ V (z8).val (hVW.trans (z8).ext) hsub)
          have HL0 := Lib.hid hlt0
          have HV6 := Lib.hid hV6
          have hm1 : (m : Int) + 1 ≤ (c : Int) := by omega
          have hm2 : (m : Int) ≤ (m : Int) + 1 := by omega
          have hm3 : m + 1 - m = 1 := by omega
          have hcm : ¬ (c = m) := by omega
          clear hsub hlt0 hV6
          go_wp2_with fail
          refine HC.out.mono ?_
          rintro e w2 ⟨⟨v2, rfl, hown2⟩, hb2⟩
          have HSL := Lib.hid (outs_fresh HN8.out (by omega) hown2 hb2 HV6.out)
          have HN2 := Lib.hid (HN8.out.next extOut hb2)
          obtain ⟨A6, c6, rfl⟩ := hown2.form
          have hb2s := hb2.size
          clear hown2
          go_wp2_with (at_builtin; refine append_slN infoOutRow Tryd.underlying52 (by omega) (by omega) extOut oneOutR rfl (.tmp 49) (.tmp 55) rfl W.heap.size _ _ rfl HN2.out _ [y] rfl w2 HSL.out (Ext.refl w2) (by simp only [List.length_singleton, List.length_append]; have := HL.out; omega) (by omega) ?_; intro v' w' h1 h2)
          have HT2 := Lib.hid (HT1.out.trans (show (if y.to_ ≠ x.to_ then (lo ++ [y], false) else (lo, false)) = (lo ++ [y], false) by rw [if_pos hne]))
          have hq : OwnOuts V W w' W.heap.size 54 v' (openUpto x l (m + 1)).1 := by rw [HT2.out]; exact h1
          have HN9 := Lib.hid hq
          have hb3 : Below W.heap.size W w' := (bnext (z8).below hb2).grown h2 (by omega) (fun k hk => (HL0.out k hk).1)
          clear h1 h2 hq HSL HN2 HC hb2
          go_wp2_with fail
          exact ⟨⟨m + 1, ⟨w', hb3⟩, by omega, by go_num, by rw [HT2.out], HN9.out, rfl⟩, by simp [intOf]; omega⟩
      · have HT1 := Lib.hid (HT.out.trans (show openStep x (lo, true) y = (if y.to_ ≠ x.to_ then (lo ++ [y], true) else (lo, true)) by simp [openStep]))
        go_wp2_with fail
        refine region_below (by kernel_rfl) (by kernel_rfl) ?_
        repeat (go_big_quiet_step (fail))
        refine wpQuiet_nil ?_
        intro w1 hb1
        obtain ⟨z6, hz⟩ : ∃ z : BW W, z.val = w1 := ⟨⟨w1, bnext (z').below hb1⟩, rfl⟩
        subst hz
        have HN1 := Lib.hid (HN.out.next extOut hb1)
        clear HN HT p0 p1 hb1
        by_cases hne : y.to_ ≠ x.to_
        · have p0 : ∀ zz : BW (z6).val, zz.val.cell? ⟨b, off + m * 5, none⟩ = some (.int .i64 y.to_) := fun zz => zz.cell ((z6).cell e0)
          have p1 : ∀ zz : BW (z6).val, zz.val.cell? ⟨w.heap.size, 0, none⟩ = some (.int .i64 x.to_) := fun zz => zz.cell (q0 (z6))
          have hne1 : (y.to_ != x.to_) = true := by simpa using hne
          go_wp2_with fail
          refine region_below (by kernel_rfl) (by kernel_rfl) ?_
          repeat (go_big_quiet_step (fail))
          refine wpQuiet_nil ?_
          intro w1 hb1
          have HN8 := Lib.hid (HN1.out.next extOut hb1)
          obtain ⟨z8, hz8⟩ : ∃ z : BW W, z.val = w1 := ⟨⟨w1, bnext (z6).below hb1⟩, rfl⟩
          subst hz8
          clear hb1 p0 p1
          go_wp2_with fail
          have hsz1 := (z8).size
          have hlt0 := HN8.out.lt
          have hV6 := ext_apart (z := (z8).val) hVW (by omega) (fun g hg => (hlt0 g hg).1)
          have hsub : Outs V V.heap.size (.slice (some ⟨b, off + m * 5, none⟩) 1 (c - m)) [y] := by
            have := Sl.piece HH0.out (i := m) (j := m + 1) (by omega) (by omega)
            rw [show (l.drop m).take (m + 1 - m) = [y] by rw [show m + 1 - m = 1 by omega, drop_cons HY.out]; rfl] at this
            exact this
          have HC := Lib.hid (refOuts [y] _ V (z8).val (hVW.trans (z8).ext) hsub)
          have HL0 := Lib.hid hlt0
          have HV6 := Lib.hid hV6
          have hm1 : (m : Int) + 1 ≤ (c : Int) := by omega
          have hm2 : (m : Int) ≤ (m : Int) + 1 := by omega
          have hm3 : m + 1 - m = 1 := by omega
          have hcm : ¬ (c = m) := by omega
          clear hsub hlt0 hV6
          go_wp2_with fail
          refine HC.out.mono ?_
          rintro e w2 ⟨⟨v2, rfl, hown2⟩, hb2⟩
          have HSL := Lib.hid (outs_fresh HN8.out (by omega) hown2 hb2 HV6.out)
          have HN2 := Lib.hid (HN8.out.next extOut hb2)
          obtain ⟨A6, c6, rfl⟩ := hown2.form
          have hb2s := hb2.size
          clear hown2
          go_wp2_with (at_builtin; refine append_slN infoOutRow Tryd.underlying52 (by omega) (by omega) extOut oneOutR rfl (.tmp 49) (.tmp 55) rfl W.heap.size _ _ rfl HN2.out _ [y] rfl w2 HSL.out (Ext.refl w2) (by simp only [List.length_singleton, List.length_append]; have := HL.out; omega) (by omega) ?_; intro v' w' h1 h2)
          have HT2 := Lib.hid (HT1.out.trans (show (if y.to_ ≠ x.to_ then (lo ++ [y], true) else (lo, true)) = (lo ++ [y], true) by rw [if_pos hne]))
          have hq : OwnOuts V W w' W.heap.size 54 v' (openUpto x l (m + 1)).1 := by rw [HT2.out]; exact h1
          have HN9 := Lib.hid hq
          have hb3 : Below W.heap.size W w' := (bnext (z8).below hb2).grown h2 (by omega) (fun k hk => (HL0.out k hk).1)
          clear h1 h2 hq HSL HN2 HC hb2
          go_wp2_with fail
          exact ⟨⟨m + 1, ⟨w', hb3⟩, by omega, by go_num, by rw [HT2.out], HN9.out, rfl⟩, by simp [intOf]; omega⟩
        · have p0 : ∀ zz : BW (z6).val, zz.val.cell? ⟨b, off + m * 5, none⟩ = some (.int .i64 y.to_) := fun zz => zz.cell ((z6).cell e0)
          have p1 : ∀ zz : BW (z6).val, zz.val.cell? ⟨w.heap.size, 0, none⟩ = some (.int .i64 x.to_) := fun zz => zz.cell (q0 (z6))
          have hne1 : (y.to_ != x.to_) = false := by simpa using hne
          go_wp2_with fail
          refine region_below (by kernel_rfl) (by kernel_rfl) ?_
          repeat (go_big_quiet_step (fail))
          refine wpQuiet_nil ?_
          intro w1 hb1
          have HN8 := Lib.hid (HN1.out.next extOut hb1)
          obtain ⟨z8, hz8⟩ : ∃ z : BW W, z.val = w1 := ⟨⟨w1, bnext (z6).below hb1⟩, rfl⟩
          subst hz8
          clear hb1 p0 p1
          have HT2 := Lib.hid (HT1.out.trans (show (if y.to_ ≠ x.to_ then (lo ++ [y], true) else (lo, true)) = (lo, true) by rw [if_neg hne]))
          have hq := HN8.out
          rw [show lo = (openUpto x l (m + 1)).1 by rw [HT2.out]] at hq
          have HN9 := Lib.hid hq
          clear hq
          go_wp2_with fail
          exact ⟨⟨m + 1, z8, by omega, by go_num, by rw [HT2.out], HN9.out, rfl⟩, by simp [intOf]; omega⟩
    · obtain rfl : m = l.length := by omega
      have HL := Lib.hid (openUpto_len x l l.length)
      generalize hqq : openUpto x l l.length = qq at *
      obtain ⟨lo, d⟩ := qq
      dsimp only at *
      have HN := Lib.hid hn
      clear hn hqq
      cases d
      · have HX2 : Hid (res = (lo ++ [x], 0)) := HX.out
        clear HX
        go_wp2_with fail
        have hsz1 := (z').size
        have ha := balloc (o := .cells #[.int .i64 x.to_, .int .i64 x.session, .slice A1 x.interest.length c1, .int .i64 x.at_, .int .i64 x.seq] 54) (Below.refl _ (z').val)
        have hB6 := Blk.new (z').val 54 #[.int .i64 x.to_, .int .i64 x.session, .slice A1 x.interest.length c1, .int .i64 x.at_, .int .i64 x.seq]
        have hlt0 := HN.out.lt
        have hsz6 := ha.size
        have hn6 := HN.out.next extOut ha
        have hV6 := ext_apart (z := (z').val.alloc (.cells #[.int .i64 x.to_, .int .i64 x.session, .slice A1 x.interest.length c1, .int .i64 x.at_, .int .i64 x.seq] 54)) hVW (by omega) (fun g hg => (hlt0 g hg).1)
        have hone := OwnSl.apart (V := V) (w0 := W) (OwnSl.of_blk (R := OutR _ _) (k := 5) (l := [x]) hB6 (Chunks.one rfl ⟨_, rfl, i1, i2, i3, i4, HS0.out.ext (fun _ _ h => h) hV6⟩) (by simp)) (by omega) (fun g hg => (hlt0 g hg).2)
        have HC := Lib.hid (refOuts [x] _ _ _ ((minusO_ext _ _).trans (mix_ext_at (hVW.trans ((z').ext.trans (Ext.of_below ha))))) hone)
        have HB3 := Lib.hid (bnext (z').below ha)
        have HN6 := Lib.hid hn6
        have HL0 := Lib.hid hlt0
        have HB6 := Lib.hid hB6
        clear hone hV6 ha hn6 hlt0 hB6
        go_wp2_with fail
        refine HC.out.mono ?_
        rintro e w2 ⟨⟨v2, rfl, hown2⟩, hb2⟩
        have HSL := Lib.hid (outs_fresh HN6.out (by omega) hown2 hb2 (Ext.refl _))
        have HN2 := Lib.hid (HN6.out.next extOut hb2)
        obtain ⟨A6, c6, rfl⟩ := hown2.form
        have hb2s := hb2.size
        clear hown2
        go_wp2_with (at_builtin; refine append_slN infoOutRow Tryd.underlying52 (by omega) (by omega) extOut oneOutR rfl (.tmp 59) (.tmp 62) rfl W.heap.size _ _ rfl HN2.out _ [x] rfl w2 HSL.out (Ext.refl w2) (by simp only [List.length_singleton]; have := HL.out; omega) (by omega) ?_; intro v' w' h1 h2)
        have HN7 := Lib.hid h1
        have hb3 : Below W.heap.size W w' := (bnext HB3.out hb2).grown h2 (by omega) (fun k hk => (HL0.out k hk).1)
        obtain ⟨z7, hz7⟩ : ∃ z : BW W, z.val = w' := ⟨⟨w', hb3⟩, rfl⟩
        subst hz7
        clear h1 h2 hb3 HSL HN2 HC hb2s hb2
        have HN9 := Lib.hid (Outs.ext (OwnN.sl (OwnN.later HN7.out extOut hV hkB) extOut hkB) (Ext.refl _))
        obtain ⟨A7, c7, rfl⟩ := OwnSl.form HN7.out
        generalize lo ++ [x] = L at *
        clear HN HN7
        go_wp2_with fail
        go_ret2
        exact ⟨.slice A7 L.length c7, by rw [HX2.out]; rfl, by rw [HX2.out]; exact HN9.out, bnext kB z7.below⟩
      · have HX2 : Hid (res = (lo, 0)) := HX.out
        have HN9 := Lib.hid (Outs.ext (OwnN.sl (OwnN.later HN.out extOut hV hkB) extOut hkB) (Ext.refl _))
        obtain ⟨A7, c7, rfl⟩ := OwnSl.form HN.out
        clear HN HX
        go_wp2_with fail
        go_ret2
        exact ⟨.slice A7 lo.length c7, by rw [HX2.out]; rfl, by rw [HX2.out]; exact HN9.out, bnext kB z'.below⟩
end Go.Proofs.YtmdeokneablgaaaDoor
