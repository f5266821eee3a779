/- Contracts of the elder kind, told over abstract states: vectors, spans, notes. -/
import Derived.Test.YtkphfdmelfhnoaaGreatDoorPAbsIter
import Derived.Test.YtkphfdmelfhnoaaGreatDoorPEnc
import Derived.Test.YtkphfdmelfhnoaaGreatDoorPIter
import Derived.Test.YtkphfdmelfhnoaaGreatDoorPMsg
import Derived.Test.YtkphfdmelfhnoaaGreatDoorPCovers
import Derived.Test.YtkphfdmelfhnoaaGreatDoorPVecRef
import Derived.Test.YtkphfdmelfhnoaaGreatDoorPMarks
import Derived.Test.YtkphfdmelfhnoaaGreatDoorPSpanSet
import Derived.Test.YtkphfdmelfhnoaaGreatDoorPConcatSpan
import Derived.Test.YtkphfdmelfhnoaaGreatDoorPTidyLaw
import Derived.Test.YtkphfdmelfhnoaaGreatDoorPCounts
import Derived.Test.YtkphfdmelfhnoaaGreatDoorPNoteSmall
import Derived.Test.YtkphfdmelfhnoaaGreatDoorPStreamSpec
set_option linter.all false
set_option linter.unnecessarySimpa false
set_option linter.unusedSimpArgs false
set_option linter.unusedVariables false
namespace Go.Proofs.YtkphfdmelfhnoaaGreatDoor
open Go.ChangeShapes Go.WideShapes Go.ChangeAt Go.RowKit
attribute [local irreducible] AW AWY vops vopsY vop vopL vdraw callW qop binQ lenQ storeQ appendQ callQ ACalls AIter
def cntI (f : Nat → Int) (M : Nat) : List IV := (cnts f M).toList.map IV.val
theorem cntI_at {f : Nat → Int} {M n : Nat} (h : n < 64) : (cntI f M)[n]? = some (.val (.int .i64 (f n))) := by rw [cntI, List.getElem?_map, Array.getElem?_toList, cnts_at h]; rfl
theorem cntI_has {f : Nat → Int} {M : Nat} : (cntI f M)[64]? = some (.val (.int .u64 M)) := by rw [cntI, List.getElem?_map, Array.getElem?_toList, cnts_has]; rfl
theorem TzTab.later {w w' : World} (h : TzTab w) (hb : Below w.heap.size w w') : TzTab w' := h.next hb
def enE (f : Nat → Int) (x : Fin 64) : List AV := [.val (.int .i64 (x.1 : Nat)), .val (.int .i64 (f x.1))]
theorem each_call (cs : List IV) : ACalls Tryz.prog TzTab 228 [.ip cs] (.fn 248 [.ip [.pt cs]]) [] := by
 have h : ACalls Tryz.prog TzTab 228 [.ip cs] (.fn 248 [.bp 0 0]) [.box 0 [.ip cs]] := by
  refine ACalls.of (n := 4) (rs := [.tmp 2]) Tryz.func228 rfl (by kernel_rfl) Tryz.ntmps228 (by kernel_rfl) (by simp) (fun _ _ => TzTab.later) ?_
  intro hok V w0
  refine g ?_
  refine g ?_
  repeat' refine st_ rfl (g ?_)
  exact ⟨.inl trivial, fun _ => 200, rfl, by simp [go_sem], by simp⟩
 exact h.frz ⟨trivial, trivial⟩
attribute [local irreducible] cnts rowOf
theorem cnt_rep {X : World} {f : Nat → Int} {M : Nat} (hf : ∀ n, n < 64 → I64 (f n)) (hM : M < 18446744073709551616) : RepVs X (cnts f M).toList (cntI f M) :=
 RepVs.of (by unfold cntI; rw [List.length_map]) fun j v i h1 h2 => by
  rw [cntI, List.getElem?_map, h1] at h2
  obtain rfl := Option.some.inj h2
  rw [Array.getElem?_toList] at h1
  have hj := (Array.getElem?_eq_some_iff.1 h1).1
  rw [cnts_size] at hj
  by_cases h64 : j < 64
  ·rw [cnts_at h64] at h1
   obtain rfl := Option.some.inj h1
   exact .val (hf j h64)
  ·obtain rfl : j = 64 := by omega
   rw [cnts_has] at h1
   obtain rfl := Option.some.inj h1
   refine .val ?_
   show (Lit.int .u64 (M : Int)).wf = true
   simp [Lit.wf, IntKind.max, IntKind.min, IntKind.signed, IntKind.bits]
   omega
theorem read_call (l : List Stamp) : ACalls Tryz.prog TzTab 191 [.iv (stI l)] (.aggI (cntI (fun n => countOf l n) (maskOf l))) [] := by
 refine bridge Tryz.func191 rfl (by kernel_rfl) fun V w E vs hV hG hr => ?_
 obtain ⟨v, rfl, hv⟩ := args1 hr
 have hs := iv_stamps hV hv
 exact (vectorRead l v w hs).mono fun e w1 h => ⟨_, h.1, h.2, .aggI (cnt_rep (countsI_of hs) (maskOf_lt l))⟩
attribute [local irreducible] cntI stI
set_option maxRecDepth 100000 in
theorem all_call (l : List Stamp) : ACalls Tryz.prog TzTab 176 [.iv (stI l)] (.fn 248 [.ip [.pt (cntI (fun n => countOf l n) (maskOf l))]]) [] := by
 refine ACalls.of (n := 7) (rs := [.tmp 2]) Tryz.func176 rfl (by kernel_rfl) Tryz.ntmps176 (by kernel_rfl) (by simp) (fun _ _ => TzTab.later) ?_
 intro hok V w0
 have hlen : (cntI (fun n => countOf l n) (maskOf l)).length = 65 := by unfold cntI; rw [List.length_map, Array.length_toList, cnts_size]
 have hread := read_call l
 generalize cntI (fun n => countOf l n) (maskOf l) = C at hlen hread ⊢
 refine g ?_
 refine g ?_
 repeat' refine st_ rfl (g ?_)
 refine call_ hread rfl ?_
 refine g ?_
 refine store_all (q := 1) (s := 65) (by kernel_rfl) hlen rfl rfl ?_
 refine g ?_
 refine AW.freeze 400 _ rfl (okAs_map C) ?_
 simp only [go_sem, toIs_map, reduceIte]
 refine g ?_
 repeat' refine st_ rfl (g ?_)
 refine call_ (each_call C) rfl ?_
 refine g ?_
 repeat' refine st_ rfl (g ?_)
 first | exact ⟨.inl trivial, id, List.nodup_nil⟩ | exact ⟨.inl trivial, id, by simp [go_sem], List.nodup_nil⟩
theorem tz_call {R : Nat} (hR : R < 18446744073709551616) : ACalls Tryz.prog TzTab 249 [.val (.int .u64 R)] (.val (.int .i64 (Lib.ctz 64 R))) [] :=
 bridge_val Tryz.func249 rfl (by kernel_rfl) fun V w E vs hV hG hr => by
  obtain ⟨v, rfl, hv⟩ := args1 hr
  cases hv
  exact (trailing R hR w hG).mono fun _ w' h => ⟨h.1, h.2 ▸ Below.refl _ _⟩
structure EachS (M : Nat) where
 k : Nat
 R : Nat
 pre : List (Fin 64)
 hk : k ≤ 64
 hR : R < 18446744073709551616
 hbit : ∀ i, i < 64 → R.testBit i = (M.testBit i && decide (k ≤ i))
 hpre : pre.map (·.1) = nodesOf M k
theorem each_iter (f : Nat → Int) (M : Nat) (hM : M < 18446744073709551616) : AIter Tryz.prog TzTab 248 [.ip [.pt (cntI f M)]] (enE f) (fun ys => ys.map (·.1) = nodesOf M 64) (fun pre => pre.map (·.1) <+: nodesOf M 64) := by
 refine AIter.of (n := 27) Tryz.func248 rfl (by kernel_rfl) Tryz.ntmps248 (by kernel_rfl) (by simp) (fun _ _ => TzTab.later) ?_
 intro hok Y
 have h64 := cntI_has (f := f) (M := M)
 have hat := fun n (h : n < 64) => cntI_at (f := f) (M := M) h
 generalize cntI f M = C at h64 hat ⊢
 refine g ?_
 refine g ?_
 repeat' refine stY_ rfl (g ?_)
 refine rdI_drop h64 ?_
 refine g ?_
 repeat' refine stY_ rfl (g ?_)
 refine AWY.loop (fun s : EachS M => (.going s.pre, ⟨[(0, .val (.func (.yield Y.l) #[] #[])), (1, .ip [.pt C]), (3, .val (.int .u64 s.R))], []⟩)) (fun s => s.R) ⟨0, M, [], by omega, hM, fun i _ => by simp, rfl⟩ id ⟨rfl, by simp [LeS, go_sem]⟩ fun ⟨k, R, pre, hk, hR, hbit, hpre⟩ => ?_
 refine g ?_
 repeat' (first | refine stY_ rfl (g ?_) | refine cond_ (fun h => g ?_) (fun h => g ?_))
 ·have hz : R ≠ 0 := by rintro rfl; simp at h
  obtain ⟨hx, hxb, hxl⟩ := low_bit hz hR
  have hdl := drop_low hz hR
  refine call_ (tz_call hR) rfl ?_
  generalize Lib.ctz 64 R = x at *
  refine g ?_
  repeat' refine stY_ rfl (g ?_)
  refine ⟨by omega, by omega, ?_⟩
  rw [Nat.mul_one]
  refine g ?_
  repeat' refine hold_ (g ?_)
  refine rdI_drop (hat x hx) ?_
  refine g ?_
  have hp1 : (pre ++ [(⟨x, hx⟩ : Fin 64)]).map (·.1) = nodesOf M (x + 1) := by
   rw [List.map_append, hpre]
   show nodesOf M k ++ [x] = _
   have hb := hbit x hx
   rw [hxb] at hb
   simp only [Bool.true_eq, Bool.and_eq_true, decide_eq_true_eq] at hb
   rw [nodesOf_succ, hb.1, if_pos rfl, nodesOf_same hb.2 fun i h1 h2 => by
    have := hbit i (by omega)
    rw [hxl i h2, decide_eq_true h1, Bool.and_true] at this
    exact this.symm]
  refine vopsY_y (x := (⟨x, hx⟩ : Fin 64)) ?_ ?_ ?_ ?_
  ·rfl
  ·exact Sbs.rfl_ _
  ·rw [hp1]; exact nodesOf_prefix (by omega)
  simp only [go_sem]
  refine ⟨?_, ?_⟩
  ·refine g ?_
   repeat' refine stY_ rfl (g ?_)
   have e1 : bits .and .u64 (R : Int) ((R : Int) - 1) = ((R &&& (R - 1) : Nat) : Int) := by
    rw [show (R : Int) - 1 = ((R - 1 : Nat) : Int) by omega]
    exact u64_and_nat _ _ hR (by omega)
   refine ⟨(R : Int) - 1, by rw [IntKind.wrap_u64]; omega, ?_⟩
   refine g ?_
   repeat' refine hold_ (g ?_)
   refine ⟨.int .u64 ((R &&& (R - 1) : Nat) : Int), fun w => by go_simp, ?_⟩
   refine g ?_
   repeat' refine hold_ (g ?_)
   have hlt : R &&& (R - 1) < R := Nat.lt_of_le_of_lt Nat.and_le_right (by omega)
   refine ⟨⟨x + 1, R &&& (R - 1), pre ++ [⟨x, hx⟩], by omega, by omega, fun i hi => ?_, hp1⟩, id, rfl, by simp [LeS, go_sem], hlt⟩
   rw [hdl]
   rcases Nat.lt_or_ge i x with c | c
   ·rw [hxl i c, decide_eq_false (p := x + 1 ≤ i) (by omega)]
    simp
   ·have hkx : k ≤ x := by
     have := hbit x hx
     rw [hxb] at this
     simp only [Bool.true_eq, Bool.and_eq_true, decide_eq_true_eq] at this
     exact this.2
    rw [hbit i hi, decide_eq_true (p := k ≤ i) (by omega), Bool.and_true]
    congr 1
    by_cases hix : i = x
    ·subst hix; simp
    ·rw [decide_eq_false (p := i = x) hix, decide_eq_true (p := x + 1 ≤ i) (by omega)]
     rfl
  ·refine g ?_
   repeat' refine stY_ rfl (g ?_)
   exact .inl trivial
 ·have hz : R = 0 := by simp at h; omega
  subst hz
  refine ⟨.inr trivial, ?_⟩
  rw [hpre]
  exact (nodesOf_same hk fun i h1 h2 => by
   have := hbit i h2
   rw [Nat.zero_testBit, decide_eq_true h1, Bool.and_true] at this
   exact this.symm).symm
end Go.Proofs.YtkphfdmelfhnoaaGreatDoor
namespace Go.Proofs.YtkphfdmelfhnoaaGreatDoor
open Go.ChangeShapes Go.WideShapes Go.ChangeAt Go.RowKit
end Go.Proofs.YtkphfdmelfhnoaaGreatDoor
namespace Go.Proofs.YtkphfdmelfhnoaaGreatDoor
open Go.ChangeShapes Go.WideShapes Go.ChangeAt Go.RowKit Go.Shelf
attribute [local go_sem] Oper.semAt_some
theorem OwnSl.cells {α : Type} {R : List Value → α → Prop} {k : Nat} {w : World} {base : Nat} {e : TypeId} {v : Value} {l : List α} (h : OwnSl R k w base e v l) {g : Nat} (hg : v.ownBlock = some g) : ∃ cs t f, w.heap[g]? = some (.cells cs t f) := by
 obtain ⟨xs, hown, _⟩ := h
 rcases hown.2 with ⟨rfl, _⟩ | ⟨g', cap, cur, rfl, _, hb, _⟩
 ·cases hg
 ·obtain rfl : g' = g := Option.some.inj hg
  exact ⟨_, _, _, hb⟩
theorem OwnSl.abides {α : Type} {R : List Value → α → Prop} {k : Nat} {A B : World} {base : Nat} {e : TypeId} {v : Value} {l : List α} {row : Option Nat} (h : OwnSl R k A base e v l) (hg : A.grownBy B row) (hr : ∀ r, row = some r → ∃ o : Obj, A.heap[r]? = some o ∧ o.isCells = false) : OwnSl R k B base e v l := by
 refine h.kept hg ?_
 cases hv : v.ownBlock with
 | none => exact .inl rfl
 | some g =>
  refine .inr fun e' => ?_
  obtain ⟨cs, t, f, hc⟩ := h.cells hv
  obtain ⟨o, ho, hoc⟩ := hr g e'.symm
  rw [hc] at ho
  injection ho with ho
  subst ho
  cases hoc
theorem OwnSl.keepsOthers {α : Type} {R : List Value → α → Prop} {k : Nat} {A B : World} {base : Nat} {e : TypeId} {v : Value} {l : List α} (h : OwnSl R k A base e v l) (hg : A.grownBy B v.ownBlock) : KeepsOthers A B :=
 KeepsOthers.of_grownBy hg fun j o hj ho => by
  obtain ⟨cs, t, f, hc⟩ := h.cells hj
  rw [hc] at ho
  injection ho with ho
  subst ho
  rfl
theorem KeepEach.grown {Bn C : Nat} {A B : World} {row : Option Nat} (hg : A.grownBy B row) (h1 : Bn < A.heap.size) (h2 : C < A.heap.size) (h3 : 0 < A.heap.size) (hne : ∀ r, row = some r → r ≠ Bn ∧ r ≠ C ∧ r ≠ 0) : KeepEach Bn C A B := by
 rintro g (rfl | rfl | rfl)
 ·exact hg.block _ h1 fun e => (hne _ e.symm).1 rfl
 ·exact hg.block _ h2 fun e => (hne _ e.symm).2.1 rfl
 ·exact hg.block _ h3 fun e => (hne _ e.symm).2.2 rfl
theorem vecUpto_nodes (f : Nat → Int) (M : Nat) : ∀ k, (∀ n, n < k → M.testBit n = decide (0 < f n)) → vecUpto f k = (nodesOf M k).map fun n => ⟨f n, n⟩
 | 0, _ => rfl
 | k + 1, h => by
  rw [vecUpto, nodesOf_succ, h k (by omega), vecUpto_nodes f M k fun n hn => h n (by omega)]
  by_cases h0 : 0 < f k
  ·rw [if_pos h0, if_pos (by simpa using h0), List.map_append]; rfl
  ·rw [if_neg h0, if_neg (by simpa using h0)]
def stampsOf (f : Nat → Int) (pre : List (Fin 64)) : List Stamp := pre.map fun x => ⟨f x.1, (x.1 : Nat)⟩
theorem stampsOf_snoc (f : Nat → Int) (pre : List (Fin 64)) (x : Fin 64) : stampsOf f (pre ++ [x]) = stampsOf f pre ++ [⟨f x.1, (x.1 : Nat)⟩] := by simp [stampsOf]
set_option maxRecDepth 100000 in
set_option maxHeartbeats 2000000 in
theorem vectorList (C : Nat) (f : Nat → Int) (M : Nat) (w : World) (hC : Blk w C 229 (cnts f M)) (hM : M < 18446744073709551616) (hbit : ∀ n, n < 64 → M.testBit n = decide (0 < f n)) (hI : ∀ n, n < 64 → I64 (f n)) (hT : TzTab w) :
  Calls Tryz.prog 220 #[.pointer (some ⟨C, 0, none⟩)] w fun e w' => (∃ v', e = .returned v' ∧ OwnSl StampR 2 w' w.heap.size 49 v' (vecOf f)) ∧ Below w.heap.size w w' := by
 have HT := Lib.hid hT
 have HI := Lib.hid hI
 have HCC := Lib.hid hC
 have hClt := hC.lt
 have hTlt := hT.lt
 have HV := Lib.hid (vecUpto_nodes f M 64 hbit)
 clear hT hI hbit hC
 refine (callsIn_wide (n := 5)).1 ?_
 refine callsIn_of_wp_marks Tryz.func220 rfl trivial ?_ rfl
 simp only [Tryz.ntmps220, List.size_toArray, List.length_cons, List.length_nil, Nat.reduceAdd, Nat.reduceSub, Array.replicate_succ, Array.replicate_zero, List.push_toArray, List.append_toArray, List.nil_append, List.cons_append]
 gi_wp2
 refine ⟨trivial, ?_⟩
 refine (callsIn_wide.2 (countsEach C _)).mono ?_
 rintro e w1 ⟨rfl, rfl⟩
 have kb := balloc (o := .cells #[.pointer (some ⟨C, 0, none⟩)] 262) (balloc (o := .cells #[.slice none 0 0] 22) (Below.refl _ w))
 have hE : EachAt (w.heap.size + 1) C f M ((w.alloc (.cells #[.slice none 0 0] 22)).alloc (.cells #[.pointer (some ⟨C, 0, none⟩)] 262)) := ⟨Blk.new_at (by simp), HCC.out.alloc.alloc, HT.out.next kb⟩
 have hV : Blk ((w.alloc (.cells #[.slice none 0 0] 22)).alloc (.cells #[.pointer (some ⟨C, 0, none⟩)] 262)) w.heap.size 22 #[.slice none 0 0] := (Blk.new w 22 _).alloc
 have hs0 : ((w.alloc (.cells #[.slice none 0 0] 22)).alloc (.cells #[.pointer (some ⟨C, 0, none⟩)] 262)).heap.size = w.heap.size + 2 := by simp
 rw [show (w.alloc (.cells #[.slice none 0 0] 22)).heap.size = w.heap.size + 1 by simp]
 generalize (w.alloc (.cells #[.slice none 0 0] 22)).alloc _ = W0 at *
 have HE := Lib.hid hE
 have HV0 := Lib.hid hV
 have HKB := Lib.hid kb
 clear hE hV kb
 gi_wp2
 refine wpIn_rangeFunc_ownF rfl (by omega) (gf := 248) (lb := #[.pointer (some ⟨w.heap.size + 1, 0, none⟩)]) rfl trivial (enters_of Tryz.func248 (by kernel_rfl) rfl)
  (each_stops _ (by omega) (w.heap.size + 1) C f M hM W0 HE.out) (fun h k => KeepEach.t h k) (fun W l o o' hl _ _ _ => KeepEach.put (w := W0) (by omega) (by omega) (by omega) hl) (Below.refl _ _) (fun _ => rfl)
  (fun pre W => (∃ v, Blk W w.heap.size 22 #[v] ∧ OwnSl StampR 2 W (w.heap.size + 2) 49 v (stampsOf f pre) ∧ w.heap.size + 2 ≤ W.heap.size) ∧ Below w.heap.size w W)
  (fun _ _ _ => False)
  (OwnFrom.and (Own.from (fun s A B row hs hg hr => by obtain ⟨v, h1, h2, h3⟩ := hs; exact ⟨v, h1.own hg hr, h2.abides hg hr, Nat.le_trans h3 hg.size⟩) _) (ownFrom_below (Nat.le_refl _) (by omega)))
  (fun _ _ _ _ _ hs _ _ => hs)
  ⟨⟨_, HV0.out, OwnSl.nil_ _ _ _, by omega⟩, HKB.out⟩
  (fun x => { tmps := #[.pointer (some ⟨C, 0, none⟩), undef, .slice none 0 0, .pointer (some ⟨w.heap.size, 0, none⟩), .int .i64 (x.1 : Nat), .int .i64 (f x.1), .pointer (some ⟨C, 0, none⟩), eachFn (w.heap.size + 1), .int .i64 (x.1 : Nat), .int .i64 (f x.1), undef, undef, undef, undef, undef, undef, undef], defers := [] }) ?assign ?body ?done ?stop
 case assign =>
  intro r x W K hK
  dsimp only [eachEnc]
  gi_wp2
  exact hK
 case body =>
  rintro r pre ⟨x, hx⟩ W ⟨⟨v, hB, hown, hs2⟩, hb⟩ hlen
  dsimp only
  have b0 := hB.cell 0
  have z0 := hB.frozen 0
  simp only [List.getElem?_toArray, List.getElem?_cons_zero] at b0
  have hs := hb.size
  have hlt := hown.lt
  have hBlt := hB.lt
  have hsz : (stampsOf f pre).length < 1073741824 := by simp only [stampsOf, List.length_map]; omega
  have hi := HI.out x hx
  have HB := Lib.hid hB
  have HO := Lib.hid hown
  have Hb := Lib.hid hb
  have HSN := Lib.hid (stampsOf_snoc f pre ⟨x, hx⟩)
  obtain ⟨A5, c5, rfl⟩ := hown.form
  clear hB hown hb
  generalize f x = q at *
  gi_wp2_with (gi_at_builtin; refine appendIn_flat infoStamp2 Tryz.underlying22 (by omega) (by omega) stampOne rfl (.tmp 10) (.tmp 14) rfl (w.heap.size + 2) _ _ rfl HO.out #[.int .i64 q, .int .i64 x] ⟨q, x⟩ rfl ⟨rfl, hi, I64.of (by simp only; omega) (by simp only; omega)⟩ rfl hsz (by omega) ?_; intro v1 w1 ha; obtain ⟨A6, c6, rfl⟩ := ha.own.form; have hB1 := ha.blk (fun e => by have := (hlt _ e).1; omega) HB.out.alloc; have b1 := hB1.cell 0; have z1 := hB1.frozen 0; simp only [List.getElem?_toArray, List.getElem?_cons_zero] at b1)
  have hs1 := ha.size
  have h2 := HO.out.next (balloc (o := .cells #[.int .i64 q, .int .i64 x] 49) (Below.refl _ W))
  have hko : KeepsOthers (W.alloc (.cells #[.int .i64 q, .int .i64 x] 49)) w1 := h2.keepsOthers ha.grown
  have hke : KeepEach (w.heap.size + 1) C (W.alloc (.cells #[.int .i64 q, .int .i64 x] 49)) w1 := KeepEach.grown ha.grown (by simp only [World.size_alloc]; omega) (by simp only [World.size_alloc]; omega) (by simp only [World.size_alloc]; omega) fun r hr => by
   have := (hlt r hr).1
   exact ⟨by omega, by omega, by omega⟩
  have hb2 := ha.low w (by omega) (balloc Hb.out)
  simp only [World.size_alloc] at hs1
  refine ⟨((KeepsOthers.alloc _ _).trans hko).trans (KeepsOthers.setCell _ _ _), KeepEach.t (KeepEach.t (KeepEach.of_below (balloc (Below.refl _ W)) (by omega) (by omega) (by omega)) hke) (KeepEach.far (by simp only; omega) (by simp only; omega) (by simp only; omega)), ⟨_, hB1.set_ 0 _, ?_, ?_⟩, ?_⟩
  ·try rw [HSN.out]
   have := OwnSl.set_other ha.own (p := ⟨w.heap.size, 0, none⟩) (fun e => by have h9 := (ha.own.lt _ e).1; simp only at h9; omega) (.slice A6 ((stampsOf f pre).length + 1) c6)
   simpa using this
  ·simp; omega
  ·exact bset hb2 (by simp)
 case done =>
  rintro D ys W hD hys ⟨⟨v, hB, hown, hs2⟩, hb⟩ hK
  have b0 := hB.cell 0
  have z0 := hB.frozen 0
  simp only [List.getElem?_toArray, List.getElem?_cons_zero] at b0
  have hres : stampsOf f ys = vecOf f := by
   rw [vecOf, HV.out, ← hys, List.map_map]
   rfl
  rw [hres] at hown
  obtain ⟨A6, c6, rfl⟩ := hown.form
  have HO := Lib.hid hown
  have Hb := Lib.hid hb
  have HK := Lib.hid hK
  clear hB hb hys hK hres hown
  gi_wp2
  have hown2 := HO.out.kept (grownBy_putObj' W D (.deferred none)) (.inr fun e => by
   obtain ⟨cs, t, f, hc⟩ := HO.out.cells e
   rw [HK.out] at hc
   cases hc)
  refine ⟨by simp, .inl ⟨_, _, rfl, run_takeDeferred HK.out, ?_⟩⟩
  refine ⟨.slice A6 (vecOf f).length c6, by simp [results, Tryz.f220, go_sem], ⟨_, rfl, hown2.base (by omega)⟩, Hb.out.trans (belowK_b (w := w) (Nat.le_refl _) W D _ _ (by have := HKB.out.size; omega) HK.out rfl rfl)⟩
 case stop =>
  rintro E d pre W hD _ h hK
  exact h.elim
end Go.Proofs.YtkphfdmelfhnoaaGreatDoor
namespace Go.Proofs.YtkphfdmelfhnoaaGreatDoor
open Go.ChangeShapes Go.WideShapes Go.ChangeAt Go.RowKit Go.Shelf
attribute [local go_sem] Oper.semAt_some
def mixMax (f d : Nat → Int) (pre : List (Fin 64)) (n : Nat) : Int := if pre.any (fun x => decide (x.1 = n)) = true then max (f n) (d n) else f n
theorem mixMax_nil (f d : Nat → Int) : mixMax f d [] = f := by funext n; simp [mixMax]
theorem mixMax_snoc (f d : Nat → Int) (pre : List (Fin 64)) (x : Fin 64) : (fun k => if k = x.1 then max (mixMax f d pre x.1) (d x.1) else mixMax f d pre k) = mixMax f d (pre ++ [x]) := by
 funext k
 by_cases hk : k = x.1
 ·subst hk
  rw [if_pos rfl, mixMax, mixMax, List.any_append]
  simp only [List.any_cons, List.any_nil, Bool.or_false, decide_true, Bool.or_true, if_true]
  split <;> omega
 ·rw [if_neg hk, mixMax, mixMax, List.any_append]
  simp [show ¬ x.1 = k from fun e => hk e.symm]
theorem any_nodes {l : List Stamp} {ys : List (Fin 64)} (hys : ys.map (·.1) = nodesOf (maskOf l) 64) {n : Nat} (hn : n < 64) : ys.any (fun x => decide (x.1 = n)) = !decide (countOf l n = 0) := by
 rw [← maskOf_bit hn, Bool.eq_iff_iff]
 have : n ∈ ys.map (·.1) ↔ (maskOf l).testBit n = true := by rw [hys, mem_nodesOf]; exact ⟨fun h => h.2, fun h => ⟨hn, h⟩⟩
 rw [← this, List.any_eq_true, List.mem_map]
 exact ⟨fun ⟨x, h1, h2⟩ => ⟨x, h1, by simpa using h2⟩, fun ⟨x, h1, h2⟩ => ⟨x, h1, by simpa using h2⟩⟩
set_option maxRecDepth 100000 in
set_option maxHeartbeats 3200000 in
theorem vectorJoin (ls : List (List Stamp)) (v : Value) (w : World) (h : StampRows w w.heap.size v ls) (hT : TzTab w) :
  Calls Tryz.prog 153 #[v] w fun e w' => (∃ v', e = .returned v' ∧ OwnSl StampR 2 w' w.heap.size 49 v' (joinS ls)) ∧ Below w.heap.size w w' := by
 have hle := h.len_le
 have HH := Lib.hid h
 have hI : ∀ l ∈ ls, CountsI l := fun l hl => by
  obtain ⟨i, hi⟩ := List.mem_iff_getElem?.1 hl
  obtain ⟨_, _, _, vi, _, _, _, hs⟩ := rows_at h hi
  exact countsI_of hs
 have HI := Lib.hid hI
 have HT := Lib.hid hT
 have hTlt := hT.lt
 obtain ⟨A, c, rfl, -⟩ := id h
 clear h hI hT
 refine (callsIn_wide (n := 5)).1 ?_
 refine callsIn_of_wp_marks Tryz.func153 rfl trivial ?_ rfl
 simp only [Tryz.ntmps153, List.size_toArray, List.length_cons, List.length_nil, Nat.reduceAdd, Nat.reduceSub, Array.replicate_succ, Array.replicate_zero, List.push_toArray, List.append_toArray, List.nil_append, List.cons_append]
 gi_wp2
 rw [show Tryz.zeroCells229 = cnts (fun _ => 0) 0 by kernel_rfl]
 have hC0 : Blk (w.alloc (.cells (cnts (fun _ => 0) 0) 229)) w.heap.size 229 (cnts (fun _ => 0) 0) := Blk.new _ _ _
 have kb0 := balloc (o := .cells (cnts (fun _ => 0) 0) 229) (Below.refl _ w)
 have hs0 : (w.alloc (.cells (cnts (fun _ => 0) 0) 229)).heap.size = w.heap.size + 1 := by simp
 generalize w.alloc _ = W0 at *
 refine wpIn_loop (fun a W => ∃ (m : Nat) (Ds : List Nat) (M : Nat) (u5 u11 u12 u13 u14 u15 u34 : Value), m ≤ ls.length ∧ M < 18446744073709551616 ∧ (∀ n, n < 64 → M.testBit n = decide (0 < joinC (ls.take m) n)) ∧ Marks (w.heap.size + 1) Ds W ∧
   Blk W w.heap.size 229 (cnts (joinC (ls.take m)) M) ∧ Below w.heap.size w W ∧ w.heap.size + 1 ≤ W.heap.size ∧
   a = { tmps := #[.slice A ls.length c, undef, .slice none 0 0, .pointer (some ⟨w.heap.size, 0, none⟩), undef, u5, undef, undef, .slice A ls.length c, .int .i64 ls.length, .int .i64 m, u11, u12, u13, u14, u15, undef, undef, undef, undef, undef, undef, undef, undef, undef, undef, undef, undef, undef, undef, undef, undef, undef, undef, u34, undef], defers := marksOf Ds })
  (fun a _ => ls.length - (intOf (a.tmps.getD 10 undef)).toNat) ⟨0, [], 0, undef, undef, undef, undef, undef, undef, undef, Nat.zero_le _, by omega, fun n _ => by simp [joinC], Marks.nil _ _, hC0, kb0, by omega, rfl⟩ ?_
 clear hC0 kb0 hs0
 rintro a W ⟨m, Ds, M, u5, u11, u12, u13, u14, u15, u34, hm, hM, hbit, hmk, hC, hb, hsz, rfl⟩
 have Hbit := Lib.hid hbit
 have Hmk := Lib.hid hmk
 have HC := Lib.hid hC
 have Hb := Lib.hid hb
 clear hbit hmk hC
 by_cases hlt : m < ls.length
 ·obtain ⟨x, hx⟩ : ∃ x, ls[m]? = some x := ⟨ls[m], List.getElem?_eq_getElem hlt⟩
  obtain ⟨b, off, _, vi, hv', hbb, e0, hs⟩ := rows_at (HH.out.next hb) hx
  injection hv' with hv1 hv2 hv3
  subst hv1
  have HTk := Lib.hid (take_snoc hx)
  have HSS := Lib.hid hs
  obtain ⟨A1, c1, rfl, -⟩ := id hs
  have i1 : (m : Int) < (ls.length : Int) := by omega
  have i2 : (0 : Int) ≤ (m : Int) := by omega
  have HXI := Lib.hid (HI.out x (List.mem_of_getElem? hx))
  clear hv2 hv3 hs hx hb
  gi_wp2
  refine ⟨trivial, ?_⟩
  refine (callsIn_wide.2 (vectorAll x _ _ HSS.out (HT.out.next Hb.out))).mono ?_
  rintro e w2 ⟨Bn, D, rfl, hE, hBn, hD, hb2⟩
  have HE := Lib.hid hE
  have HM2 := Lib.hid (Hmk.out.next hb2)
  have HC2 := Lib.hid (HC.out.next hb2)
  have HB2 := Lib.hid (bnext Hb.out hb2)
  have hs2 := hb2.size
  have l1 := hE.box.lt
  have l2 := hE.cnt.lt
  have l3 := hE.tab.lt
  have hMx := maskOf_lt x
  clear hE hb2 e0
  gi_wp2
  generalize hf : joinC (ls.take m) = f at *
  have HF := Lib.hid hf
  clear hf
  have hMlt := HM2.out.lt
  refine wpIn_rangeFunc_ownF rfl (by omega) (gf := 248) (lb := #[.pointer (some ⟨Bn, 0, none⟩)]) rfl trivial (enters_of Tryz.func248 (by kernel_rfl) rfl)
   (each_stops _ (by omega) Bn D (fun n => countOf x n) (maskOf x) hMx w2 HE.out) (fun h k => KeepEach.t h k) (fun W l o o' hl _ _ _ => KeepEach.put l1 l2 l3 hl) (Below.refl _ _) (fun _ => rfl)
   (fun pre W' => ((∃ M', M' < 18446744073709551616 ∧ (∀ n, n < 64 → M'.testBit n = (M.testBit n || pre.any fun x => decide (x.1 = n))) ∧ Blk W' w.heap.size 229 (cnts (mixMax f (fun n => countOf x n) pre) M')) ∧ w2.heap.size ≤ W'.heap.size) ∧ (Marks (w.heap.size + 1) Ds W' ∧ Below w.heap.size w W'))
   (fun _ _ _ => False)
   (OwnFrom.and (Own.from (fun s A B row hs hg hr => by obtain ⟨⟨M', h1, h2, h3⟩, h4⟩ := hs; exact ⟨⟨M', h1, h2, h3.own hg hr⟩, Nat.le_trans h4 hg.size⟩) _) (OwnFrom.and (marks_own Ds hMlt) (ownFrom_below (Nat.le_refl _) (by omega))))
   (fun _ _ _ _ _ hs _ _ => hs)
   ⟨⟨⟨M, hM, fun n _ => by simp, by rw [mixMax_nil]; exact HC2.out⟩, Nat.le_refl _⟩, HM2.out, HB2.out⟩
   (fun y => { tmps := #[.slice (some ⟨b, off, none⟩) ls.length c, undef, .slice none 0 0, .pointer (some ⟨w.heap.size, 0, none⟩), undef, .slice A1 x.length c1, .int .i64 (y.1 : Nat), .int .i64 (countOf x (y.1 : Nat)), .slice (some ⟨b, off, none⟩) ls.length c, .int .i64 ls.length, .int .i64 m, .bool true, .pointer (some ⟨b, off + m, none⟩), .slice A1 x.length c1, .slice A1 x.length c1, eachFn Bn, .int .i64 (y.1 : Nat), .int .i64 (countOf x (y.1 : Nat)), undef, undef, undef, undef, undef, undef, undef, undef, undef, undef, undef, undef, undef, undef, undef, undef, u34, undef], defers := [] }) ?assign ?body ?done ?stop
  case assign =>
   intro r y W' K hK
   dsimp only [eachEnc]
   gi_wp2
   exact hK
  case body =>
   rintro r pre ⟨y, hy⟩ W' ⟨⟨⟨M', hM', hbit', hC'⟩, hsz'⟩, hmk', hb'⟩ _
   dsimp only
   have c0 := (hC'.cell y).trans (cnts_at hy)
   have c1' := (hC'.cell 64).trans cnts_has
   have z0 := hC'.frozen y
   have z1 := hC'.frozen 64
   have hwl := hC'.lt
   have hxi : (y : Int) < 64 := by omega
   have Hbit' := Lib.hid hbit'
   have HC' := Lib.hid hC'
   have Hmk' := Lib.hid hmk'
   have Hb' := Lib.hid hb'
   have HMX := Lib.hid (mixMax_snoc f (fun n => countOf x n) pre ⟨y, hy⟩)
   have hSB := Lib.hid (set_bit (n := y) hM' hy)
   clear hbit' hC' hmk' hb'
   generalize hp : mixMax f (fun n => countOf x n) pre y = p at c0
   have HP := Lib.hid hp
   generalize hq : countOf x y = q
   have HQ := Lib.hid hq
   clear hp hq
   gi_wp2
   all_goals
    have hk2 := (KeepsOthers.setCell W' ⟨w.heap.size, y, none⟩ (.int .i64 (max p q))).trans (KeepsOthers.setCell _ ⟨w.heap.size, 64, none⟩ (.int .u64 ((M' ||| 2 ^ y : Nat) : Int)))
    rename_i hcmp
    refine (show ∀ v, v = max p q → ownPostK _ _ _ _ _ _ _ ((W'.setCell ⟨w.heap.size, y, none⟩ (.int .i64 v)).setCell _ _) from ?_) _ (by omega)
    rintro v rfl
    rw [hSB.out]
    refine ⟨hk2, KeepEach.t (KeepEach.far (by simp only; omega) (by simp only; omega) (by simp only; omega)) (KeepEach.far (by simp only; omega) (by simp only; omega) (by simp only; omega)), ⟨⟨M' ||| 2 ^ y, or_bit_lt hM' hy, fun n hn => ?_, ?_⟩, by simpa using hsz'⟩, Hmk'.out.keeps hk2, bset (bset Hb'.out (Nat.le_refl _)) (Nat.le_refl _)⟩
    ·rw [or_bit, Hbit'.out n hn, List.any_append, Bool.or_assoc]
     simp
    ·have h1 := (HC'.out.set_ y (.int .i64 (max p q))).set_ 64 (.int .u64 ((M' ||| 2 ^ y : Nat) : Int))
     rw [cnts_set hy, cnts_set_has] at h1
     rw [← HMX.out, HP.out, HQ.out]
     exact h1
  case done =>
   rintro E ys W' hE hys ⟨⟨⟨M', hM', hbit', hC'⟩, hsz'⟩, hmk', hb'⟩ hK
   have hfun : ∀ n, n < 64 → mixMax f (fun n => countOf x n) ys n = joinC (ls.take (m + 1)) n := fun n hn => by
    rw [HTk.out, joinC_snoc, HF.out, mixMax, any_nodes hys hn]
    have h0 : 0 ≤ f n := by rw [← HF.out]; exact joinC_nonneg _ _
    by_cases hz : countOf x n = 0
    ·rw [hz]; simp; omega
    ·rw [if_pos (by simpa using hz)]
   have hC2 : Blk W' w.heap.size 229 (cnts (joinC (ls.take (m + 1))) M') := by
    rw [show cnts (joinC (ls.take (m + 1))) M' = cnts (mixMax f (fun n => countOf x n) ys) M' from rowOf_congr fun i _ => by
     split
     ·rename_i hi; rw [hfun i hi]
     ·rfl]
    exact hC'
   have hbits : ∀ n, n < 64 → M'.testBit n = decide (0 < joinC (ls.take (m + 1)) n) := fun n hn => by
    rw [hbit' n hn, Hbit.out n hn, any_nodes hys hn, HTk.out, joinC_snoc, HF.out]
    have h1 := countOf_nonneg x n
    rw [Bool.eq_iff_iff]
    simp only [Bool.or_eq_true, decide_eq_true_eq, Bool.not_eq_true', decide_eq_false_iff_not]
    omega
   have HC3 := Lib.hid hC2
   have HB3 := Lib.hid hbits
   have HM3 := Lib.hid (hmk'.more (D := E) (fun F hF => by have := hMlt F hF; omega) (by omega) hK)
   have Hb3 := Lib.hid hb'
   clear hC' hfun hC2 hbits hys hmk' hb' hK hbit'
   gi_wp2
   refine ⟨⟨m + 1, E :: Ds, M', _, _, _, _, _, _, _, by omega, hM', HB3.out, HM3.out, HC3.out, Hb3.out, by omega, rfl⟩, by simp [intOf]; omega⟩
  case stop =>
   rintro E d pre W hD _ h hK
   exact h.elim
 ·obtain rfl : m = ls.length := by omega
  have hC2 : Blk W w.heap.size 229 (cnts (joinC ls) M) := by have := HC.out; rwa [List.take_length] at this
  have HL := Lib.hid (vectorList w.heap.size (joinC ls) M W hC2 hM (fun n hn => by rw [Hbit.out n hn, List.take_length]) (joinC_i64 HI.out) (HT.out.next Hb.out))
  clear hC2 hb
  gi_wp2
  refine ⟨trivial, ?_⟩
  refine (callsIn_wide.2 HL.out).mono ?_
  rintro e w3 ⟨⟨v', rfl, hown⟩, hb3⟩
  have hmk3 := Hmk.out.next hb3
  obtain ⟨A6, c6, rfl⟩ := hown.form
  have hfin := Marks.own (B' := w.heap.size + 1) (s := ()) (I := fun (_ : Unit) W => OwnSl StampR 2 W w.heap.size 49 (.slice A6 (vecOf (joinC ls)).length c6) (vecOf (joinC ls)) ∧ Below w.heap.size w W)
   (OwnFrom.and (Own.from (fun _ _ _ _ hs hg hr => hs.abides hg hr) _) (ownFrom_below (Nat.le_refl _) (by omega))) (Nat.le_refl _) Ds w3 hmk3 ⟨hown.base (by omega), bnext Hb.out hb3⟩
  have HF := Lib.hid hfin
  have HMK := Lib.hid hmk3
  clear hown hfin hmk3 HL
  gi_wp2
  exact leaves_marks Ds w3 HMK.out ⟨.slice A6 (vecOf (joinC ls)).length c6, by simp [results, Tryz.f153, go_sem], ⟨_, rfl, HF.out.1⟩, HF.out.2⟩
theorem vectorWith (a : List Stamp) (s : Stamp) (v : Value) (w : World) (h : Stamps w w.heap.size v a) (i1 : I64 s.count) (i2 : I64 s.node) (hT : TzTab w) :
  Calls Tryz.prog 177 #[v, .agg #[.int .i64 s.count, .int .i64 s.node]] w fun e w' => (∃ v', e = .returned v' ∧ OwnSl StampR 2 w' w.heap.size 49 v' (joinS [a, [s]])) ∧ Below w.heap.size w w' := by
 obtain ⟨A, c, rfl, -⟩ := id h
 have HH := Lib.hid h
 have HT := Lib.hid hT
 clear h hT
 go_enter Tryz.func177, Tryz.ntmps177
 go_wp2_with fail
 have hrow : ∀ (W W2 : World) (g : Nat), Below w.heap.size w W → W2 = W.alloc (.cells #[.int .i64 s.count, .int .i64 s.node] 49) → g = W.heap.size →
   StampRows (W2.alloc (.cells #[.slice A a.length c, .slice (some ⟨g, 0, none⟩) 1 1] 22)) (W2.alloc (.cells #[.slice A a.length c, .slice (some ⟨g, 0, none⟩) 1 1] 22)).heap.size (.slice (some ⟨W2.heap.size, 0, none⟩) 2 2) [a, [s]] := by
  rintro W W2 g hb rfl rfl
  have h1 : Stamps _ _ (.slice (some ⟨W.heap.size, 0, none⟩) 1 1) [s] := one_sl (e := 49) (w := W) (cs := #[.int .i64 s.count, .int .i64 s.node]) (size := 2) (R := StampR) (y := s) ⟨rfl, i1, i2⟩ rfl
  have ha := balloc (o := .cells #[.slice A a.length c, .slice (some ⟨W.heap.size, 0, none⟩) 1 1] 22) (Below.refl _ (W.alloc (.cells #[.int .i64 s.count, .int .i64 s.node] 49)))
  exact (OwnSl.of_blk (R := StampsR _ _) (k := 1) (l := [a, [s]]) (Blk.new _ 22 _) ⟨[_], _, rfl, rfl, ⟨_, rfl, (HH.out.next (balloc hb)).next ha⟩, [_], [], rfl, rfl, ⟨_, rfl, h1.next ha⟩, rfl⟩ (by simp)).sl
 have kb := balloc (o := .cells #[.slice A a.length c, .slice (some ⟨w.heap.size + 1, 0, none⟩) 1 1] 22) (balloc (o := .cells #[.int .i64 s.count, .int .i64 s.node] 49) (balloc (o := .cells #[.int .i64 s.count, .int .i64 s.node] 49) (Below.refl _ w)))
 have h2 := hrow (w.alloc (.cells #[.int .i64 s.count, .int .i64 s.node] 49)) _ (w.heap.size + 1) (balloc (Below.refl _ w)) rfl (by simp)
 rw [show ((w.alloc (.cells #[.int .i64 s.count, .int .i64 s.node] 49)).alloc (.cells #[.int .i64 s.count, .int .i64 s.node] 49)).heap.size = w.heap.size + 1 + 1 by simp] at h2
 refine (vectorJoin [a, [s]] _ _ h2 (HT.out.next kb)).mono ?_
 rintro e w1 ⟨⟨v', rfl, hown⟩, hb1⟩
 have hs := kb.size
 obtain ⟨A6, c6, rfl⟩ := hown.form
 have HO := Lib.hid (hown.base hs)
 clear hown h2 hrow
 go_wp2_with fail
 go_ret
 exact ⟨⟨_, rfl, HO.out⟩, bnext kb hb1⟩
end Go.Proofs.YtkphfdmelfhnoaaGreatDoor
namespace Go.Proofs.YtkphfdmelfhnoaaGreatDoor
open Go.ChangeShapes Go.WideShapes Go.ChangeAt Go.RowKit
def anyB (ls : List (List Span)) (o : Nat) : Bool := ls.any fun l => memB l o
def orUpto (f d : Nat → Bool) (k n : Nat) : Bool := if n < k then (f n || d n) else f n
def andUpto (f d : Nat → Bool) (k n : Nat) : Bool := if n < k then (f n && d n) else f n
def stsI (ls : List (List Stamp)) : IV := .sl 1 (ls.map fun l => [stI l])
def spsI (ls : List (List Span)) : IV := .sl 1 (ls.map fun l => [spI l])
theorem iv_stampRows {E : Env} {V w : World} {v : Value} {ls : List (List Stamp)} (hV : Ext V w) (h : RepA E V v (.iv (stsI ls))) : StampRows w w.heap.size v ls := by
 cases h with
 | iv h =>
  refine (RepV.to_typed (R := StampsR w w.heap.size) (l := ls) (enc := fun l => [stI l]) h fun cs x _ hx => ?_).ext (fun _ _ h => h) hV
  match cs, hx with
  | [v], ⟨hx, _⟩ => exact ⟨v, rfl, hx.stamps.ext (fun _ _ h => h) hV⟩
theorem iv_spanRows {E : Env} {V w : World} {v : Value} {ls : List (List Span)} (hV : Ext V w) (h : RepA E V v (.iv (spsI ls))) : RowsSpan w w.heap.size v ls := by
 cases h with
 | iv h =>
  refine (RepV.to_typed (R := RowSpan w w.heap.size) (l := ls) (enc := fun l => [spI l]) h fun cs x _ hx => ?_).ext (fun _ _ h => h) hV
  match cs, hx with
  | [v], ⟨hx, _⟩ => exact ⟨v, rfl, hx.spans.ext (fun _ _ h => h) hV⟩
theorem agg_two {E : Env} {X : World} {v : Value} {a b : Value} (h : RepA E X v (.agg [.val a, .val b])) : v = .agg #[a, b] := by
 cases h with
 | @agg vs _ h1 h2 =>
  obtain ⟨l⟩ := vs
  match l, h1 with
  | [v0, v1], _ =>
   have a0 := h2 0 v0 _ rfl rfl
   have a1 := h2 1 v1 _ rfl rfl
   cases a0; cases a1; rfl
theorem vformed_call (l : List Stamp) : ACalls Tryz.prog TzTab 89 [.iv (stI l)] (.val (.bool (vecFormed l))) [] :=
 bridge_val Tryz.func89 rfl (by kernel_rfl) fun V w E vs hV hG hr => by
  obtain ⟨v0, rfl, h0⟩ := args1 hr
  exact vectorFormed l _ w (iv_stamps hV h0)
theorem vcovers_call (l : List Stamp) (m : List Stamp) : ACalls Tryz.prog TzTab 122 [.iv (stI l), .iv (stI m)] (.val (.bool (coversB l m))) [] :=
 bridge_val Tryz.func122 rfl (by kernel_rfl) fun V w E vs hV hG hr => by
  obtain ⟨v0, v1, rfl, h0, h1⟩ := args2 hr
  exact vectorCovers l m _ _ w (iv_stamps hV h0) (iv_stamps hV h1) hG
theorem vcount_call (l : List Stamp) (n : Int) : ACalls Tryz.prog TzTab 192 [.iv (stI l), .val (.int .i64 n)] (.val (.int .i64 (countOf l n))) [] :=
 bridge_val Tryz.func192 rfl (by kernel_rfl) fun V w E vs hV hG hr => by
  obtain ⟨v0, v1, rfl, h0, h1⟩ := args2 hr
  cases h1
  exact vectorCount l n _ w (iv_stamps hV h0)
theorem vhas_call (l : List Stamp) (s : Stamp) : ACalls Tryz.prog TzTab 125 [.iv (stI l), .agg [.val (.int .i64 s.count), .val (.int .i64 s.node)]] (.val (.bool (vecHas l s))) [] :=
 bridge_val Tryz.func125 rfl (by kernel_rfl) fun V w E vs hV hG hr => by
  obtain ⟨v0, v1, rfl, h0, h1⟩ := args2 hr
  obtain rfl := agg_two h1
  exact vectorHas l s _ w (iv_stamps hV h0)
theorem rvformed_call (l : List Stamp) : ACalls Tryz.prog TzTab 100 [.iv (stI l)] (.val (.bool (vecFormed l))) [] :=
 bridge_val Tryz.func100 rfl (by kernel_rfl) fun V w E vs hV hG hr => by
  obtain ⟨v0, rfl, h0⟩ := args1 hr
  exact refVectorFormed l _ w (iv_stamps hV h0)
theorem rvcovers_call (l : List Stamp) (m : List Stamp) : ACalls Tryz.prog TzTab 168 [.iv (stI l), .iv (stI m)] (.val (.bool (coversB l m))) [] :=
 bridge_val Tryz.func168 rfl (by kernel_rfl) fun V w E vs hV hG hr => by
  obtain ⟨v0, v1, rfl, h0, h1⟩ := args2 hr
  exact refCovers l m _ _ w (iv_stamps hV h0) (iv_stamps hV h1)
theorem rvsame_call (l : List Stamp) (m : List Stamp) : ACalls Tryz.prog TzTab 44 [.iv (stI l), .iv (stI m)] (.val (.bool (decide (l = m)))) [] :=
 bridge_val Tryz.func44 rfl (by kernel_rfl) fun V w E vs hV hG hr => by
  obtain ⟨v0, v1, rfl, h0, h1⟩ := args2 hr
  exact refVecSame l m _ _ w (iv_stamps hV h0) (iv_stamps hV h1)
theorem rvhas_call (l : List Stamp) (s : Stamp) : ACalls Tryz.prog TzTab 24 [.iv (stI l), .agg [.val (.int .i64 s.count), .val (.int .i64 s.node)]] (.val (.bool (vecHas l s))) [] :=
 bridge_val Tryz.func24 rfl (by kernel_rfl) fun V w E vs hV hG hr => by
  obtain ⟨v0, v1, rfl, h0, h1⟩ := args2 hr
  obtain rfl := agg_two h1
  exact refHas l s _ w (iv_stamps hV h0)
theorem shas_call (l : List Span) (o : Int) : ACalls Tryz.prog TzTab 107 [.iv (spI l), .val (.int .i64 o)] (.val (.bool (spanHas l o))) [] :=
 bridge_val Tryz.func107 rfl (by kernel_rfl) fun V w E vs hV hG hr => by
  obtain ⟨v0, v1, rfl, h0, h1⟩ := args2 hr
  cases h1
  exact spanHasWalk l o _ w (iv_spans hV h0)
theorem eqst_call (l : List Stamp) (m : List Stamp) : ACalls Tryz.prog TzTab 117 [.iv (stI l), .iv (stI m)] (.val (.bool (decide (l = m)))) [] :=
 bridge_val Tryz.func117 rfl (by kernel_rfl) fun V w E vs hV hG hr => by
  obtain ⟨v0, v1, rfl, h0, h1⟩ := args2 hr
  exact equalStamps l m _ _ w (iv_stamps hV h0) (iv_stamps hV h1)
theorem nformed_call (x : Note) : ACalls Tryz.prog TzTab 41 [noteA x] (.val (.bool (noteFormed x))) [] :=
 bridge_val Tryz.func41 rfl (by kernel_rfl) fun V w E vs hV hG hr => by
  obtain ⟨v0, rfl, h0⟩ := args1 hr
  obtain ⟨n0, n1, n2, n3, rfl, H0⟩ := rep_note hV h0
  exact noteFormedWalk x _ _ _ _ w H0 hG
theorem nfits_call (x : Note) (l : List Stamp) : ACalls Tryz.prog TzTab 152 [noteA x, .iv (stI l)] (.val (.bool (coversB l x.start))) [] :=
 bridge_val Tryz.func152 rfl (by kernel_rfl) fun V w E vs hV hG hr => by
  obtain ⟨v0, v1, rfl, h0, h1⟩ := args2 hr
  obtain ⟨n0, n1, n2, n3, rfl, H0⟩ := rep_note hV h0
  exact noteFits x l _ _ _ _ _ w H0 (iv_stamps hV h1) hG
theorem vjoin_call (ls : List (List Stamp)) : ACalls Tryz.prog TzTab 153 [.iv (stsI ls)] (.own 0) [.row 0 49 2 ((joinS ls).map enSt)] :=
 bridge_own (fun _ _ _ h => st_rep h) Tryz.func153 rfl (by kernel_rfl) fun V w E vs hV hG hr => by
  obtain ⟨v0, rfl, h0⟩ := args1 hr
  exact vectorJoin ls _ w (iv_stampRows hV h0) hG
theorem vwith_call (l : List Stamp) (s : Stamp) (i1 : I64 s.count) (i2 : I64 s.node) : ACalls Tryz.prog TzTab 177 [.iv (stI l), .agg [.val (.int .i64 s.count), .val (.int .i64 s.node)]] (.own 0) [.row 0 49 2 ((joinS [l, [s]]).map enSt)] :=
 bridge_own (fun _ _ _ h => st_rep h) Tryz.func177 rfl (by kernel_rfl) fun V w E vs hV hG hr => by
  obtain ⟨v0, v1, rfl, h0, h1⟩ := args2 hr
  obtain rfl := agg_two h1
  exact vectorWith l s _ w (iv_stamps hV h0) i1 i2 hG
theorem rvcopy_call (l : List Stamp) : ACalls Tryz.prog TzTab 57 [.iv (stI l)] (.own 0) [.row 0 49 2 ((l).map enSt)] :=
 bridge_own (fun _ _ _ h => st_rep h) Tryz.func57 rfl (by kernel_rfl) fun V w E vs hV hG hr => by
  obtain ⟨v0, rfl, h0⟩ := args1 hr
  exact refVecCopy l _ w (iv_stamps hV h0)
theorem clonest_call (l : List Stamp) : ACalls Tryz.prog TzTab 106 [.iv (stI l)] (.own 0) [.row 0 49 2 ((l).map enSt)] :=
 bridge_own (fun _ _ _ h => st_rep h) Tryz.func106 rfl (by kernel_rfl) fun V w E vs hV hG hr => by
  obtain ⟨v0, rfl, h0⟩ := args1 hr
  exact cloneStamps l _ w (iv_stamps hV h0)
attribute [local irreducible] rowOf
def setI (f : Nat → Bool) : List IV := (setRow f).toList.map IV.val
def c64I (c : Nat → Int) : List IV := (row64 c).toList.map IV.val
theorem reps_vals {X : World} : ∀ {vs l : List Value}, RepVs X vs (l.map IV.val) → vs = l
 | [], [], _ => rfl
 | v :: vs, u :: l, h => by
  have h1 := h.1
  cases h1
  rw [reps_vals (vs := vs) (l := l) h.2]
 | [], _ :: _, h => h.elim
 | _ :: _, [], h => h.elim
theorem aggI_vals {E : Env} {X : World} {v : Value} {l : List Value} (h : RepA E X v (.aggI (l.map IV.val))) : v = .agg l.toArray := by
 cases h with
 | @aggI vs _ h => rw [← reps_vals h]
theorem row_rep {X : World} {n : Nat} {f : Nat → Value} (h : ∀ i, i < n → okV (f i)) : RepVs X (rowOf n f).toList ((rowOf n f).toList.map IV.val) :=
 RepVs.of (by rw [List.length_map]) fun j v i h1 h2 => by
  rw [List.getElem?_map, h1] at h2
  obtain rfl := Option.some.inj h2
  rw [Array.getElem?_toList] at h1
  have hj := (Array.getElem?_eq_some_iff.1 h1).1
  rw [rowOf_size] at hj
  rw [rowOf_at hj] at h1
  obtain rfl := Option.some.inj h1
  exact .val (h j hj)
theorem set_rep {X : World} {f : Nat → Bool} : RepVs X (setRow f).toList (setI f) := row_rep fun _ _ => trivial
theorem set_agg {E : Env} {X : World} {v : Value} {f : Nat → Bool} (h : RepA E X v (.aggI (setI f))) : v = .agg (setRow f) := by
 have := aggI_vals h
 rwa [Array.toArray_toList] at this
attribute [local irreducible] setI c64I setRow row64
theorem rset_call (l : List Span) : ACalls Tryz.prog TzTab 59 [.iv (spI l)] (.aggI (setI fun o => memB l o)) [] :=
 bridge Tryz.func59 rfl (by kernel_rfl) fun V w E vs hV hG hr => by
  obtain ⟨v, rfl, hv⟩ := args1 hr
  exact (refSet l v w (iv_spans hV hv)).mono fun e w1 h => ⟨_, h.1, h.2, .aggI set_rep⟩
theorem rsof_call (f : Nat → Bool) : ACalls Tryz.prog TzTab 188 [.aggI (setI f)] (.own 0) [.row 0 78 2 ((ofSet f).map enSp)] :=
 bridge_own (fun _ _ _ h => sp_rep h) Tryz.func188 rfl (by kernel_rfl) fun V w E vs hV hG hr => by
  obtain ⟨v0, rfl, h0⟩ := args1 hr
  obtain rfl := set_agg h0
  exact refOf f w
theorem clonew_call (l : List Write) : ACalls Tryz.prog TzTab 71 [.iv (wrI l)] (.own 0) [.row 0 55 4 (l.map enW)] :=
 bridge_own (fun _ _ _ h => w_rep h) Tryz.func71 rfl (by kernel_rfl) fun V w E vs hV hG hr => by
  obtain ⟨v0, rfl, h0⟩ := args1 hr
  exact cloneWrites l _ w (iv_writes hV h0)
end Go.Proofs.YtkphfdmelfhnoaaGreatDoor
