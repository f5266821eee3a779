/- Contracts of the elder kind, told over abstract states: vectors, spans, notes. -/
import Derived.Test.YtaiekfeiaamemaaGreatDoorPAbsIter
import Derived.Test.YtaiekfeiaamemaaGreatDoorPEnc
import Derived.Test.YtaiekfeiaamemaaGreatDoorPIter
import Derived.Test.YtaiekfeiaamemaaGreatDoorPNote
import Derived.Test.YtaiekfeiaamemaaGreatDoorPCovers
import Derived.Test.YtaiekfeiaamemaaGreatDoorPVecRef
import Derived.Test.YtaiekfeiaamemaaGreatDoorPMarks
import Derived.Test.YtaiekfeiaamemaaGreatDoorPSpanSet
import Derived.Test.YtaiekfeiaamemaaGreatDoorPConcatSpan
import Derived.Test.YtaiekfeiaamemaaGreatDoorPTidyLaw
import Derived.Test.YtaiekfeiaamemaaGreatDoorPCounts
import Derived.Test.YtaiekfeiaamemaaGreatDoorPNoteSmall
import Derived.Test.YtaiekfeiaamemaaGreatDoorPNoteWalk
import Derived.Test.YtaiekfeiaamemaaGreatDoorPClone
set_option linter.all false
set_option linter.unnecessarySimpa false
set_option linter.unusedSimpArgs false
set_option linter.unusedVariables false
/- A vector's nodes and counts, one by one: contracts over abstract states. -/
namespace Go.Proofs.YtaiekfeiaamemaaGreatDoor
open Go.ChangeShapes Go.WideShapes Go.ChangeAt Go.RowKit
attribute [local irreducible] AW AWY vops vopsY vop vopL vdraw callW qop binQ lenQ storeQ appendQ callQ ACalls AIter

def cntI (f : Nat → Int) (M : Nat) : List IV := (cnts f M).toList.map IV.val
theorem cntI_at {f : Nat → Int} {M n : Nat} (h : n < 64) : (cntI f M)[n]? = some (.val (.int .i64 (f n))) := by rw [cntI, List.getElem?_map, Array.getElem?_toList, cnts_at h]; rfl
theorem cntI_has {f : Nat → Int} {M : Nat} : (cntI f M)[64]? = some (.val (.int .u64 M)) := by rw [cntI, List.getElem?_map, Array.getElem?_toList, cnts_has]; rfl
theorem TzTab.later {w w' : World} (h : TzTab w) (hb : Below w.heap.size w w') : TzTab w' := h.next hb
def enE (f : Nat → Int) (x : Fin 64) : List AV := [.val (.int .i64 (x.1 : Nat)), .val (.int .i64 (f x.1))]
theorem each_call (cs : List IV) : ACalls Tryz.prog TzTab 242 [.ip cs] (.fn 255 [.ip [.pt cs]]) [] := by
  have h : ACalls Tryz.prog TzTab 242 [.ip cs] (.fn 255 [.bp 0 0]) [.box 0 [.ip cs]] := by
    refine ACalls.of (n := 4) (rs := [.tmp 2]) Tryz.func242 rfl (by kernel_rfl) Tryz.ntmps242 (by kernel_rfl) (by simp) (fun _ _ => TzTab.later) ?_
    intro hok V w0
    refine g ?_
    refine g ?_
    repeat' (first | refine st_ rfl (g ?_) | refine hold_ (g ?_) | exact trivial | refine cond_ (fun h => g ?_) (fun h => g ?_) | (refine hKD _ _ ⟨rfl, g ?_⟩; clear hKD KD))
    exact ⟨.inl trivial, fun _ => 200, rfl, by simp [go_sem], by simp⟩
  exact h.frz ⟨trivial, trivial⟩
attribute [local irreducible] cnts rowOf
theorem cnt_rep {X : World} {f : Nat → Int} {M : Nat} (hf : ∀ n, n < 64 → I64 (f n)) (hM : M < 18446744073709551616) : RepVs X (cnts f M).toList (cntI f M) :=
  RepVs.of (by unfold cntI; rw [List.length_map]) fun j v i h1 h2 => by
    rw [cntI, List.getElem?_map, h1] at h2
    obtain rfl := Option.some.inj h2
    rw [Array.getElem?_toList] at h1
    have hj := (Array.getElem?_eq_some_iff.1 h1).1
    rw [cnts_size] at hj
    by_cases h64 : j < 64
    · rw [cnts_at h64] at h1
      obtain rfl := Option.some.inj h1
      exact .val (hf j h64)
    · obtain rfl : j = 64 := by omega
      rw [cnts_has] at h1
      obtain rfl := Option.some.inj h1
      refine .val ?_
      show (Lit.int .u64 (M : Int)).wf = true
      simp [Lit.wf, IntKind.max, IntKind.min, IntKind.signed, IntKind.bits]
      omega
theorem read_call (l : List Stamp) : ACalls Tryz.prog TzTab 210 [.iv (stI l)] (.aggI (cntI (fun n => countOf l n) (maskOf l))) [] := by
  refine bridge Tryz.func210 rfl (by kernel_rfl) fun V w E vs hV hG hr => ?_
  obtain ⟨v, rfl, hv⟩ := args1 hr
  have hs := iv_stamps hV hv
  exact (vectorRead l v w hs).mono fun e w1 h => ⟨_, h.1, h.2, .aggI (cnt_rep (countsI_of hs) (maskOf_lt l))⟩
attribute [local irreducible] cntI stI
theorem tz_call {R : Nat} (hR : R < 18446744073709551616) : ACalls Tryz.prog TzTab 256 [.val (.int .u64 R)] (.val (.int .i64 (Lib.ctz 64 R))) [] :=
  bridge_val Tryz.func256 rfl (by kernel_rfl) fun V w E vs hV hG hr => by
    obtain ⟨v, rfl, hv⟩ := args1 hr
    cases hv
    exact (trailing R hR w hG).mono fun _ w' h => ⟨h.1, h.2 ▸ Below.refl _ _⟩
structure EachS (M : Nat) where
  k : Nat
  R : Nat
  pre : List (Fin 64)
  hk : k ≤ 64
  hR : R < 18446744073709551616
  hbit : ∀ i, i < 64 → R.testBit i = (M.testBit i && decide (k ≤ i))
  hpre : pre.map (·.1) = nodesOf M k
theorem each_iter (f : Nat → Int) (M : Nat) (hM : M < 18446744073709551616) : AIter Tryz.prog TzTab 255 [.ip [.pt (cntI f M)]] (enE f) (fun ys => ys.map (·.1) = nodesOf M 64) (fun pre => pre.map (·.1) <+: nodesOf M 64) := by
  refine AIter.of (n := 27) Tryz.func255 rfl (by kernel_rfl) Tryz.ntmps255 (by kernel_rfl) (by simp) (fun _ _ => TzTab.later) ?_
  intro hok Y
  have h64 := cntI_has (f := f) (M := M)
  have hat := fun n (h : n < 64) => cntI_at (f := f) (M := M) h
  generalize cntI f M = C at h64 hat ⊢
  refine g ?_
  refine g ?_
  repeat' (first | refine stY_ rfl (g ?_) | refine hold_ (g ?_) | exact trivial | refine cond_ (fun h => g ?_) (fun h => g ?_))
  refine rdI_drop h64 ?_
  refine g ?_
  repeat' (first | refine stY_ rfl (g ?_) | refine hold_ (g ?_) | exact trivial | refine cond_ (fun h => g ?_) (fun h => g ?_))
  refine AWY.loop (fun s : EachS M => (.going s.pre, ⟨[(0, .val (.func (.yield Y.l) #[] #[])), (1, .ip [.pt C]), (3, .val (.int .u64 s.R))], []⟩)) (fun s => s.R) ⟨0, M, [], by omega, hM, fun i _ => by simp, rfl⟩ id ⟨rfl, by simp [LeS, go_sem]⟩ fun ⟨k, R, pre, hk, hR, hbit, hpre⟩ => ?_
  refine g ?_
  repeat' (first | refine stY_ rfl (g ?_) | refine hold_ (g ?_) | exact trivial | refine cond_ (fun h => g ?_) (fun h => g ?_))
  · have hz : R ≠ 0 := by rintro rfl; simp at h
    obtain ⟨hx, hxb, hxl⟩ := low_bit hz hR
    have hdl := drop_low hz hR
    refine call_ (tz_call hR) rfl ?_
    generalize Lib.ctz 64 R = x at *
    refine g ?_
    repeat' (first | refine stY_ rfl (g ?_) | refine hold_ (g ?_) | exact trivial | refine cond_ (fun h => g ?_) (fun h => g ?_))
    refine ⟨by omega, by omega, ?_⟩
    rw [Nat.mul_one]
    refine g ?_
    repeat' (first | refine stY_ rfl (g ?_) | refine hold_ (g ?_) | exact trivial | refine cond_ (fun h => g ?_) (fun h => g ?_))
    refine rdI_drop (hat x hx) ?_
    refine g ?_
    repeat' (first | refine stY_ rfl (g ?_) | refine hold_ (g ?_) | exact trivial | refine cond_ (fun h => g ?_) (fun h => g ?_))
    have hp1 : (pre ++ [(⟨x, hx⟩ : Fin 64)]).map (·.1) = nodesOf M (x + 1) := by
      rw [List.map_append, hpre]
      show nodesOf M k ++ [x] = _
      have hb := hbit x hx
      rw [hxb] at hb
      simp only [Bool.true_eq, Bool.and_eq_true, decide_eq_true_eq] at hb
      rw [nodesOf_succ, hb.1, if_pos rfl, nodesOf_same hb.2 fun i h1 h2 => by
        have := hbit i (by omega)
        rw [hxl i h2, decide_eq_true h1, Bool.and_true] at this
        exact this.symm]
    refine vopsY_y (x := (⟨x, hx⟩ : Fin 64)) ?_ ?_ ?_ ?_
    · rfl
    · exact Sbs.rfl_ _
    · rw [hp1]; exact nodesOf_prefix (by omega)
    simp only [go_sem]
    refine ⟨?_, ?_⟩
    · refine g ?_
      repeat' (first | refine stY_ rfl (g ?_) | refine hold_ (g ?_) | exact trivial | refine cond_ (fun h => g ?_) (fun h => g ?_))
      have e1 : bits .and .u64 (R : Int) ((R : Int) - 1) = ((R &&& (R - 1) : Nat) : Int) := by
        rw [show (R : Int) - 1 = ((R - 1 : Nat) : Int) by omega]
        exact u64_and_nat _ _ hR (by omega)
      refine ⟨(R : Int) - 1, by rw [IntKind.wrap_u64]; omega, ?_⟩
      refine g ?_
      repeat' (first | refine stY_ rfl (g ?_) | refine hold_ (g ?_) | exact trivial | refine cond_ (fun h => g ?_) (fun h => g ?_))
      refine ⟨.int .u64 ((R &&& (R - 1) : Nat) : Int), fun w => by go_simp, ?_⟩
      refine g ?_
      repeat' (first | refine stY_ rfl (g ?_) | refine hold_ (g ?_) | exact trivial | refine cond_ (fun h => g ?_) (fun h => g ?_))
      have hlt : R &&& (R - 1) < R := Nat.lt_of_le_of_lt Nat.and_le_right (by omega)
      refine ⟨⟨x + 1, R &&& (R - 1), pre ++ [⟨x, hx⟩], by omega, by omega, fun i hi => ?_, hp1⟩, id, rfl, by simp [LeS, go_sem], hlt⟩
      rw [hdl]
      rcases Nat.lt_or_ge i x with c | c
      · rw [hxl i c, decide_eq_false (p := x + 1 ≤ i) (by omega)]
        simp
      · have hkx : k ≤ x := by
          have := hbit x hx
          rw [hxb] at this
          simp only [Bool.true_eq, Bool.and_eq_true, decide_eq_true_eq] at this
          exact this.2
        rw [hbit i hi, decide_eq_true (p := k ≤ i) (by omega), Bool.and_true]
        congr 1
        by_cases hix : i = x
        · subst hix; simp
        · rw [decide_eq_false (p := i = x) hix, decide_eq_true (p := x + 1 ≤ i) (by omega)]
          rfl
    · refine g ?_
      repeat' (first | refine stY_ rfl (g ?_) | refine hold_ (g ?_) | exact trivial | refine cond_ (fun h => g ?_) (fun h => g ?_))
      exact .inl trivial
  · have hz : R = 0 := by simp at h; omega
    subst hz
    refine ⟨.inr trivial, ?_⟩
    rw [hpre]
    exact (nodesOf_same hk fun i h1 h2 => by
      have := hbit i h2
      rw [Nat.zero_testBit, decide_eq_true h1, Bool.and_true] at this
      exact this.symm).symm
end Go.Proofs.YtaiekfeiaamemaaGreatDoor
/- Contract of the reference's test whether a note is formed. -/
namespace Go.Proofs.YtaiekfeiaamemaaGreatDoor
open Go.ChangeShapes Go.WideShapes Go.ChangeAt Go.RowKit

end Go.Proofs.YtaiekfeiaamemaaGreatDoor
/- Contracts of the program's counts as a vector, and of its join. -/
namespace Go.Proofs.YtaiekfeiaamemaaGreatDoor
open Go.ChangeShapes Go.WideShapes Go.ChangeAt Go.RowKit Go.Shelf
attribute [local go_sem] Oper.semAt_some

/-- a row of one's own is cells -/
theorem OwnSl.cells {α : Type} {R : List Value → α → Prop} {k : Nat} {w : World} {base : Nat} {e : TypeId} {v : Value} {l : List α} (h : OwnSl R k w base e v l) {g : Nat} (hg : v.ownBlock = some g) : ∃ cs t f, w.heap[g]? = some (.cells cs t f) := by
  obtain ⟨xs, hown, _⟩ := h
  rcases hown.2 with ⟨rfl, _⟩ | ⟨g', cap, cur, rfl, _, hb, _⟩
  · cases hg
  · obtain rfl : g' = g := Option.some.inj hg
    exact ⟨_, _, _, hb⟩
theorem OwnSl.abides {α : Type} {R : List Value → α → Prop} {k : Nat} {A B : World} {base : Nat} {e : TypeId} {v : Value} {l : List α} {row : Option Nat} (h : OwnSl R k A base e v l) (hg : A.grownBy B row) (hr : ∀ r, row = some r → ∃ o : Obj, A.heap[r]? = some o ∧ o.isCells = false) : OwnSl R k B base e v l := by
  refine h.kept hg ?_
  cases hv : v.ownBlock with
  | none => exact .inl rfl
  | some g =>
    refine .inr fun e' => ?_
    obtain ⟨cs, t, f, hc⟩ := h.cells hv
    obtain ⟨o, ho, hoc⟩ := hr g e'.symm
    rw [hc] at ho
    injection ho with ho
    subst ho
    cases hoc
theorem KeepEach.grown {Bn C : Nat} {A B : World} {row : Option Nat} (hg : A.grownBy B row) (h1 : Bn < A.heap.size) (h2 : C < A.heap.size) (h3 : 0 < A.heap.size) (hne : ∀ r, row = some r → r ≠ Bn ∧ r ≠ C ∧ r ≠ 0) : KeepEach Bn C A B := by
  rintro g (rfl | rfl | rfl)
  · exact hg.block _ h1 fun e => (hne _ e.symm).1 rfl
  · exact hg.block _ h2 fun e => (hne _ e.symm).2.1 rfl
  · exact hg.block _ h3 fun e => (hne _ e.symm).2.2 rfl

theorem vecUpto_nodes (f : Nat → Int) (M : Nat) : ∀ k, (∀ n, n < k → M.testBit n = decide (0 < f n)) → vecUpto f k = (nodesOf M k).map fun n => ⟨f n, n⟩
  | 0, _ => rfl
  | k + 1, h => by
    rw [vecUpto, nodesOf_succ, h k (by omega), vecUpto_nodes f M k fun n hn => h n (by omega)]
    by_cases h0 : 0 < f k
    · rw [if_pos h0, if_pos (by simpa using h0), List.map_append]; rfl
    · rw [if_neg h0, if_neg (by simpa using h0)]
def stampsOf (f : Nat → Int) (pre : List (Fin 64)) : List Stamp := pre.map fun x => ⟨f x.1, (x.1 : Nat)⟩
theorem stampsOf_snoc (f : Nat → Int) (pre : List (Fin 64)) (x : Fin 64) : stampsOf f (pre ++ [x]) = stampsOf f pre ++ [⟨f x.1, (x.1 : Nat)⟩] := by simp [stampsOf]

end Go.Proofs.YtaiekfeiaamemaaGreatDoor
/- Contract of the program's join of vectors. -/
namespace Go.Proofs.YtaiekfeiaamemaaGreatDoor
open Go.ChangeShapes Go.WideShapes Go.ChangeAt Go.RowKit Go.Shelf
attribute [local go_sem] Oper.semAt_some

end Go.Proofs.YtaiekfeiaamemaaGreatDoor
/- Contracts of the reference's sets: joined, met. -/
namespace Go.Proofs.YtaiekfeiaamemaaGreatDoor
open Go.ChangeShapes Go.WideShapes Go.ChangeAt Go.RowKit

def andUpto (f d : Nat → Bool) (k n : Nat) : Bool := if n < k then (f n && d n) else f n
theorem andUpto_zero (f d : Nat → Bool) : andUpto f d 0 = f := by funext n; simp [andUpto]
theorem setRow_and (f d : Nat → Bool) (k : Nat) (v : Bool) (hv : v = (f k && d k)) : (setRow (andUpto f d k)).setIfInBounds k (.bool v) = setRow (andUpto f d (k + 1)) := by
  rw [setRow_set]
  refine setRow_congr fun i _ => ?_
  by_cases hi : i = k
  · subst hi; rw [if_pos rfl, hv]; simp [andUpto]
  · rw [if_neg hi]
    have e : (i < k + 1) = (i < k) := by simp; omega
    simp [andUpto, e]

set_option maxRecDepth 100000 in
set_option maxHeartbeats 1600000 in
theorem refSpanMeet (a b : List Span) (v u : Value) (w : World) (h : Spans w w.heap.size v a) (h' : Spans w w.heap.size u b) :
    Calls Tryz.prog 164 #[v, u] w fun e w' => (∃ v', e = .returned v' ∧ OwnSl SpanR 2 w' w.heap.size 46 v' (ofSet fun o => memB a o && memB b o)) ∧ Below w.heap.size w w' := by
  have HH' := Lib.hid h'
  have HH := Lib.hid h
  obtain ⟨A, c, rfl, -⟩ := id h
  obtain ⟨A', c', rfl, -⟩ := id h'
  have hz := zeroSet
  clear h h'
  go_enter Tryz.func164, Tryz.ntmps164
  go_wp2_with fail
  refine (refSet a _ _ HH.out).mono ?_
  rintro e w1 ⟨rfl, hb1⟩
  have H2 := Lib.hid (HH'.out.next hb1)
  clear HH
  go_wp2_with fail
  refine (refSet b _ _ H2.out).mono ?_
  rintro e w2 ⟨rfl, hb2⟩
  have hb := bnext hb1 hb2
  have hbs := hb.size
  clear H2 HH' hb1 hb2
  go_wp2_with (first
    | (with_reducible refine wpList_store_row rfl 183 (.tmp 5) (.tmp 9) rfl w2.heap.size _ rfl rfl 183 _ (Blk.new w2 183 _).alloc.raw (infoSet _) ((setRow_size _).trans (setRow_size _).symm) (setRow_one _) ?_)
    | (with_reducible refine wpList_store_row rfl 183 (.tmp 6) (.tmp 11) rfl (w2.heap.size + 1) _ rfl rfl 183 _ ((Blk.new_at (by simp)).farRow (by simp)).raw (infoSet _) ((setRow_size _).trans (setRow_size _).symm) (setRow_one _) ?_))
  refine wp_two_rows hb ?_
  intro W hB5 hB6 hbw
  have hW := hB5.lt
  have HD := Lib.hid hB6
  have hWs := hbw.size
  clear hz hB6
  generalize hf : (fun o : Nat => memB a o) = f at *
  generalize hd : (fun o : Nat => memB b o) = d at *
  have HF := Lib.hid hf
  have HDD := Lib.hid hd
  clear hf hd
  generalize w2.heap.size = g at *
  go_loopw [7] (fun j wr => ∃ n : Nat, n ≤ 256 ∧ j = .int .i64 n ∧ Below w.heap.size w wr ∧ Blk wr g 183 (setRow (andUpto f d n)) ∧ Blk wr (g + 1) 183 (setRow d)) (fun j _ => 256 - (intOf j).toNat)
  case atStart => exact ⟨0, by omega, rfl, hbw, by rw [andUpto_zero]; exact hB5, HD.out⟩
  case round =>
    obtain ⟨n, hn, rfl, hb3, hB3, hD3⟩ := hrel
    by_cases hn64 : n < 256
    · have c0 := (hB3.cell n).trans (rowOf_at hn64)
      have d0 := (hD3.cell n).trans (rowOf_at hn64)
      have z0 := hB3.frozen n
      have hq : andUpto f d n n = f n := by simp [andUpto]
      rw [hq] at c0
      have HMX := Lib.hid (fun (v : Bool) (hv : v = (f n && d n)) => (setRow_and f d n v hv) ▸ hB3.set_ n (.bool v))
      have HD4 := Lib.hid (fun v : Value => hD3.far (p := ⟨g, n, none⟩) (by simp) v)
      have HB4 := Lib.hid (fun v : Value => bset (u := v) hb3 (p := ⟨g, n, none⟩) hbs)
      have i1 : (n : Int) < 256 := by omega
      clear hq hB3 hD3 hb3
      generalize hp : f n = p at *
      generalize hq2 : d n = q at *
      clear hp hq2
      cases p
      · go_wp2_with fail
        exact ⟨⟨n + 1, by omega, by go_num, HB4.out _, HMX.out false (by simp), HD4.out _⟩, by simp [intOf]; omega⟩
      · go_wp2_with fail
        exact ⟨⟨n + 1, by omega, by go_num, HB4.out _, HMX.out q (by simp), HD4.out _⟩, by simp [intOf]; omega⟩
    · obtain rfl : n = 256 := by omega
      have hB4 : Blk wr g 183 (setRow fun o => memB a o && memB b o) := by
        rw [show (setRow fun o => memB a o && memB b o) = setRow (andUpto f d 256) from setRow_congr fun i hi => by rw [andUpto, if_pos hi, ← HF.out, ← HDD.out]]
        exact hB3
      have HC := Lib.hid (fun z => refOf (fun o => memB a o && memB b o) z)
      have HB := Lib.hid hB4
      have hbs3 := hb3.size
      clear hB3 hB4 hD3
      go_wp2_with (with_reducible refine wpList_load_row rfl 183 (.tmp 5) rfl g rfl 183 _ (0, 0) _ HB.out.raw Tryz.underlying183 rfl (infoSet _) ?_)
      refine (HC.out _).mono ?_
      rintro e w3 ⟨⟨v', rfl, hown⟩, hb4⟩
      have HO := Lib.hid hown
      clear hown
      go_wp2_with fail
      go_ret
      exact ⟨⟨v', rfl, HO.out.base hbs3⟩, bnext hb3 hb4⟩
end Go.Proofs.YtaiekfeiaamemaaGreatDoor
namespace Go.Proofs.YtaiekfeiaamemaaGreatDoor
open Go.ChangeShapes Go.WideShapes Go.ChangeAt Go.RowKit

def stsI (ls : List (List Stamp)) : IV := .sl 1 (ls.map fun l => [stI l])
def spsI (ls : List (List Span)) : IV := .sl 1 (ls.map fun l => [spI l])
theorem iv_spanRows {E : Env} {V w : World} {v : Value} {ls : List (List Span)} (hV : Ext V w) (h : RepA E V v (.iv (spsI ls))) : RowsSpan w w.heap.size v ls := by
  cases h with
  | iv h =>
    refine (RepV.to_typed (R := RowSpan w w.heap.size) (l := ls) (enc := fun l => [spI l]) h fun cs x _ hx => ?_).ext (fun _ _ h => h) hV
    match cs, hx with
    | [v], ⟨hx, _⟩ => exact ⟨v, rfl, hx.spans.ext (fun _ _ h => h) hV⟩
theorem agg_two {E : Env} {X : World} {v : Value} {a b : Value} (h : RepA E X v (.agg [.val a, .val b])) : v = .agg #[a, b] := by
  cases h with
  | @agg vs _ h1 h2 =>
    obtain ⟨l⟩ := vs
    match l, h1 with
    | [v0, v1], _ =>
      have a0 := h2 0 v0 _ rfl rfl
      have a1 := h2 1 v1 _ rfl rfl
      cases a0; cases a1; rfl
theorem vformed_call (l : List Stamp) : ACalls Tryz.prog TzTab 108 [.iv (stI l)] (.val (.bool (vecFormed l))) [] :=
  bridge_val Tryz.func108 rfl (by kernel_rfl) fun V w E vs hV hG hr => by
    obtain ⟨v0, rfl, h0⟩ := args1 hr
    exact vectorFormed l _ w (iv_stamps hV h0)
theorem vcovers_call (l : List Stamp) (m : List Stamp) : ACalls Tryz.prog TzTab 145 [.iv (stI l), .iv (stI m)] (.val (.bool (coversB l m))) [] :=
  bridge_val Tryz.func145 rfl (by kernel_rfl) fun V w E vs hV hG hr => by
    obtain ⟨v0, v1, rfl, h0, h1⟩ := args2 hr
    exact vectorCovers l m _ _ w (iv_stamps hV h0) (iv_stamps hV h1) hG
theorem vhas_call (l : List Stamp) (s : Stamp) : ACalls Tryz.prog TzTab 148 [.iv (stI l), .agg [.val (.int .i64 s.count), .val (.int .i64 s.node)]] (.val (.bool (vecHas l s))) [] :=
  bridge_val Tryz.func148 rfl (by kernel_rfl) fun V w E vs hV hG hr => by
    obtain ⟨v0, v1, rfl, h0, h1⟩ := args2 hr
    obtain rfl := agg_two h1
    exact vectorHas l s _ w (iv_stamps hV h0)
theorem rvformed_call (l : List Stamp) : ACalls Tryz.prog TzTab 128 [.iv (stI l)] (.val (.bool (vecFormed l))) [] :=
  bridge_val Tryz.func128 rfl (by kernel_rfl) fun V w E vs hV hG hr => by
    obtain ⟨v0, rfl, h0⟩ := args1 hr
    exact refVectorFormed l _ w (iv_stamps hV h0)
theorem rvcovers_call (l : List Stamp) (m : List Stamp) : ACalls Tryz.prog TzTab 186 [.iv (stI l), .iv (stI m)] (.val (.bool (coversB l m))) [] :=
  bridge_val Tryz.func186 rfl (by kernel_rfl) fun V w E vs hV hG hr => by
    obtain ⟨v0, v1, rfl, h0, h1⟩ := args2 hr
    exact refCovers l m _ _ w (iv_stamps hV h0) (iv_stamps hV h1)
theorem rvsame_call (l : List Stamp) (m : List Stamp) : ACalls Tryz.prog TzTab 51 [.iv (stI l), .iv (stI m)] (.val (.bool (decide (l = m)))) [] :=
  bridge_val Tryz.func51 rfl (by kernel_rfl) fun V w E vs hV hG hr => by
    obtain ⟨v0, v1, rfl, h0, h1⟩ := args2 hr
    exact refVecSame l m _ _ w (iv_stamps hV h0) (iv_stamps hV h1)
theorem rvhas_call (l : List Stamp) (s : Stamp) : ACalls Tryz.prog TzTab 40 [.iv (stI l), .agg [.val (.int .i64 s.count), .val (.int .i64 s.node)]] (.val (.bool (vecHas l s))) [] :=
  bridge_val Tryz.func40 rfl (by kernel_rfl) fun V w E vs hV hG hr => by
    obtain ⟨v0, v1, rfl, h0, h1⟩ := args2 hr
    obtain rfl := agg_two h1
    exact refHas l s _ w (iv_stamps hV h0)
theorem rssame_call (l : List Span) (m : List Span) : ACalls Tryz.prog TzTab 81 [.iv (spI l), .iv (spI m)] (.val (.bool (decide (l = m)))) [] :=
  bridge_val Tryz.func81 rfl (by kernel_rfl) fun V w E vs hV hG hr => by
    obtain ⟨v0, v1, rfl, h0, h1⟩ := args2 hr
    exact refSpanSame l m _ _ w (iv_spans hV h0) (iv_spans hV h1)
theorem eqst_call (l : List Stamp) (m : List Stamp) : ACalls Tryz.prog TzTab 141 [.iv (stI l), .iv (stI m)] (.val (.bool (decide (l = m)))) [] :=
  bridge_val Tryz.func141 rfl (by kernel_rfl) fun V w E vs hV hG hr => by
    obtain ⟨v0, v1, rfl, h0, h1⟩ := args2 hr
    exact equalStamps l m _ _ w (iv_stamps hV h0) (iv_stamps hV h1)
theorem rvcopy_call (l : List Stamp) : ACalls Tryz.prog TzTab 86 [.iv (stI l)] (.own 0) [.row 0 63 2 ((l).map enSt)] :=
  bridge_own (fun _ _ _ h => st_rep h) Tryz.func86 rfl (by kernel_rfl) fun V w E vs hV hG hr => by
    obtain ⟨v0, rfl, h0⟩ := args1 hr
    exact refVecCopy l _ w (iv_stamps hV h0)
theorem clonest_call (l : List Stamp) : ACalls Tryz.prog TzTab 117 [.iv (stI l)] (.own 0) [.row 0 63 2 ((l).map enSt)] :=
  bridge_own (fun _ _ _ h => st_rep h) Tryz.func117 rfl (by kernel_rfl) fun V w E vs hV hG hr => by
    obtain ⟨v0, rfl, h0⟩ := args1 hr
    exact cloneStamps l _ w (iv_stamps hV h0)
theorem clonesp_call (l : List Span) : ACalls Tryz.prog TzTab 75 [.iv (spI l)] (.own 0) [.row 0 46 2 ((l).map enSp)] :=
  bridge_own (fun _ _ _ h => sp_rep h) Tryz.func75 rfl (by kernel_rfl) fun V w E vs hV hG hr => by
    obtain ⟨v0, rfl, h0⟩ := args1 hr
    exact cloneSpans l _ w (iv_spans hV h0)
theorem rsmeet_call (l : List Span) (m : List Span) : ACalls Tryz.prog TzTab 164 [.iv (spI l), .iv (spI m)] (.own 0) [.row 0 46 2 ((ofSet fun o => memB l o && memB m o).map enSp)] :=
  bridge_own (fun _ _ _ h => sp_rep h) Tryz.func164 rfl (by kernel_rfl) fun V w E vs hV hG hr => by
    obtain ⟨v0, v1, rfl, h0, h1⟩ := args2 hr
    exact refSpanMeet l m _ _ w (iv_spans hV h0) (iv_spans hV h1)
theorem rscopy_call (l : List Span) : ACalls Tryz.prog TzTab 69 [.iv (spI l)] (.own 0) [.row 0 46 2 ((l).map enSp)] :=
  bridge_own (fun _ _ _ h => sp_rep h) Tryz.func69 rfl (by kernel_rfl) fun V w E vs hV hG hr => by
    obtain ⟨v0, rfl, h0⟩ := args1 hr
    exact refSpanCopy l _ w (iv_spans hV h0)
attribute [local irreducible] rowOf
def setI (f : Nat → Bool) : List IV := (setRow f).toList.map IV.val
def c64I (c : Nat → Int) : List IV := (row64 c).toList.map IV.val
theorem reps_vals {X : World} : ∀ {vs l : List Value}, RepVs X vs (l.map IV.val) → vs = l
  | [], [], _ => rfl
  | v :: vs, u :: l, h => by
    have h1 := h.1
    cases h1
    rw [reps_vals (vs := vs) (l := l) h.2]
  | [], _ :: _, h => h.elim
  | _ :: _, [], h => h.elim
theorem aggI_vals {E : Env} {X : World} {v : Value} {l : List Value} (h : RepA E X v (.aggI (l.map IV.val))) : v = .agg l.toArray := by
  cases h with
  | @aggI vs _ h => rw [← reps_vals h]
theorem row_rep {X : World} {n : Nat} {f : Nat → Value} (h : ∀ i, i < n → okV (f i)) : RepVs X (rowOf n f).toList ((rowOf n f).toList.map IV.val) :=
  RepVs.of (by rw [List.length_map]) fun j v i h1 h2 => by
    rw [List.getElem?_map, h1] at h2
    obtain rfl := Option.some.inj h2
    rw [Array.getElem?_toList] at h1
    have hj := (Array.getElem?_eq_some_iff.1 h1).1
    rw [rowOf_size] at hj
    rw [rowOf_at hj] at h1
    obtain rfl := Option.some.inj h1
    exact .val (h j hj)
theorem set_rep {X : World} {f : Nat → Bool} : RepVs X (setRow f).toList (setI f) := row_rep fun _ _ => trivial
theorem c64_rep {X : World} {c : Nat → Int} (hc : ∀ n, n < 64 → I64 (c n)) : RepVs X (row64 c).toList (c64I c) := row_rep fun i hi => hc i hi
theorem set_agg {E : Env} {X : World} {v : Value} {f : Nat → Bool} (h : RepA E X v (.aggI (setI f))) : v = .agg (setRow f) := by
  have := aggI_vals h
  rwa [Array.toArray_toList] at this
theorem c64_agg {E : Env} {X : World} {v : Value} {c : Nat → Int} (h : RepA E X v (.aggI (c64I c))) : v = .agg (row64 c) := by
  have := aggI_vals h
  rwa [Array.toArray_toList] at this
attribute [local irreducible] setI c64I setRow row64
theorem rset_call (l : List Span) : ACalls Tryz.prog TzTab 133 [.iv (spI l)] (.aggI (setI fun o => memB l o)) [] :=
  bridge Tryz.func133 rfl (by kernel_rfl) fun V w E vs hV hG hr => by
    obtain ⟨v, rfl, hv⟩ := args1 hr
    exact (refSet l v w (iv_spans hV hv)).mono fun e w1 h => ⟨_, h.1, h.2, .aggI set_rep⟩
theorem rsof_call (f : Nat → Bool) : ACalls Tryz.prog TzTab 165 [.aggI (setI f)] (.own 0) [.row 0 46 2 ((ofSet f).map enSp)] :=
  bridge_own (fun _ _ _ h => sp_rep h) Tryz.func165 rfl (by kernel_rfl) fun V w E vs hV hG hr => by
    obtain ⟨v0, rfl, h0⟩ := args1 hr
    obtain rfl := set_agg h0
    exact refOf f w
theorem rvof_call (c : Nat → Int) (hc : ∀ n, n < 64 → I64 (c n)) : ACalls Tryz.prog TzTab 212 [.aggI (c64I c)] (.own 0) [.row 0 63 2 ((vecOf c).map enSt)] :=
  bridge_own (fun _ _ _ h => st_rep h) Tryz.func212 rfl (by kernel_rfl) fun V w E vs hV hG hr => by
    obtain ⟨v0, rfl, h0⟩ := args1 hr
    obtain rfl := c64_agg h0
    exact refVecOf c hc w
theorem rcounts_call (l : List Stamp) : ACalls Tryz.prog TzTab 200 [.iv (stI l)] (.aggI (c64I fun n => countOf l n)) [] :=
  bridge Tryz.func200 rfl (by kernel_rfl) fun V w E vs hV hG hr => by
    obtain ⟨v, rfl, hv⟩ := args1 hr
    have hs := iv_stamps hV hv
    exact (refCounts l v w hs).mono fun e w1 h => ⟨_, h.1, h.2, .aggI (c64_rep (countsI_of hs))⟩
end Go.Proofs.YtaiekfeiaamemaaGreatDoor
