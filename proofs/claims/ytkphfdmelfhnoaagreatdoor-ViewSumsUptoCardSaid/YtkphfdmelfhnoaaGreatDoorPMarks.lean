/- Contracts of slices.Clone, one for each element type. -/
import Derived.Test.YtkphfdmelfhnoaaGreatDoorPOwn
import Derived.Test.YtkphfdmelfhnoaaGreatDoorPArr
import Derived.Orders
import Derived.RangeFuncNested
import Derived.RangeFuncBound
import Derived.RangeFuncCalls
import Derived.RangeFuncLeaves
import Derived.Test.YtkphfdmelfhnoaaGreatDoorPMsg
set_option linter.all false
set_option linter.unnecessarySimpa false
set_option linter.unusedSimpArgs false
set_option linter.unusedVariables false
namespace Go.Proofs.YtkphfdmelfhnoaaGreatDoor
open Go.ChangeShapes Go.WideShapes Go.ChangeAt Go.RowKit
structure Ext (w w' : World) : Prop where
 size : w.heap.size ≤ w'.heap.size
 cell : ∀ p u, w.cell? p = some u → w'.cell? p = some u
theorem Ext.refl (w : World) : Ext w w := ⟨Nat.le_refl _, fun _ _ h => h⟩
theorem Ext.trans {a b c : World} (h : Ext a b) (k : Ext b c) : Ext a c := ⟨Nat.le_trans h.size k.size, fun p u hp => k.cell p u (h.cell p u hp)⟩
theorem Ext.of_below {w w' : World} (h : Below w.heap.size w w') : Ext w w' := ⟨h.size, fun _ _ hp => kept_cell h hp⟩
section
variable {α : Type} {R R' : List Value → α → Prop} {k : Nat} {w w' : World} {v : Value} {l : List α}
theorem Sl.ext (h : Sl R k w w.heap.size v l) (hR : ∀ cs x, R cs x → R' cs x) (he : Ext w w') : Sl R' k w' w'.heap.size v l := by
 obtain ⟨A, c, hv, h1, h2, h3⟩ := h
 refine ⟨A, c, hv, h1, h2, fun hne => ?_⟩
 obtain ⟨b, off, hA, hb, h4⟩ := h3 hne
 refine ⟨b, off, hA, Nat.lt_of_lt_of_le hb he.size, fun i x hx => ?_⟩
 obtain ⟨cs, h5, h6, h7⟩ := h4 i x hx
 exact ⟨cs, hR _ _ h5, h6, fun j u hu => he.cell _ _ (h7 j u hu)⟩
end
def minus (w : World) (g : Nat) : World := { w with heap := w.heap.setIfInBounds g (.cells #[] 0) }
def minusO (w : World) (v : Value) : World := match v.ownBlock with
 | none => w
 | some g => minus w g
def mixW (V w0 w : World) : World := { w with heap := Array.ofFn (n := w.heap.size) fun i => if i.val < w0.heap.size then (V.heap[i.val]?).getD (.cells #[] 0) else w.heap[i.val] }
theorem mix_size (V w0 w : World) : (mixW V w0 w).heap.size = w.heap.size := by simp [mixW]
theorem mix_old {V w0 w : World} {p : Addr} (h : p.block < w0.heap.size) (h' : p.block < w.heap.size) : (mixW V w0 w).cell? p = V.cell? p := by
 unfold World.cell? mixW
 simp only [Array.getElem?_ofFn, dif_pos h', if_pos h]
 cases V.heap[p.block]? with
 | none => simp
 | some o => rfl
theorem mix_new {V w0 w : World} {p : Addr} (h : w0.heap.size ≤ p.block) : (mixW V w0 w).cell? p = w.cell? p := by
 unfold World.cell? mixW
 by_cases h' : p.block < w.heap.size
 ·simp only [Array.getElem?_ofFn, dif_pos h', if_neg (Nat.not_lt.2 h)]
  rw [Array.getElem?_eq_getElem h']
 ·rw [Array.getElem?_eq_none (by simpa using h'), Array.getElem?_eq_none (by simpa using h')]
def ExtR {α : Type} (R : World → List Value → α → Prop) : Prop := ∀ w w' cs x, Ext w w' → R w cs x → R w' cs x
def OwnN {α : Type} (R : World → List Value → α → Prop) (k : Nat) (V w0 w : World) (base : Nat) (e : TypeId) (v : Value) (l : List α) : Prop := OwnSl (R (minusO (mixW V w0 w) v)) k w base e v l
section
variable {α : Type} {R : World → List Value → α → Prop} {k : Nat} {V w0 w w' : World} {base : Nat} {e : TypeId} {v : Value} {l : List α}
end
section
variable {P : Program}
theorem info_of {e : TypeId} {size bytes : Nat} (h : (P.info? e).map (fun i => (i.zero.map (·.cells.size), i.size, i.bytes)) = some (some size, size, bytes)) :
  ∃ i z, P.info? e = some i ∧ i.zero = some z ∧ z.cells.size = size ∧ i.size = size ∧ i.bytes = bytes := by
 obtain ⟨i, hi, hzz⟩ := Option.map_eq_some_iff.1 h
 simp only [Prod.mk.injEq] at hzz
 obtain ⟨z, hz, hc⟩ := Option.map_eq_some_iff.1 hzz.1
 exact ⟨i, z, hi, hz, hc, hzz.2.1, hzz.2.2⟩
end
section
variable {P : Program}
def onward (K : Act → World → Prop) (Q : Exit → Act → World → Prop) : Exit → Act → World → Prop
 | .normal => K
 | e => Q e
def cntTo (f : Nat → Bool) : Nat → Nat
 | 0 => 0
 | n + 1 => cntTo f n + if f n then 1 else 0
theorem cntTo_le {f g : Nat → Bool} (h : ∀ i, f i = true → g i = true) : ∀ n, cntTo f n ≤ cntTo g n
 | 0 => Nat.le_refl _
 | n + 1 => by
  have := cntTo_le h n
  unfold cntTo
  by_cases hf : f n = true
  ·rw [if_pos hf, if_pos (h n hf)]; omega
  ·rw [if_neg hf]; split <;> omega
theorem cntTo_lt {f g : Nat → Bool} (h : ∀ i, f i = true → g i = true) {k : Nat} (h1 : f k = false) (h2 : g k = true) : ∀ n, k < n → cntTo f n < cntTo g n
 | 0, hk => by omega
 | n + 1, hk => by
  unfold cntTo
  by_cases e : k = n
  ·subst e
   have := cntTo_le h k
   rw [h1, h2]
   simp
   omega
  ·have := cntTo_lt h h1 h2 n (by omega)
   by_cases hf : f n = true
   ·rw [if_pos hf, if_pos (h n hf)]; omega
   ·rw [if_neg hf]; split <;> omega
theorem cntTo_zero {f : Nat → Bool} : ∀ {n : Nat}, cntTo f n = 0 → ∀ i, i < n → f i = false
 | 0, _, _, hi => by omega
 | n + 1, h, i, hi => by
  unfold cntTo at h
  by_cases e : i = n
  ·subst e
   cases hf : f i with
   | false => rfl
   | true => rw [hf] at h; simp at h
  ·exact cntTo_zero (n := n) (by omega) i (by omega)
theorem cntTo_pos {f : Nat → Bool} : ∀ {n : Nat}, (∃ i, i < n ∧ f i = true) → ∃ i, i < n ∧ f i = true ∧ ∀ j, j < i → f j = false
 | 0, ⟨i, hi, _⟩ => by omega
 | n + 1, ⟨i, hi, hf⟩ => by
  by_cases h : ∃ j, j < n ∧ f j = true
  ·obtain ⟨k, h1, h2, h3⟩ := cntTo_pos (n := n) h
   exact ⟨k, by omega, h2, h3⟩
  ·have : i = n := by
    rcases Nat.lt_or_ge i n with c | c
    ·exact absurd ⟨i, c, hf⟩ h
    ·omega
   subst this
   refine ⟨i, by omega, hf, fun j hj => ?_⟩
   cases hfj : f j with
   | false => rfl
   | true => exact absurd ⟨j, hj, hfj⟩ h
def lexAfter (ops : Array Oper) : Bool := (List.range ops.size).all fun i => ((ops[i]?).map fun o => o.after.all fun e => !Region.binds .any e || decide (e.on < i)).getD false
end
def SeqReads {α : Type} (F : Fence) (n : Nat) (P : Program) (g : Nat) (lb : Array Value) (encs : α → Array Value) (Rd : α → World → Prop) (Kp : World → World → Prop) (S Sp : List α → Prop) (N : Nat) (w : World) : Prop :=
 ∀ (l : Nat) (J Jx : List α → World → Prop) (W : World), Below w.heap.size w W → AbidesFrom W.heap.size J → AbidesFrom W.heap.size Jx →
  (∀ pre x W1, J pre W1 → Rd x W1 → pre.length < N → YieldAt F (n - 1) P l (encs x) W1 fun e W' =>
   (e = .returned (.bool true) ∧ J (pre ++ [x]) W' ∧ Kp W1 W') ∨ (e = .returned (.bool false) ∧ Jx (pre ++ [x]) W')) →
  J [] W →
  CallsIn F n P g (#[.func (.yield l) #[] #[]] ++ lb) W fun e W' => (∃ v, e = .returned v) ∧ ((∃ xs, S xs ∧ J xs W') ∨ (∃ pre, Sp pre ∧ Jx pre W'))
structure RecAt (l K : Nat) (mk : LoopState → Option Code → Loop) (st : LoopState) (pe : Option Code) (W : World) : Prop where
 rec_ : W.heap[l]? = some (.loop (mk st pe))
 dfr : W.heap[K]? = some (.deferred (some []))
variable {F : Fence} {n : Nat} {P : Program}
end Go.Proofs.YtkphfdmelfhnoaaGreatDoor
namespace Go.Proofs.YtkphfdmelfhnoaaGreatDoor
open Go.ChangeShapes Go.WideShapes Go.ChangeAt Go.RowKit
structure Marks (B : Nat) (Ds : List Nat) (W : World) : Prop where
 nodup : Ds.Nodup
 at_ : ∀ D ∈ Ds, B ≤ D ∧ W.heap[D]? = some (.deferred (some []))
def marksOf (Ds : List Nat) : List Deferred := Ds.map fun D => { target := .collected D, args := #[] }
def shut : List Nat → World → World
 | [], W => W
 | D :: Ds, W => shut Ds (W.putObj D (.deferred none))
theorem Marks.nil (B : Nat) (W : World) : Marks B [] W := ⟨List.nodup_nil, fun _ h => by cases h⟩
theorem Marks.tail {B : Nat} {D : Nat} {Ds : List Nat} {W : World} (h : Marks B (D :: Ds) W) : Marks B Ds (W.putObj D (.deferred none)) :=
 ⟨(List.nodup_cons.1 h.nodup).2, fun E hE => ⟨(h.at_ E (List.mem_cons_of_mem _ hE)).1, (World.putObj_heap_other (fun e => (List.nodup_cons.1 h.nodup).1 (by rw [← e]; exact hE))).trans (h.at_ E (List.mem_cons_of_mem _ hE)).2⟩⟩
theorem Marks.more {B D : Nat} {Ds : List Nat} {W : World} (h : Marks B Ds W) (hlt : ∀ E ∈ Ds, E < D) (hB : B ≤ D) (hD : W.heap[D]? = some (.deferred (some []))) : Marks B (D :: Ds) W :=
 ⟨List.nodup_cons.2 ⟨fun hm => by have := hlt D hm; omega, h.nodup⟩, fun E hE => by
  rcases List.mem_cons.1 hE with rfl | hE
  ·exact ⟨hB, hD⟩
  ·exact h.at_ E hE⟩
theorem Marks.lt {B : Nat} {Ds : List Nat} {W : World} (h : Marks B Ds W) : ∀ E ∈ Ds, E < W.heap.size := fun E hE => (Array.getElem?_eq_some_iff.1 (h.at_ E hE).2).1
theorem marks_own {B B' : Nat} {β : Type} (Ds : List Nat) (hlt : ∀ E ∈ Ds, E < B') : OwnFrom B' (fun (_ : β) W => Marks B Ds W) := fun _ X Y row hs hg hr =>
 ⟨hs.nodup, fun D hD => ⟨(hs.at_ D hD).1, by
  have h := (hs.at_ D hD).2
  refine (hg.block D (Array.getElem?_eq_some_iff.1 h).1 fun e => ?_).trans h
  have := (hr D e.symm).1
  have := hlt D hD
  omega⟩⟩
theorem Marks.next {B : Nat} {Ds : List Nat} {W W' : World} (h : Marks B Ds W) (hb : Below W.heap.size W W') : Marks B Ds W' := ⟨h.nodup, fun D hD => ⟨(h.at_ D hD).1, (hb.block D (h.lt D hD)).trans (h.at_ D hD).2⟩⟩
theorem Marks.keeps {B : Nat} {Ds : List Nat} {W W' : World} (h : Marks B Ds W) (hk : KeepsOthers W W') : Marks B Ds W' := ⟨h.nodup, fun D hD => ⟨(h.at_ D hD).1, hk.same D _ (h.at_ D hD).2 rfl⟩⟩
theorem Marks.own {B B' : Nat} {β : Type} {I : β → World → Prop} (hI : OwnFrom B' I) (hB : B' ≤ B) {s : β} : ∀ (Ds : List Nat) (W : World), Marks B Ds W → I s W → I s (shut Ds W) := by
 intro Ds
 induction Ds with
 | nil => exact fun _ _ h => h
 | cons D Ds ih =>
  intro W h hs
  exact ih _ h.tail (hI.putObj _ hs (by have := (h.at_ D (List.mem_cons_self ..)).1; omega) (h.at_ D (List.mem_cons_self ..)).2 rfl)
theorem leaves_marks {F : Fence} {n : Nat} {P : Program} {fn : Func} {tmps : Array Value} {R : Ending → World → Prop} {B : Nat} : ∀ (Ds : List Nat) (W : World), Marks B Ds W →
  (∃ v, (results fn tmps).run P (shut Ds W) = .ok v (shut Ds W) ∧ R (.returned v) (shut Ds W)) → LeavesInM F n P fn tmps R (marksOf Ds) .returning W := by
 intro Ds
 induction Ds with
 | nil => exact fun _ _ h => h
 | cons D Ds ih => exact fun W hm h => ⟨by simp, .inl ⟨D, _, rfl, run_takeDeferred (hm.at_ D (List.mem_cons_self ..)).2, ih _ hm.tail h⟩⟩
theorem oneStampR : ∀ cs x, StampR cs x → ∀ u ∈ cs, u.oneCell' = true := by
 rintro cs x ⟨rfl, _⟩ u hu; simp at hu; rcases hu with rfl | rfl <;> rfl
theorem oneWriteR : ∀ cs x, WriteR cs x → ∀ u ∈ cs, u.oneCell' = true := by
 rintro cs x ⟨rfl, _⟩ u hu; simp at hu; rcases hu with rfl | rfl | rfl | rfl <;> rfl
theorem ownEmptyRow {α : Type} {R : List Value → α → Prop} {k : Nat} (w : World) (e : TypeId) : OwnSl R k (w.alloc (.cells #[] e)) w.heap.size e (.slice (some ⟨w.heap.size, 0, none⟩) 0 0) [] :=
 ⟨[], ⟨by simp, .inr ⟨_, 0, #[], rfl, Nat.le_refl _, heap_alloc_new w _, Nat.le_refl _, Nat.zero_le _, by simp, by simp⟩⟩, rfl, Nat.zero_le _⟩
theorem infoWriteRow : (Tryz.prog.info? 55).map (fun i => (i.zero.map (·.cells.size), i.size, i.bytes)) = some (some 4, 4, 32) := by kernel_rfl
theorem cloneWrites (l : List Write) (v : Value) (w : World) (h : Writes w w.heap.size v l) :
  Calls Tryz.prog 71 #[v] w fun e w' => (∃ v', e = .returned v' ∧ OwnSl WriteR 4 w' w.heap.size 55 v' l) ∧ Below w.heap.size w w' := by
 have hle := h.len_le
 obtain ⟨i0, z0, hi, hz0, hzs, hz1, hz2⟩ := info_of infoWriteRow
 obtain ⟨A, c, rfl, -, -, hne⟩ := id h
 have he := fun (w : World) (a : Option Addr) (n c : Nat) => Lib.run_eql_slice_nil (P := Tryz.prog) w 24 55 a n c 0 0 Tryz.underlying24
 cases A with
 | none =>
  obtain rfl : l = [] := by
   rcases l with _ | ⟨y, l⟩
   ·rfl
   ·obtain ⟨b, off, h1, _⟩ := hne (by simp)
    cases h1
  clear hne h
  go_enter Tryz.func71, Tryz.ntmps71
  go_wp2_with fail
  go_ret
  exact ⟨⟨_, rfl, OwnSl.nil_ _ _ _⟩, Below.refl _ _⟩
 | some A =>
  have HH := Lib.hid h
  clear hne h
  go_enter Tryz.func71, Tryz.ntmps71
  go_wp2_with (at_builtin; refine wpList_append_sl _ (oneWriteR) rfl (.tmp 5) (.tmp 6) 24 rfl w.heap.size 55 i0 _ 32 Tryz.underlying24 hi hz0 hz1 hz2 hzs (by omega) _ [] rfl (ownEmptyRow (R := WriteR) (k := 4) w 55) w.heap.size _ l rfl (HH.out.keep (fun _ _ h => h) (Nat.le_refl _) (fun p hp => World.cell?_alloc_lt _ _ _ hp)) (by simp only [List.length_nil]; omega) (by omega) (by simp) ?_; intro v1 w1 hown hgr hat)
  simp only [List.nil_append] at hown
  have hb1 : Below w.heap.size w w1 := (balloc (Below.refl _ _)).grown hgr (by simp) (fun k hk => Nat.le_of_eq (Option.some.inj hk))
  have H1 := Lib.hid hown
  clear hown hgr hat hi hz0 hz1 hz2 hzs
  go_wp2_with fail
  go_ret
  exact ⟨⟨_, rfl, H1.out⟩, hb1⟩
theorem infoStampRow : (Tryz.prog.info? 49).map (fun i => (i.zero.map (·.cells.size), i.size, i.bytes)) = some (some 2, 2, 16) := by kernel_rfl
theorem cloneStamps (l : List Stamp) (v : Value) (w : World) (h : Stamps w w.heap.size v l) :
  Calls Tryz.prog 106 #[v] w fun e w' => (∃ v', e = .returned v' ∧ OwnSl StampR 2 w' w.heap.size 49 v' l) ∧ Below w.heap.size w w' := by
 have hle := h.len_le
 obtain ⟨i0, z0, hi, hz0, hzs, hz1, hz2⟩ := info_of infoStampRow
 obtain ⟨A, c, rfl, -, -, hne⟩ := id h
 have he := fun (w : World) (a : Option Addr) (n c : Nat) => Lib.run_eql_slice_nil (P := Tryz.prog) w 22 49 a n c 0 0 Tryz.underlying22
 cases A with
 | none =>
  obtain rfl : l = [] := by
   rcases l with _ | ⟨y, l⟩
   ·rfl
   ·obtain ⟨b, off, h1, _⟩ := hne (by simp)
    cases h1
  clear hne h
  go_enter Tryz.func106, Tryz.ntmps106
  go_wp2_with fail
  go_ret
  exact ⟨⟨_, rfl, OwnSl.nil_ _ _ _⟩, Below.refl _ _⟩
 | some A =>
  have HH := Lib.hid h
  clear hne h
  go_enter Tryz.func106, Tryz.ntmps106
  go_wp2_with (at_builtin; refine wpList_append_sl _ (oneStampR) rfl (.tmp 5) (.tmp 6) 22 rfl w.heap.size 49 i0 _ 16 Tryz.underlying22 hi hz0 hz1 hz2 hzs (by omega) _ [] rfl (ownEmptyRow (R := StampR) (k := 2) w 49) w.heap.size _ l rfl (HH.out.keep (fun _ _ h => h) (Nat.le_refl _) (fun p hp => World.cell?_alloc_lt _ _ _ hp)) (by simp only [List.length_nil]; omega) (by omega) (by simp) ?_; intro v1 w1 hown hgr hat)
  simp only [List.nil_append] at hown
  have hb1 : Below w.heap.size w w1 := (balloc (Below.refl _ _)).grown hgr (by simp) (fun k hk => Nat.le_of_eq (Option.some.inj hk))
  have H1 := Lib.hid hown
  clear hown hgr hat hi hz0 hz1 hz2 hzs
  go_wp2_with fail
  go_ret
  exact ⟨⟨_, rfl, H1.out⟩, hb1⟩
end Go.Proofs.YtkphfdmelfhnoaaGreatDoor
