/- Operations that turn a block of one's own: stores, appends. No program is known here. -/
import Derived.Test.YtdbeoigbkkdpdaaGreatDoorPAbsSnd4
set_option linter.all false
set_option linter.unnecessarySimpa false
set_option linter.unusedSimpArgs false
set_option linter.unusedVariables false
/- The formula of an operation is enough: slices that are built; all kinds together. No program is known here. -/
namespace Go.Proofs.YtdbeoigbkkdpdaaGreatDoor
open Go.ChangeShapes Go.WideShapes Go.ChangeAt Go.RowKit

def setR (cells : Array Value) (off : Nat) : List Value → Array Value
  | [] => cells
  | v :: vs => setR (cells.setIfInBounds off v) (off + 1) vs
theorem setR_size (off : Nat) : ∀ (vs : List Value) (cells : Array Value), (setR cells off vs).size = cells.size := by
  intro vs
  induction vs generalizing off with
  | nil => exact fun _ => rfl
  | cons v vs ih => intro cells; simp [setR, ih]
theorem setR_get (i : Nat) : ∀ (vs : List Value) (off : Nat) (cells : Array Value), (setR cells off vs)[i]? = if off ≤ i ∧ i < off + vs.length ∧ i < cells.size then vs[i - off]? else cells[i]? := by
  intro vs
  induction vs with
  | nil => intro off cells; simp [setR]; omega
  | cons v vs ih =>
    intro off cells
    simp only [setR, ih, Array.size_setIfInBounds, Array.getElem?_setIfInBounds, List.length_cons]
    by_cases h1 : off = i
    · subst h1
      by_cases h2 : off < cells.size
      · rw [if_neg (by omega), if_pos (by omega)]; simp [h2]
      · rw [if_neg (by omega)]; simp [h2]
    · by_cases h2 : off ≤ i ∧ i < off + (vs.length + 1) ∧ i < cells.size
      · rw [if_pos (by omega), if_pos h2, show i - off = (i - (off + 1)) + 1 by omega, List.getElem?_cons_succ]
      · rw [if_neg (by omega), if_neg h2, if_neg h1]
theorem fold_setR (off : Nat) : ∀ (l : List Value) (j : Nat) (cells : Array Value), (l.zipIdx j).foldl (fun cs (x : Value × Nat) => cs.setIfInBounds (off + x.2) x.1) cells = setR cells (off + j) l := by
  intro l
  induction l with
  | nil => exact fun _ _ => rfl
  | cons v l ih => intro j cells; simp only [List.zipIdx_cons, List.foldl_cons, ih, setR]; rfl
theorem fill_step {place : Nat → Option (Nat × Nat)} {cells : Array Value} {i off size : Nat} {v : Value} {rest : List (Nat × Value)} (h : place i = some (off, size)) (h1 : v.cells.size = size) (h2 : off + size ≤ cells.size) :
    Instr.fill place cells ((i, v) :: rest) = Instr.fill place (setR cells off v.cells.toList) rest := by
  have e : v.cells.zipIdx.foldl (fun cs (x : Value × Nat) => cs.setIfInBounds (off + x.2) x.1) cells = setR cells off v.cells.toList := by
    rw [← Array.foldl_toList, Array.toList_zipIdx]
    exact fold_setR off _ 0 cells
  conv => lhs; unfold Instr.fill
  simp only [h]
  rw [if_neg (by simp only [Bool.or_eq_true, decide_eq_true_eq]; omega)]
  exact congrArg (fun c => Instr.fill place c rest) e
/-- all elements given, one after the other -/
theorem fill_all (k : Nat) : ∀ (xs : List Value) (s : Nat) (cells : Array Value), (∀ v ∈ xs, v.cells.size = k) → cells.size = (s + xs.length) * k →
    ∃ out : Array Value, Instr.fill (fun i => some (i * k, k)) cells (xs.zipIdx s |>.map fun x => (x.2, x.1)) = some out ∧ out.size = cells.size ∧
      (∀ j, j < s * k → out[j]? = cells[j]?) ∧ ∀ (i : Nat) v, xs[i]? = some v → ∀ j u, v.cells[j]? = some u → out[(s + i) * k + j]? = some u := by
  intro xs
  induction xs with
  | nil => exact fun s cells _ _ => ⟨cells, rfl, rfl, fun _ _ => rfl, fun i v h => by simp at h⟩
  | cons v xs ih =>
    intro s cells hk hs
    have hvk := hk v (by simp)
    have hsz : s * k + k ≤ cells.size := by
      rw [hs, List.length_cons, Nat.add_mul]
      have : k ≤ (xs.length + 1) * k := by rw [Nat.add_mul]; omega
      omega
    simp only [List.zipIdx_cons, List.map_cons]
    rw [fill_step (off := s * k) (size := k) rfl hvk hsz]
    obtain ⟨out, o1, o2, o3, o4⟩ := ih (s + 1) (setR cells (s * k) v.cells.toList) (fun u hu => hk u (List.mem_cons_of_mem _ hu)) (by rw [setR_size, hs, List.length_cons]; congr 1; omega)
    refine ⟨out, o1, by rw [o2, setR_size], fun j hj => ?_, fun i u hu j c hc => ?_⟩
    · rw [o3 j (by rw [Nat.add_mul]; omega), setR_get, if_neg (by omega)]
    · cases i with
      | zero =>
        simp at hu
        subst hu
        have hj : j < k := by rw [← hvk]; exact (Array.getElem?_eq_some_iff.1 hc).1
        rw [Nat.add_zero, o3 _ (by rw [Nat.add_mul]; omega), setR_get, if_pos (by simp [hvk]; omega), Nat.add_sub_cancel_left]
        simpa using hc
      | succ i =>
        have := o4 i u (by simpa using hu) j c hc
        rwa [show s + 1 + i = s + (i + 1) by omega] at this

section
variable {P : Program} {G : World → Prop} {c : Nat} {L : Operand → AV} {B : Nat → Option BA} {K : AV → List BA → Prop}
variable {dst : Option Tmp} {ty : TypeId} {pos : String} {after : Array Edge} {gd : Option (Nat × Bool)}

theorem chunks_of {α : Type} {R : List Value → α → Prop} {k : Nat} : ∀ (l : List α) (s : Nat) (xs : List Value), xs.length = (s + l.length) * k → (∀ i x, l[i]? = some x → ∃ cs, R cs x ∧ cs.length = k ∧ ∀ j u, cs[j]? = some u → xs[(s + i) * k + j]? = some u) → Chunks R k (xs.drop (s * k)) l := by
  intro l
  induction l with
  | nil => intro s xs hl _; simp only [Chunks]; exact List.drop_eq_nil_of_le (by rw [hl]; simp)
  | cons x l ih =>
    intro s xs hl h
    obtain ⟨cs, h1, h2, h3⟩ := h 0 x rfl
    refine ⟨cs, xs.drop ((s + 1) * k), ?_, h2, h1, ih (s + 1) xs (by rw [hl, List.length_cons]; congr 1; omega) fun i y hy => ?_⟩
    · apply List.ext_getElem?
      intro j
      rw [List.getElem?_drop]
      by_cases hj : j < k
      · have h5 := h3 j _ (List.getElem?_eq_getElem (by omega))
        rw [Nat.add_zero] at h5
        rw [List.getElem?_append_left (by omega), h5, List.getElem?_eq_getElem (by omega)]
      · rw [List.getElem?_append_right (by omega), List.getElem?_drop, h2]
        congr 1
        rw [Nat.add_mul]; omega
    · have := h (i + 1) y (by simpa using hy)
      rwa [show s + (i + 1) = s + 1 + i by omega] at this
theorem build_run {t : TypeId} {len e k y : Nat} {parts : Array (Nat × Operand)} {l : List (List IV)} (ht : tySl P t = some (e, k, y)) (hz : (tyZ P e).isSome = true) (hlen : l.length = len) (hk : 0 < k) (hbig : len * k ≤ 16777216)
    (hparts : ∀ (i : Nat) (cs : List IV), l[i]? = some cs → cs.length = k ∧ ∃ x, parts[i]? = some (i, x) ∧ okC (L x) = true ∧ toIs (cellsA (L x)) = some cs ∧ okAs (cellsA (L x))) (hps : parts.size = len)
    {V w0 : World} {n : Fm} {E : Env} {σ : AState} {a : Act} {w : World} (hL : ∀ x, RepA E (vis V w0 w (owns E σ.bk)) (a.eval x) (L x)) :
    ∃ out : Array Value, out.size = len * k ∧ (∀ (i : Nat) (cs : List IV), l[i]? = some cs → ∃ vs : List Value, RepVs (vis V w0 w (owns E σ.bk)) vs cs ∧ vs.length = k ∧ ∀ (j : Nat) u, vs[j]? = some u → out.toList[i * k + j]? = some u) ∧
      (execOp a.eval ⟨dst, .buildSlice t len parts, ty, pos, after, gd⟩).run P w = .ok (.value (.slice (some ⟨w.heap.size, 0, none⟩) len len)) (w.alloc (.cells out e)) := by
    obtain ⟨hu, inf, hi2, hi3, _⟩ := tySl_run ht
    obtain ⟨⟨zq, zs⟩, hz⟩ := Option.isSome_iff_exists.1 hz
    obtain ⟨z, z1, z2, _⟩ := tyZ_run (w := w) hz
    -- the parts' values
    have hval : ∀ i, i < len → ∃ x cs, parts[i]? = some (i, x) ∧ l[i]? = some cs ∧ RepVs (vis V w0 w (owns E σ.bk)) (a.eval x).cells.toList cs ∧ (a.eval x).cells.size = k := fun i hi => by
      have hi' : i < l.length := by omega
      obtain ⟨p0, x, p1, p2, p3, p4⟩ := hparts i _ (List.getElem?_eq_getElem hi')
      have hr := RepAs.toIs ((hL x).cells p2).1 p3 p4
      refine ⟨x, _, p1, List.getElem?_eq_getElem hi', hr, ?_⟩
      have := hr.len
      rw [p0] at this
      simpa using this
    have hvs : (parts.map fun (i, x) => (i, a.eval x)).toList = ((parts.toList.map fun p => a.eval p.2).zipIdx 0).map fun x => (x.2, x.1) := by
      apply List.ext_getElem?
      intro i
      rw [Array.toList_map, List.getElem?_map, List.getElem?_map, List.getElem?_zipIdx, List.getElem?_map, Array.getElem?_toList]
      by_cases hi : i < len
      · obtain ⟨x, cs, p1, _⟩ := hval i hi
        rw [p1]; simp
      · rw [Array.getElem?_eq_none (by omega)]; rfl
    obtain ⟨out, o1, o2, _, o4⟩ := fill_all k (parts.toList.map fun p => a.eval p.2) 0 ((Array.range (len * k)).map (z.cells[· % z.cells.size]!)) (fun v hv => by
      obtain ⟨p, hp, rfl⟩ := List.mem_map.1 hv
      obtain ⟨i, hi⟩ := List.mem_iff_getElem?.1 hp
      have hi2 : i < len := by have := (List.getElem?_eq_some_iff.1 hi).1; simp at this; omega
      obtain ⟨x, cs, p1, _, _, p4⟩ := hval i hi2
      rw [Array.getElem?_toList, p1] at hi
      obtain rfl := Option.some.inj hi
      exact p4) (by simp [hps])
    simp only [Array.size_map, Array.size_range] at o2
    have hexec : (execOp a.eval ⟨dst, .buildSlice t len parts, ty, pos, after, gd⟩).run P w = .ok (.value (.slice (some ⟨w.heap.size, 0, none⟩) len len)) (w.alloc (.cells out e)) := by
      simp only [execOp]
      refine run_v ?_
      have hb : ¬ (len * k > 2 ^ 24) := by omega
      simp only [Instr.buildSlice, hvs]
      by_cases h0 : len * k = 0
      · have hl0 : len = 0 := by
          rcases Nat.mul_eq_zero.1 h0 with h | h
          · exact h
          · omega
        subst hl0
        have hp0 : parts = #[] := Array.eq_empty_of_size_eq_zero hps
        subst hp0
        simp only [Nat.zero_mul] at o1 o2
        have hout : out = #[] := Array.eq_empty_of_size_eq_zero o2
        subst hout
        simp only [Sem.run_bind, run_underlying hu, Result.andThen_ok, sizeOf, run_typeInfo w hi2, Sem.run_pure, newRow, newObj, hi3, if_neg hb, if_pos h0]
        simp [Instr.fill, Sem.run]
        have e0 : Array.map (fun _ => (default : Value)) (Array.range 0) = #[] := Array.eq_empty_of_size_eq_zero (by simp)
        rw [e0]
      · simp only [Sem.run_bind, run_underlying hu, Result.andThen_ok, sizeOf, run_typeInfo w hi2, Sem.run_pure, newRow, newObj, hi3, if_neg hb, if_neg h0, z1, o1]
        rfl
    refine ⟨out, o2, fun i cs hi => ?_, hexec⟩
    have hil : i < len := by rw [← hlen]; exact (List.getElem?_eq_some_iff.1 hi).1
    obtain ⟨x, cs', p1, p2, p3, p4⟩ := hval i hil
    rw [p2] at hi
    obtain rfl := Option.some.inj hi
    refine ⟨_, p3, by simpa using p4, fun j u hj => ?_⟩
    have := o4 i (a.eval x) (by rw [List.getElem?_map, Array.getElem?_toList, p1]; rfl) j u (by simpa using hj)
    simpa using this
/-- a new slice: a row of one's own, or data from here on -/
theorem e_build {t : TypeId} {len : Nat} {parts : Array (Nat × Operand)} (h : match tySl P t with
    | some (e, k, _) => (tyZ P e).isSome = true ∧ ∃ l : List (List IV), l.length = len ∧ 0 < k ∧ len * k ≤ 16777216 ∧ (∀ (i : Nat) (cs : List IV), l[i]? = some cs → cs.length = k ∧ ∃ x, parts[i]? = some (i, x) ∧ okC (L x) = true ∧ toIs (cellsA (L x)) = some cs ∧ okAs (cellsA (L x))) ∧ parts.size = len ∧ (K (.own c) [.row c e k l] ∨ K (.iv (.sl k l)) [])
    | none => False) : Enough P G ⟨dst, .buildSlice t len parts, ty, pos, after, gd⟩ c L B K := by
  split at h
  · rename_i e k y ht
    obtain ⟨hz, l, hlen, hk, hbig, hparts, hps, hK⟩ := h
    have hle : len ≤ len * k := Nat.le_mul_of_pos_right _ hk
    rcases hK with hK | hK
    · refine ⟨_, _, hK, fun V w0 n E σ a w hs hG hL _ N Q hN => ?_⟩
      obtain ⟨out, o2, o4, hexec⟩ := build_run (dst := dst) (ty := ty) (pos := pos) (after := after) (gd := gd) ht hz hlen hk hbig hparts hps (n := n) hL
      unfold Oper.wp
      rw [hexec, Oper.upon_value]
      have hE : Env.same c (c + 100) E ⟨fun b => if b = c then w.heap.size else E.blk b, fun b => if b = c then .slice (some ⟨w.heap.size, 0, none⟩) len len else E.row b⟩ := fun b hb => by
        have : ¬ b = c := by omega
        simp [this]
      have hbel := balloc (o := .cells out e) (Below.refl _ w)
      have ho : owns ⟨fun b => if b = c then w.heap.size else E.blk b, fun b => if b = c then .slice (some ⟨w.heap.size, 0, none⟩) len len else E.row b⟩ [.row c e k l] = [w.heap.size] := by
        simp [owns, BA.owned, Value.ownBlock]
      have hx : Ext (vis V w0 w (owns E σ.bk)) (vis V w0 (w.alloc (.cells out e)) ([w.heap.size] ++ owns E σ.bk)) := vis_ext hbel.size fun p u _ h4 h5 h6 => ⟨fun hm => by
        rcases List.mem_append.1 hm with hm | hm
        · simp at hm; omega
        · exact h5 hm, kept_cell hbel h6⟩
      have hch : Chunks (RepVs (vis V w0 (w.alloc (.cells out e)) ([w.heap.size] ++ owns E σ.bk))) k out.toList l := by
        have := chunks_of (R := RepVs (vis V w0 (w.alloc (.cells out e)) ([w.heap.size] ++ owns E σ.bk))) (k := k) l 0 out.toList (by simp [o2, hlen]) fun i cs hi => by
          obtain ⟨vs, p3, p4, p5⟩ := o4 i cs hi
          exact ⟨vs, p3.ext hx, p4, fun j u hj => by simpa using p5 j u hj⟩
        simpa using this
      refine hN _ _ ⟨fun b => if b = c then w.heap.size else E.blk b, fun b => if b = c then .slice (some ⟨w.heap.size, 0, none⟩) len len else E.row b⟩ ⟨hbel, ⟨hE, .inr rfl⟩, by rw [ho]; simp, fun g hg => by rw [ho] at hg; simp at hg; omega, fun b' hb' => ?_, ?_⟩
      · rw [ho]
        simp only [List.mem_singleton] at hb'
        subst hb'
        refine ⟨?_, fun g hg => by simp [Value.ownBlock] at hg; simp [hg]⟩
        simp only [if_true]
        have hbl := OwnSl.of_blk (w := w.alloc (.cells out e)) (g := w.heap.size) (e := e) (cs := out) (l := l) (Blk.new _ _ _) hch (by omega)
        rw [hlen] at hbl
        exact hbl.base hs.low.size
      · refine .own (E := ⟨fun b => if b = c then w.heap.size else E.blk b, fun b => if b = c then .slice (some ⟨w.heap.size, 0, none⟩) len len else E.row b⟩) ?_
        simp
    · refine ⟨_, _, hK, fun V w0 n E σ a w hs hG hL _ N Q hN => ?_⟩
      obtain ⟨out, o2, o4, hexec⟩ := build_run (dst := dst) (ty := ty) (pos := pos) (after := after) (gd := gd) ht hz hlen hk hbig hparts hps (n := n) hL
      unfold Oper.wp
      rw [hexec, Oper.upon_value]
      have hbel := balloc (o := .cells out e) (Below.refl _ w)
      have hx : Ext (vis V w0 w (owns E σ.bk)) (vis V w0 (w.alloc (.cells out e)) (owns E σ.bk)) := vis_ext hbel.size fun p u _ _ h5 h6 => ⟨h5, kept_cell hbel h6⟩
      have hnot : w.heap.size ∉ owns E σ.bk := fun hm => absurd (hs.lt _ hm) (Nat.lt_irrefl _)
      refine hN _ _ E ⟨hbel, ⟨Env.same_refl _ _ E, .inl rfl⟩, List.nodup_nil, (fun g hg => by cases hg), (fun b' hb' => by cases hb'), ?_⟩
      refine .iv (RepV.of_sl ⟨some ⟨w.heap.size, 0, none⟩, len, by rw [hlen], ⟨by omega, by omega⟩, by unfold maxLen; omega, fun _ => ⟨w.heap.size, 0, rfl, ?_, fun i cs hi => ?_⟩⟩)
      · show w.heap.size < (vis V w0 (w.alloc (.cells out e)) _).heap.size
        rw [vis_size]; simp
      · obtain ⟨vs, p3, p4, p5⟩ := o4 i cs hi
        refine ⟨vs, p3.ext hx, p4, fun j u hj => ?_⟩
        show (vis V w0 (w.alloc (.cells out e)) (owns E σ.bk)).cell? _ = some u
        rw [vis_new hs.low.size, if_neg hnot, (Blk.new w e out).cell]
        simpa using p5 j u hj
  · exact h.elim
theorem setR_rep {E : Env} {X : World} : ∀ (vs : List Value) (ds : List AV) (off : Nat) (cells : Array Value) (cs : List AV), RepAs E X cells.toList cs → RepAs E X vs ds → RepAs E X (setR cells off vs).toList (setsL cs off ds)
  | [], [], off, cells, cs, h, _ => h
  | v :: vs, d :: ds, off, cells, cs, h, hr => by
    obtain ⟨v', vs', e, h1, h2⟩ := RepAs.cons_iff.1 hr
    injection e with e1 e2
    subst e1 e2
    refine setR_rep vs ds (off + 1) _ _ ?_ h2
    rw [Array.toList_setIfInBounds]
    exact h.set_ h1 off
  | [], _ :: _, _, _, _, _, hr => absurd hr.1 (by simp)
  | _ :: _, [], _, _, _, _, hr => absurd hr.1 (by simp)
theorem fillA_run {E : Env} {X : World} {L : Operand → AV} {a : Act} (hL : ∀ x, RepA E X (a.eval x) (L x)) {places : List (Nat × Nat)} : ∀ (parts : List (Nat × Operand)) (cells : Array Value) (cs out : List AV), RepAs E X cells.toList cs →
    fillA places cs (parts.map fun p => (p.1, L p.2)) = some out → ∃ C, Instr.fill (places.toArray[·]?) cells (parts.map fun p => (p.1, a.eval p.2)) = some C ∧ RepAs E X C.toList out
  | [], cells, cs, out, h, hf => by
    simp only [List.map_nil, fillA, Option.some.injEq] at hf
    subst hf
    exact ⟨cells, rfl, h⟩
  | p :: parts, cells, cs, out, h, hf => by
    simp only [List.map_cons, fillA] at hf
    split at hf
    · cases hf
    · rename_i off size hp
      split at hf
      · rename_i hc
        obtain ⟨c1, c2, c3⟩ := hc
        obtain ⟨hv, _⟩ := (hL p.2).cells c2
        have hsz : (a.eval p.2).cells.size = size := by
          have := hv.1
          rw [c1] at this
          simpa using this
        have hcs : off + size ≤ cells.size := by
          have := h.1
          simp at this; omega
        obtain ⟨C, h1, h2⟩ := fillA_run hL parts (setR cells off (a.eval p.2).cells.toList) _ out (setR_rep _ _ off cells cs h hv) hf
        refine ⟨C, ?_, h2⟩
        rw [List.map_cons, fill_step (off := off) (size := size) (by simpa using hp) hsz hcs]
        exact h1
      · cases hf
theorem mapM_opt {P : Program} {w : World} : ∀ {fs : List Field} {l : List (Nat × Nat)}, (fs.mapM fun f => (P.info? f.type).map fun i => (f.offset, i.size)) = some l → (fs.mapM fun f => (do return (f.offset, ← sizeOf f.type) : Sem (Nat × Nat))).run P w = .ok l w
  | [], l, h => by simp at h; subst h; rfl
  | f :: fs, l, h => by
    simp only [List.mapM_cons, Option.bind_eq_bind, Option.bind_eq_some_iff, Option.map_eq_some_iff, Option.pure_def, Option.some.injEq] at h
    obtain ⟨x, ⟨i, hi, rfl⟩, l', h1, rfl⟩ := h
    have h2 := mapM_opt h1 (w := w)
    rw [List.mapM_cons]
    simp only [Sem.run_bind, sizeOf, run_typeInfo w hi, Result.andThen_ok, Sem.run_pure] at h2 ⊢
    rw [h2]
    rfl
theorem e_struct {t : TypeId} {parts : Array (Nat × Operand)} (h : match tyBld P t with
    | some (zs, places) => match fillA places (zs.map AV.val) (parts.toList.map fun p => (p.1, L p.2)) with
      | some cs => K (.agg cs) []
      | none => False
    | none => False) : Enough P G ⟨dst, .build t parts, ty, pos, after, gd⟩ c L B K := by
  split at h
  · rename_i zs places hb
    split at h
    · rename_i cs hf
      refine ⟨_, _, h, QSnd.pure_ fun V w0 n E σ a w hs hL _ => ?_⟩
      unfold tyBld at hb
      split at hb
      · rename_i fs z hu hz
        simp only [Option.map_eq_some_iff, Prod.mk.injEq] at hb
        obtain ⟨l, hl, rfl, rfl⟩ := hb
        obtain ⟨i, hi, hz⟩ := Option.bind_eq_some_iff.1 hz
        obtain ⟨C, h1, h2⟩ := fillA_run hL parts.toList z.cells _ cs (RepAs.ofVals z.cells.toList) hf
        refine ⟨.agg C, ?_, .agg (by simpa using h2.1) fun j v d a b => h2.2 j v d (by rw [Array.getElem?_toList]; exact a) b⟩
        simp only [execOp]
        refine run_v ?_
        have hzr : (zeroValue t).run P w = .ok z w := by simp [zeroValue, run_typeInfo w hi, hz]
        have hm : (fs.mapM fun f => (do return (f.offset, ← sizeOf f.type) : Sem (Nat × Nat))).run P w = .ok l.toArray w := by
          have h3 := mapM_opt hl (w := w)
          rw [Array.mapM_eq_mapM_toList]
          simp only [Sem.run_bind, Sem.run_map, h3, Result.andThen_ok, Sem.run_pure]
        have hp : (parts.map fun (i, x) => (i, a.eval x)).toList = parts.toList.map fun p => (p.1, a.eval p.2) := by simp
        simp only [Instr.build, Sem.run_bind, hzr, Result.andThen_ok, run_underlying hu, Sem.run_pure, hm, hp, h1]
      · cases hb
    · exact h.elim
  · exact h.elim
/-- ALL KINDS: the formula is enough -/
theorem qop_enough {o : Oper} (hf : makes o = true → ∀ x, (L x).off c (c + 100) = true) (h : qop P G L B o c K) : Enough P G o c L B K := by
  obtain ⟨dst, op, ty, pos, after, gd⟩ := o
  unfold qop at h
  cases op with
  | move x => exact e_move h
  | assign x => exact e_assign h
  | pick b x y => exact e_pick h
  | alloc e =>
    simp only at h
    split at h
    · rename_i zs hz
      exact e_alloc hz (.inl ⟨rfl, h⟩)
    · rename_i q zs _ hz
      exact e_alloc hz (.inr h)
    · exact h.elim
  | box e x => exact e_box (hf rfl x) h
  | load t x =>
    simp only at h
    split at h
    · rename_i q s ht
      exact e_load ht h
    · exact h.elim
  | nilCheck x => exact e_nil h
  | binOp op t x y tz => exact e_bin h
  | unOp op t x => exact e_un h
  | convert s d x => exact e_conv h
  | makeFunc fn first caps => cases fn <;> first | exact e_func h | exact h.elim
  | slice t x lo hi mx => exact e_slice h
  | fieldAddr t x f => exact e_fieldAddr h
  | field t x f => exact e_field h
  | indexAddr t x i => exact e_indexAddr h
  | index t x i => exact e_index h
  | extract x i => exact e_extract h
  | build t parts => exact e_struct h
  | buildSlice t len parts => exact e_build h
  | call cl =>
    obtain ⟨callee, args, at_⟩ := cl
    cases callee with
    | value fo =>
      simp only at h
      split at h
      · rename_i f caps hfo
        have h' := h
        obtain ⟨r, nb, args', hc, _⟩ := h'
        refine e_call hfo (fun vs w => ?_) h
        rcases hc with ⟨_, hc⟩ | ⟨_, _, _, _, hc⟩ <;> exact hc.1 vs w
      · exact h.elim
    | invoke r m => exact h.elim
    | builtin b =>
      cases b <;> simp only at h <;> first | exact h.elim | skip
      case len =>
        split at h
        · rename_i x t h1 h2
          obtain rfl : args = #[x] := by rw [← Array.toArray_toList (xs := args), h1]
          obtain rfl : at_ = #[t] := by rw [← Array.toArray_toList (xs := at_), h2]
          exact e_len h
        · exact h.elim
      case cap =>
        split at h
        · rename_i x t h1 h2
          obtain rfl : args = #[x] := by rw [← Array.toArray_toList (xs := args), h1]
          obtain rfl : at_ = #[t] := by rw [← Array.toArray_toList (xs := at_), h2]
          exact e_cap h
        · exact h.elim
      case max =>
        split at h
        · rename_i x y h1
          obtain rfl : args = #[x, y] := by rw [← Array.toArray_toList (xs := args), h1]
          exact e_max h
        · exact h.elim
      case min =>
        split at h
        · rename_i x y h1
          obtain rfl : args = #[x, y] := by rw [← Array.toArray_toList (xs := args), h1]
          exact e_min h
        · exact h.elim
  | _ => exact h.elim
end
end Go.Proofs.YtdbeoigbkkdpdaaGreatDoor
namespace Go.Proofs.YtdbeoigbkkdpdaaGreatDoor
open Go.ChangeShapes Go.WideShapes Go.ChangeAt Go.RowKit

section
variable {V w0 : World} {n : Fm} {E : Env} {fr : List (Nat × AV)} {pre mid post : List BA} {a : Act} {w w' : World}
theorem swap_ext {E' : Env} {nb : List BA} (hlt : ∀ g ∈ owns E (pre ++ (mid ++ post)), g < w.heap.size) (hg : ∀ g, g ∉ owns E mid → g < w.heap.size → w'.heap[g]? = w.heap[g]?) (hs : w.heap.size ≤ w'.heap.size) (hnew : ∀ g ∈ owns E' nb, g ∈ owns E mid ∨ w.heap.size ≤ g) :
    Ext (vis V w0 w (owns E (pre ++ (mid ++ post)))) (vis V w0 w' (owns E' nb ++ owns E (pre ++ post))) :=
  vis_ext hs fun p u _ h2 h3 h4 => by
    simp only [owns_append, List.mem_append, not_or] at h3
    refine ⟨fun hm => ?_, by rw [World.cell?_of_block (hg p.block h3.2.1 h2)]; exact h4⟩
    simp only [owns_append, List.mem_append] at hm
    rcases hm with hm | hm | hm
    · rcases hnew _ hm with hm | hm
      · exact h3.2.1 hm
      · omega
    · exact h3.1 hm
    · exact h3.2.2 hm
theorem St.swap {lo hi : Nat} {E' : Env} {nb : List BA} (h : St V w0 n E ⟨fr, pre ++ (mid ++ post)⟩ a w) (hg : ∀ g, g ∉ owns E mid → g < w.heap.size → w'.heap[g]? = w.heap[g]?) (hs : w.heap.size ≤ w'.heap.size) (hlow : Below w0.heap.size w0 w')
    (hE : Env.same lo hi E E') (h1 : offF lo hi fr = true) (h2 : offB lo hi (pre ++ post) = true) (hnd : (owns E' nb).Nodup) (hnew : ∀ g ∈ owns E' nb, g ∈ owns E mid ∨ w.heap.size ≤ g)
    (hh : ∀ b ∈ nb, b.holds E' (vis V w0 w' (owns E' nb ++ owns E (pre ++ post))) w' w0.heap.size) : St V w0 n E' ⟨fr, nb ++ (pre ++ post)⟩ a w' := by
  have hlt := h.lt
  have hap := h.apart
  have hx := swap_ext (V := V) (w0 := w0) (E' := E') (nb := nb) hlt hg hs hnew
  have ho : owns E' (nb ++ (pre ++ post)) = owns E' nb ++ owns E (pre ++ post) := by rw [owns_append, owns_same hE h2]
  have hdis : ∀ g ∈ owns E mid, g ∉ owns E (pre ++ post) := by
    intro g hm hp
    simp only [owns_append] at hap hp
    obtain ⟨_, a2, a3⟩ := List.nodup_append.1 hap
    obtain ⟨_, _, a4⟩ := List.nodup_append.1 a2
    rcases List.mem_append.1 hp with hp | hp
    · exact a3 g hp g (List.mem_append_left _ hm) rfl
    · exact a4 g hm g hp rfl
  have hsub : ∀ g ∈ owns E (pre ++ post), g ∈ owns E (pre ++ (mid ++ post)) := by
    intro g hp
    simp only [owns_append, List.mem_append] at hp ⊢
    rcases hp with hp | hp
    · exact .inl hp
    · exact .inr (.inr hp)
  refine ⟨h.ext, hlow, ?_, ?_, ?_, ?_, h.size, h.defers, Nat.le_trans h.hold.1 hs, fun g o hg1 => ?hold⟩
  case hold =>
    obtain ⟨q1, q2⟩ := h.hold.2 g o hg1
    have hl := (Array.getElem?_eq_some_iff.1 q1).1
    refine ⟨(hg g (fun hm => q2 (by simp only [owns_append, List.mem_append]; exact .inr (.inl hm))) hl).trans q1, fun hm => ?_⟩
    rw [ho] at hm
    rcases List.mem_append.1 hm with hm | hm
    · rcases hnew _ hm with hm | hm
      · exact q2 (by simp only [owns_append, List.mem_append]; exact .inr (.inl hm))
      · omega
    · exact q2 (hsub _ hm)
  · rw [ho]
    refine List.nodup_append.2 ⟨hnd, ?_, fun g hg1 g' hg2 e => ?_⟩
    · simp only [owns_append] at hap ⊢
      exact hap.sublist ((List.Sublist.refl _).append (List.sublist_append_right _ _))
    · subst e
      rcases hnew _ hg1 with hm | hm
      · exact hdis _ hm hg2
      · have := hlt _ (hsub _ hg2); omega
  · intro g hg1
    rw [ho] at hg1
    rcases List.mem_append.1 hg1 with hm | hm
    · rcases hnew _ hm with hm | hm
      · exact h.base _ (by simp only [owns_append, List.mem_append]; exact .inr (.inl hm))
      · have := h.low.size; omega
    · exact h.base _ (hsub _ hm)
  · intro b hb
    simp only [ho]
    rcases List.mem_append.1 hb with hb | hb
    · exact hh b hb
    · have hb2 : b ∈ pre ++ (mid ++ post) := by
        simp only [List.mem_append] at hb ⊢
        rcases hb with hb | hb
        · exact .inl hb
        · exact .inr (.inr hb)
      exact BA.holds_ext hE hx (fun g hg1 => hg g (fun hm => hdis g hm (mem_owns.2 ⟨b, hb, hg1⟩)) (hlt g (mem_owns.2 ⟨b, hb2, hg1⟩))) (offB_mem h2 b hb) (h.holds b hb2)
  · intro i
    simp only [ho]
    exact (h.slots i).ext hE hx (offF_look h1 i)

theorem vis_setCell {gs : List Nat} {p : Addr} {u : Value} (hp : p.block ∈ gs) : Ext (vis V w0 w gs) (vis V w0 (w.setCell p u) gs) :=
  vis_ext (by simp) fun q v _ _ h3 h4 => ⟨h3, by
    rw [World.cell?_of_block (Below.heap_setCell w p u q.block (fun e => h3 (e ▸ hp)))]
    exact h4⟩
theorem St.sets_box {b : Nat} : ∀ (vs : List Value) (ds : List AV) (cs : List AV) (o : Nat) (w : World), St V w0 n E ⟨fr, pre ++ .box b cs :: post⟩ a w → RepAs E (vis V w0 w (owns E (pre ++ .box b cs :: post))) vs ds →
    St V w0 n E ⟨fr, pre ++ .box b (setsL cs o ds) :: post⟩ a (w.setCells (E.blk b) o vs)
  | [], ds, cs, o, w, h, hr => by
    cases ds with
    | nil => exact h
    | cons d ds => exact absurd hr.1 (by simp)
  | v :: vs, [], cs, o, w, h, hr => absurd hr.1 (by simp)
  | v :: vs, d :: ds, cs, o, w, h, hr => by
    obtain ⟨v', vs', e, h1, h2⟩ := RepAs.cons_iff.1 hr
    injection e with e1 e2
    subst e1 e2
    refine St.sets_box vs ds (cs.set o d) (o + 1) _ (h.set_box o h1) ?_
    have e : owns E (pre ++ .box b (cs.set o d) :: post) = owns E (pre ++ .box b cs :: post) := by simp [owns_append, owns, BA.owned]
    rw [e]
    exact h2.mono (vis_setCell (by simp [owns_append, owns, BA.owned]))
theorem St.sets_arr {b : Nat} : ∀ (vs : List Value) (ds : List IV) (cs : List IV) (o : Nat) (w : World), St V w0 n E ⟨fr, pre ++ .arr b cs :: post⟩ a w → RepVs (vis V w0 w (owns E (pre ++ .arr b cs :: post))) vs ds →
    St V w0 n E ⟨fr, pre ++ .arr b (setsL cs o ds) :: post⟩ a (w.setCells (E.blk b) o vs)
  | [], [], cs, o, w, h, hr => h
  | v :: vs, d :: ds, cs, o, w, h, hr => by
    refine St.sets_arr vs ds (cs.set o d) (o + 1) _ (h.set_arr o hr.1) ?_
    have e : owns E (pre ++ .arr b (cs.set o d) :: post) = owns E (pre ++ .arr b cs :: post) := by simp [owns_append, owns, BA.owned]
    rw [e]
    exact RepVs.ext (vis_setCell (by simp [owns_append, owns, BA.owned])) hr.2
  | [], _ :: _, _, _, _, _, hr => hr.elim
  | _ :: _, [], _, _, _, _, hr => hr.elim
theorem St.sets_row {b e k i : Nat} : ∀ (vs : List Value) (ds : List IV) (l : List (List IV)) (x : List IV) (j : Nat) (w : World), St V w0 n E ⟨fr, pre ++ .row b e k l :: post⟩ a w → RepVs (vis V w0 w (owns E (pre ++ .row b e k l :: post))) vs ds → l[i]? = some x → j + vs.length ≤ k →
    St V w0 n E ⟨fr, pre ++ .row b e k (l.set i (setsL x j ds)) :: post⟩ a (w.setCells (E.blk b) (i * k + j) vs)
  | [], [], l, x, j, w, h, hr, hi, hj => by
    have : l.set i x = l := by
      obtain ⟨h1, h2⟩ := List.getElem?_eq_some_iff.1 hi
      subst h2; exact List.set_getElem_self h1
    simp only [setsL, this]
    exact h
  | v :: vs, d :: ds, l, x, j, w, h, hr, hi, hj => by
    simp only [List.length_cons] at hj
    have hil := (List.getElem?_eq_some_iff.1 hi).1
    have h1 := h.set_row hi (j := j) (by omega) hr.1
    have eo : owns E (pre ++ .row b e k (l.set i (x.set j d)) :: post) = owns E (pre ++ .row b e k l :: post) := by simp [owns_append, owns, BA.owned]
    have hm : E.blk b ∈ owns E (pre ++ .row b e k l :: post) := by
      obtain ⟨hO, hB⟩ := h.holds (.row b e k l) (by simp)
      rcases hO.forms with ⟨_, hl⟩ | ⟨g, cc, hg, _⟩
      · rw [hl] at hi; simp at hi
      · refine mem_owns.2 ⟨.row b e k l, by simp, ?_⟩
        have := hB g (by rw [hg]; rfl)
        subst this
        simp [BA.owned, hg, Value.ownBlock]
    have h2 := St.sets_row (i := i) vs ds (l.set i (x.set j d)) (x.set j d) (j + 1) _ h1 (by rw [eo]; exact RepVs.ext (vis_setCell hm) hr.2) (by simp [hil]) (by omega)
    rw [List.set_set] at h2
    exact h2
  | [], _ :: _, _, _, _, _, _, hr, _, _ => hr.elim
  | _ :: _, [], _, _, _, _, _, hr, _, _ => hr.elim

/-- what may be stored at a place, and what the blocks are then -/
def storeQ (P : Program) (t : TypeId) (x y : AV) (bk : List BA) (K : List BA → Prop) : Prop :=
  match tyK P t with
  | some (_, s) => okC y = true ∧ (cellsA y).length = s ∧ match x with
    | .bp b p => match findB b bk with
      | some (.box _ cs) => p + s ≤ cs.length ∧ K (replB b [.box b (setsL cs p (cellsA y))] bk)
      | some (.arr _ cs) => ∃ is, toIs (cellsA y) = some is ∧ okAs (cellsA y) ∧ p + s ≤ cs.length ∧ K (replB b [.arr b (setsL cs p is)] bk)
      | _ => False
    | .rp b k i j => match findB b bk with
      | some (.row _ e k' l) => k' = k ∧ ∃ is cs, toIs (cellsA y) = some is ∧ okAs (cellsA y) ∧ l[i]? = some cs ∧ j + s ≤ k ∧ K (replB b [.row b e k (l.set i (setsL cs j is))] bk)
      | _ => False
    | _ => False
  | none => False
/-- of the blocks bk it makes bk', whatever else (F) is one's own; its value reads as r -/
def UpdS (P : Program) (G : World → Prop) (o : Oper) (L : Operand → AV) (bk : List BA) (r : AV) (bk' : List BA) : Prop :=
  ∀ (V w0 : World) (n : Fm) (E : Env) (a : Act) (w : World) (fr : List (Nat × AV)) (F : List BA), St V w0 n E ⟨fr, bk ++ F⟩ a w → (∀ x, RepA E (vis V w0 w (owns E (bk ++ F))) (a.eval x) (L x)) →
    (makes o = true → offF (cid o.dst) (cid o.dst + 100) fr = true ∧ offB (cid o.dst) (cid o.dst + 100) (bk ++ F) = true) → G w → ∀ (N : Act → World → Prop) (Q : Exit → Act → World → Prop),
    (∀ v w' E', St V w0 n E' ⟨fr, bk' ++ F⟩ a w' → RepA E' (vis V w0 w' (owns E' (bk' ++ F))) v r → N (a.put o.dst v) w') → ∀ ro, o.wpIn (FW ro) 0 P a w N Q
/-- an operation that may turn blocks of one's own -/
def Upd (P : Program) (G : World → Prop) (o : Oper) (L : Operand → AV) (bk : List BA) (K : AV → List BA → Prop) : Prop := ∃ r bk', K r bk' ∧ UpdS P G o L bk r bk'
end
section
variable {P : Program} {G : World → Prop} {L : Operand → AV} {bk : List BA} {K : AV → List BA → Prop}
variable {dst : Option Tmp} {ty : TypeId} {pos : String} {after : Array Edge} {gd : Option (Nat × Bool)}
theorem e_store {t : TypeId} {x y : Operand} (h : storeQ P t (L x) (L y) bk fun bk' => K .any bk') : Upd P G ⟨dst, .store t x y, ty, pos, after, gd⟩ L bk K := by
  unfold storeQ at h
  split at h
  case h_2 => exact h.elim
  rename_i q s ht
  obtain ⟨hok, hlen, h⟩ := h
  -- the run, from the cells that lie there
  have run : ∀ {a : Act} {w : World} {v : Value} {g p : Nat} {e : TypeId} {C : Array Value}, a.eval x = .pointer (some ⟨g, p, none⟩) → a.eval y = v → v.cells.toList.length = s → (∀ u ∈ v.cells.toList, u.oneCell' = true) → Blk w g e C → p + s ≤ C.size →
      (execOp a.eval ⟨dst, .store t x y, ty, pos, after, gd⟩).run P w = .ok .skip (w.setCells g p v.cells.toList) := fun {a w v g p e C} h1 h2 h3 h4 h5 h6 => by
    obtain ⟨_, hz⟩ := tyK_run (w := w) ht
    have hst := run_storeCells_cells (P := P) g p v.cells.toList 0 w (fun j hj => by
      rw [h5.cell, Array.getElem?_eq_getElem (by omega)]; rfl) (fun j _ => h5.frozen _) h4
    have h3' : v.cells.size = s := by simpa using h3
    simp only [Nat.add_zero] at hst
    simp only [execOp, h1, h2, Instr.storeAt, Instr.sureAddr, storeVar]
    simp [hz, h3', hst]
  split at h
  · rename_i b p hx
    split at h
    · rename_i b' cs hb
      obtain ⟨hp, hK⟩ := h
      refine ⟨_, _, hK, fun V w0 n E a w fr F hs hL _ _ N Q hN ro => wp_wpIn (fun _ h => by cases h) ?_⟩
      obtain ⟨pre, post, e1, e2, e3⟩ := findB_split hb
      obtain rfl : b' = b := e2
      subst e1
      simp only [List.append_assoc, List.cons_append] at hs hL hN
      obtain ⟨C, et, hB, hC⟩ := hs.holds (.box b' cs) (by simp)
      have hxv := hL x
      rw [hx] at hxv
      obtain ⟨hyc, hy1⟩ := (hL y).cells hok
      generalize hxe : a.eval x = u at hxv
      cases hxv
      have hl2 : (a.eval y).cells.toList.length = s := by rw [hyc.1]; exact hlen
      unfold Oper.wp
      rw [run hxe rfl hl2 hy1 hB (by have := hC.1; simp at this; omega), Oper.upon_skip]
      have := St.sets_box (a.eval y).cells.toList (cellsA (L y)) cs p w hs hyc
      exact hN _ _ E (by rw [e3]; simpa using this) .any
    · rename_i b' cs hb
      obtain ⟨is, hi, ho, hp, hK⟩ := h
      refine ⟨_, _, hK, fun V w0 n E a w fr F hs hL _ _ N Q hN ro => wp_wpIn (fun _ h => by cases h) ?_⟩
      obtain ⟨pre, post, e1, e2, e3⟩ := findB_split hb
      obtain rfl : b' = b := e2
      subst e1
      simp only [List.append_assoc, List.cons_append] at hs hL hN
      obtain ⟨C, et, hB, hC⟩ := hs.holds (.arr b' cs) (by simp)
      have hxv := hL x
      rw [hx] at hxv
      obtain ⟨hyc, hy1⟩ := (hL y).cells hok
      have hyi := RepAs.toIs hyc hi ho
      generalize hxe : a.eval x = u at hxv
      cases hxv
      have hl2 : (a.eval y).cells.toList.length = s := by rw [hyc.1]; exact hlen
      unfold Oper.wp
      rw [run hxe rfl hl2 hy1 hB (by have := hC.len; simp at this; omega), Oper.upon_skip]
      have := St.sets_arr (a.eval y).cells.toList is cs p w hs hyi
      exact hN _ _ E (by rw [e3]; simpa using this) .any
    · exact h.elim
  · rename_i b k i j hx
    split at h
    · rename_i b' e k' l hb
      obtain ⟨rfl, is, cs, hi, ho, hcs, hj, hK⟩ := h
      refine ⟨_, _, hK, fun V w0 n E a w fr F hs hL _ _ N Q hN ro => wp_wpIn (fun _ h => by cases h) ?_⟩
      obtain ⟨pre, post, e1, e2, e3⟩ := findB_split hb
      obtain rfl : b' = b := e2
      subst e1
      simp only [List.append_assoc, List.cons_append] at hs hL hN
      obtain ⟨hO, hBk⟩ := hs.holds (.row b' e k' l) (by simp)
      have hxv := hL x
      rw [hx] at hxv
      obtain ⟨hyc, hy1⟩ := (hL y).cells hok
      have hyi := RepAs.toIs hyc hi ho
      generalize hxe : a.eval x = u at hxv
      cases hxv
      have hl2 : (a.eval y).cells.toList.length = s := by rw [hyc.1]; exact hlen
      obtain ⟨xs, ⟨h3, h4⟩, h5, h6⟩ := hO
      have hil := (List.getElem?_eq_some_iff.1 hcs).1
      rcases h4 with ⟨_, e0⟩ | ⟨g, cap, cur, hg, hg1, hg2, hg3, hg4, hg5, hg6⟩
      · rw [List.length_eq_zero_iff] at e0; rw [e0] at hcs; simp at hcs
      · have hgb : g = E.blk b' := hBk g (by rw [hg]; rfl)
        subst hgb
        have hB : Blk w (E.blk b') e cur := hg2
        have hik : i * k' + j + s ≤ cur.size := by
          rw [hg5]
          have : (i + 1) * k' ≤ cap * k' := Nat.mul_le_mul_right k' (by omega)
          rw [Nat.add_mul] at this
          omega
        unfold Oper.wp
        rw [run hxe rfl hl2 hy1 hB hik, Oper.upon_skip]
        have := St.sets_row (i := i) (a.eval y).cells.toList is l cs j w hs hyi hcs (by rw [hl2]; exact hj)
        exact hN _ _ E (by rw [e3]; simpa using this) .any
    · exact h.elim
  · exact h.elim
end
end Go.Proofs.YtdbeoigbkkdpdaaGreatDoor
