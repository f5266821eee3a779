/- Rows of one's own, told to the cell: copies inside them, what an insertion and a deletion leave. No program is known here. -/
import Derived.Test.YtkphfdmelfhnoaaGreatDoorPMarks
import Derived.Laws.CopyRow
import Derived.Laws.Externs
import Derived.Lib.Overlaps
import Derived.Lib.AppendZerosOnto
import Derived.Deep.RegionLaw
set_option linter.all false
set_option linter.unnecessarySimpa false
set_option linter.unusedSimpArgs false
set_option linter.unusedVariables false
namespace Go.Proofs.YtkphfdmelfhnoaaGreatDoor
open Go.ChangeShapes Go.WideShapes Go.ChangeAt Go.RowKit
section
variable {P : Program}
theorem run_copy_rowK (k : Nat) (w : World) (dT sT ty elem : TypeId) (g o dLen dCap : Nat) (a : Addr) (sLen sCap : Nat) (cur : Array Value) (t : TypeId) (cs : List Value) (n : Nat)
  (hu : P.underlying dT = some (.slice elem)) (hs : (P.info? elem).map (·.size) = some k)
  (hg : w.heap[g]? = some (.cells cur t (0, 0))) (hn : n = Nat.min sLen dLen) (hl : cs.length = n * k)
  (hsrc : ∀ j v, cs[j]? = some v → w.cell? (a.add j) = some v) (hfit : o + cs.length ≤ cur.size) (h1 : ∀ v ∈ cs, v.oneCell' = true) :
  (Builtin.copy_ #[dT, sT] ty #[.slice (some ⟨g, o, none⟩) dLen dCap, .slice (some a) sLen sCap]).run P w =
   .ok (goInt n) (w.setRow g (cur.toList.take o ++ cs ++ cur.toList.drop (o + cs.length)).toArray) := by
 have h2 := run_loadCells_list (P := P) w a cs hsrc
 rw [hl] at h2
 have hst := run_storeCells_at P g o t cs 0 cur w hg (by simpa using hfit) h1
 cases hq : P.info? elem with
 | none => simp [hq] at hs
 | some i =>
  have hi : i.size = k := by simpa [hq] using hs
  simp [Builtin.copy_, run_underlying hu, Builtin.lenOf, Builtin.firstCells, sizeOf, typeInfo, hq, hi, ← hn, h2, hst]
theorem wpList_copy_runK (w : World) {ops : Array Oper} {rest : List Oper} {o : Oper} {a : Act} {Q : Exit → Act → World → Prop} (hgd : o.guard = none) (d s : Operand) (t t' : TypeId)
  (ho : o.op = .call { callee := .builtin .copy, args := #[d, s], argTypes := #[t, t'] }) (v u : Value) (hd : a.eval d = v) (hs : a.eval s = u) {v' : Value} {w' : World}
  (hr : (Builtin.copy_ #[t, t'] o.type #[v, u]).run P w = .ok v' w') (h : wpList P ops Q rest (a.put o.dst v') w') : wpList P ops Q (o :: rest) a w := by
 refine wpList_plain hgd fun _ hK => ?_
 unfold Oper.wp execOp
 simp only [ho, resolve, invoke, builtin, Sem.run_bind, Sem.run_pure, Result.andThen_ok, List.map_toArray, List.map_cons, List.map_nil, hd, hs, hr]
 exact hK _ _ h
theorem step_copy_runK {ops : Array Oper} {o : Oper} {a : Act} {w : World} {K : Act → World → Prop} {Q : Exit → Act → World → Prop} {E : Prop}
  (hg : o.guard = none) (d x : Operand) (dT sT : TypeId) (hop : o.op = Op.call { callee := Callee.builtin Builtin.copy, args := #[d, x], argTypes := #[dT, sT] })
  (v u : Value) (hd : a.eval d = v) (hx : a.eval x = u) {v' : Value} {w' : World} (hr : (Builtin.copy_ #[dT, sT] o.type #[v, u]).run P w = .ok v' w') (hK : K (a.put o.dst v') w') :
  if Region.wanted o (yielded ops a.tmps) = true then Oper.wp P o a w K Q else E := by
 have hw : Region.wanted o (yielded ops a.tmps) = true := by simp [Region.wanted, hg]
 rw [if_pos hw]
 unfold Oper.wp
 simp [execOp, hop, resolve, invoke, builtin, hd, hx, hr, Result.andThen]
 exact hK
theorem step_append_runK {ops : Array Oper} {o : Oper} {a : Act} {w : World} {K : Act → World → Prop} {Q : Exit → Act → World → Prop} {E : Prop}
  (hg : o.guard = none) (d x : Operand) (dT sT : TypeId) (hop : o.op = Op.call { callee := Callee.builtin Builtin.append, args := #[d, x], argTypes := #[dT, sT] })
  (v u : Value) (hd : a.eval d = v) (hx : a.eval x = u) {v' : Value} {w' : World} (hr : (Builtin.append_ #[dT, sT] o.type #[v, u]).run P w = .ok v' w') (hK : K (a.put o.dst v') w') :
  if Region.wanted o (yielded ops a.tmps) = true then Oper.wp P o a w K Q else E := by
 have hw : Region.wanted o (yielded ops a.tmps) = true := by simp [Region.wanted, hg]
 rw [if_pos hw]
 unfold Oper.wp
 simp [execOp, hop, resolve, invoke, builtin, hd, hx, hr, Result.andThen]
 exact hK
theorem run_clear_rowK (k : Nat) (w : World) (t e ty : TypeId) (i : TypeInfo) (z : Value) (g o n c : Nat) (cur : Array Value) (T : TypeId) (ht : P.underlying t = some (.slice e)) (hi : P.info? e = some i) (hz : i.zero = some z) (hzs : z.cells.size = k) (hn : 0 < n)
  (hg : w.heap[g]? = some (.cells cur T (0, 0))) (hfit : o + n * k ≤ cur.size) (h1 : ∀ v ∈ z.cells, v.oneCell' = true) :
  (Builtin.clear_ #[t] ty #[.slice (some ⟨g, o, none⟩) n c]).run P w = .ok (.tuple #[]) (w.setRow g (cur.toList.take o ++ (Builtin.zeroCells z.cells n).toList ++ cur.toList.drop (o + n * k)).toArray) := by
 have hl : (Builtin.zeroCells z.cells n).toList.length = n * k := by simp [Builtin.zeroCells, hzs]
 have h1' : ∀ v ∈ (Builtin.zeroCells z.cells n).toList, v.oneCell' = true := by
  intro v hv
  simp only [Builtin.zeroCells, Array.toList_map, List.mem_map] at hv
  obtain ⟨j, hj, rfl⟩ := hv
  have hj' : j < n * k := by simpa [hzs] using hj
  have hk : 0 < k := by
   rcases Nat.eq_zero_or_pos k with rfl | h
   ·simp at hj'
   ·exact h
  have hlt : j % z.cells.size < z.cells.size := Nat.mod_lt _ (by omega)
  rw [getElem!_pos z.cells _ hlt]
  exact h1 _ (Array.getElem_mem hlt)
 have hst := run_storeCells_at P g o T (Builtin.zeroCells z.cells n).toList 0 cur w hg (by rw [hl]; simpa using hfit) h1'
 rw [hl, Nat.add_zero] at hst
 obtain ⟨m, rfl⟩ : ∃ m, n = m + 1 := ⟨n - 1, by omega⟩
 simp [Builtin.clear_, run_underlying ht, zeroValue, typeInfo, hi, hz, hst]
theorem wpList_clear_runK (w : World) {ops : Array Oper} {rest : List Oper} {o : Oper} {a : Act} {Q : Exit → Act → World → Prop} (hgd : o.guard = none) (s : Operand) (t : TypeId)
  (ho : o.op = .call { callee := .builtin .clear, args := #[s], argTypes := #[t] }) (v : Value) (hs : a.eval s = v) {v' : Value} {w' : World}
  (hr : (Builtin.clear_ #[t] o.type #[v]).run P w = .ok v' w') (h : wpList P ops Q rest (a.put o.dst v') w') : wpList P ops Q (o :: rest) a w := by
 refine wpList_plain hgd fun _ hK => ?_
 unfold Oper.wp execOp
 simp only [ho, resolve, invoke, builtin, Sem.run_bind, Sem.run_pure, Result.andThen_ok, List.map_toArray, List.map_cons, List.map_nil, hs, hr]
 exact hK _ _ h
end
section
variable {α : Type} {R : List Value → α → Prop} {k : Nat}
theorem Chunks.split : ∀ {xs : List Value} {l : List α}, Chunks R k xs l → ∀ i, i ≤ l.length → Chunks R k (xs.take (i * k)) (l.take i) ∧ Chunks R k (xs.drop (i * k)) (l.drop i)
 | xs, l, h, 0, _ => by simp only [Nat.zero_mul, List.take_zero, List.drop_zero]; exact ⟨rfl, h⟩
 | _, [], _, i + 1, hi => by simp at hi
 | _, y :: l, ⟨cs, rest, e, hk, h1, h⟩, i + 1, hi => by
  obtain ⟨a, b⟩ := h.split i (by simpa using hi)
  subst e
  have e1 : (i + 1) * k = cs.length + i * k := by rw [hk, Nat.add_mul]; omega
  rw [e1, List.take_length_add_append, List.drop_length_add_append]
  exact ⟨⟨cs, _, rfl, hk, h1, a⟩, b⟩
theorem OwnSl.open_ {w : World} {base : Nat} {e : TypeId} {g n c : Nat} {l : List α} (h : OwnSl R k w base e (.slice (some ⟨g, 0, none⟩) n c) l) :
  ∃ cur : Array Value, n = l.length ∧ base ≤ g ∧ Blk w g e cur ∧ l.length ≤ c ∧ c ≤ maxLen ∧ cur.size = c * k ∧ l.length ≤ 1073741824 ∧ Chunks R k (cur.toList.take (l.length * k)) l := by
 obtain ⟨xs, hown, hch, hbig⟩ := h
 rcases hown.2 with ⟨h1, _⟩ | ⟨g', cap, cur, h1, hb, hg, hnc, hcm, hcs, ht⟩
 ·cases h1
 ·injection h1 with h1 h2 h3
  injection h1 with h1
  injection h1 with h1
  subst h1 h2 h3
  rw [← ht] at hch
  exact ⟨cur, rfl, hb, hg, hnc, hcm, hcs, hbig, hch⟩
theorem OwnSl.shut {w : World} {base : Nat} {e : TypeId} {g n c : Nat} {cur : Array Value} {l : List α} (hb : base ≤ g) (hg : Blk w g e cur) (hn : n = l.length) (hnc : l.length ≤ c) (hcm : c ≤ maxLen) (hcs : cur.size = c * k) (hbig : l.length ≤ 1073741824) (hch : Chunks R k (cur.toList.take (l.length * k)) l) :
  OwnSl R k w base e (.slice (some ⟨g, 0, none⟩) n c) l := by
 subst hn
 exact ⟨_, ⟨by rw [hch.length], .inr ⟨g, c, cur, rfl, hb, hg, hnc, hcm, hcs, rfl⟩⟩, hch, hbig⟩
theorem grown_setRow (w : World) (g : Nat) (cs : Array Value) : w.grownBy (w.setRow g cs) (some g) :=
 ⟨rfl, rfl, rfl, by simp [World.setRow], fun i _ hne => by simp [World.setRow, Array.getElem?_modify, show ¬ g = i from fun e => hne (by rw [e])]⟩
theorem grown_trans {a b c : World} {row : Option Nat} (h : a.grownBy b row) (h2 : b.grownBy c row) : a.grownBy c row :=
 ⟨h2.os.trans h.os, h2.tape.trans h.tape, h2.output.trans h.output, Nat.le_trans h.size h2.size, fun i hi hne => (h2.block i (Nat.lt_of_lt_of_le hi h.size) hne).trans (h.block i hi hne)⟩
theorem grown_drew (w : World) (row : Option Nat) : w.grownBy w.drew row := ⟨rfl, rfl, rfl, Nat.le_refl _, fun _ _ _ => rfl⟩
theorem Blk.setRow' {w : World} {g : Nat} {t : TypeId} {cs cs' : Array Value} (h : Blk w g t cs) : Blk (w.setRow g cs') g t cs' := by
 unfold Blk at h ⊢
 simp [World.setRow, Array.getElem?_modify, h]
theorem Blk.farRow' {w : World} {g g' : Nat} {t : TypeId} {cs cs' : Array Value} (h : Blk w g t cs) (hne : g ≠ g') : Blk (w.setRow g' cs') g t cs := by
 unfold Blk at h ⊢
 simp [World.setRow, Array.getElem?_modify, h, Ne.symm hne]
end
theorem grown_newRow {w w1 : World} {row : Option Nat} (h : w.grownBy w1 row) {N : Nat} (hN : w.heap.size ≤ N) (cs : Array Value) : w.grownBy (w1.setRow N cs) row :=
 ⟨h.os, h.tape, h.output, by simpa [World.setRow] using h.size, fun k hk hne => (setRow_other w1 N k cs (by omega)).trans (h.block k hk hne)⟩
theorem grown_drewN {w w1 : World} {row : Option Nat} (h : w.grownBy w1 row) : w.grownBy w1.drew row := ⟨h.os, h.tape, h.output, h.size, h.block⟩
def Inserted {α : Type} (R : List Value → α → Prop) (k : Nat) (T : TypeId) (base : Nat) (v : Value) (l : List α) (w : World) (e : Ending) (w' : World) : Prop :=
 ∃ v', e = .returned v' ∧ OwnSl R k w' base T v' l ∧ w.grownBy w' v.ownBlock ∧ (v'.ownBlock = v.ownBlock ∨ ∃ g, v'.ownBlock = some g ∧ w.heap.size ≤ g)
end Go.Proofs.YtkphfdmelfhnoaaGreatDoor
