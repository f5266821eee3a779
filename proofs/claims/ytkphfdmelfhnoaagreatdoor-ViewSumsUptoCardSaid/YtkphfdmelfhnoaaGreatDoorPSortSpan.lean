/- Contract of the sort of spans by their first objects. -/
import Derived.Test.YtkphfdmelfhnoaaGreatDoorPFlat
import Derived.Test.YtkphfdmelfhnoaaGreatDoorPRow
import Derived.Shelf.SlSortCmp.WholeK
import Derived.Test.YtkphfdmelfhnoaaGreatDoorRows
import Derived.Shelf.SlGeneric
import Derived.Ground.SlsfProg
import Derived.Test.YtkphfdmelfhnoaaGreatDoorPSpanSet
import Derived.Test.YtkphfdmelfhnoaaGreatDoorPTidyLaw
import Derived.Test.YtkphfdmelfhnoaaGreatDoorPArr
import Derived.Shelf.SlSortCmp.NoneTotal
set_option linter.all false
set_option linter.unnecessarySimpa false
set_option linter.unusedSimpArgs false
set_option linter.unusedVariables false
namespace Go.Proofs.YtkphfdmelfhnoaaGreatDoor
open Go.ChangeShapes Go.WideShapes Go.ChangeAt Go.RowKit Go.Sort
def EncR {β : Type} (enc : β → List Value) (cs : List Value) (x : β) : Prop := cs = enc x
section
variable {β : Type} {enc : β → List Value} {k : Nat}
theorem Chunks.of_at (hk : ∀ x, (enc x).length = k) : ∀ (l : List β) (xs : List Value), xs.length = l.length * k → (∀ i x, l[i]? = some x → ∀ j u, (enc x)[j]? = some u → xs[i * k + j]? = some u) → Chunks (EncR enc) k xs l
 | [], xs, h, _ => by
  have : xs = [] := List.eq_nil_of_length_eq_zero (by simpa using h)
  exact this
 | y :: l, xs, h, hall => by
  have hlen : xs.length = k + l.length * k := by rw [h, List.length_cons, Nat.add_mul]; omega
  have h0 : xs.take k = enc y := by
   apply List.ext_getElem?
   intro j
   rw [List.getElem?_take]
   split
   ·rename_i hj
    have hj2 : j < (enc y).length := by rw [hk]; exact hj
    rw [List.getElem?_eq_getElem hj2]
    have := hall 0 y rfl j _ (List.getElem?_eq_getElem hj2)
    simpa using this
   ·rw [List.getElem?_eq_none (by rw [hk]; omega)]
  refine ⟨enc y, xs.drop k, by rw [← h0, List.take_append_drop], hk y, rfl, Chunks.of_at hk l _ (by rw [List.length_drop]; omega) fun i x hx j u hu => ?_⟩
  have := hall (i + 1) x (by simpa using hx) j u hu
  rw [List.getElem?_drop, show k + (i * k + j) = (i + 1) * k + j by rw [Nat.add_mul]; omega]
  exact this
end
section
variable {β : Type} [Inhabited β] {enc : β → List Value} {k : Nat}
theorem flat_at (hk : ∀ x, (enc x).length = k) (d : Array β) {i : Nat} {x : β} (hx : d.toList[i]? = some x) {j : Nat} {u : Value} (hu : (enc x)[j]? = some u) : i * k + j < (flatK enc k d).size ∧ (flatK enc k d)[i * k + j]! = u := by
 have hi : i < d.size := by simpa using (List.getElem?_eq_some_iff.1 hx).1
 have hj : j < k := by rw [← hk x]; exact (List.getElem?_eq_some_iff.1 hu).1
 have hlt : i * k + j < d.size * k := by
  have : (i + 1) * k ≤ d.size * k := Nat.mul_le_mul_right k hi
  rw [Nat.add_mul] at this
  omega
 refine ⟨by rw [size_flatK]; exact hlt, ?_⟩
 have e1 : (i * k + j) / k = i := by rw [Nat.add_comm, Nat.add_mul_div_right _ _ (by omega), Nat.div_eq_of_lt hj]; omega
 have e2 : (i * k + j) % k = j := by rw [Nat.add_comm, Nat.add_mul_mod_self_right, Nat.mod_eq_of_lt hj]
 have hdx : d[i]! = x := by
  rw [getElem!_pos d i hi]
  have := (List.getElem?_eq_some_iff.1 hx).2
  simpa using this
 rw [get_flatK _ _ _ _ hlt, e1, e2, hdx]
 have hj2 := List.getElem?_eq_some_iff.1 hu
 rw [getElem!_pos _ j hj2.1]
 exact hj2.2
theorem holds_own (hk : ∀ x, (enc x).length = k) (hk0 : 0 < k) {w : World} {base : Nat} {T : TypeId} {g c : Nat} {l : List β} (h : OwnSl (EncR enc) k w base T (.slice (some ⟨g, 0, none⟩) l.length c) l) : HoldsK enc k w g 0 l.toArray := by
 intro t ht
 rw [size_flatK] at ht
 have hi : t / k < l.length := by
  rw [Nat.div_lt_iff_lt_mul hk0]
  simpa only [List.size_toArray] using ht
 have hx : l[t / k]? = some l[t / k] := List.getElem?_eq_getElem hi
 obtain ⟨cs, he, hcs, hat⟩ := OwnSl.at_ h hx
 have hm := Nat.mod_lt t hk0
 have hu : (enc l[t / k])[t % k]? = some (enc l[t / k])[t % k]! := by
  rw [List.getElem?_eq_getElem (by rw [hk]; exact hm), getElem!_pos _ _ (by rw [hk]; exact hm)]
 have hf := flat_at hk l.toArray (i := t / k) (x := l[t / k]) (by simpa using hx) hu
 have e : t / k * k + t % k = t := by rw [Nat.mul_comm]; exact Nat.div_add_mod t k
 rw [e] at hf
 refine ⟨?_, ?_⟩
 ·rw [hf.2, Nat.zero_add]
  have := hat (t % k) (enc l[t / k])[t % k]! (by rw [he]; exact hu)
  rw [e] at this
  exact this
 ·rw [Nat.zero_add]
  exact OwnSl.frozen h t
theorem sorted_own (hk : ∀ x, (enc x).length = k) {w : World} {base : Nat} {T : TypeId} {g c : Nat} {l : List β} (h : OwnSl (EncR enc) k w base T (.slice (some ⟨g, 0, none⟩) l.length c) l) (n : Nat) (d : Array β) (os : Array Obj) (hs : d.size = l.length) :
  OwnSl (EncR enc) k (sortWorldK enc k w g 0 n d os) base T (.slice (some ⟨g, 0, none⟩) l.length c) d.toList ∧ w.grownBy (sortWorldK enc k w g 0 n d os) (some g) := by
 obtain ⟨cur, _, hb, hB, hnc, hcm, hcs, hbig, hch⟩ := h.open_
 have hlt := hB.lt
 have hsz : (sortWorldK enc k w g 0 n d os).heap.size = w.heap.size + os.size := by simp [sortWorldK, putRowK, putRow, mapBlock, Sort.ahead]
 have hblk : ∀ i, i < w.heap.size → (sortWorldK enc k w g 0 n d os).heap[i]? = if g = i then (w.heap[i]?).map (onCells (putCells id 0 (flatK enc k d))) else w.heap[i]? := by
  intro i hi
  simp only [sortWorldK, putRowK, putRow, mapBlock, Sort.ahead, Sort.grow, Array.getElem?_append, Array.size_modify, hi, if_true, Array.getElem?_modify]
 refine ⟨?_, ⟨rfl, rfl, rfl, by rw [hsz]; omega, fun i hi hne => by rw [hblk i hi, if_neg (fun e => hne (by rw [e]))]⟩⟩
 have hB2 : Blk (sortWorldK enc k w g 0 n d os) g T (putCells id 0 (flatK enc k d) cur) := by
  unfold Blk
  rw [hblk g hlt, if_pos rfl, show w.heap[g]? = some (.cells cur T (0, 0)) from hB]
  rfl
 have hps : (putCells id 0 (flatK enc k d) cur).size = c * k := by rw [putCells, Array.size_mapIdx, hcs]
 have hdl : d.toList.length = l.length := by simpa using hs
 refine OwnSl.shut hb hB2 hdl.symm (by omega) hcm hps (by omega) ?_
 have hle : l.length * k ≤ c * k := Nat.mul_le_mul_right k hnc
 refine Chunks.of_at hk _ _ (by simp only [List.length_take, Array.length_toList]; rw [hps, hs]; exact Nat.min_eq_left hle) fun i x hx j u hu => ?_
 obtain ⟨f1, f2⟩ := flat_at hk d hx hu
 rw [size_flatK] at f1
 rw [List.getElem?_take, if_pos (by rw [hdl, ← hs]; exact f1), Array.getElem?_toList, putCells, Array.getElem?_mapIdx]
 have hcl : i * k + j < cur.size := by rw [hcs]; rw [hs] at f1; omega
 rw [Array.getElem?_eq_getElem hcl]
 simp only [Option.map_some, Nat.zero_le, true_and, Nat.zero_add, size_flatK, Nat.sub_zero, id]
 rw [if_pos f1, f2]
theorem perm_lists {d d' : Array β} (h : PermIn 0 d.size d d') : d'.toList.Perm d.toList ∧ d'.size = d.size := by
 obtain ⟨h1, _, h3⟩ := h
 refine ⟨?_, h1⟩
 have e1 : (d'.extract 0 d.size) = d' := by rw [← h1]; simp
 have e2 : (d.extract 0 d.size) = d := by simp
 rwa [e1, e2] at h3
theorem sorted_lists {lt : β → β → Bool} {d : Array β} (h : SortedIn lt 0 d.size d) : d.toList.Pairwise fun a b => lt b a = false := by
 rw [List.pairwise_iff_getElem]
 intro i j hi hj hij
 have hi' : i < d.size := by simpa using hi
 have hj' : j < d.size := by simpa using hj
 have := h i j (Nat.zero_le _) hij hj'
 rw [getElem!_pos d i hi', getElem!_pos d j hj'] at this
 simpa using this
end
end Go.Proofs.YtkphfdmelfhnoaaGreatDoor
namespace Go.Proofs.YtkphfdmelfhnoaaGreatDoor
open Go.Proofs Go.Shelf
def sortSpan_ren : Go.Shelf.Ren := ⟨fun | 6 => 230 | 15 => 246 | 14 => 250 | 28 => 261 | 29 => 262 | 20 => 264 | 21 => 265 | 22 => 266 | 23 => 267 | 24 => 268 | 25 => 269 | 26 => 270 | 27 => 271 | 46 => 278 | 47 => 274 | 48 => 275 | 49 => 279 | 50 => 280 | 57 => 283 | n => n, fun | 22 => 28 | 24 => 78 | 25 => 254 | 3 => 3 | 39 => 44 | 0 => 0 | 53 => 278 | 55 => 227 | 4 => 4 | 46 => 272 | 45 => 271 | 50 => 204 | 5 => 5 | 9 => 9 | 66 => 286 | 70 => 290 | 76 => 294 | 77 => 295 | n => n, fun | n => n⟩
theorem sortSpan : Go.Proofs.SlLaysF0.n6 Tryz.prog sortSpan_ren := {
 mixed := by kernel_rfl
 f6 := ⟨Tryz.f230.name, by decide, Tryz.func230.trans (congrArg some (by kernel_rfl))⟩
 f14 := ⟨Tryz.f250.name, by decide, Tryz.func250.trans (congrArg some (by kernel_rfl))⟩
 f15 := Tryz.func246.trans (congrArg some (by kernel_rfl))
 f20 := ⟨Tryz.f264.name, by decide, Tryz.func264.trans (congrArg some (by kernel_rfl))⟩
 f21 := ⟨Tryz.f265.name, by decide, Tryz.func265.trans (congrArg some (by kernel_rfl))⟩
 f22 := ⟨Tryz.f266.name, by decide, Tryz.func266.trans (congrArg some (by kernel_rfl))⟩
 f23 := ⟨Tryz.f267.name, by decide, Tryz.func267.trans (congrArg some (by kernel_rfl))⟩
 f24 := ⟨Tryz.f268.name, by decide, Tryz.func268.trans (congrArg some (by kernel_rfl))⟩
 f25 := ⟨Tryz.f269.name, by decide, Tryz.func269.trans (congrArg some (by kernel_rfl))⟩
 f26 := ⟨Tryz.f270.name, by decide, Tryz.func270.trans (congrArg some (by kernel_rfl))⟩
 f27 := ⟨Tryz.f271.name, by decide, Tryz.func271.trans (congrArg some (by kernel_rfl))⟩
 f28 := Tryz.func261.trans (congrArg some (by kernel_rfl))
 f29 := Tryz.func262.trans (congrArg some (by kernel_rfl))
 f46 := ⟨Tryz.f278.name, by decide, Tryz.func278.trans (congrArg some (by kernel_rfl))⟩
 f47 := Tryz.func274.trans (congrArg some (by kernel_rfl))
 f48 := Tryz.func275.trans (congrArg some (by kernel_rfl))
 f49 := ⟨Tryz.f279.name, by decide, Tryz.func279.trans (congrArg some (by kernel_rfl))⟩
 f50 := ⟨Tryz.f280.name, by decide, Tryz.func280.trans (congrArg some (by kernel_rfl))⟩
 f57 := ⟨Tryz.f283.name, by decide, Tryz.func283.trans (congrArg some (by kernel_rfl))⟩
 t0 := Tryz.underlying0
 a0 := Tryz.isAgg0
 z0 := Tryz.sizeOf0
 v0 := Tryz.zeroValue0
 t3 := Tryz.underlying3
 a3 := Tryz.isAgg3
 z3 := Tryz.sizeOf3
 v3 := Tryz.zeroValue3
 t4 := Tryz.underlying4
 a4 := Tryz.isAgg4
 z4 := Tryz.sizeOf4
 v4 := Tryz.zeroValue4
 t5 := Tryz.underlying5
 a5 := Tryz.isAgg5
 z5 := Tryz.sizeOf5
 v5 := Tryz.zeroValue5
 t9 := Tryz.underlying9
 a9 := Tryz.isAgg9
 z9 := Tryz.sizeOf9
 v9 := Tryz.zeroValue9
 t22 := Tryz.underlying28
 a22 := Tryz.isAgg28
 z22 := Tryz.sizeOf28
 v22 := Tryz.zeroValue28
 t25 := Tryz.underlying254
 a25 := Tryz.isAgg254
 z25 := Tryz.sizeOf254
 v25 := Tryz.zeroValue254
 t39 := Tryz.underlying44
 a39 := Tryz.isAgg44
 z39 := Tryz.sizeOf44
 v39 := Tryz.zeroValue44
 t45 := Tryz.underlying271
 a45 := Tryz.isAgg271
 z45 := Tryz.sizeOf271
 v45 := Tryz.zeroValue271
 t46 := Tryz.underlying272
 a46 := Tryz.isAgg272
 z46 := Tryz.sizeOf272
 v46 := Tryz.zeroValue272
 t50 := Tryz.underlying204
 a50 := Tryz.isAgg204
 z50 := Tryz.sizeOf204
 v50 := Tryz.zeroValue204
 t53 := Tryz.underlying278
 a53 := Tryz.isAgg278
 z53 := Tryz.sizeOf278
 v53 := Tryz.zeroValue278
 t55 := Tryz.underlying227
 a55 := Tryz.isAgg227
 z55 := Tryz.sizeOf227
 v55 := Tryz.zeroValue227
 t66 := Tryz.underlying286
 a66 := Tryz.isAgg286
 z66 := Tryz.sizeOf286
 v66 := Tryz.zeroValue286
 t70 := Tryz.underlying290
 a70 := Tryz.isAgg290
 z70 := Tryz.sizeOf290
 v70 := Tryz.zeroValue290
 t76 := Tryz.underlying294
 a76 := Tryz.isAgg294
 z76 := Tryz.sizeOf294
 v76 := Tryz.zeroValue294
 t77 := Tryz.underlying295
 a77 := Tryz.isAgg295
 z77 := Tryz.sizeOf295
 v77 := Tryz.zeroValue295 }
end Go.Proofs.YtkphfdmelfhnoaaGreatDoor
namespace Go.Proofs.YtkphfdmelfhnoaaGreatDoor
open Go.ChangeShapes Go.WideShapes Go.ChangeAt Go.RowKit Go.Sort Go.Shelf
theorem Chunks.mono_mem {α : Type} {R R' : List Value → α → Prop} {k : Nat} : ∀ {xs : List Value} {l : List α}, Chunks R k xs l → (∀ x ∈ l, ∀ cs, R cs x → R' cs x) → Chunks R' k xs l
 | _, [], h, _ => h
 | _, y :: _, ⟨cs, rest, e, hk, h1, h⟩, hR => ⟨cs, rest, e, hk, hR y (List.mem_cons_self ..) _ h1, h.mono_mem fun x hx => hR x (List.mem_cons_of_mem _ hx)⟩
theorem OwnSl.mono_mem {α : Type} {R R' : List Value → α → Prop} {k : Nat} {w : World} {base : Nat} {e : TypeId} {v : Value} {l : List α} (h : OwnSl R k w base e v l) (hR : ∀ x ∈ l, ∀ cs, R cs x → R' cs x) : OwnSl R' k w base e v l := by
 obtain ⟨xs, hown, hch, hbig⟩ := h
 exact ⟨xs, hown, hch.mono_mem hR, hbig⟩
instance : Inhabited Span := ⟨⟨0, 0⟩⟩
def encSpan (s : Span) : List Value := [.int .i64 s.lo, .int .i64 s.hi]
def cfSpan (a b : Span) : Int := cmpI a.lo b.lo
theorem ltSpan (a b : Span) : ltOf cfSpan a b = decide (a.lo < b.lo) := by
 unfold ltOf cfSpan
 rw [decide_eq_decide]
 exact cmpI_lt
theorem swoSpan : SWO (ltOf cfSpan) where
 irrefl x := by rw [ltSpan]; simp
 trans x y z h1 h2 := by rw [ltSpan] at *; simp at *; omega
 ntrans x y z h1 h2 := by rw [ltSpan] at *; simp at *; omega
theorem tidy1 (x y : Span) (W : World) : Calls Tryz.prog 231 #[.agg #[.int .i64 x.lo, .int .i64 x.hi], .agg #[.int .i64 y.lo, .int .i64 y.hi]] W fun e w' => e = .returned (.int .i64 (cfSpan x y)) ∧ ∃ q os', w' = grow (W.drewN q) os' := by
 have hC := fun W' => cmpCompare x.lo y.lo W'
 unfold cfSpan
 generalize cmpI x.lo y.lo = r at hC ⊢
 go_enter Tryz.func231, Tryz.ntmps231
 go_wp2_with fail
 refine BW.same (hC _) ?_
 go_wp2_with fail
 go_ret
 exact ⟨rfl, 0, _, by rw [alloc_eq_grow, alloc_eq_grow, grow_grow]; rfl⟩
theorem sortSpans (d : List Span) (v : Value) (w : World) (base : Nat) (h : OwnSl SpanR 2 w base 78 v d) :
  Calls Tryz.prog 230 #[v, .func (.func 231) #[] #[]] w fun e w' => e = .returned (.tuple #[]) ∧ (∃ d', d'.Perm d ∧ d'.Pairwise (fun a b => a.lo ≤ b.lo) ∧ OwnSl SpanR 2 w' base 78 v d') ∧ w.grownBy w' v.ownBlock := by
 rcases h.forms with ⟨rfl, rfl⟩ | ⟨g, c, rfl, hg1, hg2⟩
 ·have := AnyF.slices_SortFunc_none (P := Tryz.prog) (ρ := sortSpan_ren) { sortSpan with } none 0 (.func (.func 231) #[] #[]) w
  refine Calls.mono this ?_
  rintro e w' ⟨rfl, rfl⟩
  exact ⟨rfl, ⟨[], List.Perm.refl _, List.Pairwise.nil, h⟩, World.grownBy.refl _ _⟩
 ·have hbig : d.length ≤ 1073741824 := by obtain ⟨_, _, _, hb⟩ := h; exact hb
  have hI : ∀ x ∈ d, I64 x.lo ∧ I64 x.hi := fun x hx => by
   obtain ⟨i, hi⟩ := List.mem_iff_getElem?.1 hx
   obtain ⟨cs, ⟨_, i1, i2⟩, _⟩ := OwnSl.at_ h hi
   exact ⟨i1, i2⟩
  have hE : OwnSl (EncR encSpan) 2 w base 78 (.slice (some ⟨g, 0, none⟩) d.length c) d := h.mono fun cs x hx => hx.1
  have hH := holds_own (k := 2) (fun _ => rfl) (by decide) hE
  have hcon := AnyQ.slices_SortFunc (P := Tryz.prog) (ρ := sortSpan_ren) sortSpan 2 Tryz.isAgg78 Tryz.sizeOf78 encSpan (fun _ => rfl)
   (fun x v hv => by simp [encSpan] at hv; rcases hv with rfl | rfl <;> rfl) cfSpan swoSpan 231 #[] g 0 c d.toArray w (enters_of Tryz.func231 (by kernel_rfl) rfl)
   (fun _ _ _ _ x y => tidy1 x y _) hH hg2 (by simp only [List.size_toArray]; omega)
  refine Calls.mono hcon ?_
  rintro e w' ⟨rfl, d', n, os, hp, hs, rfl⟩
  obtain ⟨p1, p2⟩ := perm_lists hp
  have hsz : d'.size = d.length := by simpa using p2
  obtain ⟨o1, o2⟩ := sorted_own (k := 2) (enc := encSpan) (fun _ => rfl) hE n d' os hsz
  refine ⟨rfl, ⟨d'.toList, by simpa using p1, ?_, o1.mono_mem fun x hx cs hc => ?_⟩, o2⟩
  ·have hs2 : SortedIn (ltOf cfSpan) 0 d'.size d' := by rw [p2]; exact hs
   refine (sorted_lists hs2).imp ?_
   intro a b hab
   rw [ltSpan, decide_eq_false_iff_not] at hab
   omega
  ·have := hI x (by have := p1.mem_iff.1 hx; simpa using this)
   exact ⟨hc, this.1, this.2⟩
end Go.Proofs.YtkphfdmelfhnoaaGreatDoor
