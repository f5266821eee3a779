/- Whether a dull note goes on with another one (the reference's). -/
import Derived.Test.YtkphfdmelfhnoaaGreatDoorPNoteMerge
import Derived.Test.YtkphfdmelfhnoaaGreatDoorPStreamSpec
set_option linter.all false
set_option linter.unnecessarySimpa false
set_option linter.unusedSimpArgs false
set_option linter.unusedVariables false
namespace Go.Proofs.YtkphfdmelfhnoaaGreatDoor
open Go.ChangeShapes Go.WideShapes Go.ChangeAt Go.RowKit
section
variable {P : Program} {t : TypeId} {b p : Nat} {bk : List BA} {K : List BA → Prop}
theorem storeQ_agg {cs : List AV} : storeQ P t (.bp b p) (.agg cs) bk K = (match tyK P t with
  | some (_, s) => okC (.agg cs) = true ∧ cs.length = s ∧ match findB b bk with
   | some (.box _ ds) => p + s ≤ ds.length ∧ K (replB b [.box b (setsL ds p cs)] bk)
   | some (.arr _ ds) => ∃ is, toIs cs = some is ∧ okAs cs ∧ p + s ≤ ds.length ∧ Hold (K (replB b [.arr b (setsL ds p is)] bk))
   | _ => False
  | none => False) := storeQ_bp
theorem storeQ_val {v : Value} : storeQ P t (.bp b p) (.val v) bk K = (match tyK P t with
  | some (_, s) => okC (.val v) = true ∧ [AV.val v].length = s ∧ match findB b bk with
   | some (.box _ ds) => p + s ≤ ds.length ∧ K (replB b [.box b (setsL ds p [.val v])] bk)
   | some (.arr _ ds) => ∃ is, toIs [.val v] = some is ∧ okAs [.val v] ∧ p + s ≤ ds.length ∧ Hold (K (replB b [.arr b (setsL ds p is)] bk))
   | _ => False
  | none => False) := storeQ_bp
theorem storeQ_iv {i : IV} : storeQ P t (.bp b p) (.iv i) bk K = (match tyK P t with
  | some (_, s) => okC (.iv i) = true ∧ [AV.iv i].length = s ∧ match findB b bk with
   | some (.box _ ds) => p + s ≤ ds.length ∧ K (replB b [.box b (setsL ds p [.iv i])] bk)
   | some (.arr _ ds) => ∃ is, toIs [.iv i] = some is ∧ okAs [.iv i] ∧ p + s ≤ ds.length ∧ Hold (K (replB b [.arr b (setsL ds p is)] bk))
   | _ => False
  | none => False) := storeQ_bp
theorem storeQ_own {r : Nat} : storeQ P t (.bp b p) (.own r) bk K = (match tyK P t with
  | some (_, s) => okC (.own r) = true ∧ [AV.own r].length = s ∧ match findB b bk with
   | some (.box _ ds) => p + s ≤ ds.length ∧ K (replB b [.box b (setsL ds p [.own r])] bk)
   | some (.arr _ ds) => ∃ is, toIs [.own r] = some is ∧ okAs [.own r] ∧ p + s ≤ ds.length ∧ Hold (K (replB b [.arr b (setsL ds p is)] bk))
   | _ => False
  | none => False) := storeQ_bp
end
section
variable {P : Program} {G : World → Prop} {ro : Option Nat} {V w0 : World} {n : Nd} {σ : AState} {K : Exit → AState → Prop}
theorem AW.adoptC {c : Code} (b j r e k : Nat) {cs : List AV} (hb : findB b σ.bk = some (.box b cs)) (hj : cs[j]? = some (.val (.slice none 0 0))) (hf : (offF r (r + 1) σ.fr && offB r (r + 1) σ.bk) = true) (h : AW P G ro V w0 n c ⟨σ.fr, .row r e k [] :: replB b [.box b (cs.set j (.own r))] σ.bk⟩ K) : AW P G ro V w0 n c σ K := fun hG m0 E a w hn hs => by
 rw [Bool.and_eq_true] at hf
 have hE : Env.same r (r + 1) E ⟨E.blk, fun x => if x = r then .slice none 0 0 else E.row x⟩ := fun x hx => by
  have : ¬ x = r := by omega
  simp [this]
 have ho : owns ⟨E.blk, fun x => if x = r then .slice none 0 0 else E.row x⟩ [.row r e k []] = [] := by simp [owns, BA.owned, Value.ownBlock]
 have hs2 := hs.add (E' := ⟨E.blk, fun x => if x = r then .slice none 0 0 else E.row x⟩) (nb := [.row r e k []]) (Below.refl _ w) hE hf.1 hf.2 (by rw [ho]; exact List.nodup_nil) (fun g hg => by rw [ho] at hg; cases hg) (fun x hx => by
  simp only [List.mem_singleton] at hx
  subst hx
  refine ⟨?_, fun g hg => by simp [Value.ownBlock] at hg⟩
  simp only [if_true]
  exact OwnSl.nil_ _ _ _)
 obtain ⟨pre, post, e1, e2, e3⟩ := findB_split hb
 obtain ⟨fr, bk⟩ := σ
 simp only at e1 e3 hs2 h
 have e4 := e3 [.box b (cs.set j (.own r))]
 subst e1
 rw [e4] at h
 have hs3 : St V w0 m0 ⟨E.blk, fun x => if x = r then .slice none 0 0 else E.row x⟩ ⟨fr, (.row r e k [] :: pre) ++ .box b cs :: post⟩ a w := by simpa using hs2
 have hs4 := hs3.rebox (cs' := cs.set j (.own r)) fun vs hv => ⟨by rw [hv.1, List.length_set], fun i v d h1 h2 => by
  rw [List.getElem?_set] at h2
  split at h2
  ·rename_i eij
   subst eij
   split at h2
   ·obtain rfl := Option.some.inj h2
    have := hv.2 j v _ h1 hj
    cases this
    exact .own (by simp)
   ·cases h2
  ·exact hv.2 i v d h1 h2⟩
 refine h hG m0 _ a w hn (by simpa using hs4)
end
attribute [local irreducible] AW AWY vops vopsY vop vopL vdraw callW qop binQ lenQ storeQ appendQ callQ ACalls AIter
attribute [local go_sem] noI_eq enN_eq noteA_eq storeQ_bp storeQ_rp
theorem rvcopyD (l : List Stamp) : ACalls Tryz.prog TzTab 57 [.iv (stI l)] (.iv (stI l)) [] := (rvcopy_call l).frz trivial
theorem rnsame_call (x : Note) : ACalls Tryz.prog TzTab 21 [noteA x, noteA x] (.val (.bool true)) [] :=
 bridge_val Tryz.func21 rfl (by kernel_rfl) fun V w E vs hV hG hr => by
  obtain ⟨v0, v1, rfl, h0, h1⟩ := args2 hr
  obtain ⟨n0, n1, n2, n3, rfl, H0⟩ := rep_note hV h0
  obtain ⟨m0, m1, m2, m3, rfl, H1⟩ := rep_note hV h1
  exact refNoteSameT x _ _ _ _ _ _ _ _ w H0 H1
theorem rall_call (l : List Note) : ACalls Tryz.prog TzTab 38 [.iv (noI l), .iv (noI l)] (.val (.bool true)) [] := by
 refine ACalls.of (n := 27) (rs := [.tmp 4]) Tryz.func38 rfl (by kernel_rfl) Tryz.ntmps38 (by kernel_rfl) (by simp) (fun _ _ => TzTab.later) ?_
 intro hok V w0
 have hlen : l.length ≤ 1073741824 := by simpa using hok.1.1
 refine g ?_
 refine g ?_
 repeat' refine st_ rfl (g ?_)
 refine AW.loop (fun m : {m : Nat // m ≤ l.length} => ⟨[(0, .iv (noI l)), (1, .iv (noI l)), (5, .val (.int .i64 (m.1 : Nat)))], []⟩) (fun m => l.length - m.1) ⟨0, Nat.zero_le _⟩ id ⟨⟨rfl, rfl, rfl, trivial⟩, trivial, List.nodup_nil⟩ fun ⟨m, hm⟩ => ?_
 refine g ?_
 repeat' (first | refine st_ rfl (g ?_) | refine cond_ (fun h => g ?_) (fun h => g ?_))
 ·have hlt : m < l.length := by simpa using h
  refine AW.drawn (ds := [17, 18, 19, 20, 21, 22, 23, 24, 25, 26]) (fin := []) (bs := [0, 0, 0, 0, 0, 0, 0, 0, 0, 0]) [⟨[], [], [], [], 0⟩, ⟨[], [], [], [], 0⟩, ⟨[(17, 0), (18, 1)], [], [], [], 0⟩, ⟨[(19, 2)], [], [], [], 0⟩, ⟨[], [], [], [], 0⟩, ⟨[], [], [], [], 0⟩, ⟨[(21, 4), (22, 5)], [], [], [], 0⟩, ⟨[(23, 6)], [], [], [], 0⟩, ⟨[(20, 3), (24, 7)], [], [], [], 0⟩, ⟨[(25, 8)], [], [], [], 0⟩] (by kernel_rfl) rfl (by kernel_rfl) rfl rfl rfl fun KD hKD => ?_
  refine g ?_
  refine ⟨by omega, _, get_map (List.getElem?_eq_getElem hlt), ?_⟩
  refine g ?_
  repeat' refine hold_ (g ?_)
  refine ⟨by omega, _, get_map (List.getElem?_eq_getElem hlt), ?_⟩
  refine g ?_
  repeat' refine hold_ (g ?_)
  refine call_ (rnsame_call l[m]) rfl ?_
  refine g ?_
  repeat' (refine hKD _ _ ⟨rfl, g ?_⟩; clear hKD KD)
  refine g ?_
  repeat' refine st_ rfl (g ?_)
  exact ⟨⟨m + 1, hlt⟩, id, ⟨⟨rfl, rfl, rfl, trivial⟩, trivial, List.nodup_nil⟩, by show l.length - (m + 1) < l.length - m; omega⟩
 ·exact ⟨.inl trivial, id, List.nodup_nil⟩
end Go.Proofs.YtkphfdmelfhnoaaGreatDoor
namespace Go.Proofs.YtkphfdmelfhnoaaGreatDoor
open Go.ChangeShapes Go.WideShapes Go.ChangeAt Go.RowKit
section
attribute [local irreducible] rowOf
theorem setI_len (f : Nat → Bool) : (setI f).length = 256 := by unfold setI; rw [List.length_map, Array.length_toList, setRow_size]
theorem setI_at {f : Nat → Bool} {o : Nat} (h : o < 256) : (setI f)[o]? = some (.val (.bool (f o))) := by
 unfold setI setRow
 rw [List.getElem?_map, Array.getElem?_toList, rowOf_at h]; rfl
end
attribute [local irreducible] setI c64I
theorem setI_congr {f g : Nat → Bool} (h : ∀ o, o < 256 → f o = g o) : setI f = setI g := List.ext_getElem? fun o => by
 by_cases ho : o < 256
 ·rw [setI_at ho, setI_at ho, h o ho]
 ·rw [List.getElem?_eq_none (by rw [setI_len]; omega), List.getElem?_eq_none (by rw [setI_len]; omega)]
theorem store_ar {P : Program} {t q s b : Nat} {cells C : List IV} {bk : List BA} {K : List BA → Prop} (ht : tyK P t = some (q, s)) (hs : C.length = s) (hb : findB b bk = some (.arr b cells)) (hl : cells.length = s) (hK : K (replB b [.arr b C] bk)) : storeQ P t (.bp b 0) (.aggI C) bk K := by
 rw [storeQ_bp, ht]
 refine ⟨rfl, by rw [cellsA_aggI, List.length_map]; exact hs, ?_⟩
 rw [hb]
 refine ⟨C, by rw [cellsA_aggI, toIs_map], by rw [cellsA_aggI]; exact okAs_map C, by omega, ?_⟩
 rw [setsL_all (by omega)]
 exact hold_ hK
attribute [local irreducible] AW AWY vops vopsY vop vopL vdraw callW qop binQ lenQ storeQ appendQ callQ ACalls AIter
attribute [local go_sem] wrI_eq enW_eq noteA_eq storeQ_agg storeQ_val storeQ_iv storeQ_own
def blurAt (x : Note) (it : List Span) (m : Nat) (o : Nat) : Bool := memB x.blur o || (unseenW it (x.writes.take m)).any fun p => decide (p = (o : Int))
theorem rsofD (f : Nat → Bool) : ACalls Tryz.prog TzTab 188 [.aggI (setI f)] (.iv (spI (ofSet f))) [] := (rsof_call f).frz trivial
end Go.Proofs.YtkphfdmelfhnoaaGreatDoor
namespace Go.Proofs.YtkphfdmelfhnoaaGreatDoor
open Go.ChangeShapes Go.WideShapes Go.ChangeAt Go.RowKit
attribute [local irreducible] AW AWY vops vopsY vop vopL vdraw callW qop binQ lenQ storeQ appendQ callQ ACalls AIter
attribute [local go_sem] wrI_eq noteA_eq storeQ_bp storeQ_rp
end Go.Proofs.YtkphfdmelfhnoaaGreatDoor
