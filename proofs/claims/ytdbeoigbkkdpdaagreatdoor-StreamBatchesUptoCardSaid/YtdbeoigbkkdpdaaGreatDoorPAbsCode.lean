/- Regions, branches, loops and whole functions over abstract states. No program is known here. -/
import Derived.Test.YtdbeoigbkkdpdaaGreatDoorPAbsSnd5
set_option linter.all false
set_option linter.unnecessarySimpa false
set_option linter.unusedSimpArgs false
set_option linter.unusedVariables false
/- Operations that turn a block of one's own: stores, appends. No program is known here. -/
namespace Go.Proofs.YtdbeoigbkkdpdaaGreatDoor
open Go.ChangeShapes Go.WideShapes Go.ChangeAt Go.RowKit

section
variable {V w0 : World} {n : Fm} {E : Env} {fr : List (Nat × AV)} {pre mid post : List BA} {a : Act} {w w' : World}
theorem swap_ext {E' : Env} {nb : List BA} (hlt : ∀ g ∈ owns E (pre ++ (mid ++ post)), g < w.heap.size) (hg : ∀ g, g ∉ owns E mid → g < w.heap.size → w'.heap[g]? = w.heap[g]?) (hs : w.heap.size ≤ w'.heap.size) (hnew : ∀ g ∈ owns E' nb, g ∈ owns E mid ∨ w.heap.size ≤ g) :
    Ext (vis V w0 w (owns E (pre ++ (mid ++ post)))) (vis V w0 w' (owns E' nb ++ owns E (pre ++ post))) :=
  vis_ext hs fun p u _ h2 h3 h4 => by
    simp only [owns_append, List.mem_append, not_or] at h3
    refine ⟨fun hm => ?_, by rw [World.cell?_of_block (hg p.block h3.2.1 h2)]; exact h4⟩
    simp only [owns_append, List.mem_append] at hm
    rcases hm with hm | hm | hm
    · rcases hnew _ hm with hm | hm
      · exact h3.2.1 hm
      · omega
    · exact h3.1 hm
    · exact h3.2.2 hm
theorem St.swap {lo hi : Nat} {E' : Env} {nb : List BA} (h : St V w0 n E ⟨fr, pre ++ (mid ++ post)⟩ a w) (hg : ∀ g, g ∉ owns E mid → g < w.heap.size → w'.heap[g]? = w.heap[g]?) (hs : w.heap.size ≤ w'.heap.size) (hlow : Below w0.heap.size w0 w')
    (hE : Env.same lo hi E E') (h1 : offF lo hi fr = true) (h2 : offB lo hi (pre ++ post) = true) (hnd : (owns E' nb).Nodup) (hnew : ∀ g ∈ owns E' nb, g ∈ owns E mid ∨ w.heap.size ≤ g)
    (hh : ∀ b ∈ nb, b.holds E' (vis V w0 w' (owns E' nb ++ owns E (pre ++ post))) w' w0.heap.size) : St V w0 n E' ⟨fr, nb ++ (pre ++ post)⟩ a w' := by
  have hlt := h.lt
  have hap := h.apart
  have hx := swap_ext (V := V) (w0 := w0) (E' := E') (nb := nb) hlt hg hs hnew
  have ho : owns E' (nb ++ (pre ++ post)) = owns E' nb ++ owns E (pre ++ post) := by rw [owns_append, owns_same hE h2]
  have hdis : ∀ g ∈ owns E mid, g ∉ owns E (pre ++ post) := by
    intro g hm hp
    simp only [owns_append] at hap hp
    obtain ⟨_, a2, a3⟩ := List.nodup_append.1 hap
    obtain ⟨_, _, a4⟩ := List.nodup_append.1 a2
    rcases List.mem_append.1 hp with hp | hp
    · exact a3 g hp g (List.mem_append_left _ hm) rfl
    · exact a4 g hm g hp rfl
  have hsub : ∀ g ∈ owns E (pre ++ post), g ∈ owns E (pre ++ (mid ++ post)) := by
    intro g hp
    simp only [owns_append, List.mem_append] at hp ⊢
    rcases hp with hp | hp
    · exact .inl hp
    · exact .inr (.inr hp)
  refine ⟨h.ext, hlow, ?_, ?_, ?_, ?_, h.size, h.defers, Nat.le_trans h.hold.1 hs, fun g o hg1 => ?hold⟩
  case hold =>
    obtain ⟨q1, q2⟩ := h.hold.2 g o hg1
    have hl := (Array.getElem?_eq_some_iff.1 q1).1
    refine ⟨(hg g (fun hm => q2 (by simp only [owns_append, List.mem_append]; exact .inr (.inl hm))) hl).trans q1, fun hm => ?_⟩
    rw [ho] at hm
    rcases List.mem_append.1 hm with hm | hm
    · rcases hnew _ hm with hm | hm
      · exact q2 (by simp only [owns_append, List.mem_append]; exact .inr (.inl hm))
      · omega
    · exact q2 (hsub _ hm)
  · rw [ho]
    refine List.nodup_append.2 ⟨hnd, ?_, fun g hg1 g' hg2 e => ?_⟩
    · simp only [owns_append] at hap ⊢
      exact hap.sublist ((List.Sublist.refl _).append (List.sublist_append_right _ _))
    · subst e
      rcases hnew _ hg1 with hm | hm
      · exact hdis _ hm hg2
      · have := hlt _ (hsub _ hg2); omega
  · intro g hg1
    rw [ho] at hg1
    rcases List.mem_append.1 hg1 with hm | hm
    · rcases hnew _ hm with hm | hm
      · exact h.base _ (by simp only [owns_append, List.mem_append]; exact .inr (.inl hm))
      · have := h.low.size; omega
    · exact h.base _ (hsub _ hm)
  · intro b hb
    simp only [ho]
    rcases List.mem_append.1 hb with hb | hb
    · exact hh b hb
    · have hb2 : b ∈ pre ++ (mid ++ post) := by
        simp only [List.mem_append] at hb ⊢
        rcases hb with hb | hb
        · exact .inl hb
        · exact .inr (.inr hb)
      exact BA.holds_ext hE hx (fun g hg1 => hg g (fun hm => hdis g hm (mem_owns.2 ⟨b, hb, hg1⟩)) (hlt g (mem_owns.2 ⟨b, hb2, hg1⟩))) (offB_mem h2 b hb) (h.holds b hb2)
  · intro i
    simp only [ho]
    exact (h.slots i).ext hE hx (offF_look h1 i)

theorem vis_setCell {gs : List Nat} {p : Addr} {u : Value} (hp : p.block ∈ gs) : Ext (vis V w0 w gs) (vis V w0 (w.setCell p u) gs) :=
  vis_ext (by simp) fun q v _ _ h3 h4 => ⟨h3, by
    rw [World.cell?_of_block (Below.heap_setCell w p u q.block (fun e => h3 (e ▸ hp)))]
    exact h4⟩
theorem St.sets_box {b : Nat} : ∀ (vs : List Value) (ds : List AV) (cs : List AV) (o : Nat) (w : World), St V w0 n E ⟨fr, pre ++ .box b cs :: post⟩ a w → RepAs E (vis V w0 w (owns E (pre ++ .box b cs :: post))) vs ds →
    St V w0 n E ⟨fr, pre ++ .box b (setsL cs o ds) :: post⟩ a (w.setCells (E.blk b) o vs)
  | [], ds, cs, o, w, h, hr => by
    cases ds with
    | nil => exact h
    | cons d ds => exact absurd hr.1 (by simp)
  | v :: vs, [], cs, o, w, h, hr => absurd hr.1 (by simp)
  | v :: vs, d :: ds, cs, o, w, h, hr => by
    obtain ⟨v', vs', e, h1, h2⟩ := RepAs.cons_iff.1 hr
    injection e with e1 e2
    subst e1 e2
    refine St.sets_box vs ds (cs.set o d) (o + 1) _ (h.set_box o h1) ?_
    have e : owns E (pre ++ .box b (cs.set o d) :: post) = owns E (pre ++ .box b cs :: post) := by simp [owns_append, owns, BA.owned]
    rw [e]
    exact h2.mono (vis_setCell (by simp [owns_append, owns, BA.owned]))
theorem St.sets_arr {b : Nat} : ∀ (vs : List Value) (ds : List IV) (cs : List IV) (o : Nat) (w : World), St V w0 n E ⟨fr, pre ++ .arr b cs :: post⟩ a w → RepVs (vis V w0 w (owns E (pre ++ .arr b cs :: post))) vs ds →
    St V w0 n E ⟨fr, pre ++ .arr b (setsL cs o ds) :: post⟩ a (w.setCells (E.blk b) o vs)
  | [], [], cs, o, w, h, hr => h
  | v :: vs, d :: ds, cs, o, w, h, hr => by
    refine St.sets_arr vs ds (cs.set o d) (o + 1) _ (h.set_arr o hr.1) ?_
    have e : owns E (pre ++ .arr b (cs.set o d) :: post) = owns E (pre ++ .arr b cs :: post) := by simp [owns_append, owns, BA.owned]
    rw [e]
    exact RepVs.ext (vis_setCell (by simp [owns_append, owns, BA.owned])) hr.2
  | [], _ :: _, _, _, _, _, hr => hr.elim
  | _ :: _, [], _, _, _, _, hr => hr.elim
theorem St.sets_row {b e k i : Nat} : ∀ (vs : List Value) (ds : List IV) (l : List (List IV)) (x : List IV) (j : Nat) (w : World), St V w0 n E ⟨fr, pre ++ .row b e k l :: post⟩ a w → RepVs (vis V w0 w (owns E (pre ++ .row b e k l :: post))) vs ds → l[i]? = some x → j + vs.length ≤ k →
    St V w0 n E ⟨fr, pre ++ .row b e k (l.set i (setsL x j ds)) :: post⟩ a (w.setCells (E.blk b) (i * k + j) vs)
  | [], [], l, x, j, w, h, hr, hi, hj => by
    have : l.set i x = l := by
      obtain ⟨h1, h2⟩ := List.getElem?_eq_some_iff.1 hi
      subst h2; exact List.set_getElem_self h1
    simp only [setsL, this]
    exact h
  | v :: vs, d :: ds, l, x, j, w, h, hr, hi, hj => by
    simp only [List.length_cons] at hj
    have hil := (List.getElem?_eq_some_iff.1 hi).1
    have h1 := h.set_row hi (j := j) (by omega) hr.1
    have eo : owns E (pre ++ .row b e k (l.set i (x.set j d)) :: post) = owns E (pre ++ .row b e k l :: post) := by simp [owns_append, owns, BA.owned]
    have hm : E.blk b ∈ owns E (pre ++ .row b e k l :: post) := by
      obtain ⟨hO, hB⟩ := h.holds (.row b e k l) (by simp)
      rcases hO.forms with ⟨_, hl⟩ | ⟨g, cc, hg, _⟩
      · rw [hl] at hi; simp at hi
      · refine mem_owns.2 ⟨.row b e k l, by simp, ?_⟩
        have := hB g (by rw [hg]; rfl)
        subst this
        simp [BA.owned, hg, Value.ownBlock]
    have h2 := St.sets_row (i := i) vs ds (l.set i (x.set j d)) (x.set j d) (j + 1) _ h1 (by rw [eo]; exact RepVs.ext (vis_setCell hm) hr.2) (by simp [hil]) (by omega)
    rw [List.set_set] at h2
    exact h2
  | [], _ :: _, _, _, _, _, _, hr, _, _ => hr.elim
  | _ :: _, [], _, _, _, _, _, hr, _, _ => hr.elim

/-- what may be stored at a place, and what the blocks are then -/
def storeQ (P : Program) (t : TypeId) (x y : AV) (bk : List BA) (K : List BA → Prop) : Prop :=
  match tyK P t with
  | some (_, s) => okC y = true ∧ (cellsA y).length = s ∧ match x with
    | .bp b p => match findB b bk with
      | some (.box _ cs) => p + s ≤ cs.length ∧ K (replB b [.box b (setsL cs p (cellsA y))] bk)
      | some (.arr _ cs) => ∃ is, toIs (cellsA y) = some is ∧ okAs (cellsA y) ∧ p + s ≤ cs.length ∧ K (replB b [.arr b (setsL cs p is)] bk)
      | _ => False
    | .rp b k i j => match findB b bk with
      | some (.row _ e k' l) => k' = k ∧ ∃ is cs, toIs (cellsA y) = some is ∧ okAs (cellsA y) ∧ l[i]? = some cs ∧ j + s ≤ k ∧ K (replB b [.row b e k (l.set i (setsL cs j is))] bk)
      | _ => False
    | _ => False
  | none => False
/-- of the blocks bk it makes bk', whatever else (F) is one's own; its value reads as r -/
def UpdS (P : Program) (G : World → Prop) (o : Oper) (L : Operand → AV) (bk : List BA) (r : AV) (bk' : List BA) : Prop :=
  ∀ (V w0 : World) (n : Fm) (E : Env) (a : Act) (w : World) (fr : List (Nat × AV)) (F : List BA), St V w0 n E ⟨fr, bk ++ F⟩ a w → (∀ x, RepA E (vis V w0 w (owns E (bk ++ F))) (a.eval x) (L x)) →
    (makes o = true → offF (cid o.dst) (cid o.dst + 100) fr = true ∧ offB (cid o.dst) (cid o.dst + 100) (bk ++ F) = true) → G w → ∀ (N : Act → World → Prop) (Q : Exit → Act → World → Prop),
    (∀ v w' E', St V w0 n E' ⟨fr, bk' ++ F⟩ a w' → RepA E' (vis V w0 w' (owns E' (bk' ++ F))) v r → N (a.put o.dst v) w') → ∀ ro, o.wpIn (FW ro) 0 P a w N Q
/-- an operation that may turn blocks of one's own -/
def Upd (P : Program) (G : World → Prop) (o : Oper) (L : Operand → AV) (bk : List BA) (K : AV → List BA → Prop) : Prop := ∃ r bk', K r bk' ∧ UpdS P G o L bk r bk'
end
section
variable {P : Program} {G : World → Prop} {L : Operand → AV} {bk : List BA} {K : AV → List BA → Prop}
variable {dst : Option Tmp} {ty : TypeId} {pos : String} {after : Array Edge} {gd : Option (Nat × Bool)}
theorem e_store {t : TypeId} {x y : Operand} (h : storeQ P t (L x) (L y) bk fun bk' => K .any bk') : Upd P G ⟨dst, .store t x y, ty, pos, after, gd⟩ L bk K := by
  unfold storeQ at h
  split at h
  case h_2 => exact h.elim
  rename_i q s ht
  obtain ⟨hok, hlen, h⟩ := h
  -- the run, from the cells that lie there
  have run : ∀ {a : Act} {w : World} {v : Value} {g p : Nat} {e : TypeId} {C : Array Value}, a.eval x = .pointer (some ⟨g, p, none⟩) → a.eval y = v → v.cells.toList.length = s → (∀ u ∈ v.cells.toList, u.oneCell' = true) → Blk w g e C → p + s ≤ C.size →
      (execOp a.eval ⟨dst, .store t x y, ty, pos, after, gd⟩).run P w = .ok .skip (w.setCells g p v.cells.toList) := fun {a w v g p e C} h1 h2 h3 h4 h5 h6 => by
    obtain ⟨_, hz⟩ := tyK_run (w := w) ht
    have hst := run_storeCells_cells (P := P) g p v.cells.toList 0 w (fun j hj => by
      rw [h5.cell, Array.getElem?_eq_getElem (by omega)]; rfl) (fun j _ => h5.frozen _) h4
    have h3' : v.cells.size = s := by simpa using h3
    simp only [Nat.add_zero] at hst
    simp only [execOp, h1, h2, Instr.storeAt, Instr.sureAddr, storeVar]
    simp [hz, h3', hst]
  split at h
  · rename_i b p hx
    split at h
    · rename_i b' cs hb
      obtain ⟨hp, hK⟩ := h
      refine ⟨_, _, hK, fun V w0 n E a w fr F hs hL _ _ N Q hN ro => wp_wpIn (fun _ h => by cases h) ?_⟩
      obtain ⟨pre, post, e1, e2, e3⟩ := findB_split hb
      obtain rfl : b' = b := e2
      subst e1
      simp only [List.append_assoc, List.cons_append] at hs hL hN
      obtain ⟨C, et, hB, hC⟩ := hs.holds (.box b' cs) (by simp)
      have hxv := hL x
      rw [hx] at hxv
      obtain ⟨hyc, hy1⟩ := (hL y).cells hok
      generalize hxe : a.eval x = u at hxv
      cases hxv
      have hl2 : (a.eval y).cells.toList.length = s := by rw [hyc.1]; exact hlen
      unfold Oper.wp
      rw [run hxe rfl hl2 hy1 hB (by have := hC.1; simp at this; omega), Oper.upon_skip]
      have := St.sets_box (a.eval y).cells.toList (cellsA (L y)) cs p w hs hyc
      exact hN _ _ E (by rw [e3]; simpa using this) .any
    · rename_i b' cs hb
      obtain ⟨is, hi, ho, hp, hK⟩ := h
      refine ⟨_, _, hK, fun V w0 n E a w fr F hs hL _ _ N Q hN ro => wp_wpIn (fun _ h => by cases h) ?_⟩
      obtain ⟨pre, post, e1, e2, e3⟩ := findB_split hb
      obtain rfl : b' = b := e2
      subst e1
      simp only [List.append_assoc, List.cons_append] at hs hL hN
      obtain ⟨C, et, hB, hC⟩ := hs.holds (.arr b' cs) (by simp)
      have hxv := hL x
      rw [hx] at hxv
      obtain ⟨hyc, hy1⟩ := (hL y).cells hok
      have hyi := RepAs.toIs hyc hi ho
      generalize hxe : a.eval x = u at hxv
      cases hxv
      have hl2 : (a.eval y).cells.toList.length = s := by rw [hyc.1]; exact hlen
      unfold Oper.wp
      rw [run hxe rfl hl2 hy1 hB (by have := hC.len; simp at this; omega), Oper.upon_skip]
      have := St.sets_arr (a.eval y).cells.toList is cs p w hs hyi
      exact hN _ _ E (by rw [e3]; simpa using this) .any
    · exact h.elim
  · rename_i b k i j hx
    split at h
    · rename_i b' e k' l hb
      obtain ⟨rfl, is, cs, hi, ho, hcs, hj, hK⟩ := h
      refine ⟨_, _, hK, fun V w0 n E a w fr F hs hL _ _ N Q hN ro => wp_wpIn (fun _ h => by cases h) ?_⟩
      obtain ⟨pre, post, e1, e2, e3⟩ := findB_split hb
      obtain rfl : b' = b := e2
      subst e1
      simp only [List.append_assoc, List.cons_append] at hs hL hN
      obtain ⟨hO, hBk⟩ := hs.holds (.row b' e k' l) (by simp)
      have hxv := hL x
      rw [hx] at hxv
      obtain ⟨hyc, hy1⟩ := (hL y).cells hok
      have hyi := RepAs.toIs hyc hi ho
      generalize hxe : a.eval x = u at hxv
      cases hxv
      have hl2 : (a.eval y).cells.toList.length = s := by rw [hyc.1]; exact hlen
      obtain ⟨xs, ⟨h3, h4⟩, h5, h6⟩ := hO
      have hil := (List.getElem?_eq_some_iff.1 hcs).1
      rcases h4 with ⟨_, e0⟩ | ⟨g, cap, cur, hg, hg1, hg2, hg3, hg4, hg5, hg6⟩
      · rw [List.length_eq_zero_iff] at e0; rw [e0] at hcs; simp at hcs
      · have hgb : g = E.blk b' := hBk g (by rw [hg]; rfl)
        subst hgb
        have hB : Blk w (E.blk b') e cur := hg2
        have hik : i * k' + j + s ≤ cur.size := by
          rw [hg5]
          have : (i + 1) * k' ≤ cap * k' := Nat.mul_le_mul_right k' (by omega)
          rw [Nat.add_mul] at this
          omega
        unfold Oper.wp
        rw [run hxe rfl hl2 hy1 hB hik, Oper.upon_skip]
        have := St.sets_row (i := i) (a.eval y).cells.toList is l cs j w hs hyi hcs (by rw [hl2]; exact hj)
        exact hN _ _ E (by rw [e3]; simpa using this) .any
    · exact h.elim
  · exact h.elim
end
end Go.Proofs.YtdbeoigbkkdpdaaGreatDoor
/- Appends to rows of one's own. No program is known here. -/
namespace Go.Proofs.YtdbeoigbkkdpdaaGreatDoor
open Go.ChangeShapes Go.WideShapes Go.ChangeAt Go.RowKit

section
variable {P : Program} {w : World}
/-- 'append(own, other...)', run -/
theorem run_append_slE {α : Type} {R : List Value → α → Prop} {size : Nat} (h1 : ∀ cs x, R cs x → ∀ u ∈ cs, u.oneCell' = true) (ty t : TypeId)
    (base : Nat) (e : TypeId) (i : TypeInfo) (z : Value) (bytes : Nat) (ht : P.underlying t = some (.slice e)) (hi : P.info? e = some i) (hz : i.zero = some z)
    (hsize : i.size = size) (hby : i.bytes = bytes) (hzs : z.cells.size = size) (hsz : 0 < size)
    (v : Value) (l : List α) (hown : OwnSl R size w base e v l) (B : Nat) (v2 : Value) (m : List α) (hr : Sl R size w B v2 m)
    (hbig : l.length + m.length ≤ 1073741824) (hbb : bytes ≤ 131072) (hbase : base ≤ w.heap.size) :
    ∃ v' w', (Builtin.append_ #[t, t] ty #[v, v2]).run P w = .ok v' w' ∧ OwnSl R size w' base e v' (l ++ m) ∧ w.grownBy w' v.ownBlock ∧ (v'.ownBlock = v.ownBlock ∨ v'.ownBlock = some w.heap.size) := by
  have h63 : l.length + m.length ≤ maxLen := by unfold maxLen; omega
  have hbytes : (l.length + m.length) * bytes ≤ 140737488355328 := by
    have := Nat.mul_le_mul hbig hbb
    omega
  obtain ⟨xs, hown1, hch, _⟩ := hown
  obtain ⟨A, c, ys, rfl, hch2, hcell⟩ := hr.cells
  rcases hA : A with _ | ad
  · have hm : m = [] := by
      rcases m with _ | ⟨y, m⟩
      · rfl
      · obtain ⟨b, off, h, _⟩ := hcell (by simp)
        rw [hA] at h
        cases h
    subst hm
    exact ⟨v, w, run_append_of_nil w base t ty e i size ht hi v _ xs hown1 _ c rfl, ⟨xs, by simpa using hown1, by simpa using hch, by simpa using hbig⟩, World.grownBy.refl w _, .inl rfl⟩
  · have hcells : ∀ j u, ys[j]? = some u → w.cell? (ad.add j) = some u := by
      intro j u hu
      rcases m with _ | ⟨y, m⟩
      · cases hch2
        simp at hu
      · obtain ⟨b, off, h, _, hc⟩ := hcell (by simp)
        rw [hA] at h
        injection h with h
        subst h
        rw [add_at]
        exact hc j u hu
    obtain ⟨v', w', hrun, h2, h3, _, h5⟩ := run_append_own_at (P := P) w base t ty e i z size bytes ht hi hz hsize hby hzs hsz v _ xs hown1 ad _ c ys hch2.length hcells (hch2.one_cell h1) h63 hbytes hbase
    exact ⟨v', w', hrun, ⟨_, by simpa using h2, hch.append hch2, by simpa using hbig⟩, h3, h5⟩
end

/-- what is appended, read -/
def srcQ (bk : List BA) (k : Nat) : AV → Option (List (List IV))
  | .iv (.sl k' m) => if k' = k then some m else none
  | .own b => match findB b bk with
    | some (.row _ _ k' m) => if k' = k then some m else none
    | _ => none
  | .val (.slice none 0 0) => some []
  | _ => none
def appendQ (P : Program) (t : TypeId) (x y : AV) (c : Nat) (bk : List BA) (K : AV → List BA → Prop) : Prop :=
  match tySl P t with
  | some (e, k, yb) => 0 < k ∧ yb ≤ 131072 ∧ (tyZ P e).map (fun z => z.2.length) = some k ∧ match nrm x, srcQ bk k (nrm y) with
    | .own b, some m => match findB b bk with
      | some (.row _ e' k' l) => e' = e ∧ k' = k ∧ l.length + m.length ≤ 1073741824 ∧ K (.own c) (.row c e k (l ++ m) :: replB b [] bk)
      | _ => False
    | .val (.slice none 0 0), some m => m.length ≤ 1073741824 ∧ K (.own c) (.row c e k m :: bk)
    | _, _ => False
  | none => False
section
variable {P : Program} {G : World → Prop} {L : Operand → AV} {bk : List BA} {K : AV → List BA → Prop}
variable {dst : Option Tmp} {ty : TypeId} {pos : String} {after : Array Edge} {gd : Option (Nat × Bool)}
theorem zero_size {t k : TypeId} {e y : Nat} (h : tySl P t = some (e, k, y)) (hz : (tyZ P e).map (fun z => z.2.length) = some k) : ∃ i z, P.info? e = some i ∧ i.zero = some z ∧ i.size = k ∧ i.bytes = y ∧ z.cells.size = k := by
  obtain ⟨_, i, h1, h2, h3⟩ := tySl_run h
  obtain ⟨⟨q, zs⟩, hq, hl⟩ := Option.map_eq_some_iff.1 hz
  unfold tyZ at hq
  split at hq
  · rename_i k' s' z hk hz'
    simp only [Option.some.injEq, Prod.mk.injEq] at hq
    obtain ⟨rfl, rfl⟩ := hq
    obtain ⟨i', hi', hz'⟩ := Option.bind_eq_some_iff.1 hz'
    rw [h1] at hi'
    obtain rfl := Option.some.inj hi'
    exact ⟨i, z, h1, hz', h2, h3, by simpa using hl⟩
  · cases hq
theorem srcQ_sl {V w0 : World} {n : Fm} {E : Env} {a : Act} {w : World} {fr : List (Nat × AV)} {F : List BA} (hs : St V w0 n E ⟨fr, bk ++ F⟩ a w) {k : Nat} {y : AV} {m : List (List IV)} {v : Value} (h : srcQ bk k y = some m) (hv : RepA E (vis V w0 w (owns E (bk ++ F))) v y) : Sl (RepVs (vis V w0 w (owns E (bk ++ F)))) k w w.heap.size v m := by
  unfold srcQ at h
  split at h
  · rename_i k' m'
    split at h
    · rename_i e
      obtain rfl := Option.some.inj h
      subst e
      cases hv with
      | iv hr => exact (hr.to_sl).ext (fun _ _ h => h) hs.in_
    · cases h
  · rename_i b
    split at h
    · rename_i b' e k' m' hb
      split at h
      · rename_i ek
        obtain rfl := Option.some.inj h
        subst ek
        obtain ⟨q1, q2⟩ := findB_mem hb
        obtain rfl : b' = b := q2
        obtain ⟨q3, _⟩ := hs.holds _ (List.mem_append_left _ q1)
        cases hv with
        | own he => rw [he] at q3; exact q3.sl
      · cases h
    · cases h
  · obtain rfl := Option.some.inj h
    cases hv
    exact Sl.nil_ (by unfold maxLen; omega) _
  · cases h
theorem e_append {t : TypeId} {x y : Operand} (h : appendQ P t (L x) (L y) (cid dst) bk K) : Upd P G ⟨dst, .call { callee := .builtin .append, args := #[x, y], argTypes := #[t, t] }, ty, pos, after, gd⟩ L bk K := by
  unfold appendQ at h
  split at h
  case h_2 => exact h.elim
  rename_i e k yb ht
  obtain ⟨hk, hyb, hzs, h⟩ := h
  obtain ⟨inf, z, i1, i2, i3, i4, i5⟩ := zero_size ht hzs
  obtain ⟨hu, _⟩ := tySl_run ht
  have exec : ∀ {a : Act} {w : World} {v v2 v' : Value} {w' : World}, a.eval x = v → a.eval y = v2 → (Builtin.append_ #[t, t] ty #[v, v2]).run P w = .ok v' w' → (execOp a.eval ⟨dst, .call { callee := .builtin .append, args := #[x, y], argTypes := #[t, t] }, ty, pos, after, gd⟩).run P w = .ok (.value v') w' := fun {a w v v2 v' w'} h1 h2 h3 => by
    simp [execOp, resolve, invoke, builtin, h1, h2, h3]
  -- behind the append
  have fin : ∀ {V w0 : World} {n : Fm} {E : Env} {fr : List (Nat × AV)} {pre mid post : List BA} {a : Act} {w w' : World} {v v' : Value} {l m : List (List IV)}, St V w0 n E ⟨fr, pre ++ (mid ++ post)⟩ a w → offF (cid dst) (cid dst + 100) fr = true → offB (cid dst) (cid dst + 100) (pre ++ post) = true →
      owns E mid = v.ownBlock.toList → OwnSl (RepVs (vis V w0 w (owns E (pre ++ (mid ++ post))))) k w' w0.heap.size e v' (l ++ m) → w.grownBy w' v.ownBlock → (v'.ownBlock = v.ownBlock ∨ v'.ownBlock = some w.heap.size) →
      ∃ E', St V w0 n E' ⟨fr, [.row (cid dst) e k (l ++ m)] ++ (pre ++ post)⟩ a w' ∧ RepA E' (vis V w0 w' (owns E' ([.row (cid dst) e k (l ++ m)] ++ (pre ++ post)))) v' (.own (cid dst)) := fun {V w0 n E fr pre mid post a w w' v v' l m} hs h1 h2 ho hO hg hv' => by
    obtain ⟨A, cc, hform⟩ := hO.form
    let E' : Env := ⟨fun b => if b = cid dst then (v'.ownBlock).getD 0 else E.blk b, fun b => if b = cid dst then v' else E.row b⟩
    have hE : Env.same (cid dst) (cid dst + 100) E E' := fun b hb => by
      have : ¬ b = cid dst := by omega
      simp [E', this]
    have hrow : E'.row (cid dst) = v' := by simp [E']
    have hown : owns E' [.row (cid dst) e k (l ++ m)] = v'.ownBlock.toList := by simp [owns, BA.owned, hrow]
    have hgs : ∀ g, g ∉ owns E mid → g < w.heap.size → w'.heap[g]? = w.heap[g]? := fun g hm hlt => hg.block g hlt fun e => hm (by rw [ho]; simp [← e])
    have hnew : ∀ g ∈ owns E' [.row (cid dst) e k (l ++ m)], g ∈ owns E mid ∨ w.heap.size ≤ g := fun g hg' => by
      rw [hown, Option.mem_toList] at hg'
      rcases hv' with h | h
      · left; rw [ho, Option.mem_toList, ← h]; exact hg'
      · right; rw [h] at hg'; have := Option.some.inj hg'; omega
    have hx := swap_ext (V := V) (w0 := w0) (E' := E') (nb := [.row (cid dst) e k (l ++ m)]) hs.lt hgs hg.size hnew
    have hst := hs.swap (E' := E') (nb := [.row (cid dst) e k (l ++ m)]) hgs hg.size (hs.low.grown hg hs.low.size fun g hg' => hs.base g (by simp only [owns_append, List.mem_append]; exact .inr (.inl (by rw [ho, hg']; simp)))) hE h1 h2
      (by rw [hown]; cases v'.ownBlock <;> simp) hnew (fun b hb => by
        simp only [List.mem_singleton] at hb
        subst hb
        refine ⟨?_, fun g hg' => ?_⟩
        · rw [hrow]
          exact hO.mono fun _ _ h => h.ext hx
        · rw [hrow] at hg'
          simp [E', hg'])
    refine ⟨E', hst, ?_⟩
    rw [hform]
    exact .own (by rw [hrow]; exact hform)
  split at h
  · rename_i b m hx hy
    split at h
    · rename_i b' e' k' l hb
      obtain ⟨rfl, rfl, hlm, hK⟩ := h
      refine ⟨_, _, hK, fun V w0 n E a w fr F hs hL hfr _ N Q hN ro => wp_wpIn (fun _ h => by cases h) ?_⟩
      obtain ⟨hf, hf2⟩ := hfr rfl
      obtain ⟨pre, post, p1, p2, p3⟩ := findB_split hb
      obtain rfl : b' = b := p2
      have hyv := srcQ_sl hs hy (hL y).nrm_
      subst p1
      simp only [List.append_assoc, List.cons_append] at hs hL hN hf hf2 hyv
      obtain ⟨hO, hB⟩ := hs.holds (.row b' e' k' l) (by simp)
      have hxv := (hL x).nrm_
      rw [hx] at hxv
      generalize hxe : a.eval x = u at hxv
      cases hxv with
      | @own _ A mm cc he =>
        obtain ⟨v', w', r1, r2, r3, r4⟩ := run_append_slE (P := P) (fun cs x h => h.one) ty t w0.heap.size e' inf z yb hu i1 i2 i3 i4 i5 hk _ l hO w.heap.size _ m hyv hlm hyb hs.low.size
        have hs' : St V w0 n E ⟨fr, pre ++ ([.row b' e' k' l] ++ (post ++ F))⟩ a w := by simpa using hs
        have e0 : owns E (pre ++ BA.row b' e' k' l :: (post ++ F)) = owns E (pre ++ ([.row b' e' k' l] ++ (post ++ F))) := by simp
        simp only [e0] at r2
        have hoff : offB (cid dst) (cid dst + 100) (pre ++ (post ++ F)) = true := by
          have key : ∀ (p q : List BA), offB (cid dst) (cid dst + 100) (p ++ BA.row b' e' k' l :: q) = true → offB (cid dst) (cid dst + 100) (p ++ q) = true := by
            intro p q
            induction p with
            | nil => intro h; simp only [List.nil_append, offB, Bool.and_eq_true] at h ⊢; exact h.2
            | cons y p ih => intro h; simp only [List.cons_append, offB, Bool.and_eq_true] at h ⊢; exact ⟨h.1, ih h.2⟩
          exact key pre (post ++ F) hf2
        obtain ⟨E', f1, f2⟩ := fin (v := E.row b') hs' hf hoff (by simp [owns, BA.owned]) r2 r3 r4
        unfold Oper.wp
        rw [exec (hxe.trans he.symm) rfl r1, Oper.upon_value]
        have e1 : replB b' [] (pre ++ BA.row b' e' k' l :: post) = pre ++ post := by rw [p3]; rfl
        exact hN _ _ E' (by rw [e1]; simpa using f1) (by rw [e1]; simpa using f2)
    · exact h.elim
  · rename_i m hx hy
    obtain ⟨hlm, hK⟩ := h
    refine ⟨_, _, hK, fun V w0 n E a w fr F hs hL hfr _ N Q hN ro => wp_wpIn (fun _ h => by cases h) ?_⟩
    obtain ⟨hf, hf2⟩ := hfr rfl
    have hyv := srcQ_sl hs hy (hL y).nrm_
    have hxv := (hL x).nrm_
    rw [hx] at hxv
    generalize hxe : a.eval x = u at hxv
    cases hxv
    obtain ⟨v', w', r1, r2, r3, r4⟩ := run_append_slE (P := P) (fun cs x h => h.one) ty t w0.heap.size e inf z yb hu i1 i2 i3 i4 i5 hk _ [] (OwnSl.nil_ _ _ _) w.heap.size _ m hyv (by simpa using hlm) hyb hs.low.size
    obtain ⟨E', f1, f2⟩ := fin (pre := []) (mid := []) (post := bk ++ F) (fr := fr) (v := .slice none 0 0) (l := []) hs hf hf2 rfl r2 r3 r4
    unfold Oper.wp
    rw [exec hxe rfl r1, Oper.upon_value]
    exact hN _ _ E' (by simpa using f1) (by simpa using f2)
  · exact h.elim
end
end Go.Proofs.YtdbeoigbkkdpdaaGreatDoor
namespace Go.Proofs.YtdbeoigbkkdpdaaGreatDoor
open Go.ChangeShapes Go.WideShapes Go.ChangeAt Go.RowKit

/-- an operation, of any kind -/
def vopL (P : Program) (G : World → Prop) (L : Operand → AV) (bk : List BA) (o : Oper) (K : AV → List BA → Prop) : Prop :=
  match o.op with
  | .store t x y => storeQ P t (L x) (L y) bk fun bk' => K .any bk'
  | .call { callee := .builtin .append, args, argTypes } => match args.toList, argTypes.toList with
    | [x, y], [t, t'] => t' = t ∧ appendQ P t (L x) (L y) (cid o.dst) bk K
    | _, _ => False
  | _ => qop P G L (fun b => findB b bk) o (cid o.dst) fun r nb => K r (nb ++ bk)
/-- the names that it may give are free -/
def freshO (o : Oper) (σ : AState) : Prop := makes o = true → (offF (cid o.dst) (cid o.dst + 100) σ.fr && offB (cid o.dst) (cid o.dst + 100) σ.bk) = true
def vop (P : Program) (G : World → Prop) (σ : AState) (o : Oper) (K : AV → List BA → Prop) : Prop := freshO o σ ∧ vopL P G (ev σ.fr) σ.bk o K
section
variable {P : Program} {G : World → Prop} {σ : AState}
theorem off_ev {lo hi : Nat} {fr : List (Nat × AV)} (h : offF lo hi fr = true) (x : Operand) : (ev fr x).off lo hi = true := by
  cases x with
  | tmp t => exact offF_look h t
  | const v =>
    cases v <;> first | rfl | skip
    rename_i cs
    show AV.off.offs lo hi _ = true
    generalize cs.toList = l
    induction l with
    | nil => rfl
    | cons z zs ih => simp only [List.map_cons, AV.off.offs, AV.off, Bool.true_and]; exact ih
  | global g => rfl
  | func f => rfl
variable {L : Operand → AV} {bk : List BA}
theorem qop_nodefer {o : Oper} {B : Nat → Option BA} {c : Nat} {K : AV → List BA → Prop} (h : qop P G L B o c K) : ∀ d, o.op ≠ .defer d := fun d e => by
  obtain ⟨dst, op, ty, pos, after, gd⟩ := o
  simp only at e
  subst e
  exact h
theorem upd_of_enough {o : Oper} {K : AV → List BA → Prop} (hf : makes o = true → ∀ x, (L x).off (cid o.dst) (cid o.dst + 100) = true) (h : qop P G L (fun b => findB b bk) o (cid o.dst) fun r nb => K r (nb ++ bk)) : Upd P G o L bk K := by
  obtain ⟨r, nb, hK, hq⟩ := qop_enough hf h
  have hnd0 := qop_nodefer h
  refine ⟨r, nb ++ bk, hK, fun V w0 n E a w fr F hs hL hfr hG N Q hN ro => wp_wpIn hnd0 <| hq V w0 n E ⟨fr, bk ++ F⟩ a w hs hG hL (fun b x hb => ⟨List.mem_append_left _ (findB_mem hb).1, (findB_mem hb).2⟩) N Q fun v w' E' ⟨hb, ⟨hE, hm⟩, hnd, hnew, hh, hv⟩ => ?_⟩
  have hst : St V w0 n E' ⟨fr, nb ++ (bk ++ F)⟩ a w' ∧ owns E' (bk ++ F) = owns E (bk ++ F) := by
    rcases hm with rfl | hm
    · exact ⟨hs.add (lo := 0) (hi := 0) hb (Env.same_refl 0 0 E') (offF_none _) (offB_none _) hnd hnew hh, rfl⟩
    · have := hfr hm
      exact ⟨hs.add hb hE this.1 this.2 hnd hnew hh, owns_same hE this.2⟩
  exact hN v w' E' (by rw [List.append_assoc]; exact hst.1) (by rw [List.append_assoc, owns_append, hst.2]; exact hv)
theorem vopL_upd {o : Oper} {K : AV → List BA → Prop} (hf : makes o = true → ∀ x, (L x).off (cid o.dst) (cid o.dst + 100) = true) (h : vopL P G L bk o K) : Upd P G o L bk K := by
  unfold vopL at h
  split at h
  · rename_i t x y ho
    obtain ⟨dst, op, ty, pos, after, gd⟩ := o
    simp only at ho
    subst ho
    exact e_store h
  · rename_i args at_ ho
    obtain ⟨dst, op, ty, pos, after, gd⟩ := o
    simp only at ho
    subst ho
    split at h
    · rename_i x y t t' h1 h2
      obtain ⟨rfl, h⟩ := h
      obtain rfl : args = #[x, y] := by rw [← Array.toArray_toList (xs := args), h1]
      obtain rfl : at_ = #[t', t'] := by rw [← Array.toArray_toList (xs := at_), h2]
      exact e_append h
    · exact h.elim
  · exact upd_of_enough hf h
theorem qop_ex {c : Nat} {B : Nat → Option BA} {o : Oper} {K : AV → List BA → Prop} (hm : makes o = true) (h : qop P G L B o c K) : ∃ r nb, K r nb := by
  obtain ⟨dst, op, ty, pos, after, gd⟩ := o
  unfold qop at h
  cases op with
  | alloc e =>
    simp only at h
    split at h
    · exact ⟨_, _, h.2⟩
    · exact ⟨_, _, h⟩
    · exact h.elim
  | box e x =>
    simp only at h
    split at h
    · exact ⟨_, _, h⟩
    · exact ⟨_, _, h.2⟩
  | buildSlice t len parts =>
    simp only at h
    split at h
    · obtain ⟨_, l, _, _, _, _, _, h | h⟩ := h
      · exact ⟨_, _, h⟩
      · exact ⟨_, _, h⟩
    · exact h.elim
  | call cl =>
    obtain ⟨callee, args, at_⟩ := cl
    cases callee with
    | value fo =>
      simp only at h
      split at h
      · obtain ⟨r, nb, _, _, _, h⟩ := h
        exact ⟨_, _, h⟩
      · exact h.elim
    | invoke r m => cases hm
    | builtin b =>
      simp only at h
      cases b <;> first | exact h.elim | cases hm
  | _ => cases hm
theorem vopL_upd2 {o : Oper} {K : AV → List BA → Prop} (h : vopL P G L bk o K) : ∃ r bk', K r bk' ∧ ((makes o = true → ∀ x, (L x).off (cid o.dst) (cid o.dst + 100) = true) → UpdS P G o L bk r bk') := by
  by_cases hf : makes o = true → ∀ x, (L x).off (cid o.dst) (cid o.dst + 100) = true
  · obtain ⟨r, bk', h1, h2⟩ := vopL_upd hf h
    exact ⟨r, bk', h1, fun _ => h2⟩
  · have hm : makes o = true := by
      cases hm : makes o with
      | true => rfl
      | false => exact absurd (fun e => by rw [hm] at e; cases e) hf
    unfold vopL at h
    split at h
    · rename_i t x y ho
      obtain ⟨dst, op, ty, pos, after, gd⟩ := o
      simp only at ho
      subst ho
      cases hm
    · rename_i args at_ ho
      obtain ⟨dst, op, ty, pos, after, gd⟩ := o
      simp only at ho
      subst ho
      split at h
      · rename_i x y t t' h1 h2
        obtain ⟨rfl, h⟩ := h
        obtain rfl : args = #[x, y] := by rw [← Array.toArray_toList (xs := args), h1]
        obtain rfl : at_ = #[t', t'] := by rw [← Array.toArray_toList (xs := at_), h2]
        obtain ⟨r, bk', h3, h4⟩ := e_append h
        exact ⟨r, bk', h3, fun _ => h4⟩
      · exact h.elim
    · obtain ⟨r, nb, hK⟩ := qop_ex hm h
      exact ⟨_, _, hK, fun h => absurd h hf⟩
theorem vop_run {o : Oper} {K : AV → List BA → Prop} (h : vop P G σ o K) : ∃ r bk', K r bk' ∧ ∀ (V w0 : World) (n : Fm) (E : Env) (a : Act) (w : World), St V w0 n E σ a w → G w → ∀ (N : Act → World → Prop) (Q : Exit → Act → World → Prop),
    (∀ v w' E', St V w0 n E' ⟨σ.fr, bk'⟩ a w' → RepA E' (vis V w0 w' (owns E' bk')) v r → N (a.put o.dst v) w') → ∀ ro, o.wpIn (FW ro) 0 P a w N Q := by
  obtain ⟨hf, h⟩ := h
  obtain ⟨r, bk', hK, hu⟩ := vopL_upd (fun hm x => off_ev (Bool.and_eq_true _ _ ▸ hf hm).1 x) h
  refine ⟨r, bk', hK, fun V w0 n E a w hs hG N Q hN => hu V w0 n E a w σ.fr [] (by simpa using hs) (fun x => by simpa using hs.ev x) (fun hm => by simpa using hf hm) hG N Q fun v w' E' h1 h2 => hN v w' E' (by simpa using h1) (by simpa using h2)⟩

/-- what a guard's operation yielded -/
def yieldA (ops : List Oper) (fr : List (Nat × AV)) (j : Nat) : AV :=
  match ops[j]? with
  | some o => match o.dst with
    | some d => nrm (look fr d)
    | none => .any
  | none => .any
def guardQ (ops : List Oper) (fr : List (Nat × AV)) (g : Option (Nat × Bool)) (run skip : Prop) : Prop :=
  match g with
  | none => run
  | some (j, b) => match yieldA ops fr j with
    | .val (.bool x) => (x = b → run) ∧ (x = !b → skip)
    | .val (.tuple _) => skip
    | _ => False
/-- operations one after the other -/
def vops (P : Program) (G : World → Prop) (ops : List Oper) : List Oper → AState → (AState → Prop) → Prop
  | [], σ, K => K σ
  | o :: rest, σ, K => guardQ ops σ.fr o.guard (vop P G σ o fun r bk => vops P G ops rest ⟨putF o.dst r σ.fr, bk⟩ K) (vops P G ops rest ⟨putF o.dst (.val undef) σ.fr, σ.bk⟩ K)
def memN (d : Nat) : List Nat → Bool
  | [] => false
  | i :: r => Nat.beq i d || memN d r
theorem memN_iff {d : Nat} : ∀ {l : List Nat}, memN d l = false → d ∉ l
  | [], _, h => by cases h
  | i :: r, h, hm => by
    simp only [memN, Bool.or_eq_false_iff] at h
    rcases List.mem_cons.1 hm with e | hm
    · subst e; simp at h
    · exact memN_iff h.2 hm
def dstsOk (n : Nd) : List Oper → Bool
  | [] => true
  | o :: r => (match o.dst with
    | some d => Nat.blt d n.n && !memN d n.fx
    | none => true) && dstsOk n r
variable {V w0 : World} {n : Fm} {ro : Option Nat}
theorem guard_run {ops : List Oper} {E : Env} {a : Act} {w : World} (hs : St V w0 n E σ a w) {o : Oper} {A B : Prop} (h : guardQ ops σ.fr o.guard A B) : (Region.wanted o (yielded ops.toArray a.tmps) = true ∧ A) ∨ (Region.wanted o (yielded ops.toArray a.tmps) = false ∧ B) := by
  unfold guardQ at h
  unfold Region.wanted
  split at h
  · rename_i hg
    rw [hg]; exact .inl ⟨rfl, h⟩
  · rename_i j b hg
    rw [hg]
    simp only
    split at h
    · rename_i x hy
      have hyv : yielded ops.toArray a.tmps j = some x := by
        unfold yieldA at hy
        split at hy
        · rename_i o' ho'
          split at hy
          · rename_i d hd
            have hv := (hs.slots d).nrm_
            rw [hy] at hv
            generalize hu : a.tmps.getD d undef = u at hv
            cases hv
            have : a.tmps[d]? = some (.bool x) := by
              rw [Array.getD_eq_getD_getElem?] at hu
              cases hdd : a.tmps[d]? with
              | none => rw [hdd] at hu; simp [undef] at hu
              | some y => rw [hdd] at hu; simp at hu; rw [hu]
            simp [yielded, ho', hd, this]
          · cases hy
        · cases hy
      rw [hyv]
      by_cases e : x = b
      · subst e; exact .inl ⟨by simp, h.1 rfl⟩
      · refine .inr ⟨by simpa using e, h.2 (by cases x <;> cases b <;> simp_all)⟩
    · rename_i tt hy
      have hyv : yielded ops.toArray a.tmps j = none := by
        unfold yieldA at hy
        split at hy
        · rename_i o' ho'
          split at hy
          · rename_i d hd
            have hv := (hs.slots d).nrm_
            rw [hy] at hv
            generalize hu : a.tmps.getD d undef = u at hv
            cases hv
            rw [Array.getD_eq_getD_getElem?] at hu
            cases hdd : a.tmps[d]? with
            | none => simp [yielded, ho', hd, hdd]
            | some y =>
              rw [hdd] at hu
              simp at hu
              simp [yielded, ho', hd, hdd, hu]
          · cases hy
        · cases hy
      rw [hyv]
      exact .inr ⟨rfl, h⟩
    · exact h.elim
theorem vops_run {ops : List Oper} {Q : Exit → Act → World → Prop} (hG : ∀ w', Below w0.heap.size w0 w' → G w') : ∀ (l : List Oper) (σ : AState) (K : AState → Prop) (E : Env) (a : Act) (w : World), dstsOk n.nd l = true → vops P G ops l σ K → St V w0 n E σ a w →
    (∀ (E' : Env) (σ' : AState) (a' : Act) (w' : World), K σ' → St V w0 n E' σ' a' w' → Q .normal a' w') → wpListIn (FW ro) 0 P ops.toArray Q l a w := by
  intro l
  induction l with
  | nil => exact fun σ K E a w _ h hs hQ => hQ E σ a w h hs
  | cons o rest ih =>
    intro σ K E a w hd h hs hQ
    simp only [dstsOk, Bool.and_eq_true] at hd
    have hdst : ∀ d, o.dst = some d → d < n.nd.n ∧ d ∉ n.nd.fx := fun d e => by
      have := hd.1
      rw [e] at this
      simp only [Bool.and_eq_true, Bool.not_eq_true'] at this
      exact ⟨blt_iff.1 this.1, memN_iff this.2⟩
    refine wpListIn_step fun K' hK' => ?_
    rcases guard_run hs h with ⟨hw, hr⟩ | ⟨hw, hr⟩
    · rw [if_pos hw]
      obtain ⟨r, bk', hK, hu⟩ := vop_run hr
      refine hu V w0 n E a w hs (hG w hs.low) K' Q (fun v w' E' hs' hv => hK' _ _ (ih ⟨putF o.dst r σ.fr, bk'⟩ K E' (a.put o.dst v) w' hd.2 hK (hs'.put hdst hv) hQ)) ro
    · rw [if_neg (by rw [hw]; simp)]
      refine ⟨fun _ _ => trivial, hK' _ _ (ih ⟨putF o.dst (.val undef) σ.fr, σ.bk⟩ K E (a.put o.dst undef) w hd.2 hr (hs.put hdst .val) hQ)⟩

-- code
def Arr (V w0 : World) (m : Fm) (K : Exit → AState → Prop) (e : Exit) (a : Act) (w : World) : Prop := ∃ m' E σ, Fm.le m m' ∧ K e σ ∧ St V w0 m' E σ a w
theorem Arr.more {V w0 : World} {m m' : Fm} {K : Exit → AState → Prop} {e : Exit} {a : Act} {w : World} (h : Arr V w0 m' K e a w) (hl : Fm.le m m') : Arr V w0 m K e a w := by
  obtain ⟨m2, E, σ, h1, h2⟩ := h
  exact ⟨m2, E, σ, hl.trans h1, h2⟩
def AW (P : Program) (G : World → Prop) (ro : Option Nat) (V w0 : World) (n : Nd) (c : Code) (σ : AState) (K : Exit → AState → Prop) : Prop :=
  (∀ w', Below w0.heap.size w0 w' → G w') → ∀ m E a w, m.nd = n → St V w0 m E σ a w → c.wpIn (FW ro) 0 P (Arr V w0 m K) a w
end
section
variable {P : Program} {G : World → Prop} {σ : AState} {V w0 : World} {n : Nd} {ro : Option Nat} {K : Exit → AState → Prop}
theorem AW.region {id : Nat} {l : List Oper} (hd : dstsOk n l = true) (h : vops P G l l σ fun σ' => K .normal σ') : AW P G ro V w0 n (.region id l.toArray false) σ K :=
  fun hG m E a w hn hs => wpIn_region_lit (vops_run hG l σ _ E a w (by rw [hn]; exact hd) h hs fun E' σ' a' w' hK hs' => ⟨m, E', σ', Fm.le.refl m, hK, hs'⟩)
theorem AW.seq {x y : Code} (h : AW P G ro V w0 n x σ fun e σ' => match e with
    | .normal => AW P G ro V w0 n y σ' K
    | e => K e σ') : AW P G ro V w0 n (.seq x y) σ K := fun hG m E a w hn hs => by
  refine wpIn_seq (wpIn_mono (h hG m E a w hn hs) ?_)
  rintro e a' w' ⟨m', E', σ', hm, hK, hs'⟩
  cases e with
  | normal => exact wpIn_mono (hK hG m' E' a' w' (hm.nd.trans hn) hs') fun _ _ _ h => h.more hm
  | _ => exact ⟨m', E', σ', hm, hK, hs'⟩
theorem AW.block {id : Nat} {c : Code} (h : AW P G ro V w0 n c σ fun e σ' => match e with
    | .exit j => if j = id then K .normal σ' else K (.exit j) σ'
    | e => K e σ') : AW P G ro V w0 n (.block id c) σ K := fun hG m E a w hn hs => by
  refine wpIn_block (wpIn_mono (h hG m E a w hn hs) ?_)
  rintro e a' w' ⟨m', E', σ', hm, hK, hs'⟩
  cases e with
  | exit j =>
    simp only [Exit.inBlock]
    simp only at hK
    by_cases e : j = id
    · rw [if_pos e]; rw [if_pos e] at hK; exact ⟨m', E', σ', hm, hK, hs'⟩
    · rw [if_neg e]; rw [if_neg e] at hK; exact ⟨m', E', σ', hm, hK, hs'⟩
  | _ => exact ⟨m', E', σ', hm, hK, hs'⟩
theorem AW.exit {id : Nat} (h : K (.exit id) σ) : AW P G ro V w0 n (.exit id) σ K := fun _ m E _ _ _ hs => wpIn_exit ⟨m, E, σ, Fm.le.refl m, h, hs⟩
theorem AW.ret (h : K .ret σ) : AW P G ro V w0 n .ret σ K := fun _ m E _ _ _ hs => wpIn_ret ⟨m, E, σ, Fm.le.refl m, h, hs⟩
theorem AW.skip (h : K .normal σ) : AW P G ro V w0 n .skip σ K := fun _ m E _ _ _ hs => wpIn_skip ⟨m, E, σ, Fm.le.refl m, h, hs⟩
theorem AW.label {l : Nat} (h : K .normal σ) : AW P G ro V w0 n (.label l) σ K := fun _ m E _ _ _ hs => wpIn_label ⟨m, E, σ, Fm.le.refl m, h, hs⟩
theorem AW.cond {c : Operand} {x y : Code} {t : Bool} (hc : nrm (ev σ.fr c) = .val (.bool t)) (h1 : t = true → AW P G ro V w0 n x σ K) (h2 : t = false → AW P G ro V w0 n y σ K) : AW P G ro V w0 n (.cond c x y) σ K := fun hG m E a w hn hs => by
  have hv := (hs.ev c).nrm_
  rw [hc] at hv
  generalize hu : a.eval c = u at hv
  cases hv
  exact wpIn_cond_split hu (fun e => h1 e hG m E a w hn hs) (fun e => h2 e hG m E a w hn hs)
end
end Go.Proofs.YtdbeoigbkkdpdaaGreatDoor
