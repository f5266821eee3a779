/- A region that draws its order: one walk of the text's order serves every order, if operations that touch one block, or one slot, are bound to an order. No program is known here. -/
import Derived.Test.YtdbeoigbkkdpdaaGreatDoorPAbsCode
set_option linter.all false
set_option linter.unnecessarySimpa false
set_option linter.unusedSimpArgs false
set_option linter.unusedVariables false
/- Loops and whole functions over abstract states. No program is known here. -/
namespace Go.Proofs.YtdbeoigbkkdpdaaGreatDoor
open Go.ChangeShapes Go.WideShapes Go.ChangeAt Go.RowKit

-- other names for the blocks
def AV.ren (ρ : Nat → Nat) : AV → AV
  | .bp b o => .bp (ρ b) o
  | .rp b k i j => .rp (ρ b) k i j
  | .own b => .own (ρ b)
  | .agg cs => .agg (rens ρ cs)
  | .tup cs => .tup (rens ρ cs)
  | .fn f cs => .fn f (rens ρ cs)
  | a => a
where rens (ρ : Nat → Nat) : List AV → List AV
  | [] => []
  | a :: l => AV.ren ρ a :: rens ρ l
def BA.ren (ρ : Nat → Nat) : BA → BA
  | .box b cs => .box (ρ b) (AV.ren.rens ρ cs)
  | .arr b cs => .arr (ρ b) cs
  | .row b e k l => .row (ρ b) e k l
def Env.ren (E : Env) (ρ : Nat → Nat) : Env := ⟨fun b => E.blk (ρ b), fun b => E.row (ρ b)⟩
theorem rens_get {ρ : Nat → Nat} : ∀ {cs : List AV} {j : Nat}, (AV.ren.rens ρ cs)[j]? = (cs[j]?).map (AV.ren ρ)
  | [], j => by simp [AV.ren.rens]
  | _ :: _, 0 => by simp [AV.ren.rens]
  | _ :: cs, j + 1 => by simp only [AV.ren.rens, List.getElem?_cons_succ]; exact rens_get
theorem rens_len {ρ : Nat → Nat} : ∀ {cs : List AV}, (AV.ren.rens ρ cs).length = cs.length
  | [] => rfl
  | _ :: cs => congrArg Nat.succ (rens_len (cs := cs))
theorem RepA.ren {E : Env} {X : World} {ρ : Nat → Nat} : ∀ (m : Nat) (c : AV), SizeOf.sizeOf c ≤ m → ∀ {v : Value}, RepA E X v (c.ren ρ) → RepA (E.ren ρ) X v c := by
  intro m
  induction m with
  | zero => intro c h; cases c <;> simp at h
  | succ m ih =>
    have list : ∀ (cs : List AV), SizeOf.sizeOf cs ≤ m → ∀ {vs : Array Value}, (∀ (j : Nat) v d, vs[j]? = some v → (AV.ren.rens ρ cs)[j]? = some d → RepA E X v d) → ∀ (j : Nat) v c, vs[j]? = some v → cs[j]? = some c → RepA (E.ren ρ) X v c := by
      intro cs hcs vs h j v c a b
      refine ih c ?_ (h j v _ a (by rw [rens_get, b]; rfl))
      have := List.sizeOf_lt_of_mem (List.mem_of_getElem? b)
      omega
    intro c hc v h
    cases c with
    | any => exact .any
    | val u => cases h; exact .val
    | iv i => cases h with | iv h => exact .iv h
    | ip cs => cases h with | ip f h1 h2 => exact .ip f h1 h2
    | bp b o => cases h; exact .bp (E := E.ren ρ)
    | rp b k i j => cases h; exact .rp (E := E.ren ρ)
    | own b => cases h with | own h => exact .own (E := E.ren ρ) h
    | aggI cs => cases h with | aggI h => exact .aggI h
    | agg cs =>
      simp only [AV.agg.sizeOf_spec] at hc
      cases h with
      | agg h1 h2 => exact .agg (by rw [h1, rens_len]) (list cs (by omega) h2)
    | tup cs =>
      simp only [AV.tup.sizeOf_spec] at hc
      cases h with
      | tup h1 h2 => exact .tup (by rw [h1, rens_len]) (list cs (by omega) h2)
    | fn f cs =>
      simp only [AV.fn.sizeOf_spec] at hc
      cases h with
      | fn h1 h2 => exact .fn (by rw [h1, rens_len]) (list cs (by omega) h2)
theorem RepA.ren_ {E : Env} {X : World} {ρ : Nat → Nat} {c : AV} {v : Value} (h : RepA E X v (c.ren ρ)) : RepA (E.ren ρ) X v c := RepA.ren _ c (Nat.le_refl _) h
theorem BA.ren_owned {E : Env} {ρ : Nat → Nat} (b : BA) : b.owned (E.ren ρ) = (b.ren ρ).owned E := by cases b <;> rfl
theorem BA.ren_holds {E : Env} {X w : World} {base : Nat} {ρ : Nat → Nat} {b : BA} (h : (b.ren ρ).holds E X w base) : b.holds (E.ren ρ) X w base := by
  cases b with
  | box b cs =>
    obtain ⟨C, t, h1, h2, h3⟩ := h
    exact ⟨C, t, h1, by rw [h2, rens_len], fun j v c a b => (h3 j v _ a (by rw [rens_get, b]; rfl)).ren_⟩
  | arr b cs => exact h
  | row b e k l => exact h

/-- the state S, its blocks named otherwise, forgets some of σ -/
def leF (ρ : Nat → Nat) (fr : List (Nat × AV)) : List (Nat × AV) → Prop
  | [] => True
  | (i, c) :: r => look fr i = c.ren ρ ∧ leF ρ fr r
def leB (ρ : Nat → Nat) (bk : List BA) : List BA → Prop
  | [] => True
  | b :: r => findB (ρ b.id) bk = some (b.ren ρ) ∧ leB ρ bk r
def idsOf (ρ : Nat → Nat) : List BA → List Nat
  | [] => []
  | b :: r => ρ b.id :: idsOf ρ r
def LeS (ρ : Nat → Nat) (S σ : AState) : Prop := leF ρ σ.fr S.fr ∧ leB ρ σ.bk S.bk ∧ (idsOf ρ S.bk).Nodup
theorem leF_look {ρ : Nat → Nat} {fr : List (Nat × AV)} : ∀ {l : List (Nat × AV)}, leF ρ fr l → ∀ i, look l i = .any ∨ look fr i = (look l i).ren ρ
  | [], _, _ => .inl rfl
  | (j, c) :: r, h, i => by
    simp only [look]
    by_cases e : i = j
    · subst e
      rw [if_pos rfl]
      exact .inr h.1
    · rw [if_neg e]
      exact leF_look h.2 i
theorem leB_mem {ρ : Nat → Nat} {bk : List BA} : ∀ {l : List BA}, leB ρ bk l → ∀ b ∈ l, findB (ρ b.id) bk = some (b.ren ρ)
  | [], _, b, h => by cases h
  | c :: l, h, b, hb => by
    rcases List.mem_cons.1 hb with rfl | hb
    · exact h.1
    · exact leB_mem h.2 b hb
theorem owns_disj {E : Env} : ∀ {bk : List BA}, (owns E bk).Nodup → ∀ {x y : BA}, x ∈ bk → y ∈ bk → x ≠ y → ∀ g, g ∈ x.owned E → g ∉ y.owned E
  | [], _, _, _, h, _, _, _, _ => by cases h
  | b :: bk, hn, x, y, hx, hy, hne, g, hg => by
    simp only [owns] at hn
    obtain ⟨n1, n2, n3⟩ := List.nodup_append.1 hn
    rcases List.mem_cons.1 hx with e1 | hx1
    · rcases List.mem_cons.1 hy with e2 | hy1
      · exact absurd (e1.trans e2.symm) hne
      · exact fun h => n3 g (e1 ▸ hg) g (mem_owns.2 ⟨y, hy1, h⟩) rfl
    · rcases List.mem_cons.1 hy with e2 | hy1
      · exact fun h => n3 g (e2 ▸ h) g (mem_owns.2 ⟨x, hx1, hg⟩) rfl
      · exact owns_disj n2 hx1 hy1 hne g hg
theorem BA.owned_nodup (E : Env) (b : BA) : (b.owned E).Nodup := by
  cases b with
  | box b cs => simp [BA.owned]
  | arr b cs => simp [BA.owned]
  | row b e k l => simp only [BA.owned]; cases (E.row b).ownBlock <;> simp
theorem BA.ren_id (ρ : Nat → Nat) (b : BA) : (b.ren ρ).id = ρ b.id := by cases b <;> rfl
theorem idsOf_mem {ρ : Nat → Nat} : ∀ {l : List BA} {i : Nat}, i ∈ idsOf ρ l ↔ ∃ b ∈ l, ρ b.id = i
  | [], i => by simp [idsOf]
  | b :: l, i => by simp [idsOf, idsOf_mem, eq_comm]
section
variable {V w0 : World} {n : Fm} {E : Env} {σ : AState} {a : Act} {w : World}
theorem St.le {ρ : Nat → Nat} {S : AState} (h : St V w0 n E σ a w) (hl : LeS ρ S σ) : St V w0 n (E.ren ρ) S a w := by
  obtain ⟨h1, h2, h3⟩ := hl
  have mem : ∀ b ∈ S.bk, b.ren ρ ∈ σ.bk := fun b hb => (findB_mem (leB_mem h2 b hb)).1
  have sub : ∀ g ∈ owns (E.ren ρ) S.bk, g ∈ owns E σ.bk := fun g hg => by
    obtain ⟨b, hb, hg⟩ := mem_owns.1 hg
    rw [BA.ren_owned] at hg
    exact mem_owns.2 ⟨_, mem b hb, hg⟩
  have hx : Ext (vis V w0 w (owns E σ.bk)) (vis V w0 w (owns (E.ren ρ) S.bk)) := vis_ext (Nat.le_refl _) fun p u _ _ h4 h5 => ⟨fun hm => h4 (sub _ hm), h5⟩
  refine ⟨h.ext, h.low, ?_, fun g hg => h.base g (sub g hg), fun b hb => ?_, fun i => ?_, h.size, h.defers, h.hold.1, fun g o hg => ⟨(h.hold.2 g o hg).1, fun hm => (h.hold.2 g o hg).2 (sub g hm)⟩⟩
  · have key : ∀ l : List BA, (∀ b ∈ l, b.ren ρ ∈ σ.bk) → (idsOf ρ l).Nodup → (owns (E.ren ρ) l).Nodup := by
      intro l
      induction l with
      | nil => exact fun _ _ => List.nodup_nil
      | cons b l ih =>
        intro hm hn
        simp only [idsOf] at hn
        obtain ⟨n1, n2⟩ := List.nodup_cons.1 hn
        simp only [owns]
        refine List.nodup_append.2 ⟨BA.owned_nodup _ _, ih (fun b hb => hm b (List.mem_cons_of_mem _ hb)) n2, fun g hg g' hg' e => ?_⟩
        subst e
        obtain ⟨c, hc, hg'⟩ := mem_owns.1 hg'
        rw [BA.ren_owned] at hg hg'
        refine owns_disj h.apart (hm b (by simp)) (hm c (List.mem_cons_of_mem _ hc)) (fun e => n1 (idsOf_mem.2 ⟨c, hc, ?_⟩)) g hg hg'
        have := congrArg BA.id e
        rw [BA.ren_id, BA.ren_id] at this
        exact this.symm
    exact key S.bk mem h3
  · exact BA.ren_holds (BA.holds_ext (Env.same_refl 0 0 E) hx (fun _ _ => rfl) (BA.off_none _) (h.holds _ (mem b hb)))
  · rcases leF_look h1 i with e | e
    · rw [e]; exact .any
    · have := h.slots i
      rw [e] at this
      exact (this.mono hx).ren_
end
section
variable {P : Program} {G : World → Prop} {σ : AState} {V w0 : World} {n : Nd} {ro : Option Nat} {K : Exit → AState → Prop}
theorem AW.le {ρ : Nat → Nat} {S : AState} {c : Code} (hl : LeS ρ S σ) (h : AW P G ro V w0 n c S K) : AW P G ro V w0 n c σ K := fun hG m E a w hn hs => h hG m _ a w hn (hs.le hl)
theorem least_nat {p : Nat → Prop} : (∃ m, p m) → ∃ m, p m ∧ ∀ k, p k → m ≤ k := by
  rintro ⟨m, hm⟩
  induction m using Nat.strongRecOn with
  | _ m ih =>
    by_cases h : ∃ k, k < m ∧ p k
    · obtain ⟨k, h1, h2⟩ := h
      exact ih k h1 h2
    · exact ⟨m, hm, fun k hk => Nat.le_of_not_lt fun hlt => h ⟨k, hlt, hk⟩⟩
theorem AW.loop {α : Type} (S : α → AState) (μ : α → Nat) (x0 : α) (ρ0 : Nat → Nat) {c : Code} (h0 : LeS ρ0 (S x0) σ)
    (round : ∀ x, AW P G ro V w0 n c (S x) fun e σ' => match e with
      | .normal => ∃ y ρ, LeS ρ (S y) σ' ∧ μ y < μ x
      | e => K e σ') : AW P G ro V w0 n (.loop c) σ K := fun hG m0 E a w hn hs => by
  classical
  have hI : ∀ (a : Act) (w : World), (∃ x m E, Fm.le m0 m ∧ St V w0 m E (S x) a w) → ∃ k x m E, (Fm.le m0 m ∧ St V w0 m E (S x) a w) ∧ μ x = k ∧ ∀ y m' E', Fm.le m0 m' ∧ St V w0 m' E' (S y) a w → k ≤ μ y := fun a w h => by
    have hex : ∃ k, ∃ x m E, (Fm.le m0 m ∧ St V w0 m E (S x) a w) ∧ μ x = k := by
      obtain ⟨x, m, E, h⟩ := h
      exact ⟨_, x, m, E, h, rfl⟩
    obtain ⟨k, ⟨x, m, E', h1, h2⟩, h3⟩ := least_nat hex
    exact ⟨k, x, m, E', h1, h2, fun y m2 E2 h4 => h3 _ ⟨y, m2, E2, h4, rfl⟩⟩
  let m : Act → World → Nat := fun a w => if h : ∃ x m E, Fm.le m0 m ∧ St V w0 m E (S x) a w then Classical.choose (hI a w h) else 0
  have hm : ∀ a w, (∃ x m E, Fm.le m0 m ∧ St V w0 m E (S x) a w) → ∃ x m2 E, (Fm.le m0 m2 ∧ St V w0 m2 E (S x) a w) ∧ μ x = m a w := fun a w h => by
    obtain ⟨x, m2, E, h1, h2, _⟩ := Classical.choose_spec (hI a w h)
    exact ⟨x, m2, E, h1, by simp only [m, dif_pos h]; exact h2⟩
  have hm2 : ∀ a w y m' E', Fm.le m0 m' ∧ St V w0 m' E' (S y) a w → m a w ≤ μ y := fun a w y m' E' h => by
    have hh : ∃ x m E, Fm.le m0 m ∧ St V w0 m E (S x) a w := ⟨y, m', E', h⟩
    obtain ⟨_, _, _, _, _, h3⟩ := Classical.choose_spec (hI a w hh)
    simp only [m, dif_pos hh]
    exact h3 y m' E' h
  refine wpIn_loop (fun a w => ∃ x m E, Fm.le m0 m ∧ St V w0 m E (S x) a w) m ⟨x0, _, _, Fm.le.refl m0, hs.le h0⟩ fun a w hi => ?_
  obtain ⟨x, m1, E, ⟨hle, h1⟩, h2⟩ := hm a w hi
  refine wpIn_mono (round x hG m1 E a w (hle.nd.trans hn) h1) ?_
  rintro e a' w' ⟨m', E', σ', hle', hK, hs'⟩
  cases e with
  | normal =>
    obtain ⟨y, ρ, hl, hlt⟩ := hK
    have h3 := hs'.le hl
    refine ⟨⟨y, _, _, hle.trans hle', h3⟩, ?_⟩
    have := hm2 a' w' y _ _ ⟨hle.trans hle', h3⟩
    show m a' w' < m a w
    omega
  | _ => exact ⟨m', E', σ', hle.trans hle', hK, hs'⟩
theorem AW.mono {K' : Exit → AState → Prop} {c : Code} (h : AW P G ro V w0 n c σ K) (hk : ∀ e σ', K e σ' → K' e σ') : AW P G ro V w0 n c σ K' := fun hG m E a w hn hs =>
  wpIn_mono (h hG m E a w hn hs) fun _ _ _ ⟨m', E', σ', h1, h2, h3⟩ => ⟨m', E', σ', h1, hk _ _ h2, h3⟩
/-- a slot that holds nil becomes a row of one's own -/
theorem AW.adopt {c : Code} (i b e k : Nat) (hi : look σ.fr i = .val (.slice none 0 0)) (hf : (offF b (b + 1) σ.fr && offB b (b + 1) σ.bk) = true) (h : AW P G ro V w0 n c ⟨(i, .own b) :: σ.fr, .row b e k [] :: σ.bk⟩ K) : AW P G ro V w0 n c σ K := fun hG m0 E a w hn hs => by
  rw [Bool.and_eq_true] at hf
  have hE : Env.same b (b + 1) E ⟨E.blk, fun x => if x = b then .slice none 0 0 else E.row x⟩ := fun x hx => by
    have : ¬ x = b := by omega
    simp [this]
  have ho : owns ⟨E.blk, fun x => if x = b then .slice none 0 0 else E.row x⟩ [.row b e k []] = [] := by simp [owns, BA.owned, Value.ownBlock]
  have hs2 := hs.add (E' := ⟨E.blk, fun x => if x = b then .slice none 0 0 else E.row x⟩) (nb := [.row b e k []]) (Below.refl _ w) hE hf.1 hf.2 (by rw [ho]; exact List.nodup_nil) (fun g hg => by rw [ho] at hg; cases hg) (fun x hx => by
    simp only [List.mem_singleton] at hx
    subst hx
    refine ⟨?_, fun g hg => by simp [Value.ownBlock] at hg⟩
    simp only [if_true]
    exact OwnSl.nil_ _ _ _)
  refine h hG m0 _ a w hn ⟨hs2.ext, hs2.low, hs2.apart, hs2.base, hs2.holds, fun j => ?_, hs2.size, hs2.defers, hs2.hold⟩
  simp only [look]
  split
  · rename_i e1
    subst e1
    have := hs.slots j
    rw [hi] at this
    generalize a.tmps.getD j undef = u at this
    cases this
    exact .own (by simp)
  · exact hs2.slots j
end

-- what is known of numbers that were read
def IV.ok : IV → Prop
  | .val v => okV v
  | .sl k l => l.length ≤ 1073741824 ∧ okR k l
  | .pt cs => okC cs
where
  okR (k : Nat) : List (List IV) → Prop
    | [] => True
    | cs :: l => (cs.length = k ∧ okC cs) ∧ okR k l
  okC : List IV → Prop
    | [] => True
    | c :: cs => IV.ok c ∧ okC cs
theorem okC_of : ∀ {cs : List IV}, (∀ (j : Nat) c, cs[j]? = some c → c.ok) → IV.ok.okC cs
  | [], _ => trivial
  | c :: cs, h => ⟨h 0 c rfl, okC_of fun j d hd => h (j + 1) d (by simpa using hd)⟩
theorem okR_of {k : Nat} : ∀ {l : List (List IV)}, (∀ (i : Nat) cs, l[i]? = some cs → cs.length = k ∧ ∀ (j : Nat) c, cs[j]? = some c → c.ok) → IV.ok.okR k l
  | [], _ => trivial
  | cs :: l, h => ⟨⟨(h 0 cs rfl).1, okC_of (h 0 cs rfl).2⟩, okR_of fun i ds hd => h (i + 1) ds (by simpa using hd)⟩
theorem RepV.ok {X : World} {v : Value} {i : IV} (h : RepV X v i) : i.ok := by
  induction h with
  | val h => exact h
  | nil h => exact ⟨by simp, trivial⟩
  | sl f h0 h1 h2 h3 h4 h5 h6 ih => exact ⟨h2, okR_of fun i cs hi => ⟨h4 cs (List.mem_of_getElem? hi), fun j c hj => ih i j cs c hi hj⟩⟩
  | pt f h1 h2 ih => exact okC_of fun j c hj => ih j c hj
theorem okR_mem {k : Nat} : ∀ {l : List (List IV)}, IV.ok.okR k l → ∀ cs ∈ l, cs.length = k ∧ IV.ok.okC cs
  | [], _, _, h => by cases h
  | c :: l, h, cs, hm => by
    rcases List.mem_cons.1 hm with rfl | hm
    · exact h.1
    · exact okR_mem h.2 cs hm
def AV.okd : AV → Prop
  | .iv i => i.ok
  | .ip cs => IV.ok.okC cs
  | .agg cs => okds cs
  | .fn _ cs => okds cs
  | _ => True
where okds : List AV → Prop
  | [] => True
  | c :: cs => AV.okd c ∧ okds cs
theorem okds_of : ∀ {cs : List AV}, (∀ (j : Nat) c, cs[j]? = some c → c.okd) → AV.okd.okds cs
  | [], _ => trivial
  | c :: cs, h => ⟨h 0 c rfl, okds_of fun j d hd => h (j + 1) d (by simpa using hd)⟩
theorem RepA.okd {E : Env} {X : World} {v : Value} {c : AV} (h : RepA E X v c) : c.okd := by
  induction h with
  | iv h => exact h.ok
  | ip f h1 h2 => exact okC_of fun j c hj => (h2 j c hj).ok
  | agg h1 h2 ih => exact okds_of fun j c hj => ih j _ c (Array.getElem?_eq_getElem (by rw [h1]; exact (List.getElem?_eq_some_iff.1 hj).1)) hj
  | fn h1 h2 ih => exact okds_of fun j c hj => ih j _ c (Array.getElem?_eq_getElem (by rw [h1]; exact (List.getElem?_eq_some_iff.1 hj).1)) hj
  | _ => trivial

-- whole functions
def argF : Nat → List AV → List (Nat × AV)
  | _, [] => []
  | i, c :: cs => (i, c) :: argF (i + 1) cs
theorem argF_look : ∀ (cs : List AV) (s i : Nat), look (argF s cs) i = if s ≤ i then (cs[i - s]?).getD .any else .any
  | [], s, i => by simp [argF, look]
  | c :: cs, s, i => by
    simp only [argF, look]
    by_cases e : i = s
    · subst e; simp
    · rw [if_neg e, argF_look cs (s + 1) i]
      by_cases h : s + 1 ≤ i
      · rw [if_pos h, if_pos (by omega), show i - s = (i - (s + 1)) + 1 by omega, List.getElem?_cons_succ]
      · rw [if_neg h, if_neg (by omega)]
def retQ (P : Program) (σ : AState) : List ResultVar → (List AV → Prop) → Prop
  | [], K => K []
  | .tmp t :: r, K => retQ P σ r fun l => K (look σ.fr t :: l)
  | .cell d t :: r, K => match look σ.fr d with
    | .bp b p => match findB b σ.bk, tyK P t with
      | some (.box _ cs), some (q, s) => rdA q s (cs.drop p) fun u => retQ P σ r fun l => K (u :: l)
      | some (.arr _ cs), some (2, s) => p = 0 ∧ s = cs.length ∧ retQ P σ r fun l => K (.aggI cs :: l)
      | _, _ => False
    | _ => False
def oneOf : List AV → AV
  | [c] => c
  | cs => .tup cs
section
variable {P : Program} {G : World → Prop}
def resV (tmps : Array Value) : ResultVar → Sem Value
  | .tmp t => pure (tmps.getD t undef)
  | .cell d t => do loadVar t (← asAddr (tmps.getD d undef))
theorem retQ_run {V w0 : World} {n : Fm} {E : Env} {σ : AState} {a : Act} {w : World} (hs : St V w0 n E σ a w) : ∀ (rs : List ResultVar) (K : List AV → Prop), retQ P σ rs K → ∃ l, K l ∧ ∃ vs : List Value, (rs.mapM (resV a.tmps)).run P w = .ok vs w ∧ RepAs E (vis V w0 w (owns E σ.bk)) vs l
  | [], K, h => ⟨[], h, [], rfl, RepAs.nil⟩
  | .tmp t :: r, K, h => by
    obtain ⟨l, h1, vs, h2, h3⟩ := retQ_run hs r _ h
    exact ⟨_, h1, a.tmps.getD t undef :: vs, by simp [List.mapM_cons, resV, h2], RepAs.cons (hs.slots t) h3⟩
  | .cell d t :: r, K, h => by
    simp only [retQ] at h
    split at h
    case h_2 => exact h.elim
    rename_i b p hd
    have hv := hs.slots d
    rw [hd] at hv
    generalize hu : a.tmps.getD d undef = u at hv
    cases hv
    have load : ∀ {v : Value}, (Instr.loadAt t (.pointer (some ⟨E.blk b, p, none⟩))).run P w = .ok v w → (loadVar t ⟨E.blk b, p, none⟩).run P w = .ok v w := fun h => by
      simpa [Instr.loadAt, Instr.sureAddr] using h
    split at h
    · rename_i b' cs q s hb ht
      obtain ⟨u, hK, hr⟩ := rdA_run ht h
      obtain ⟨l, h1, vs, h2, h3⟩ := retQ_run hs r _ hK
      obtain ⟨q1, q2⟩ := findB_mem hb
      obtain rfl : b' = b := q2
      obtain ⟨C, e, hB, hC⟩ := hs.holds _ q1
      obtain ⟨v, hv1, hv2⟩ := hr E (vis V w0 w (owns E σ.bk)) w (E.blk b') p e C hB ⟨by simp [← hC.1], fun j v d a b => by
        rw [List.getElem?_drop] at a b
        exact hC.2 _ v d a b⟩
      exact ⟨_, h1, v :: vs, by simp [List.mapM_cons, resV, h2, hu, asAddr, load hv1], RepAs.cons hv2 h3⟩
    · rename_i b' cs s hb ht
      obtain ⟨rfl, h0, h⟩ := h
      obtain ⟨l, h1, vs, h2, h3⟩ := retQ_run hs r _ h
      obtain ⟨q1, q2⟩ := findB_mem hb
      obtain rfl : b' = b := q2
      obtain ⟨C, e, hB, hC⟩ := hs.holds _ q1
      obtain ⟨ha, hz⟩ := tyK_run (w := w) ht
      have hl : (loadCells ⟨E.blk b', 0, none⟩ C.toList.length).run P w = .ok C w := run_loadCells_list (P := P) w ⟨E.blk b', 0, none⟩ C.toList fun j v hv => by
        rw [add_at, hB.cell, Nat.zero_add]
        simpa using hv
      rw [hC.len, ← h0] at hl
      exact ⟨_, h1, .agg C :: vs, by simp [List.mapM_cons, resV, h2, hu, asAddr, load (v := .agg C) (by simp [Instr.loadAt, Instr.sureAddr, loadVar, ha, hz, hl])], RepAs.cons (.aggI hC) h3⟩
    · exact h.elim
theorem BA.owned_cells {E : Env} {X w : World} {base : Nat} {b : BA} (h : b.holds E X w base) : ∀ g ∈ b.owned E, ∃ o : Obj, w.heap[g]? = some o ∧ o.isCells = true := by
  intro g hg
  cases b with
  | box b cs =>
    obtain ⟨C, t, h1, h2⟩ := h
    simp only [BA.owned, List.mem_singleton] at hg
    subst hg; exact ⟨_, h1, rfl⟩
  | arr b cs =>
    obtain ⟨C, t, h1, h2⟩ := h
    simp only [BA.owned, List.mem_singleton] at hg
    subst hg; exact ⟨_, h1, rfl⟩
  | row b e k l =>
    simp only [BA.owned, Option.mem_toList] at hg
    obtain ⟨⟨xs, ⟨h3, h4⟩, _⟩, _⟩ := h
    rcases h4 with ⟨e1, _⟩ | ⟨g', cap, cur, e1, e2, e3, _⟩
    · rw [e1] at hg; cases hg
    · rw [e1] at hg
      obtain rfl : g' = g := Option.some.inj hg
      exact ⟨_, e3, rfl⟩
def Fm.bare (m : Fm) : Fm := ⟨m.nd, m.fix, [], fun _ => none, 0⟩
/-- what is no cells may turn; the marks and what lies are forgotten -/
theorem St.other {V w0 : World} {m : Fm} {E : Env} {σ : AState} {a : Act} {w w' : World} {row : Option Nat} (h : St V w0 m E σ a w) (hg : w.grownBy w' row) (hr : ∀ r, row = some r → w0.heap.size ≤ r ∧ ∃ o : Obj, w.heap[r]? = some o ∧ o.isCells = false) : St V w0 m.bare E σ { a with defers := [] } w' := by
  have hx : Ext (vis V w0 w (owns E σ.bk)) (vis V w0 w' (owns E σ.bk)) := vis_ext hg.size fun p u _ _ h3 h4 => ⟨h3, cell_kept h4 hg fun r e => (hr r e).2⟩
  have hs : ∀ b ∈ σ.bk, ∀ g ∈ b.owned E, w'.heap[g]? = w.heap[g]? := fun b hb g hgm => by
    obtain ⟨o, ho, hc⟩ := BA.owned_cells (h.holds b hb) g hgm
    refine hg.block g (Array.getElem?_eq_some_iff.1 ho).1 fun e => ?_
    obtain ⟨_, o', ho', hc'⟩ := hr g e.symm
    rw [ho] at ho'
    obtain rfl := Option.some.inj ho'
    rw [hc] at hc'; cases hc'
  exact ⟨h.ext, h.low.grown hg h.low.size fun g e => (hr g e).1, h.apart, h.base, fun b hb => BA.holds_ext (Env.same_refl 0 0 E) hx (hs b hb) b.off_none (h.holds b hb), fun i => (h.slots i).mono hx, h.size, ⟨rfl, List.nodup_nil, fun D hD => by cases hD⟩, Nat.zero_le _, fun g o e => by cases e⟩
theorem St.forget {V w0 : World} {m : Fm} {E : Env} {σ : AState} {a : Act} {w : World} (h : St V w0 m E σ a w) : St V w0 m.bare E σ { a with defers := [] } w :=
  ⟨h.ext, h.low, h.apart, h.base, h.holds, h.slots, h.size, ⟨rfl, List.nodup_nil, fun D hD => by cases hD⟩, Nat.zero_le _, fun g o e => by cases e⟩
theorem St.marks {V w0 : World} {m : Fm} {E : Env} {σ : AState} {a : Act} {w : World} (h : St V w0 m E σ a w) : Marks w0.heap.size m.ds w := ⟨h.defers.2.1, fun D hD => ⟨(h.defers.2.2 D hD).1, (h.hold.2 D _ (h.defers.2.2 D hD).2).1⟩⟩
theorem St.shut {V w0 : World} {m : Fm} {E : Env} {σ : AState} {a : Act} {w : World} (h : St V w0 m E σ a w) : St V w0 m.bare E σ { a with defers := [] } (shut m.ds w) :=
  Marks.own (s := ()) (I := fun (_ : Unit) W => St V w0 m.bare E σ { a with defers := [] } W) (fun _ _ _ _ hs hg hr => hs.other hg hr) (Nat.le_refl _) m.ds w h.marks h.forget
theorem rdA_mono : ∀ {q s : Nat} {cs : List AV} {K K' : AV → Prop}, rdA q s cs K → (∀ u, K u → K' u) → rdA q s cs K'
  | 0, _, _ :: _, _, _, h, hk => hk _ h
  | 0, _, [], _, _, h, _ => (show False from h).elim
  | 1, _, _, _, _, h, hk => ⟨h.1, hk _ h.2⟩
  | _ + 2, _, _, _, _, h, _ => (show False from h).elim
theorem retQ_mono {P : Program} {σ : AState} : ∀ {rs : List ResultVar} {K K' : List AV → Prop}, retQ P σ rs K → (∀ l, K l → K' l) → retQ P σ rs K'
  | [], _, _, h, hk => hk _ h
  | .tmp t :: r, _, _, h, hk => retQ_mono (rs := r) h fun l => hk _
  | .cell d t :: r, K, K', h, hk => by
    simp only [retQ] at h ⊢
    split at h
    case h_2 => exact h.elim
    split at h
    · exact rdA_mono h fun u => fun h => retQ_mono (rs := r) h fun l => hk _
    · exact ⟨h.1, h.2.1, retQ_mono (rs := r) h.2.2 fun l => hk _⟩
    · exact h.elim
/-- A FUNCTION's CONTRACT, out of a walk of its body -/
theorem ACalls.ofS {f : FuncId} {fn : Func} {c : Code} {n : Nat} {rs : List ResultVar} {args : List AV} {r : AV} {nb : List BA} (hf : P.funcs[f]? = some fn) (hb : fn.body = some c) (hname : (fn.name == "runtime.NumGoroutine") = false) (hn : fn.ntmps = n) (hres : fn.results.toList = rs) (hal : args.length ≤ n)
    (hG : ∀ w w', G w → Below w.heap.size w w' → G w')
    (h : AV.okd.okds args → ∀ V w0, AW P G none V w0 ⟨n, [], false⟩ c ⟨argF 0 args, []⟩ fun e σ => (e = .ret ∨ e = .normal) ∧ retQ P σ rs fun l => ∃ ρ, (∀ (E : Env) (X : World) (v : Value), RepA E X v (oneOf l) → RepA E X v (r.ren ρ)) ∧ leB ρ σ.bk nb ∧ (idsOf ρ nb).Nodup) : ACalls P G f args r nb := by
  refine ⟨fun vs w => ?_, fun V w E vs hV hGw hargs => ?_⟩
  · have hname' : ¬ fn.name = "runtime.NumGoroutine" := by simpa using hname
    simp [callFunc, program, Sem.run, hf, hname', hb]
  have hok : AV.okd.okds args := okds_of fun j c hj => (hargs.2 j _ c (List.getElem?_eq_getElem (by rw [hargs.1]; exact (List.getElem?_eq_some_iff.1 hj).1)) hj).okd
  have hsz : vs.size = args.length := by simpa using hargs.1
  have hs : St V w ⟨⟨n, [], false⟩, fun _ => undef, [], fun _ => none, 0⟩ E ⟨argF 0 args, []⟩ { tmps := vs ++ Array.replicate (fn.ntmps - vs.size) undef, defers := [] } w := by
    have hx : Ext V (vis V w w []) := vis_v hV (Below.refl _ w)
    refine ⟨hV, Below.refl _ w, List.nodup_nil, (fun g hg => by cases hg), (fun b hb => by cases hb), fun i => ?_, ⟨(by simp [hn, hsz]; omega), fun i hi => by cases hi⟩, ⟨rfl, List.nodup_nil, fun D hD => by cases hD⟩, Nat.zero_le _, fun g o e => by cases e⟩
    rw [argF_look]
    simp only [Nat.zero_le, if_true, Nat.sub_zero]
    by_cases hi : i < args.length
    · rw [List.getElem?_eq_getElem hi]
      have : vs[i]? = some (vs[i]'(by omega)) := Array.getElem?_eq_getElem _
      have h2 := hargs.2 i (vs[i]'(by omega)) _ (by rw [Array.getElem?_toList]; exact this) (List.getElem?_eq_getElem hi)
      rw [Array.getD_eq_getD_getElem?, Array.getElem?_append_left (by omega), this]
      exact h2.mono hx
    · rw [List.getElem?_eq_none (by omega)]
      exact .any
  refine (callsIn_wide (n := 0)).1 (callsIn_of_wp_marks (F := FW none) hf hb trivial (wpIn_mono (h hok V w (fun w' hb' => hG w w' hGw hb') ⟨⟨n, [], false⟩, fun _ => undef, [], fun _ => none, 0⟩ E _ w rfl hs) ?_) rfl)
  rintro e a' w2 ⟨m', E', σ', _, ⟨he, hr⟩, hs2⟩
  have hmk := hs2.marks
  have hdf := hs2.defers.1
  have hs' := hs2.shut
  have htm : ({ a' with defers := [] } : Act).tmps = a'.tmps := rfl
  generalize hw' : shut m'.ds w2 = w' at hs'
  obtain ⟨l, ⟨ρ, h1, h2, h3⟩, vs', h4, h5⟩ := retQ_run hs' rs _ hr
  -- what is handed over
  have hfin := hs'.le (S := ⟨[], nb⟩) (ρ := ρ) ⟨trivial, h2, h3⟩
  have hsub : Ext (vis V w w' (owns E' σ'.bk)) (vis V w w' (owns (E'.ren ρ) nb)) := vis_ext (Nat.le_refl _) fun p u _ _ q4 q5 => ⟨fun hm => q4 (by
    obtain ⟨b, hb, hg⟩ := mem_owns.1 hm
    rw [BA.ren_owned] at hg
    exact mem_owns.2 ⟨_, (findB_mem (leB_mem h2 b hb)).1, hg⟩), q5⟩
  have hv : ∃ v, (results fn a'.tmps).run P w' = .ok v w' ∧ RepA E' (vis V w w' (owns E' σ'.bk)) v (oneOf l) := by
    have hmap : (fn.results.mapM (resV a'.tmps)).run P w' = .ok vs'.toArray w' := by
      rw [Array.mapM_eq_mapM_toList, hres]
      simp [h4]
    refine ⟨if h : vs'.toArray.size = 1 then vs'.toArray[0] else .tuple vs'.toArray, ?_, ?_⟩
    · have hfun : results fn a'.tmps = (fn.results.mapM (resV a'.tmps) >>= fun vs => pure (if h : vs.size = 1 then vs[0] else .tuple vs)) := by
        unfold results
        congr 1
      rw [hfun, Sem.run_bind, hmap]
      rfl
    · have hlen := h5.1
      match l, vs', h5, hlen with
      | [c], [v], h5, _ => exact h5.2 0 v c rfl rfl
      | [], [], h5, _ => exact .tup rfl fun j v c a b => by simp at a
      | c :: d :: l, v :: u :: vs', h5, _ =>
        have : ¬ (v :: u :: vs').toArray.size = 1 := by simp
        rw [dif_neg this]
        exact .tup (by simpa using h5.1) fun j v c a b => h5.2 j v c (by simpa using a) b
  obtain ⟨v, hv1, hv2⟩ := hv
  have hpost : ∃ v E'', Ending.returned v = .returned v ∧ True ∧ (results fn a'.tmps).run P w' = .ok v w' ∧ E'' = E'.ren ρ ∧ RepA E'' (vis V w w' (owns E'' nb)) v r := by
    replace hv2 := h1 _ _ _ hv2
    exact ⟨v, _, rfl, trivial, hv1, rfl, (hv2.mono hsub).ren_⟩
  obtain ⟨v, E'', _, _, hv1, rfl, hv3⟩ := hpost
  subst hw'
  have hend := leaves_marks (F := FW none) (n := 0) (P := P) (fn := fn) (tmps := a'.tmps) (R := fun e w' => ∃ v E', e = .returned v ∧ Below w.heap.size w w' ∧ (owns E' nb).Nodup ∧ (∀ g ∈ owns E' nb, w.heap.size ≤ g) ∧
    (∀ b ∈ nb, b.holds E' (vis V w w' (owns E' nb)) w' w.heap.size) ∧ RepA E' (vis V w w' (owns E' nb)) v r) m'.ds w2 hmk ⟨v, hv1, v, _, rfl, hs'.low, hfin.apart, hfin.base, hfin.holds, hv3⟩
  rw [← hdf] at hend
  rcases he with rfl | rfl
  · exact hend
  · exact hend
theorem ACalls.of {f : FuncId} {fn : Func} {c : Code} {n : Nat} {rs : List ResultVar} {args : List AV} {r : AV} {nb : List BA} (hf : P.funcs[f]? = some fn) (hb : fn.body = some c) (hname : (fn.name == "runtime.NumGoroutine") = false) (hn : fn.ntmps = n) (hres : fn.results.toList = rs) (hal : args.length ≤ n)
    (hG : ∀ w w', G w → Below w.heap.size w w' → G w')
    (h : AV.okd.okds args → ∀ V w0, AW P G none V w0 ⟨n, [], false⟩ c ⟨argF 0 args, []⟩ fun e σ => (e = .ret ∨ e = .normal) ∧ retQ P σ rs fun l => ∃ ρ, oneOf l = r.ren ρ ∧ leB ρ σ.bk nb ∧ (idsOf ρ nb).Nodup) : ACalls P G f args r nb :=
  ACalls.ofS hf hb hname hn hres hal hG fun hok V w0 => AW.mono (h hok V w0) fun _ _ ⟨h1, h2⟩ => ⟨h1, retQ_mono h2 fun _ ⟨ρ, e, h3⟩ => ⟨ρ, fun _ _ _ hv => e ▸ hv, h3⟩⟩
end
end Go.Proofs.YtdbeoigbkkdpdaaGreatDoor
namespace Go.Proofs.YtdbeoigbkkdpdaaGreatDoor
open Go.ChangeShapes Go.WideShapes Go.ChangeAt Go.RowKit

/-- an operation's hint: the slots of earlier operations that it reads (slot, operation); slots that it reads as they were ahead of the region; the blocks that it reads, and that it uses up, by number; how many it lays -/
structure Hint where
  sl : List (Nat × Nat)
  pre : List Nat
  rd : List Nat
  cs : List Nat
  out : Nat
def depsO (o : Oper) : List Nat := o.after.toList.filterMap fun e => if Region.binds .any e then some e.on else none
/-- whatever is bound ahead of each operation, a bit each -/
def bef (acc : List Nat) : List (List Nat) → List Nat
  | [] => acc
  | ds :: r => bef (acc ++ [ds.foldl (fun s d => s ||| 2 ^ d ||| acc.getD d 0) 0]) r
theorem foldl_bits {acc : List Nat} {j : Nat} : ∀ (ds : List Nat) (s : Nat), (ds.foldl (fun s d => s ||| 2 ^ d ||| acc.getD d 0) s).testBit j = true → s.testBit j = true ∨ ∃ d ∈ ds, j = d ∨ (acc.getD d 0).testBit j = true
  | [], s, h => .inl h
  | d :: ds, s, h => by
    rcases foldl_bits ds _ h with h | ⟨d', h1, h2⟩
    · simp only [Nat.testBit_or, Bool.or_eq_true, Nat.testBit_two_pow, decide_eq_true_eq] at h
      rcases h with (h | h) | h
      · exact .inl h
      · exact .inr ⟨d, by simp, .inl h.symm⟩
      · exact .inr ⟨d, by simp, .inr h⟩
    · exact .inr ⟨d', List.mem_cons_of_mem _ h1, h2⟩
theorem bef_pre : ∀ (r : List (List Nat)) (acc : List Nat) (i : Nat), i < acc.length → (bef acc r).getD i 0 = acc.getD i 0
  | [], acc, i, h => rfl
  | ds :: r, acc, i, h => by
    simp only [bef]
    rw [bef_pre r _ i (by simp; omega)]
    simp [List.getD_eq_getElem?_getD, List.getElem?_append_left h]
theorem bef_at : ∀ (r : List (List Nat)) (acc : List Nat) (i j : Nat), ((bef acc r).getD (acc.length + i) 0).testBit j = true → i < r.length → (∀ d ∈ r.getD i [], d < acc.length + i) → ∃ d ∈ r.getD i [], j = d ∨ ((bef acc r).getD d 0).testBit j = true
  | [], acc, i, j, _, hi, _ => by simp at hi
  | ds :: r, acc, 0, j, h, _, hd => by
    simp only [bef, Nat.add_zero] at h
    rw [bef_pre r _ acc.length (by simp)] at h
    simp only [List.getD_eq_getElem?_getD, List.getElem?_append_right (Nat.le_refl _), Nat.sub_self, List.getElem?_cons_zero, Option.getD_some] at h
    rcases foldl_bits ds 0 h with h | ⟨d, h1, h2⟩
    · simp at h
    · refine ⟨d, h1, h2.elim Or.inl fun h => .inr ?_⟩
      have hlt := hd d h1
      simp only [Nat.add_zero] at hlt
      simp only [bef]
      rw [bef_pre r _ d (by simp; omega)]
      simpa [List.getD_eq_getElem?_getD, List.getElem?_append_left hlt] using h
  | ds :: r, acc, i + 1, j, h, hi, hd => by
    have h' := bef_at r (acc ++ [ds.foldl (fun s d => s ||| 2 ^ d ||| acc.getD d 0) 0]) i j (by
      simp only [bef] at h
      simpa [Nat.add_assoc, Nat.add_comm 1 i] using h) (by simpa using hi) (fun d hdm => by
      have := hd d (by simpa using hdm)
      simp; omega)
    simpa [bef] using h'

def bases (m : Nat) : List Hint → List Nat
  | [] => []
  | h :: r => m :: bases (m + h.out) r
def outs (bs : List Nat) (hs : List Hint) (i : Nat) : List Nat := List.range' (bs.getD i 0) ((hs[i]?.map (·.out)).getD 0)
def total (m : Nat) : List Hint → Nat
  | [] => m
  | h :: r => total (m + h.out) r
def nodupB : List Nat → Bool
  | [] => true
  | x :: r => !r.contains x && nodupB r
def hintOk (m : Nat) (ops : List Oper) (hs : List Hint) (A bs : List Nat) (i : Nat) (o : Oper) (h : Hint) : Bool :=
  (depsO o).all (fun d => decide (d < i)) &&
  h.sl.all (fun p => (A.getD i 0).testBit p.2 && ((ops[p.2]?).bind (·.dst) == some p.1)) &&
  (List.range ops.length).all (fun j => match (ops[j]?).bind (·.dst) with
    | some d => !h.pre.contains d || j == i || (A.getD j 0).testBit i
    | none => true) &&
  (h.cs ++ h.rd).all (fun t => decide (t < bs.getD i 0) && (decide (t < m) || (List.range i).any fun j => (outs bs hs j).contains t && (A.getD i 0).testBit j)) &&
  (List.range ops.length).all (fun j => j == i || h.cs.all fun t => !(((hs[j]?).map fun g => g.cs ++ g.rd).getD []).contains t || (A.getD i 0).testBit j) &&
  nodupB (h.cs ++ h.rd) &&
  (match o.guard with
    | none => true
    | some (j, _) => (A.getD i 0).testBit j && ((ops[j]?).bind (·.dst)).isSome)
def dstsOf (ops : List Oper) : List Nat := ops.filterMap (·.dst)
def drawOk (n : Nd) (m : Nat) (ops : List Oper) (hs : List Hint) : Bool :=
  let A := bef [] (ops.map depsO)
  let bs := bases m hs
  hs.length == ops.length && nodupB (dstsOf ops) && dstsOk n ops && lexAfter ops.toArray && (List.range ops.length).all (fun i => match ops[i]?, hs[i]? with
    | some o, some h => hintOk m ops hs A bs i o h
    | _, _ => false)

def selF (sl : List (Nat × Nat)) (rs : List AV) : List (Nat × AV) :=
  match sl with
  | [] => []
  | (d, j) :: r => (d, rs.getD j .any) :: selF r rs
def maskF (pre ds : List Nat) : List (Nat × AV) :=
  match ds with
  | [] => []
  | d :: r => if pre.contains d then maskF pre r else (d, .any) :: maskF pre r
def selB (ts : List Nat) (toks : List BA) : List BA :=
  match ts with
  | [] => []
  | t :: r => toks.getD t (.arr 0 []) :: selB r toks
/-- the slots behind all: each operation's, ahead of the elder ones -/
def finF : List Oper → List AV → List (Nat × AV) → List (Nat × AV)
  | [], _, fr => fr
  | o :: r, rs, fr => match o.dst, rs with
    | some d, x :: rs => (d, x) :: finF r rs fr
    | none, _ :: rs => finF r rs fr
    | _, [] => fr
/-- what a guard's operation yielded says -/
def guardD (rs : List AV) (g : Option (Nat × Bool)) (run skip : Prop) : Prop :=
  match g with
  | none => run
  | some (j, b) => match nrm (rs.getD j .any) with
    | .val (.bool true) => (match b with | true => run | false => skip)
    | .val (.bool false) => (match b with | true => skip | false => run)
    | .val (.tuple _) => skip
    | _ => False
/-- it says no, or nothing -/
def saysNo (x : AV) (b : Bool) : Prop := x = .val (.bool !b) ∨ ∃ t, x = .val (.tuple t)
theorem guardD_or {rs : List AV} {g : Option (Nat × Bool)} {run skip : Prop} (h : guardD rs g run skip) : (run ∧ (g = none ∨ ∃ j b, g = some (j, b) ∧ nrm (rs.getD j .any) = .val (.bool b))) ∨ (skip ∧ ∃ j b, g = some (j, b) ∧ saysNo (nrm (rs.getD j .any)) b) := by
  unfold guardD at h
  split at h
  · exact .inl ⟨h, .inl rfl⟩
  · rename_i j b
    split at h
    · rename_i e
      cases b
      · exact .inr ⟨h, j, _, rfl, .inl e⟩
      · exact .inl ⟨h, .inr ⟨j, _, rfl, e⟩⟩
    · rename_i e
      cases b
      · exact .inl ⟨h, .inr ⟨j, _, rfl, e⟩⟩
      · exact .inr ⟨h, j, _, rfl, .inl e⟩
    · rename_i tt e
      exact .inr ⟨h, j, _, rfl, .inr ⟨tt, e⟩⟩
    · exact h.elim
/-- the operations one after the other, each seeing but what is bound ahead of it -/
def vdraw (P : Program) (G : World → Prop) (ds : List Nat) (fr0 : List (Nat × AV)) : List Oper → List Hint → List BA → List AV → (List BA → List AV → Prop) → Prop
  | [], _, toks, rs, K => K toks rs
  | _ :: _, [], _, _, _ => False
  | o :: r, h :: hs, toks, rs, K => guardD rs o.guard (vopL P G (ev (selF h.sl rs ++ maskF h.pre ds ++ fr0)) (selB h.cs toks ++ selB h.rd toks) o fun x bk' =>
      bk' = bk'.take h.out ++ selB h.rd toks ∧ (bk'.take h.out).length = h.out ∧ vdraw P G ds fr0 r hs (toks ++ bk'.take h.out) (rs ++ [x]) K) (h.out = 0 ∧ h.cs = [] ∧ vdraw P G ds fr0 r hs toks (rs ++ [.val undef]) K)
/-- names that are given are free -/
def freshAll (toks : List BA) (fr0 : List (Nat × AV)) (ops : List Oper) (rs : List AV) (hs : List Hint) (bs : List Nat) : Prop :=
  ∀ (i : Nat) (o : Oper), ops[i]? = some o → makes o = true → offF (cid o.dst) (cid o.dst + 100) fr0 = true ∧ (∀ (j : Nat) x, j ≠ i → ((bef [] (ops.map depsO)).getD j 0).testBit i = false → rs[j]? = some x → x.off (cid o.dst) (cid o.dst + 100) = true) ∧
    ∀ (t : Nat) b, t ∉ outs bs hs i → (∀ j, t ∈ outs bs hs j → ((bef [] (ops.map depsO)).getD j 0).testBit i = false) → toks[t]? = some b → b.off (cid o.dst) (cid o.dst + 100) = true
theorem nodupB_iff : ∀ {l : List Nat}, nodupB l = true → l.Nodup
  | [], _ => List.nodup_nil
  | x :: r, h => by
    simp only [nodupB, Bool.and_eq_true, Bool.not_eq_true', List.contains_eq_mem, decide_eq_false_iff_not] at h
    exact List.nodup_cons.2 ⟨h.1, nodupB_iff h.2⟩
theorem total_le : ∀ (hs : List Hint) (m : Nat), m ≤ total m hs
  | [], m => Nat.le_refl _
  | h :: r, m => Nat.le_trans (by omega) (total_le r (m + h.out))
theorem bases_get : ∀ (hs : List Hint) (m i : Nat) (h : Hint), hs[i]? = some h → ∃ b, (bases m hs)[i]? = some b ∧ m ≤ b ∧ b + h.out ≤ total m hs
  | [], _, i, h, e => by simp at e
  | g :: r, m, 0, h, e => by
    simp at e; subst e
    exact ⟨m, rfl, Nat.le_refl _, total_le r _⟩
  | g :: r, m, i + 1, h, e => by
    obtain ⟨b, h1, h2, h3⟩ := bases_get r (m + g.out) i h (by simpa using e)
    exact ⟨b, by simpa [bases] using h1, by omega, h3⟩
theorem bases_lt : ∀ (hs : List Hint) (m i j : Nat) (g : Hint) (b c : Nat), i < j → hs[i]? = some g → (bases m hs)[i]? = some b → (bases m hs)[j]? = some c → b + g.out ≤ c
  | [], _, i, _, _, _, _, _, e, _, _ => by simp at e
  | h :: r, m, 0, j, g, b, c, hij, e, e1, e2 => by
    simp at e; subst e
    simp [bases] at e1; subst e1
    obtain ⟨j', rfl⟩ : ∃ j', j = j' + 1 := ⟨j - 1, by omega⟩
    simp only [bases, List.getElem?_cons_succ] at e2
    have key : ∀ (r : List Hint) (m j c : Nat), (bases m r)[j]? = some c → m ≤ c := by
      intro r
      induction r with
      | nil => intro m j c h; simp [bases] at h
      | cons h r ih =>
        intro m j c h
        cases j with
        | zero => simp [bases] at h; omega
        | succ j => simp only [bases, List.getElem?_cons_succ] at h; have := ih _ _ _ h; omega
    exact key r _ j' c e2
  | h :: r, m, i + 1, j, g, b, c, hij, e, e1, e2 => by
    obtain ⟨j', rfl⟩ : ∃ j', j = j' + 1 := ⟨j - 1, by omega⟩
    exact bases_lt r (m + h.out) i j' g b c (by omega) (by simpa using e) (by simpa [bases] using e1) (by simpa [bases] using e2)
theorem mem_outs {m : Nat} {hs : List Hint} {i t : Nat} {h : Hint} {b : Nat} (e : hs[i]? = some h) (eb : (bases m hs)[i]? = some b) : t ∈ outs (bases m hs) hs i ↔ b ≤ t ∧ t < b + h.out := by
  unfold outs
  rw [List.mem_range'_1, List.getD_eq_getElem?_getD, eb, e]
  simp
theorem outs_none {m : Nat} {hs : List Hint} {i t : Nat} (e : hs[i]? = none) : t ∉ outs (bases m hs) hs i := by
  unfold outs
  rw [List.mem_range'_1, e]
  simp
theorem outs_disj {m : Nat} {hs : List Hint} {i j t : Nat} (hi : t ∈ outs (bases m hs) hs i) (hj : t ∈ outs (bases m hs) hs j) : i = j := by
  cases ei : hs[i]? with
  | none => exact absurd hi (outs_none ei)
  | some g =>
    cases ej : hs[j]? with
    | none => exact absurd hj (outs_none ej)
    | some h =>
      obtain ⟨b, b1, b2, b3⟩ := bases_get hs m i g ei
      obtain ⟨c, c1, c2, c3⟩ := bases_get hs m j h ej
      rw [mem_outs ei b1] at hi
      rw [mem_outs ej c1] at hj
      rcases Nat.lt_trichotomy i j with h' | h' | h'
      · have := bases_lt hs m i j g b c h' ei b1 c1; omega
      · exact h'
      · have := bases_lt hs m j i h c b h' ej c1 b1; omega
theorem outs_ge {m : Nat} {hs : List Hint} {i t : Nat} (hi : t ∈ outs (bases m hs) hs i) : m ≤ t := by
  cases ei : hs[i]? with
  | none => exact absurd hi (outs_none ei)
  | some g =>
    obtain ⟨b, b1, b2, _⟩ := bases_get hs m i g ei
    rw [mem_outs ei b1] at hi; omega
theorem selF_take {rs : List AV} {k : Nat} : ∀ {sl : List (Nat × Nat)}, (∀ p ∈ sl, p.2 < k) → selF sl (rs.take k) = selF sl rs
  | [], _ => rfl
  | (d, j) :: r, h => by
    simp only [selF]
    have hj : j < k := h (d, j) (by simp)
    rw [selF_take fun p hp => h p (List.mem_cons_of_mem _ hp), List.getD_eq_getElem?_getD, List.getElem?_take_of_lt hj, ← List.getD_eq_getElem?_getD]
theorem selB_take {toks : List BA} {k : Nat} : ∀ {ts : List Nat}, (∀ t ∈ ts, t < k) → selB ts (toks.take k) = selB ts toks
  | [], _ => rfl
  | t :: r, h => by
    simp only [selB]
    rw [selB_take fun p hp => h p (List.mem_cons_of_mem _ hp), List.getD_eq_getElem?_getD, List.getElem?_take_of_lt (h t (by simp)), ← List.getD_eq_getElem?_getD]
theorem selB_range {toks : List BA} : ∀ (k b : Nat), b + k ≤ toks.length → selB (List.range' b k) toks = (toks.drop b).take k
  | 0, b, _ => by simp [selB]
  | k + 1, b, h => by
    rw [List.range'_succ]
    simp only [selB]
    rw [selB_range k (b + 1) (by omega), List.drop_eq_getElem_cons (by omega : b < toks.length), List.take_succ_cons, List.getD_eq_getElem?_getD, List.getElem?_eq_getElem (by omega)]
    rfl
theorem selB_map (ts : List Nat) (toks : List BA) : selB ts toks = ts.map fun t => toks.getD t (.arr 0 []) := by
  induction ts with
  | nil => rfl
  | cons t r ih => simp [selB, ih]

section
variable {P : Program} {G : World → Prop}
/-- what the walk in the text's order leaves of each operation -/
def OpOk (P : Program) (G : World → Prop) (ds : List Nat) (fr0 : List (Nat × AV)) (toks : List BA) (rs : List AV) (o : Oper) (h : Hint) (i b : Nat) : Prop :=
  ∃ x, rs[i]? = some x ∧ (((o.guard = none ∨ ∃ j c, o.guard = some (j, c) ∧ nrm ((rs.take i).getD j .any) = .val (.bool c)) ∧ ((makes o = true → ∀ y, (ev (selF h.sl (rs.take i) ++ maskF h.pre ds ++ fr0) y).off (cid o.dst) (cid o.dst + 100) = true) →
    UpdS P G o (ev (selF h.sl (rs.take i) ++ maskF h.pre ds ++ fr0)) (selB h.cs (toks.take b) ++ selB h.rd (toks.take b)) x ((toks.drop b).take h.out ++ selB h.rd (toks.take b)))) ∨
    ((∃ j c, o.guard = some (j, c) ∧ saysNo (nrm ((rs.take i).getD j .any)) c) ∧ x = .val undef ∧ h.out = 0 ∧ h.cs = []))
theorem vdraw_ex {ds : List Nat} {fr0 : List (Nat × AV)} : ∀ (r : List Oper) (hr : List Hint) (toks : List BA) (rs : List AV) (K : List BA → List AV → Prop), vdraw P G ds fr0 r hr toks rs K → hr.length = r.length →
    ∃ toks' rs', K toks' rs' ∧ (∃ e, toks' = toks ++ e) ∧ (∃ e, rs' = rs ++ e) ∧ rs'.length = rs.length + r.length ∧ toks'.length = total toks.length hr ∧
      ∀ (i : Nat) o h b, r[i]? = some o → hr[i]? = some h → (bases toks.length hr)[i]? = some b → OpOk P G ds fr0 toks' rs' o h (rs.length + i) b
  | [], [], toks, rs, K, h, _ => ⟨toks, rs, h, ⟨[], by simp⟩, ⟨[], by simp⟩, by simp, rfl, fun i o h b e => by simp at e⟩
  | [], _ :: _, _, _, _, _, hl => by simp at hl
  | _ :: _, [], _, _, _, _, hl => by simp at hl
  | o :: r, h :: hr, toks, rs, K, hv, hl => by
    simp only [vdraw] at hv
    rcases guardD_or hv with ⟨hv, hg⟩ | ⟨⟨s1, s2, s3⟩, hg⟩
    case inr =>
      obtain ⟨toks', rs', k1, ⟨e1, k2⟩, ⟨e2, k3⟩, k4, k5, k6⟩ := vdraw_ex r hr _ _ K s3 (by simpa using hl)
      refine ⟨toks', rs', k1, ⟨e1, k2⟩, ⟨[.val undef] ++ e2, by rw [k3, List.append_assoc]⟩, by rw [k4]; simp; omega, by rw [k5]; simp [total, s1], fun i o' h' b' a1 a2 a3 => ?_⟩
      cases i with
      | zero =>
        simp at a1 a2
        subst a1 a2
        simp [bases] at a3
        subst a3
        have t3 : rs'.take rs.length = rs := by rw [k3, List.append_assoc, List.take_left]
        refine ⟨.val undef, by rw [k3]; simp, .inr ⟨?_, rfl, s1, s2⟩⟩
        simp only [Nat.add_zero, t3]
        exact hg
      | succ i =>
        have := k6 i o' h' b' (by simpa using a1) (by simpa using a2) (by simpa [bases, s1] using a3)
        simpa [Nat.add_assoc, Nat.add_comm 1 i] using this
    obtain ⟨x, bk', ⟨h1, h2, h3⟩, hu⟩ := vopL_upd2 hv
    obtain ⟨toks', rs', k1, ⟨e1, k2⟩, ⟨e2, k3⟩, k4, k5, k6⟩ := vdraw_ex r hr _ _ K h3 (by simpa using hl)
    have hlen : (toks ++ bk'.take h.out).length = toks.length + h.out := by rw [List.length_append, h2]
    refine ⟨toks', rs', k1, ⟨bk'.take h.out ++ e1, by rw [k2, List.append_assoc]⟩, ⟨[x] ++ e2, by rw [k3, List.append_assoc]⟩, by rw [k4]; simp; omega, by rw [k5, hlen]; rfl, fun i o' h' b' a1 a2 a3 => ?_⟩
    cases i with
    | zero =>
      simp at a1 a2
      subst a1 a2
      simp [bases] at a3
      subst a3
      have t1 : toks'.take toks.length = toks := by rw [k2, List.append_assoc, List.take_left]
      have t2 : (toks'.drop toks.length).take h.out = bk'.take h.out := by
        rw [k2, List.append_assoc, List.drop_left, List.take_append_of_le_length (by omega), List.take_of_length_le (by omega)]
      have t3 : rs'.take rs.length = rs := by rw [k3, List.append_assoc, List.take_left]
      refine ⟨x, by rw [k3]; simp, .inl ?_⟩
      simp only [Nat.add_zero, t1, t2, t3]
      rw [← h1]
      exact ⟨hg, hu⟩
    | succ i =>
      have := k6 i o' h' b' (by simpa using a1) (by simpa using a2) (by rw [hlen]; simpa [bases] using a3)
      simpa [Nat.add_assoc, Nat.add_comm 1 i] using this
end
theorem owns_perm (E : Env) {bk bk' : List BA} (h : bk.Perm bk') : (owns E bk).Perm (owns E bk') := by
  induction h with
  | nil => exact List.Perm.refl _
  | cons x _ ih => exact ih.append_left _
  | swap x y l => simp only [owns, ← List.append_assoc]; exact List.perm_append_comm.append_right _
  | trans _ _ i1 i2 => exact i1.trans i2
section
variable {V w0 : World} {n : Fm} {E : Env} {a : Act} {w : World}
theorem St.perm {fr : List (Nat × AV)} {bk bk' : List BA} (h : St V w0 n E ⟨fr, bk⟩ a w) (hp : bk.Perm bk') : St V w0 n E ⟨fr, bk'⟩ a w := by
  have ho := owns_perm E hp
  have hx : Ext (vis V w0 w (owns E bk)) (vis V w0 w (owns E bk')) := vis_ext (Nat.le_refl _) fun p u _ _ h4 h5 => ⟨fun hm => h4 (ho.mem_iff.2 hm), h5⟩
  exact ⟨h.ext, h.low, ho.nodup_iff.1 h.apart, fun g hg => h.base g (ho.mem_iff.2 hg), fun b hb => BA.holds_ext (Env.same_refl 0 0 E) hx (fun _ _ => rfl) b.off_none (h.holds b (hp.mem_iff.2 hb)), fun i => (h.slots i).mono hx, h.size, h.defers, h.hold.1, fun g o hg => ⟨(h.hold.2 g o hg).1, fun hm => (h.hold.2 g o hg).2 (ho.mem_iff.2 hm)⟩⟩
theorem St.frame {fr fr' : List (Nat × AV)} {bk : List BA} (h : St V w0 n E ⟨fr, bk⟩ a w) (hf : ∀ i, look fr' i = .any ∨ look fr' i = look fr i) : St V w0 n E ⟨fr', bk⟩ a w :=
  ⟨h.ext, h.low, h.apart, h.base, h.holds, fun i => by
    rcases hf i with e | e
    · rw [e]; exact .any
    · rw [e]; exact h.slots i, h.size, h.defers, h.hold⟩
theorem look_append (i : Nat) : ∀ (a b : List (Nat × AV)), (∀ p ∈ a, p.1 ≠ i) → look (a ++ b) i = look b i
  | [], _, _ => rfl
  | (j, c) :: a, b, h => by
    simp only [List.cons_append, look]
    rw [if_neg (Ne.symm (h (j, c) (by simp))), look_append i a b fun p hp => h p (List.mem_cons_of_mem _ hp)]
theorem look_first (i : Nat) {c : AV} : ∀ (a b : List (Nat × AV)), (∀ p ∈ a, p.1 = i → p.2 = c) → (∃ p ∈ a, p.1 = i) → look (a ++ b) i = c
  | [], _, _, ⟨p, hp, _⟩ => by cases hp
  | (j, d) :: a, b, h, ⟨p, hp, e⟩ => by
    simp only [List.cons_append, look]
    by_cases hj : i = j
    · rw [if_pos hj]; exact h (j, d) (by simp) hj.symm
    · rw [if_neg hj]
      refine look_first i a b (fun q hq => h q (List.mem_cons_of_mem _ hq)) ⟨p, ?_, e⟩
      rcases List.mem_cons.1 hp with rfl | hp
      · exact absurd e.symm hj
      · exact hp
end
def dstAt (ops : List Oper) (j : Nat) : Option Nat := (ops[j]?).bind (·.dst)
theorem dst_uniq : ∀ {ops : List Oper}, (dstsOf ops).Nodup → ∀ {i j d : Nat}, dstAt ops i = some d → dstAt ops j = some d → i = j
  | [], _, i, _, _, h, _ => by simp [dstAt] at h
  | o :: r, hn, i, j, d, hi, hj => by
    unfold dstsOf at hn
    have mem : ∀ {k : Nat}, dstAt r k = some d → d ∈ dstsOf r := fun {k} h => by
      unfold dstAt at h
      obtain ⟨o', h1, h2⟩ := Option.bind_eq_some_iff.1 h
      exact List.mem_filterMap.2 ⟨o', List.mem_of_getElem? h1, h2⟩
    have hr : (dstsOf r).Nodup := by
      simp only [List.filterMap_cons] at hn
      split at hn
      · exact hn
      · exact (List.nodup_cons.1 hn).2
    have no : o.dst = some d → d ∉ dstsOf r := fun e => by
      simp only [List.filterMap_cons, e] at hn
      exact (List.nodup_cons.1 hn).1
    cases i with
    | zero =>
      cases j with
      | zero => rfl
      | succ j =>
        have h1 : o.dst = some d := by simpa [dstAt] using hi
        exact absurd (mem (by simpa [dstAt] using hj)) (no h1)
    | succ i =>
      cases j with
      | zero =>
        have h1 : o.dst = some d := by simpa [dstAt] using hj
        exact absurd (mem (by simpa [dstAt] using hi)) (no h1)
      | succ j => exact congrArg Nat.succ (dst_uniq hr (by simpa [dstAt] using hi) (by simpa [dstAt] using hj))
theorem dst_mem {ops : List Oper} {j d : Nat} (h : dstAt ops j = some d) : d ∈ dstsOf ops := by
  unfold dstAt at h
  obtain ⟨o', h1, h2⟩ := Option.bind_eq_some_iff.1 h
  exact List.mem_filterMap.2 ⟨o', List.mem_of_getElem? h1, h2⟩
/-- the slots of the operations that were carried out -/
def doneF (rs : List AV) (S : Nat → Bool) : Nat → List Oper → List (Nat × AV)
  | _, [] => []
  | j, o :: r => match o.dst with
    | some d => if S j then (d, rs.getD j .any) :: doneF rs S (j + 1) r else doneF rs S (j + 1) r
    | none => doneF rs S (j + 1) r
theorem mem_doneF {rs : List AV} {S : Nat → Bool} : ∀ {ops : List Oper} {s : Nat} {p : Nat × AV}, p ∈ doneF rs S s ops ↔ ∃ j, dstAt ops j = some p.1 ∧ S (s + j) = true ∧ p.2 = rs.getD (s + j) .any
  | [], s, p => by simp [doneF, dstAt]
  | o :: r, s, p => by
    have split0 : ∀ {q : Nat → Prop}, (∃ j, q j) ↔ q 0 ∨ ∃ j, q (j + 1) := fun {q} => ⟨fun ⟨j, h⟩ => by cases j with | zero => exact .inl h | succ j => exact .inr ⟨j, h⟩, fun h => h.elim (fun h => ⟨0, h⟩) fun ⟨j, h⟩ => ⟨j + 1, h⟩⟩
    rw [split0]
    have e0 : dstAt (o :: r) 0 = o.dst := by simp [dstAt]
    have e1 : ∀ j, dstAt (o :: r) (j + 1) = dstAt r j := fun j => by simp [dstAt]
    simp only [e0, e1, Nat.add_zero]
    have ih := mem_doneF (rs := rs) (S := S) (ops := r) (s := s + 1) (p := p)
    simp only [Nat.add_assoc, Nat.add_comm 1] at ih
    simp only [doneF]
    cases hd : o.dst with
    | none => simp [ih]
    | some d =>
      simp only
      by_cases hS : S s = true
      · rw [if_pos hS, List.mem_cons, ih]
        constructor
        · rintro (rfl | h)
          · exact .inl ⟨rfl, hS, rfl⟩
          · exact .inr h
        · rintro (⟨h1, _, h2⟩ | h)
          · left
            obtain ⟨p1, p2⟩ := p
            simp only [Option.some.injEq] at h1 h2
            subst h1 h2; rfl
          · exact .inr h
      · rw [if_neg hS, ih]
        constructor
        · exact .inr
        · rintro (⟨_, h, _⟩ | h)
          · exact absurd h hS
          · exact h
theorem look_done {rs : List AV} {S : Nat → Bool} {ops : List Oper} (hn : (dstsOf ops).Nodup) (fr0 : List (Nat × AV)) {j d : Nat} (hd : dstAt ops j = some d) : look (doneF rs S 0 ops ++ fr0) d = if S j = true then rs.getD j .any else look fr0 d := by
  by_cases hS : S j = true
  · rw [if_pos hS]
    refine look_first d _ _ (fun p hp e => ?_) ⟨(d, rs.getD j .any), mem_doneF.2 ⟨j, hd, by simpa using hS, by simp⟩, rfl⟩
    obtain ⟨k, k1, _, k3⟩ := mem_doneF.1 hp
    rw [e] at k1
    obtain rfl := dst_uniq hn hd k1
    simpa using k3
  · rw [if_neg hS]
    refine look_append d _ _ fun p hp e => ?_
    obtain ⟨k, k1, k2, _⟩ := mem_doneF.1 hp
    rw [e] at k1
    obtain rfl := dst_uniq hn hd k1
    exact hS (by simpa using k2)
theorem look_done_no {rs : List AV} {S : Nat → Bool} {ops : List Oper} (fr0 : List (Nat × AV)) {d : Nat} (hd : ∀ j, dstAt ops j ≠ some d) : look (doneF rs S 0 ops ++ fr0) d = look fr0 d := by
  refine look_append d _ _ fun p hp e => ?_
  obtain ⟨k, k1, _, _⟩ := mem_doneF.1 hp
  rw [e] at k1
  exact hd k k1
theorem look_fin : ∀ {ops : List Oper} {rs : List AV} {fr0 : List (Nat × AV)} (s : Nat) (l : List AV), rs = l.drop s → rs.length = ops.length → finF ops rs fr0 = doneF l (fun _ => true) s ops ++ fr0
  | [], rs, fr0, s, l, _, _ => rfl
  | o :: r, [], fr0, s, l, _, h => by simp at h
  | o :: r, x :: rs, fr0, s, l, hl, h => by
    have hx : l.getD s .any = x := by
      have := congrArg (fun q => q[0]?) hl
      simp only [List.getElem?_drop, List.getElem?_cons_zero, Nat.add_zero] at this
      rw [List.getD_eq_getElem?_getD, ← this]; rfl
    have ht : rs = l.drop (s + 1) := by
      have := congrArg List.tail hl
      simpa [List.tail_drop] using this
    have ih := look_fin (ops := r) (fr0 := fr0) (s + 1) l ht (by simpa using h)
    simp only [finF, doneF]
    cases o.dst with
    | none => exact ih
    | some d => simp only [if_true, hx, ih]; rfl
end Go.Proofs.YtdbeoigbkkdpdaaGreatDoor
