/- The formulas, as rewriting rules: one for each kind of operation. No program is known here. -/
import Derived.Test.YtlemffcailmmoaaGreatDoorPAbsDraw
import Derived.IntWalk
import Derived.Scope
set_option linter.unusedSimpArgs false
set_option linter.unusedVariables false
/- A region that draws its order: the law. No program is known here. -/
namespace Go.Proofs.YtlemffcailmmoaaGreatDoor
open Go.ChangeShapes Go.WideShapes Go.ChangeAt Go.RowKit

theorem or_r {p q r : Prop} (h : p ∨ q) (f : q → r) : p ∨ r := h.elim Or.inl fun h => .inr (f h)
structure HintP (m : Nat) (ops : List Oper) (hs : List Hint) (A : List Nat) (i : Nat) (o : Oper) (h : Hint) : Prop where
  lt : ∀ d ∈ depsO o, d < i
  sl : ∀ p ∈ h.sl, (A.getD i 0).testBit p.2 = true ∧ dstAt ops p.2 = some p.1
  pre : ∀ j d, j < ops.length → dstAt ops j = some d → d ∈ h.pre → j = i ∨ (A.getD j 0).testBit i = true
  from_ : ∀ t ∈ h.cs ++ h.rd, t < (bases m hs).getD i 0 ∧ (t < m ∨ ∃ j, j < i ∧ t ∈ outs (bases m hs) hs j ∧ (A.getD i 0).testBit j = true)
  use : ∀ j g, hs[j]? = some g → j < ops.length → j ≠ i → ∀ t ∈ h.cs, t ∈ g.cs ++ g.rd → (A.getD i 0).testBit j = true
  nodup : (h.cs ++ h.rd).Nodup
  guard : ∀ j b, o.guard = some (j, b) → (A.getD i 0).testBit j = true ∧ (dstAt ops j).isSome = true
theorem hintP {m : Nat} {ops : List Oper} {hs : List Hint} {A : List Nat} {i : Nat} {o : Oper} {h : Hint} (hk : hintOk m ops hs A (bases m hs) i o h = true) : HintP m ops hs A i o h := by
  simp only [hintOk, Bool.and_eq_true, List.all_eq_true, decide_eq_true_eq, List.mem_range, Bool.or_eq_true, List.any_eq_true, beq_iff_eq, List.contains_eq_mem, Bool.not_eq_true', decide_eq_false_iff_not] at hk
  obtain ⟨⟨⟨⟨⟨⟨h1, h2⟩, h3⟩, h4⟩, h5⟩, h6⟩, h7⟩ := hk
  refine ⟨h1, fun p hp => h2 p hp, fun j d hj hd hp => ?_, fun t ht => ?_, fun j g hg hj hne t ht htg => ?_, nodupB_iff h6, fun j b hg => by rw [hg] at h7; simp only [Bool.and_eq_true] at h7; exact h7⟩
  · have := h3 j hj
    unfold dstAt at hd
    rw [hd] at this
    simp only [Bool.or_eq_true, Bool.not_eq_true', decide_eq_false_iff_not, beq_iff_eq] at this
    rcases this with (h | h) | h
    · exact absurd hp h
    · exact .inl h
    · exact .inr h
  · obtain ⟨a1, a2⟩ := h4 t ht
    refine ⟨a1, or_r a2 fun ⟨j, b1, b2, b3⟩ => ⟨j, b1, b2, b3⟩⟩
  · rcases h5 j hj with h | h
    · exact absurd h hne
    · rcases h t ht with h | h
      · rw [hg] at h
        exact absurd htg h
      · exact h

section
variable {ops : List Oper} {S : Nat → Bool}
/-- whatever is bound ahead of an operation was carried out -/
theorem anc_done (hlt : ∀ (i : Nat) o, ops[i]? = some o → ∀ d ∈ depsO o, d < i) (hcl : ∀ (i : Nat) o, ops[i]? = some o → S i = true → ∀ d ∈ depsO o, S d = true) : ∀ (i : Nat), i < ops.length → (∀ o, ops[i]? = some o → ∀ d ∈ depsO o, S d = true) → ∀ j, ((bef [] (ops.map depsO)).getD i 0).testBit j = true → S j = true ∧ j < i := by
  intro i
  induction i using Nat.strongRecOn with
  | _ i ih =>
    intro hi hd j hj
    have ho : ops[i]? = some ops[i] := List.getElem?_eq_getElem hi
    have hr : (ops.map depsO).getD i [] = depsO ops[i] := by rw [List.getD_eq_getElem?_getD, List.getElem?_map, ho]; rfl
    obtain ⟨d, h1, h2⟩ := bef_at (ops.map depsO) [] i j (by simpa using hj) (by simpa using hi) (fun d hdm => by
      rw [hr] at hdm
      simpa using hlt i _ ho d hdm)
    rw [hr] at h1
    have hdi := hlt i _ ho d h1
    have hSd := hd _ ho d h1
    rcases h2 with rfl | h2
    · exact ⟨hSd, hdi⟩
    · obtain ⟨h3, h4⟩ := ih d hdi (by omega) (fun o ho' d' hd' => hcl d o ho' hSd d' hd') j h2
      exact ⟨h3, by omega⟩
end

section
variable {P : Program} {G : World → Prop} {V w0 : World} {n : Nd} {ro : Option Nat} {σ : AState} {K : Exit → AState → Prop}
def finOf (m : Nat) (hs : List Hint) : List Nat := (List.range (total m hs)).filter fun t => !hs.any fun h => h.cs.contains t
/-- which blocks lie, when the operations of S were carried out -/
def lies (m : Nat) (hs : List Hint) (S : Nat → Bool) (t : Nat) : Prop := (t < m ∨ ∃ i, S i = true ∧ t ∈ outs (bases m hs) hs i) ∧ ∀ j g, hs[j]? = some g → t ∈ g.cs → S j = false
open Classical in
noncomputable def nowB (m : Nat) (hs : List Hint) (toks : List BA) (S : Nat → Bool) : List BA := selB ((List.range (total m hs)).filter fun t => decide (lies m hs S t)) toks
theorem selB_append (a b : List Nat) (toks : List BA) : selB (a ++ b) toks = selB a toks ++ selB b toks := by simp [selB_map]
theorem selB_perm {a b : List Nat} (h : a.Perm b) (toks : List BA) : (selB a toks).Perm (selB b toks) := by
  rw [selB_map, selB_map]
  exact h.map _

theorem AW.draw {id m : Nat} {ops : List Oper} (hs : List Hint) (hp : P.follows .mixedOrders = true) (hm : σ.bk.length = m) (hok : drawOk n m ops hs = true)
    {Fr : List BA → List AV → Prop} (hFr : ∀ toks rs, Fr toks rs → freshAll toks σ.fr ops rs hs (bases m hs))
    (h : vdraw P G (dstsOf ops) σ.fr ops hs σ.bk [] fun toks rs => Fr toks rs ∧ K .normal ⟨finF ops rs σ.fr, selB (finOf m hs) toks⟩) : AW P G ro V w0 n (.region id ops.toArray true) σ K := fun hG m0 E0 a0 w1 hn0 hs0 => by
  classical
  simp only [drawOk, Bool.and_eq_true, beq_iff_eq, List.all_eq_true, List.mem_range] at hok
  obtain ⟨⟨⟨⟨hlen, hnd⟩, hdst⟩, hlex⟩, hall⟩ := hok
  have hnd := nodupB_iff hnd
  obtain ⟨toks, rs, ⟨hfr, hK⟩, ⟨e1, he1⟩, _, hrl, htl, hop⟩ := vdraw_ex ops hs σ.bk [] _ h hlen
  replace hfr := hFr toks rs hfr
  simp only [List.length_nil, Nat.zero_add] at hrl hop
  rw [hm] at htl hop
  have hint : ∀ i o, ops[i]? = some o → ∃ g, hs[i]? = some g ∧ HintP m ops hs (bef [] (ops.map depsO)) i o g := fun i o ho => by
    have hi := (List.getElem?_eq_some_iff.1 ho).1
    have := hall i hi
    rw [ho] at this
    cases hg : hs[i]? with
    | none => rw [List.getElem?_eq_none_iff] at hg; omega
    | some g =>
      rw [hg] at this
      exact ⟨g, rfl, hintP this⟩
  have hlt : ∀ (i : Nat) o, ops[i]? = some o → ∀ d ∈ depsO o, d < i := fun i o ho => by
    obtain ⟨g, _, hg⟩ := hint i o ho
    exact hg.lt
  refine region_ordersIn hp hlex (fun S a w => ∃ E, St V w0 m0 E ⟨doneF rs S 0 ops ++ σ.fr, nowB m hs toks S⟩ a w) ?_ ?_ ?_
  · -- ahead of all
    refine ⟨E0, ?_⟩
    have hnil : doneF rs (fun _ => false) 0 ops = [] := by
      cases hd : doneF rs (fun _ => false) 0 ops with
      | nil => rfl
      | cons p l =>
        have : p ∈ doneF rs (fun _ => false) 0 ops := by rw [hd]; simp
        obtain ⟨_, _, h, _⟩ := mem_doneF.1 this
        cases h
    rw [hnil]
    have hbk : σ.bk = selB (List.range' 0 m) toks := by
      rw [selB_range m 0 (by rw [htl]; have := total_le hs m; omega), he1, List.drop_zero, ← hm, List.take_left]
    refine St.perm (bk := σ.bk) (fr := σ.fr) hs0.drew ?_
    rw [hbk]
    refine selB_perm ((List.perm_ext_iff_of_nodup (List.nodup_range' (step := 1)) ((List.nodup_range).filter _)).2 fun t => ?_) toks
    rw [List.mem_range'_1, List.mem_filter, List.mem_range, decide_eq_true_eq]
    have := total_le hs m
    constructor
    · rintro ⟨_, h⟩
      exact ⟨by omega, .inl (by omega), fun _ _ _ _ => rfl⟩
    · rintro ⟨_, h | ⟨i, h, _⟩, _⟩
      · omega
      · cases h
  · -- a step
    rintro i o S a w ho hSi haf hcl ⟨E, hst⟩
    have ho' : ops[i]? = some o := by simpa using ho
    have hi := (List.getElem?_eq_some_iff.1 ho').1
    obtain ⟨g, hg, hp⟩ := hint i o ho'
    have hdep : ∀ {o : Oper} {T : Nat → Bool}, (∀ e ∈ o.after, Region.binds .any e = true → T e.on = true) → ∀ d ∈ depsO o, T d = true := fun {o T} h d hd => by
      unfold depsO at hd
      obtain ⟨e, he, hb⟩ := List.mem_filterMap.1 hd
      split at hb
      · rename_i hbi
        obtain rfl := Option.some.inj hb
        exact h e (by simpa using he) hbi
      · cases hb
    have hcl' : ∀ (k : Nat) o', ops[k]? = some o' → S k = true → ∀ d ∈ depsO o', S d = true := fun k o' hk hSk => hdep (hcl k o' (by simpa using hk) hSk)
    have anc : ∀ j, ((bef [] (ops.map depsO)).getD i 0).testBit j = true → S j = true ∧ j < i := anc_done hlt hcl' i hi fun o2 ho2 => by
      rw [ho'] at ho2
      obtain rfl := Option.some.inj ho2
      exact hdep haf
    have anc2 : ∀ j, S j = true → j < ops.length → ∀ k, ((bef [] (ops.map depsO)).getD j 0).testBit k = true → S k = true := fun j hSj hj k hk =>
      (anc_done hlt hcl' j hj (fun o2 ho2 => hcl' j o2 ho2 hSj) k hk).1
    obtain ⟨b, hb1, hb2, hb3⟩ := bases_get hs m i g hg
    obtain ⟨x, hx, hcase⟩ := hop i o g b ho' hg hb1
    have hbD : (bases m hs).getD i 0 = b := by rw [List.getD_eq_getElem?_getD, hb1]; rfl
    -- what the hint names lies there
    have there : ∀ t ∈ g.cs ++ g.rd, lies m hs S t := fun t ht => by
      obtain ⟨_, h2⟩ := hp.from_ t ht
      refine ⟨or_r h2 fun ⟨j, _, j2, j3⟩ => ⟨j, (anc j j3).1, j2⟩, fun j gj hj htj => ?_⟩
      cases hSj : S j with
      | false => rfl
      | true =>
        exfalso
        by_cases hji : j = i
        · subst hji; rw [hSi] at hSj; cases hSj
        · have hjl : j < ops.length := by rw [← hlen]; exact (List.getElem?_eq_some_iff.1 hj).1
          obtain ⟨gj', h1', hpj⟩ := hint j _ (List.getElem?_eq_getElem hjl)
          rw [hj] at h1'
          obtain rfl := Option.some.inj h1'
          have := hpj.use i g hg hi (Ne.symm hji) t htj ht
          rw [anc2 j hSj hjl i this] at hSi
          cases hSi
    have hM : ∀ t ∈ g.cs ++ g.rd, t < b := fun t ht => by have := (hp.from_ t ht).1; rw [hbD] at this; exact this
    have oi : ∀ t, t ∈ outs (bases m hs) hs i ↔ b ≤ t ∧ t < b + g.out := fun t => mem_outs hg hb1
    -- the others
    let rest := (List.range (total m hs)).filter fun t => decide (lies m hs S t ∧ t ∉ g.cs ++ g.rd)
    have hrest : ∀ t, t ∈ rest ↔ t < total m hs ∧ lies m hs S t ∧ t ∉ g.cs ++ g.rd := fun t => by simp only [rest, List.mem_filter, List.mem_range, decide_eq_true_eq]
    have hrn : rest.Nodup := (List.nodup_range).filter _
    have p1 : ((List.range (total m hs)).filter fun t => decide (lies m hs S t)).Perm ((g.cs ++ g.rd) ++ rest) := by
      refine (List.perm_ext_iff_of_nodup ((List.nodup_range).filter _) (List.nodup_append.2 ⟨hp.nodup, hrn, fun t h1 t' h2 e => ?_⟩)).2 fun t => ?_
      · subst e; exact ((hrest t).1 h2).2.2 h1
      · rw [List.mem_filter, List.mem_range, decide_eq_true_eq, List.mem_append, hrest]
        constructor
        · rintro ⟨h1, h2⟩
          by_cases h3 : t ∈ g.cs ++ g.rd
          · exact .inl h3
          · exact .inr ⟨h1, h2, h3⟩
        · rintro (h1 | ⟨h1, h2, _⟩)
          · exact ⟨by have := hM t h1; omega, there t h1⟩
          · exact ⟨h1, h2⟩
    have p2 : ((List.range' b g.out ++ g.rd) ++ rest).Perm ((List.range (total m hs)).filter fun t => decide (lies m hs (fun j => S j || decide (j = i)) t)) := by
      have hrd : g.rd.Nodup := (List.nodup_append.1 hp.nodup).2.1
      have hcr : ∀ t ∈ g.rd, t ∉ g.cs := fun t h1 h2 => (List.nodup_append.1 hp.nodup).2.2 t h2 t h1 rfl
      -- what i lays is new
      have new : ∀ t, t ∈ outs (bases m hs) hs i → ¬ lies m hs S t := fun t ht hl => by
        rcases hl.1 with h | ⟨j, h1, h2⟩
        · have := outs_ge ht; omega
        · have := outs_disj ht h2
          subst this
          rw [hSi] at h1; cases h1
      refine (List.perm_ext_iff_of_nodup (List.nodup_append.2 ⟨List.nodup_append.2 ⟨List.nodup_range' (step := 1), hrd, fun t h1 t' h2 e => ?_⟩, hrn, fun t h1 t' h2 e => ?_⟩) ((List.nodup_range).filter _)).2 fun t => ?_
      · subst e
        rw [List.mem_range'_1] at h1
        have := hM t (List.mem_append_right _ h2)
        omega
      · subst e
        obtain ⟨_, q2, q3⟩ := (hrest t).1 h2
        rcases List.mem_append.1 h1 with h1 | h1
        · rw [List.mem_range'_1] at h1
          exact new t ((oi t).2 h1) q2
        · exact q3 (List.mem_append_right _ h1)
      · rw [List.mem_filter, List.mem_range, decide_eq_true_eq, List.mem_append, List.mem_append, List.mem_range'_1, hrest]
        have keep : lies m hs S t → t ∉ g.cs → lies m hs (fun j => S j || decide (j = i)) t := fun hl hc =>
          ⟨or_r hl.1 fun ⟨j, j1, j2⟩ => ⟨j, by simp [j1], j2⟩, fun j gj hj htj => by
            have := hl.2 j gj hj htj
            simp only [this, Bool.false_or, decide_eq_false_iff_not]
            rintro rfl
            rw [hg] at hj
            obtain rfl := Option.some.inj hj
            exact hc htj⟩
        constructor
        · rintro ((h1 | h1) | ⟨h1, h2, h3⟩)
          · have ht := (oi t).2 h1
            refine ⟨by omega, .inr ⟨i, by simp, ht⟩, fun j gj hj htj => ?_⟩
            have hjl : j < ops.length := by rw [← hlen]; exact (List.getElem?_eq_some_iff.1 hj).1
            obtain ⟨gj', h1', hpj⟩ := hint j _ (List.getElem?_eq_getElem hjl)
            rw [hj] at h1'
            obtain rfl := Option.some.inj h1'
            obtain ⟨_, q⟩ := hpj.from_ t (List.mem_append_left _ htj)
            have hge := outs_ge ht
            rcases q with q | ⟨k, k1, k2, k3⟩
            · omega
            · have := outs_disj ht k2
              subst this
              have hji : j ≠ i := by omega
              cases hSj : S j with
              | false => simp [hSj, hji]
              | true => rw [anc2 j hSj hjl i k3] at hSi; cases hSi
          · exact ⟨by have := hM t (List.mem_append_right _ h1); omega, keep (there t (List.mem_append_right _ h1)) (hcr t h1)⟩
          · exact ⟨h1, keep h2 fun h => h3 (List.mem_append_left _ h)⟩
        · rintro ⟨h1, h2, h3⟩
          by_cases ht : t ∈ outs (bases m hs) hs i
          · exact .inl (.inl ((oi t).1 ht))
          · have hl : lies m hs S t := ⟨or_r h2 fun ⟨j, j1, j2⟩ => ⟨j, by
              simp only [Bool.or_eq_true, decide_eq_true_eq] at j1
              rcases j1 with j1 | rfl
              · exact j1
              · exact absurd j2 ht, j2⟩, fun j gj hj htj => by
              have := h3 j gj hj htj
              simp only [Bool.or_eq_false_iff] at this
              exact this.1⟩
            by_cases hr : t ∈ g.rd
            · exact .inl (.inr hr)
            · refine .inr ⟨h1, hl, fun hc => ?_⟩
              rcases List.mem_append.1 hc with hc | hc
              · have := h3 i g hg hc
                simp at this
              · exact hr hc
    have hst1 := hst.perm (show (nowB m hs toks S).Perm (selB (g.cs ++ g.rd) toks ++ selB rest toks) by
      rw [← selB_append]
      exact selB_perm p1 toks)
    -- the operation sees what it saw in the text's order
    have hcs : selB g.cs (toks.take b) = selB g.cs toks := selB_take fun t ht => hM t (List.mem_append_left _ ht)
    have hrd : selB g.rd (toks.take b) = selB g.rd toks := selB_take fun t ht => hM t (List.mem_append_right _ ht)
    have hsl : selF g.sl (rs.take i) = selF g.sl rs := selF_take fun p hpp => (anc p.2 (hp.sl p hpp).1).2
    have hout : (toks.drop b).take g.out = selB (List.range' b g.out) toks := (selB_range g.out b (by omega)).symm
    rw [hcs, hrd, hsl, hout] at hcase
    have hlook : ∀ s, look (selF g.sl rs ++ maskF g.pre (dstsOf ops) ++ σ.fr) s = .any ∨ look (selF g.sl rs ++ maskF g.pre (dstsOf ops) ++ σ.fr) s = look (doneF rs S 0 ops ++ σ.fr) s := fun s => by
      have memSel : ∀ {sl : List (Nat × Nat)} {p : Nat × AV}, p ∈ selF sl rs → ∃ q ∈ sl, p.1 = q.1 ∧ p.2 = rs.getD q.2 .any := by
        intro sl
        induction sl with
        | nil => intro p h; cases h
        | cons q sl ih =>
          intro p h
          obtain ⟨d, j⟩ := q
          simp only [selF] at h
          rcases List.mem_cons.1 h with rfl | h
          · exact ⟨(d, j), by simp, rfl, rfl⟩
          · obtain ⟨q, h1, h2⟩ := ih h
            exact ⟨q, List.mem_cons_of_mem _ h1, h2⟩
      have memMask : ∀ {ds : List Nat} {p : Nat × AV}, p ∈ maskF g.pre ds ↔ p.2 = .any ∧ p.1 ∈ ds ∧ p.1 ∉ g.pre := by
        intro ds
        induction ds with
        | nil => intro p; simp [maskF]
        | cons d ds ih =>
          intro p
          simp only [maskF]
          by_cases hc : g.pre.contains d = true
          · rw [if_pos hc, ih]
            simp only [List.contains_eq_mem, decide_eq_true_eq] at hc
            constructor
            · rintro ⟨q1, q2, q3⟩; exact ⟨q1, List.mem_cons_of_mem _ q2, q3⟩
            · rintro ⟨q1, q2, q3⟩
              rcases List.mem_cons.1 q2 with e | q2
              · exact absurd (e ▸ hc) q3
              · exact ⟨q1, q2, q3⟩
          · rw [if_neg hc, List.mem_cons, ih]
            simp only [List.contains_eq_mem, decide_eq_true_eq] at hc
            obtain ⟨p1, p2⟩ := p
            constructor
            · rintro (e | ⟨q1, q2, q3⟩)
              · injection e with e1 e2
                subst e1 e2
                exact ⟨rfl, by simp, hc⟩
              · exact ⟨q1, List.mem_cons_of_mem _ q2, q3⟩
            · rintro ⟨q1, q2, q3⟩
              simp only at q1
              subst q1
              rcases List.mem_cons.1 q2 with e | q2
              · exact .inl (congrArg (fun z => (z, AV.any)) e)
              · exact .inr ⟨rfl, q2, q3⟩
      by_cases hsel : ∃ q ∈ g.sl, q.1 = s
      · obtain ⟨q, hq1, hq2⟩ := hsel
        obtain ⟨a1, a2⟩ := hp.sl q hq1
        rw [hq2] at a2
        right
        rw [look_done hnd _ a2, if_pos (anc _ a1).1, List.append_assoc]
        refine look_first s _ _ (fun p hpp e => ?_) ?_
        · obtain ⟨q', b1, b2, b3⟩ := memSel hpp
          obtain ⟨_, c2⟩ := hp.sl q' b1
          rw [← b2, e] at c2
          rw [b3, dst_uniq hnd c2 a2]
        · have : ∀ {sl : List (Nat × Nat)}, q ∈ sl → ∃ p ∈ selF sl rs, p.1 = s := by
            intro sl
            induction sl with
            | nil => intro h; cases h
            | cons q' sl ih =>
              intro h
              obtain ⟨d, j⟩ := q'
              simp only [selF]
              rcases List.mem_cons.1 h with rfl | h
              · exact ⟨(d, rs.getD j .any), List.mem_cons_self .., hq2⟩
              · obtain ⟨p, p1, p2⟩ := ih h
                exact ⟨p, List.mem_cons_of_mem _ p1, p2⟩
          exact this hq1
      · rw [List.append_assoc, look_append s _ _ fun p hpp e => by
          obtain ⟨q, b1, b2, _⟩ := memSel hpp
          exact hsel ⟨q, b1, by rw [← b2]; exact e⟩]
        by_cases hmask : s ∈ dstsOf ops ∧ s ∉ g.pre
        · left
          exact look_first s _ _ (fun p hpp _ => (memMask.1 hpp).1) ⟨(s, .any), memMask.2 ⟨rfl, hmask.1, hmask.2⟩, rfl⟩
        · right
          rw [look_append s _ _ fun p hpp e => by
            obtain ⟨_, b2, b3⟩ := memMask.1 hpp
            exact hmask ⟨e ▸ b2, e ▸ b3⟩]
          by_cases hd : ∃ j, dstAt ops j = some s
          · obtain ⟨j, hj⟩ := hd
            have hpre : s ∈ g.pre := by
              by_cases h : s ∈ g.pre
              · exact h
              · exact absurd ⟨dst_mem hj, h⟩ hmask
            have hjl : j < ops.length := by
              rcases Nat.lt_or_ge j ops.length with h | h
              · exact h
              · unfold dstAt at hj; rw [List.getElem?_eq_none h] at hj; cases hj
            have hSj : S j = false := by
              rcases hp.pre j s hjl hj hpre with rfl | h
              · exact hSi
              · cases hSj : S j with
                | false => rfl
                | true => rw [anc2 j hSj hjl i h] at hSi; cases hSi
            rw [look_done hnd _ hj, hSj]
            simp
          · rw [look_done_no _ fun j hj => hd ⟨j, hj⟩]
    have hL : ∀ y, RepA E (vis V w0 w (owns E (selB (g.cs ++ g.rd) toks ++ selB rest toks))) (a.eval y) (ev (selF g.sl rs ++ maskF g.pre (dstsOf ops) ++ σ.fr) y) := (hst1.frame hlook).ev
    -- the names that it gives are free
    have hfo : makes o = true → offF (cid o.dst) (cid o.dst + 100) (doneF rs S 0 ops ++ σ.fr) = true ∧ offF (cid o.dst) (cid o.dst + 100) (selF g.sl rs ++ maskF g.pre (dstsOf ops) ++ σ.fr) = true ∧ offB (cid o.dst) (cid o.dst + 100) (selB (g.cs ++ g.rd) toks ++ selB rest toks) = true := fun hmk => by
      obtain ⟨f1, f2, f3⟩ := hfr i o ho' hmk
      have offFapp : ∀ {u v : List (Nat × AV)}, (∀ p ∈ u, p.2.off (cid o.dst) (cid o.dst + 100) = true) → offF (cid o.dst) (cid o.dst + 100) v = true → offF (cid o.dst) (cid o.dst + 100) (u ++ v) = true := by
        intro u
        induction u with
        | nil => exact fun _ h => h
        | cons p u ih =>
          intro v h1 h2
          obtain ⟨d, c⟩ := p
          simp only [List.cons_append, offF, Bool.and_eq_true]
          exact ⟨h1 (d, c) (by simp), ih (fun p hp => h1 p (List.mem_cons_of_mem _ hp)) h2⟩
      have behind : ∀ j, S j = true → j < ops.length → ((bef [] (ops.map depsO)).getD j 0).testBit i = false := fun j hSj hjl => by
        cases hb : ((bef [] (ops.map depsO)).getD j 0).testBit i with
        | false => rfl
        | true => rw [anc2 j hSj hjl i hb] at hSi; cases hSi
      have rsoff : ∀ j, j ≠ i → S j = true → j < ops.length → (rs.getD j .any).off (cid o.dst) (cid o.dst + 100) = true := fun j hj hSj hjl => by
        rw [List.getD_eq_getElem?_getD]
        cases hr : rs[j]? with
        | none => rfl
        | some y => exact f2 j y hj (behind j hSj hjl) hr
      refine ⟨offFapp (fun p hpp => ?_) f1, ?_, ?_⟩
      · obtain ⟨j, j1, j2, j3⟩ := mem_doneF.1 hpp
        rw [j3]
        have hjl : 0 + j < ops.length := by
          rw [Nat.zero_add]
          rcases Nat.lt_or_ge j ops.length with h | h
          · exact h
          · unfold dstAt at j1; rw [List.getElem?_eq_none h] at j1; cases j1
        refine rsoff _ (fun e => ?_) j2 hjl
        rw [e, hSi] at j2; cases j2
      · rw [List.append_assoc]
        refine offFapp (fun p hpp => ?_) (offFapp (fun p hpp => ?_) f1)
        · have : ∀ {sl : List (Nat × Nat)}, (∀ q ∈ sl, q.2 ≠ i ∧ S q.2 = true ∧ q.2 < ops.length) → ∀ p ∈ selF sl rs, p.2.off (cid o.dst) (cid o.dst + 100) = true := by
            intro sl
            induction sl with
            | nil => intro _ p h; cases h
            | cons q sl ih =>
              intro hq p h
              obtain ⟨d, j⟩ := q
              simp only [selF] at h
              rcases List.mem_cons.1 h with rfl | h
              · obtain ⟨u1, u2, u3⟩ := hq (d, j) (by simp)
                exact rsoff j u1 u2 u3
              · exact ih (fun q h => hq q (List.mem_cons_of_mem _ h)) p h
          exact this (fun q hq => by have := anc q.2 (hp.sl q hq).1; exact ⟨by omega, this.1, by omega⟩) p hpp
        · have : ∀ {ds : List Nat}, ∀ p ∈ maskF g.pre ds, p.2 = .any := by
            intro ds
            induction ds with
            | nil => intro p h; cases h
            | cons d ds ih =>
              intro p h
              simp only [maskF] at h
              split at h
              · exact ih p h
              · rcases List.mem_cons.1 h with rfl | h
                · rfl
                · exact ih p h
          rw [this p hpp]; rfl
      · have offBall : ∀ {l : List BA}, (∀ b ∈ l, b.off (cid o.dst) (cid o.dst + 100) = true) → offB (cid o.dst) (cid o.dst + 100) l = true := by
          intro l
          induction l with
          | nil => exact fun _ => rfl
          | cons b l ih => intro h; simp only [offB, Bool.and_eq_true]; exact ⟨h b (by simp), ih fun c hc => h c (List.mem_cons_of_mem _ hc)⟩
        refine offBall fun b hbm => ?_
        rw [← selB_append, selB_map] at hbm
        obtain ⟨t, ht, rfl⟩ := List.mem_map.1 hbm
        have hno : t ∉ outs (bases m hs) hs i := fun hc => by
          rcases List.mem_append.1 ht with ht | ht
          · have := hM t ht
            have := (oi t).1 hc
            omega
          · have hl := ((hrest t).1 ht).2.1
            rcases hl.1 with q | ⟨j, q1, q2⟩
            · have := outs_ge hc; omega
            · have := outs_disj hc q2
              subst this
              rw [hSi] at q1; cases q1
        have htt : t < toks.length := by
          rw [htl]
          rcases List.mem_append.1 ht with ht | ht
          · have := hM t ht; omega
          · exact ((hrest t).1 ht).1
        have hby : ∀ j, t ∈ outs (bases m hs) hs j → ((bef [] (ops.map depsO)).getD j 0).testBit i = false := fun j hj => by
          have hjl : j < ops.length := by
            rcases Nat.lt_or_ge j hs.length with h | h
            · omega
            · exact absurd hj (outs_none (List.getElem?_eq_none h))
          refine behind j ?_ hjl
          have hge := outs_ge hj
          rcases List.mem_append.1 ht with ht | ht
          · rcases (hp.from_ t ht).2 with q | ⟨j', _, q2, q3⟩
            · omega
            · rw [outs_disj hj q2]; exact (anc j' q3).1
          · rcases ((hrest t).1 ht).2.1.1 with q | ⟨j', q1, q2⟩
            · omega
            · rw [outs_disj hj q2]; exact q1
        exact f3 t _ hno hby (by rw [List.getD_eq_getElem?_getD, List.getElem?_eq_getElem htt]; rfl)
    -- the state behind the operation
    have fin_ : ∀ (E' : Env) (v : Value) (x' : AV) (a : Act) (w' : World), St V w0 m0 E' ⟨doneF rs S 0 ops ++ σ.fr, selB (List.range' b g.out) toks ++ selB g.rd toks ++ selB rest toks⟩ a w' → RepA E' (vis V w0 w' (owns E' (selB (List.range' b g.out) toks ++ selB g.rd toks ++ selB rest toks))) v x' → x' = x →
        ∃ E, St V w0 m0 E ⟨doneF rs (fun j => S j || decide (j = i)) 0 ops ++ σ.fr, nowB m hs toks fun j => S j || decide (j = i)⟩ (a.put o.dst v) w' := by
      rintro E' v x' a w' h1 h2 rfl
      have hput := h1.put (dst := o.dst) (fun d hd => by
        have : ∀ {l : List Oper}, dstsOk n l = true → o ∈ l → d < n.n ∧ d ∉ n.fx := by
          intro l
          induction l with
          | nil => intro _ h; cases h
          | cons q l ih =>
            intro h hm
            simp only [dstsOk, Bool.and_eq_true] at h
            rcases List.mem_cons.1 hm with rfl | hm
            · have := h.1
              rw [hd] at this
              simp only [Bool.and_eq_true, Bool.not_eq_true'] at this
              exact ⟨blt_iff.1 this.1, memN_iff this.2⟩
            · exact ih h.2 hm
        rw [hn0]; exact this hdst (List.mem_of_getElem? ho')) h2
      refine ⟨E', (hput.perm (bk' := nowB m hs toks fun j => S j || decide (j = i)) ?_).frame fun s => .inr ?_⟩
      · show (selB (List.range' b g.out) toks ++ selB g.rd toks ++ selB rest toks).Perm _
        rw [← selB_append, ← selB_append]
        exact selB_perm p2 toks
      · -- the slots
        by_cases hd : ∃ j, dstAt ops j = some s
        · obtain ⟨j, hj⟩ := hd
          rw [look_done hnd _ hj]
          have hdi : dstAt ops i = o.dst := by unfold dstAt; rw [ho']; rfl
          by_cases hji : j = i
          · subst hji
            rw [hdi] at hj
            simp only [decide_true, Bool.or_true, if_true, hj, putF, look]
            rw [List.getD_eq_getElem?_getD, hx]; rfl
          · have hne : o.dst ≠ some s := fun e => hji (dst_uniq hnd hj (hdi.trans e))
            have e2 : look (putF o.dst x' (doneF rs S 0 ops ++ σ.fr)) s = look (doneF rs S 0 ops ++ σ.fr) s := by
              cases hdd : o.dst with
              | none => rfl
              | some d =>
                simp only [putF, look]
                rw [if_neg fun e => hne (by rw [hdd, e])]
            rw [e2, look_done hnd _ hj]
            simp [hji]
        · rw [look_done_no _ fun j hj => hd ⟨j, hj⟩]
          have hdi : dstAt ops i = o.dst := by unfold dstAt; rw [ho']; rfl
          have e2 : look (putF o.dst x' (doneF rs S 0 ops ++ σ.fr)) s = look (doneF rs S 0 ops ++ σ.fr) s := by
            cases hdd : o.dst with
            | none => rfl
            | some d =>
              simp only [putF, look]
              rw [if_neg fun e => hd ⟨i, by rw [hdi, hdd, e]⟩]
          rw [e2, look_done_no _ fun j hj => hd ⟨j, hj⟩]
    -- what the guard says
    have hyield : ∀ (j : Nat) (c : Bool), (((bef [] (ops.map depsO)).getD i 0).testBit j = true ∧ (dstAt ops j).isSome = true) → nrm ((rs.take i).getD j .any) = .val (.bool c) → yielded ops.toArray a.tmps j = some c := fun j c hb hn => by
      obtain ⟨hSj, hji⟩ := anc j hb.1
      rw [List.getD_eq_getElem?_getD, List.getElem?_take_of_lt hji, ← List.getD_eq_getElem?_getD] at hn
      cases hd : dstAt ops j with
      | none => rw [hd] at hb; cases hb.2
      | some d =>
        have hv := hst.slots d
        simp only at hv
        rw [look_done hnd _ hd, if_pos hSj] at hv
        have hv := hv.nrm_
        rw [hn] at hv
        generalize hu : a.tmps.getD d undef = u at hv
        cases hv
        have : a.tmps[d]? = some (.bool c) := by
          rw [Array.getD_eq_getD_getElem?] at hu
          cases hdd : a.tmps[d]? with
          | none => rw [hdd] at hu; simp [undef] at hu
          | some y => rw [hdd] at hu; simp at hu; rw [hu]
        unfold dstAt at hd
        simp [yielded, hd, this]
    refine wpListIn_step fun K' hK' => ?_
    rcases hcase with ⟨hgd, hu⟩ | ⟨⟨j, c, hg1, hg2⟩, rfl, ho0, hc0⟩
    case inr =>
      have hw : Region.wanted o (yielded ops.toArray a.tmps) = false := by
        unfold Region.wanted
        rw [hg1]
        simp only
        rw [hyield j (!c) (hp.guard j c hg1) hg2]
        cases c <;> rfl
      rw [if_neg (by rw [hw]; simp)]
      refine ⟨fun _ _ => trivial, hK' _ _ ?_⟩
      show ∃ E, St V w0 m0 E ⟨doneF rs (fun j => S j || decide (j = i)) 0 ops ++ σ.fr, nowB m hs toks fun j => S j || decide (j = i)⟩ (a.put o.dst undef) w
      have hst2 : St V w0 m0 E ⟨doneF rs S 0 ops ++ σ.fr, selB (List.range' b g.out) toks ++ selB g.rd toks ++ selB rest toks⟩ a w := by
        rw [ho0]
        rw [hc0] at hst1
        simpa [selB] using hst1
      exact fin_ E undef .any a w hst2 .any rfl
    have hw : Region.wanted o (yielded ops.toArray a.tmps) = true := by
      unfold Region.wanted
      rcases hgd with hgd | ⟨j, c, hg1, hg2⟩
      · rw [hgd]
      · rw [hg1]
        simp only
        rw [hyield j c (hp.guard j c hg1) hg2]
        simp
    rw [if_pos hw]
    have hus := hu fun hmk y => off_ev (hfo hmk).2.1 y
    rw [← selB_append] at hus
    refine hus V w0 m0 E a w _ (selB rest toks) hst1 hL (fun hmk => ⟨(hfo hmk).1, (hfo hmk).2.2⟩) (hG w hst.low) K' _ (fun v w' E' h1 h2 => hK' _ _ ?_) ro
    show ∃ E, St V w0 m0 E ⟨doneF rs (fun j => S j || decide (j = i)) 0 ops ++ σ.fr, nowB m hs toks fun j => S j || decide (j = i)⟩ (a.put o.dst v) w'
    exact fin_ E' v x a w' (by rw [← selB_append] at h1 ⊢; exact h1) (by rw [← selB_append] at h2 ⊢; exact h2) rfl
  · -- behind all
    rintro S a w hall' ⟨E, hst⟩
    have hS : ∀ i, i < ops.length → S i = true := fun i hi => hall' i (by simpa using hi)
    refine ⟨m0, E, _, Fm.le.refl m0, hK, ?_⟩
    refine (hst.perm (bk' := selB (finOf m hs) toks) (selB_perm ((List.perm_ext_iff_of_nodup ((List.nodup_range).filter _) ((List.nodup_range).filter _)).2 fun t => ?_) toks)).frame fun s => .inr ?_
    · rw [List.mem_filter, List.mem_filter, List.mem_range, decide_eq_true_eq]
      simp only [Bool.not_eq_true', List.any_eq_false, List.contains_eq_mem, decide_eq_true_eq]
      have hjl : ∀ {j : Nat} {g : Hint}, hs[j]? = some g → S j = true := fun {j g} hj => hS j (by rw [← hlen]; exact (List.getElem?_eq_some_iff.1 hj).1)
      constructor
      · rintro ⟨h1, h2, h3⟩
        refine ⟨h1, fun g hgm ht => ?_⟩
        obtain ⟨j, hj⟩ := List.mem_iff_getElem?.1 hgm
        have := h3 j g hj ht
        rw [hjl hj] at this; cases this
      · rintro ⟨h1, h2⟩
        refine ⟨h1, ?_, fun j g hj ht => absurd ht (h2 g (List.mem_of_getElem? hj))⟩
        by_cases hm' : t < m
        · exact .inl hm'
        · right
          -- some operation laid it
          have key : ∀ (hs : List Hint) (m t : Nat), m ≤ t → t < total m hs → ∃ (i : Nat) (g : Hint) (b : Nat), hs[i]? = some g ∧ (bases m hs)[i]? = some b ∧ b ≤ t ∧ t < b + g.out := by
            intro hs
            induction hs with
            | nil => intro m t h1 h2; simp only [total] at h2; omega
            | cons g hs ih =>
              intro m t h1 h2
              by_cases h3 : t < m + g.out
              · exact ⟨0, g, m, rfl, rfl, h1, h3⟩
              · obtain ⟨i, g', b, a1, a2, a3, a4⟩ := ih (m + g.out) t (by omega) h2
                exact ⟨i + 1, g', b, by simpa using a1, by simpa [bases] using a2, a3, a4⟩
          obtain ⟨i, g, b, a1, a2, a3, a4⟩ := key hs m t (by omega) h1
          exact ⟨i, hjl a1, (mem_outs a1 a2).2 ⟨a3, a4⟩⟩
    · show look (finF ops rs σ.fr) s = _
      rw [look_fin 0 rs (by simp) hrl]
      by_cases hd : ∃ j, dstAt ops j = some s
      · obtain ⟨j, hj⟩ := hd
        have hjl : j < ops.length := by
          rcases Nat.lt_or_ge j ops.length with h | h
          · exact h
          · unfold dstAt at hj; rw [List.getElem?_eq_none h] at hj; cases hj
        rw [look_done hnd _ hj, look_done hnd _ hj, hS j hjl]
      · rw [look_done_no _ fun j hj => hd ⟨j, hj⟩, look_done_no _ fun j hj => hd ⟨j, hj⟩]
end
end Go.Proofs.YtlemffcailmmoaaGreatDoor
namespace Go.Proofs.YtlemffcailmmoaaGreatDoor
open Go.ChangeShapes Go.WideShapes Go.ChangeAt Go.RowKit

section
variable {P : Program} {G : World → Prop} {σ : AState} {L : Operand → AV} {bk : List BA} {K : AV → List BA → Prop} {dst : Option Tmp} {ty : TypeId} {pos : String} {after : Array Edge} {gd : Option (Nat × Bool)}
theorem vops_guard {ops : List Oper} {op : Op} {rest : List Oper} {j : Nat} {b : Bool} {KK : AState → Prop} : vops P G ops (⟨dst, op, ty, pos, after, some (j, b)⟩ :: rest) σ KK =
    match yieldA ops σ.fr j with
    | .val (.bool x) => (x = b → vop P G σ ⟨dst, op, ty, pos, after, some (j, b)⟩ fun r bk => vops P G ops rest ⟨putF dst r σ.fr, bk⟩ KK) ∧ (x = !b → vops P G ops rest ⟨putF dst .any σ.fr, σ.bk⟩ KK)
    | _ => False := rfl
@[go_sem] theorem putF_some {d : Nat} {r : AV} {fr : List (Nat × AV)} : putF (some d) r fr = (d, r) :: fr := rfl
@[go_sem] theorem putF_none {r : AV} {fr : List (Nat × AV)} : putF none r fr = fr := rfl
@[go_sem] theorem look_cons {j i : Nat} {a : AV} {r : List (Nat × AV)} : look ((j, a) :: r) i = if i = j then a else look r i := rfl
@[go_sem] theorem look_nil {i : Nat} : look [] i = .any := rfl
@[go_sem] theorem ev_tmp {fr : List (Nat × AV)} {t : Nat} : ev fr (.tmp t) = look fr t := rfl
@[go_sem] theorem ev_int {fr : List (Nat × AV)} {k : IntKind} {m : Int} : ev fr (.const (.int k m)) = .val (.int k m) := rfl
@[go_sem] theorem ev_bool {fr : List (Nat × AV)} {b : Bool} : ev fr (.const (.bool b)) = .val (.bool b) := rfl
@[go_sem] theorem ev_string {fr : List (Nat × AV)} {s : ByteArray} : ev fr (.const (.string s)) = .val (.string s) := rfl
@[go_sem] theorem ev_slice {fr : List (Nat × AV)} {A : Option Addr} {m c : Nat} : ev fr (.const (.slice A m c)) = .val (.slice A m c) := rfl
@[go_sem] theorem ev_agg {fr : List (Nat × AV)} {cs : Array Value} : ev fr (.const (.agg cs)) = .agg (cs.toList.map AV.val) := rfl
@[go_sem] theorem ev_nilFunc {fr : List (Nat × AV)} : ev fr (.const .nilFunc) = .val .nilFunc := rfl
@[go_sem] theorem ev_nilPtr {fr : List (Nat × AV)} : ev fr (.const (.pointer none)) = .val (.pointer none) := rfl
@[go_sem] theorem ev_func {fr : List (Nat × AV)} {f : Nat} : ev fr (.func f) = .fn f [] := rfl
@[go_sem] theorem ev_global {fr : List (Nat × AV)} {g : Nat} : ev fr (.global g) = .val (.pointer (some ⟨g, 0, none⟩)) := rfl
@[go_sem] theorem nrm_val {v : Value} : nrm (.val v) = .val v := rfl
@[go_sem] theorem nrm_iv {v : Value} : nrm (.iv (.val v)) = .val v := rfl
@[go_sem] theorem nrm_pt {cs : List IV} : nrm (.iv (.pt cs)) = .ip cs := rfl
@[go_sem] theorem nrm_sl {k : Nat} {l : List (List IV)} : nrm (.iv (.sl k l)) = .iv (.sl k l) := rfl
@[go_sem] theorem nrm_own {b : Nat} : nrm (.own b) = .own b := rfl
@[go_sem] theorem nrm_any : nrm .any = .any := rfl
@[go_sem] theorem nrm_agg {cs : List AV} : nrm (.agg cs) = .agg cs := rfl
@[go_sem] theorem nrm_aggI {cs : List IV} : nrm (.aggI cs) = .aggI cs := rfl
@[go_sem] theorem nrm_bp {b o : Nat} : nrm (.bp b o) = .bp b o := rfl
@[go_sem] theorem nrm_ip {cs : List IV} : nrm (.ip cs) = .ip cs := rfl
@[go_sem] theorem findB_nil {b : Nat} : findB b [] = none := rfl
@[go_sem] theorem findB_box {b c : Nat} {cs : List AV} {r : List BA} : findB b (.box c cs :: r) = if c = b then some (.box c cs) else findB b r := rfl
@[go_sem] theorem findB_arr {b c : Nat} {cs : List IV} {r : List BA} : findB b (.arr c cs :: r) = if c = b then some (.arr c cs) else findB b r := rfl
@[go_sem] theorem findB_row {b c e k : Nat} {l : List (List IV)} {r : List BA} : findB b (.row c e k l :: r) = if c = b then some (.row c e k l) else findB b r := rfl
@[go_sem] theorem replB_box {b c : Nat} {cs : List AV} {r y : List BA} : replB b y (.box c cs :: r) = if c = b then y ++ r else .box c cs :: replB b y r := rfl
@[go_sem] theorem replB_arr {b c : Nat} {cs : List IV} {r y : List BA} : replB b y (.arr c cs :: r) = if c = b then y ++ r else .arr c cs :: replB b y r := rfl
@[go_sem] theorem replB_row {b c e k : Nat} {l : List (List IV)} {r y : List BA} : replB b y (.row c e k l :: r) = if c = b then y ++ r else .row c e k l :: replB b y r := rfl
@[go_sem] theorem setsL_nil {α : Type} {cs : List α} {o : Nat} : setsL cs o [] = cs := rfl
@[go_sem] theorem setsL_cons {α : Type} {cs : List α} {o : Nat} {d : α} {ds : List α} : setsL cs o (d :: ds) = setsL (cs.set o d) (o + 1) ds := rfl
@[go_sem] theorem rdI_0 {s : Nat} {c : IV} {cs : List IV} {KK : AV → Prop} : rdI 0 s (c :: cs) KK = KK (nrm (.iv c)) := rfl
@[go_sem] theorem rdI_1 {s : Nat} {cs : List IV} {KK : AV → Prop} : rdI 1 s cs KK = (s ≤ cs.length ∧ KK (.agg ((cs.take s).map fun c => nrm (.iv c)))) := rfl
@[go_sem] theorem rdI_2 {s : Nat} {cs : List IV} {KK : AV → Prop} : rdI 2 s cs KK = (s ≤ cs.length ∧ KK (.aggI (cs.take s))) := rfl
@[go_sem] theorem rdA_0 {s : Nat} {c : AV} {cs : List AV} {KK : AV → Prop} : rdA 0 s (c :: cs) KK = KK c := rfl
@[go_sem] theorem rdA_1 {s : Nat} {cs : List AV} {KK : AV → Prop} : rdA 1 s cs KK = (s ≤ cs.length ∧ KK (.agg (cs.take s))) := rfl
@[go_sem] theorem cid_some {d : Nat} : cid (some d) = 100 * (d + 1) := rfl
@[go_sem] theorem cellsA_agg {cs : List AV} : cellsA (.agg cs) = cs := rfl
@[go_sem] theorem cellsA_val {v : Value} : cellsA (.val v) = [.val v] := rfl
@[go_sem] theorem cellsA_iv {i : IV} : cellsA (.iv i) = [.iv i] := rfl
@[go_sem] theorem cellsA_own {b : Nat} : cellsA (.own b) = [.own b] := rfl
@[go_sem] theorem cellsA_bp {b o : Nat} : cellsA (.bp b o) = [.bp b o] := rfl
@[go_sem] theorem cellsA_ip {cs : List IV} : cellsA (.ip cs) = [.ip cs] := rfl
@[go_sem] theorem cellsA_fn {f : Nat} {cs : List AV} : cellsA (.fn f cs) = [.fn f cs] := rfl
@[go_sem] theorem cellsA_aggI {cs : List IV} : cellsA (.aggI cs) = cs.map AV.iv := rfl
@[go_sem] theorem fr_pick {b x y : Operand} : freshO ⟨dst, .pick b x y, ty, pos, after, gd⟩ σ = True := by unfold freshO; simp [makes]
@[go_sem] theorem vopL_pick {b x y : Operand} : vopL P G L bk ⟨dst, .pick b x y, ty, pos, after, gd⟩ K = match nrm (L b) with
    | .val (.bool true) => K (L x) bk
    | .val (.bool false) => K (L y) bk
    | _ => False := by unfold vopL qop; rfl
def freshQ (dst : Option Tmp) (σ : AState) : Prop := (offF (cid dst) (cid dst + 100) σ.fr && offB (cid dst) (cid dst + 100) σ.bk) = true
theorem fresh_no {o : Oper} (h : makes o = false) : freshO o σ = True := by unfold freshO; rw [h]; simp
theorem fresh_yes {o : Oper} (h : makes o = true) : freshO o σ = freshQ o.dst σ := by unfold freshO freshQ; rw [h]; simp
@[go_sem] theorem fr_move {x : Operand} : freshO ⟨dst, .move x, ty, pos, after, gd⟩ σ = True := fresh_no rfl
@[go_sem] theorem fr_assign {x : Operand} : freshO ⟨dst, .assign x, ty, pos, after, gd⟩ σ = True := fresh_no rfl
@[go_sem] theorem fr_load {t : TypeId} {x : Operand} : freshO ⟨dst, .load t x, ty, pos, after, gd⟩ σ = True := fresh_no rfl
@[go_sem] theorem fr_store {t : TypeId} {x y : Operand} : freshO ⟨dst, .store t x y, ty, pos, after, gd⟩ σ = True := fresh_no rfl
@[go_sem] theorem fr_nil {x : Operand} : freshO ⟨dst, .nilCheck x, ty, pos, after, gd⟩ σ = True := fresh_no rfl
@[go_sem] theorem fr_bin {op : BinOp} {t tz : TypeId} {x y : Operand} : freshO ⟨dst, .binOp op t x y tz, ty, pos, after, gd⟩ σ = True := fresh_no rfl
@[go_sem] theorem fr_un {op : UnOp} {t : TypeId} {x : Operand} : freshO ⟨dst, .unOp op t x, ty, pos, after, gd⟩ σ = True := fresh_no rfl
@[go_sem] theorem fr_conv {s d : TypeId} {x : Operand} : freshO ⟨dst, .convert s d x, ty, pos, after, gd⟩ σ = True := fresh_no rfl
@[go_sem] theorem fr_func {f : Fn} {a c : Array Operand} : freshO ⟨dst, .makeFunc f a c, ty, pos, after, gd⟩ σ = True := fresh_no rfl
@[go_sem] theorem fr_slice {t : TypeId} {x : Operand} {l h m : Option Operand} : freshO ⟨dst, .slice t x l h m, ty, pos, after, gd⟩ σ = True := fresh_no rfl
@[go_sem] theorem fr_fieldAddr {t : TypeId} {x : Operand} {f : Nat} : freshO ⟨dst, .fieldAddr t x f, ty, pos, after, gd⟩ σ = True := fresh_no rfl
@[go_sem] theorem fr_field {t : TypeId} {x : Operand} {f : Nat} : freshO ⟨dst, .field t x f, ty, pos, after, gd⟩ σ = True := fresh_no rfl
@[go_sem] theorem fr_indexAddr {t : TypeId} {x i : Operand} : freshO ⟨dst, .indexAddr t x i, ty, pos, after, gd⟩ σ = True := fresh_no rfl
@[go_sem] theorem fr_index {t : TypeId} {x i : Operand} : freshO ⟨dst, .index t x i, ty, pos, after, gd⟩ σ = True := fresh_no rfl
@[go_sem] theorem fr_extract {x : Operand} {i : Nat} : freshO ⟨dst, .extract x i, ty, pos, after, gd⟩ σ = True := fresh_no rfl
@[go_sem] theorem fr_build {t : TypeId} {ps : Array (Nat × Operand)} : freshO ⟨dst, .build t ps, ty, pos, after, gd⟩ σ = True := fresh_no rfl
@[go_sem] theorem fr_len {x : Array Operand} {t : Array TypeId} : freshO ⟨dst, .call { callee := .builtin .len, args := x, argTypes := t }, ty, pos, after, gd⟩ σ = True := fresh_no rfl
@[go_sem] theorem fr_max {x : Array Operand} {t : Array TypeId} : freshO ⟨dst, .call { callee := .builtin .max, args := x, argTypes := t }, ty, pos, after, gd⟩ σ = True := fresh_no rfl
@[go_sem] theorem fr_min {x : Array Operand} {t : Array TypeId} : freshO ⟨dst, .call { callee := .builtin .min, args := x, argTypes := t }, ty, pos, after, gd⟩ σ = True := fresh_no rfl
@[go_sem] theorem fr_append {x : Array Operand} {t : Array TypeId} : freshO ⟨dst, .call { callee := .builtin .append, args := x, argTypes := t }, ty, pos, after, gd⟩ σ = freshQ dst σ := fresh_yes rfl
@[go_sem] theorem fr_call {f : Operand} {x : Array Operand} {t : Array TypeId} : freshO ⟨dst, .call { callee := .value f, args := x, argTypes := t }, ty, pos, after, gd⟩ σ = freshQ dst σ := fresh_yes rfl
@[go_sem] theorem fr_alloc {e : TypeId} : freshO ⟨dst, .alloc e, ty, pos, after, gd⟩ σ = freshQ dst σ := fresh_yes rfl
@[go_sem] theorem fr_box {e : TypeId} {x : Operand} : freshO ⟨dst, .box e x, ty, pos, after, gd⟩ σ = freshQ dst σ := fresh_yes rfl
@[go_sem] theorem fr_buildSlice {t : TypeId} {k : Nat} {ps : Array (Nat × Operand)} : freshO ⟨dst, .buildSlice t k ps, ty, pos, after, gd⟩ σ = freshQ dst σ := fresh_yes rfl
@[go_sem] theorem vop_def {o : Oper} : vop P G σ o K = (freshO o σ ∧ vopL P G (ev σ.fr) σ.bk o K) := rfl
@[go_sem] theorem vopL_move {x : Operand} : vopL P G L bk ⟨dst, .move x, ty, pos, after, gd⟩ K = K (L x) bk := rfl
@[go_sem] theorem vopL_assign {x : Operand} : vopL P G L bk ⟨dst, .assign x, ty, pos, after, gd⟩ K = K (L x) bk := rfl
@[go_sem] theorem vopL_alloc {e : TypeId} : vopL P G L bk ⟨dst, .alloc e, ty, pos, after, gd⟩ K = (match tyZ P e with
    | some (2, zs) => (∀ v ∈ zs, okV v) ∧ K (.bp (cid dst) 0) (.arr (cid dst) (zs.map IV.val) :: bk)
    | some (_, zs) => K (.bp (cid dst) 0) (.box (cid dst) (zs.map AV.val) :: bk)
    | none => False) := rfl
@[go_sem] theorem vopL_box {e : TypeId} {x : Operand} : vopL P G L bk ⟨dst, .box e x, ty, pos, after, gd⟩ K = (match L x with
    | .aggI cs => K (.bp (cid dst) 0) (.arr (cid dst) cs :: bk)
    | u => okC u = true ∧ K (.bp (cid dst) 0) (.box (cid dst) (cellsA u) :: bk)) := rfl
@[go_sem] theorem vopL_load {t : TypeId} {x : Operand} : vopL P G L bk ⟨dst, .load t x, ty, pos, after, gd⟩ K = match tyK P t with
    | some (q, s) => match L x with
      | .ip cs => rdI q s cs fun r => K r bk
      | .bp b p => match findB b bk with
        | some (.box _ cs) => rdA q s (cs.drop p) fun r => K r bk
        | some (.arr _ cs) => match q with
          | 0 => ∃ u, cs[p]? = some u ∧ K (nrm (.iv u)) bk
          | 1 => False
          | _ => p = 0 ∧ s = cs.length ∧ K (.aggI cs) bk
        | _ => False
      | .rp b k i j => match findB b bk with
        | some (.row _ _ k' l) => k' = k ∧ ∃ cs, l[i]? = some cs ∧ rdI q s (cs.drop j) fun r => K r bk
        | _ => False
      | _ => False
    | none => False := rfl
@[go_sem] theorem vopL_nil {x : Operand} : vopL P G L bk ⟨dst, .nilCheck x, ty, pos, after, gd⟩ K = match L x with
      | .ip cs => K (.ip cs) bk
      | .bp b p => K (.bp b p) bk
      | .rp b k i j => K (.rp b k i j) bk
      | .fn f cs => K (.fn f cs) bk
      | _ => False := rfl
@[go_sem] theorem vopL_bin {op : BinOp} {t tz : TypeId} {x y : Operand} : vopL P G L bk ⟨dst, .binOp op t x y tz, ty, pos, after, gd⟩ K = binQ P op t x y (L x) (L y) fun r => K r bk := rfl
@[go_sem] theorem vopL_un {op : UnOp} {t : TypeId} {x : Operand} : vopL P G L bk ⟨dst, .unOp op t x, ty, pos, after, gd⟩ K = match op, nrm (L x) with
    | .not, .val (.bool b) => K (.val (.bool !b)) bk
    | .neg, .val (.int k m) => ∃ m', k.wrap (0 - m) = m' ∧ K (.val (.int k m')) bk
    | _, _ => False := rfl
@[go_sem] theorem vopL_conv {s d : TypeId} {x : Operand} : vopL P G L bk ⟨dst, .convert s d x, ty, pos, after, gd⟩ K = match tyInt P s, tyInt P d, nrm (L x) with
    | some _, some k, .val (.int _ m) => ∃ m', k.wrap m = m' ∧ K (.val (.int k m')) bk
    | _, _, _ => False := rfl
@[go_sem] theorem vopL_func {f : FuncId} {first caps : Array Operand} : vopL P G L bk ⟨dst, .makeFunc (.func f) first caps, ty, pos, after, gd⟩ K = (first = #[] ∧ K (.fn f (caps.toList.map (L))) bk) := rfl
@[go_sem] theorem vopL_slice {t : TypeId} {x : Operand} {lo hi mx : Option Operand} : vopL P G L bk ⟨dst, .slice t x lo hi mx, ty, pos, after, gd⟩ K = match tySl P t, nrm (L x) with
    | some (_, k, _), .iv (.sl k' l) =>
      k = k' ∧ ∃ i j : Nat, (match lo with | none => i = 0 | some p => L p = .val (.int .i64 i)) ∧ (match hi with | none => j = l.length | some p => L p = .val (.int .i64 j)) ∧ i ≤ j ∧ j ≤ l.length ∧ mxQ L mx hi j l.length (K (.iv (.sl k ((l.take j).drop i))) bk)
    | _, _ => False := rfl
@[go_sem] theorem mxQ_none {hi : Option Operand} {j m : Nat} {X : Prop} : mxQ L none hi j m X = X := rfl
@[go_sem] theorem mxQ_some {p q : Operand} {j n : Nat} {X : Prop} : mxQ L (some p) (some q) j n X = ∃ m : Nat, L p = .val (.int .i64 m) ∧ j ≤ m ∧ m ≤ n ∧ X := by simp [mxQ]
@[go_sem] theorem vopL_cap {x : Operand} {t : TypeId} : vopL P G L bk ⟨dst, .call { callee := .builtin .cap, args := #[x], argTypes := #[t] }, ty, pos, after, gd⟩ K = match nrm (L x) with
      | .val (.slice none 0 0) => (tySl P t).isSome = true ∧ K (.val (.int .i64 0)) bk
      | _ => False := rfl
@[go_sem] theorem fr_cap {x : Array Operand} {t : Array TypeId} : freshO ⟨dst, .call { callee := .builtin .cap, args := x, argTypes := t }, ty, pos, after, gd⟩ σ = True := fresh_no rfl
@[go_sem] theorem vopL_fieldAddr {t : TypeId} {x : Operand} {f : Nat} : vopL P G L bk ⟨dst, .fieldAddr t x f, ty, pos, after, gd⟩ K = match tyF P t f with
    | some (off, _, s) => s ≠ 0 ∧ match L x with
      | .ip cs => K (.ip (cs.drop off)) bk
      | .bp b p => K (.bp b (p + off)) bk
      | .rp b k i j => K (.rp b k i (j + off)) bk
      | _ => False
    | none => False := rfl
@[go_sem] theorem vopL_field {t : TypeId} {x : Operand} {f : Nat} : vopL P G L bk ⟨dst, .field t x f, ty, pos, after, gd⟩ K = match tyF P t f, L x with
    | some (off, q, s), .agg cs => rdA q s (cs.drop off) fun r => K r bk
    | _, _ => False := rfl
@[go_sem] theorem vopL_indexAddr {t : TypeId} {x i : Operand} : vopL P G L bk ⟨dst, .indexAddr t x i, ty, pos, after, gd⟩ K = match nrm (L i) with
    | .val (.int _ m) => match tySl P t with
      | some (_, k, _) => match nrm (L x) with
        | .iv (.sl k' l) => k = k' ∧ 0 ≤ m ∧ ∃ cs, l[m.toNat]? = some cs ∧ K (.ip cs) bk
        | .own b => match findB b bk with
          | some (.row _ _ k' l) => k = k' ∧ 0 ≤ m ∧ m.toNat < l.length ∧ K (.rp b k m.toNat 0) bk
          | _ => False
        | _ => False
      | none => match tyAr P t, L x with
        | some (n, _, k), .bp b p => 0 ≤ m ∧ m < (n : Int) ∧ 0 < k ∧ K (.bp b (p + m.toNat * k)) bk
        | some (n, _, k), .ip cs => 0 ≤ m ∧ m < (n : Int) ∧ 0 < k ∧ K (.ip (cs.drop (m.toNat * k))) bk
        | _, _ => False
    | _ => False := rfl
@[go_sem] theorem vopL_index {t : TypeId} {x i : Operand} : vopL P G L bk ⟨dst, .index t x i, ty, pos, after, gd⟩ K = match nrm (L i), L x with
    | .val (.int _ m), .aggI cs => match tyAr P t with
      | some (n, 0, 1) => 0 ≤ m ∧ m < (n : Int) ∧ ∃ u, cs[m.toNat]? = some u ∧ K (nrm (.iv u)) bk
      | _ => False
    | .val (.int _ m), .val (.string s) => tyStr P t = true ∧ 0 ≤ m ∧ ∃ b, s[m.toNat]? = some b ∧ K (.val (.int .u8 (b.toNat : Nat))) bk
    | _, _ => False := rfl
@[go_sem] theorem vopL_struct {t : TypeId} {parts : Array (Nat × Operand)} : vopL P G L bk ⟨dst, .build t parts, ty, pos, after, gd⟩ K = match tyBld P t with
    | some (zs, places) => match fillA places (zs.map AV.val) (parts.toList.map fun p => (p.1, L p.2)) with
      | some cs => K (.agg cs) bk
      | none => False
    | none => False := rfl
@[go_sem] theorem fillA_nil {ps : List (Nat × Nat)} {cells : List AV} : fillA ps cells [] = some cells := rfl
@[go_sem] theorem fillA_cons {ps : List (Nat × Nat)} {cells : List AV} {i : Nat} {v : AV} {rest : List (Nat × AV)} : fillA ps cells ((i, v) :: rest) = match ps[i]? with
    | none => none
    | some (off, size) => if (cellsA v).length = size ∧ okC v = true ∧ off + size ≤ cells.length then fillA ps (setsL cells off (cellsA v)) rest else none := rfl
@[go_sem] theorem vopL_extract {x : Operand} {i : Nat} : vopL P G L bk ⟨dst, .extract x i, ty, pos, after, gd⟩ K = match L x with
    | .tup cs => i < cs.length ∧ K (cs.getD i .any) bk
    | _ => False := rfl
@[go_sem] theorem vopL_store {t : TypeId} {x y : Operand} : vopL P G L bk ⟨dst, .store t x y, ty, pos, after, gd⟩ K = storeQ P t (L x) (L y) bk fun bk' => K .any bk' := rfl
@[go_sem] theorem vopL_append {x y : Operand} {t t' : TypeId} : vopL P G L bk ⟨dst, .call { callee := .builtin .append, args := #[x, y], argTypes := #[t, t'] }, ty, pos, after, gd⟩ K = (t' = t ∧ appendQ P t (L x) (L y) (cid dst) bk K) := rfl
@[go_sem] theorem vopL_len {x : Operand} {t : TypeId} : vopL P G L bk ⟨dst, .call { callee := .builtin .len, args := #[x], argTypes := #[t] }, ty, pos, after, gd⟩ K = lenQ P t (fun b => findB b bk) (L x) fun r => K r bk := rfl
@[go_sem] theorem vopL_max {x y : Operand} {tt : Array TypeId} : vopL P G L bk ⟨dst, .call { callee := .builtin .max, args := #[x, y], argTypes := tt }, ty, pos, after, gd⟩ K = match nrm (L x), nrm (L y) with
      | .val (.int k p), .val (.int _ q) => ∃ m, max p q = m ∧ K (.val (.int k m)) bk
      | _, _ => False := rfl
@[go_sem] theorem vopL_min {x y : Operand} {tt : Array TypeId} : vopL P G L bk ⟨dst, .call { callee := .builtin .min, args := #[x, y], argTypes := tt }, ty, pos, after, gd⟩ K = match nrm (L x), nrm (L y) with
      | .val (.int k p), .val (.int _ q) => ∃ m, min p q = m ∧ K (.val (.int k m)) bk
      | _, _ => False := rfl
/-- a call, as it is met: a contract is asked for -/
def callW (P : Program) (G : World → Prop) (f : FuncId) (args : List AV) (dst : Option Tmp) (bk : List BA) (K : AV → List BA → Prop) : Prop := callQ P G (fun b => findB b bk) f args (cid dst) fun r nb => K r (nb ++ bk)
@[go_sem] theorem vopL_call {fo : Operand} {args : Array Operand} {tt : Array TypeId} : vopL P G L bk ⟨dst, .call { callee := .value fo, args := args, argTypes := tt }, ty, pos, after, gd⟩ K = match L fo with
    | .fn f caps => callW P G f (args.toList.map L ++ caps) dst bk K
    | _ => False := rfl
@[go_sem] theorem vopL_build {t : TypeId} {len : Nat} {parts : Array (Nat × Operand)} : vopL P G L bk ⟨dst, .buildSlice t len parts, ty, pos, after, gd⟩ K = (match tySl P t with
    | some (e, k, _) => (tyZ P e).isSome = true ∧ ∃ l : List (List IV), l.length = len ∧ 0 < k ∧ len * k ≤ 16777216 ∧ (∀ (i : Nat) (cs : List IV), l[i]? = some cs → cs.length = k ∧ ∃ x, parts[i]? = some (i, x) ∧ okC (L x) = true ∧ toIs (cellsA (L x)) = some cs ∧ okAs (cellsA (L x))) ∧ parts.size = len ∧ (K (.own (cid dst)) (.row (cid dst) e k l :: bk) ∨ K (.iv (.sl k l)) bk)
    | none => False) := rfl
@[go_sem] theorem lenQ_sl {t : TypeId} {B : Nat → Option BA} {k : Nat} {l : List (List IV)} {KK : AV → Prop} : lenQ P t B (.iv (.sl k l)) KK = ((tySl P t).isSome = true ∧ KK (.val (.int .i64 (l.length : Nat)))) := rfl
@[go_sem] theorem lenQ_own {t : TypeId} {B : Nat → Option BA} {b : Nat} {KK : AV → Prop} : lenQ P t B (.own b) KK = match B b with
    | some (.row _ _ _ l) => (tySl P t).isSome = true ∧ KK (.val (.int .i64 (l.length : Nat)))
    | _ => False := rfl
@[go_sem] theorem lenQ_str {t : TypeId} {B : Nat → Option BA} {s : ByteArray} {KK : AV → Prop} : lenQ P t B (.val (.string s)) KK = (tyStr P t = true ∧ KK (.val (.int .i64 (s.size : Nat)))) := rfl
@[go_sem] theorem lenQ_nil {t : TypeId} {B : Nat → Option BA} {KK : AV → Prop} : lenQ P t B (.val (.slice none 0 0)) KK = ((tySl P t).isSome = true ∧ KK (.val (.int .i64 0))) := rfl
section
variable {t : TypeId} {x y : Operand} {k k' : IntKind} {p q : Int} {KK : AV → Prop}
@[go_sem] theorem valA_val {v : Value} : valA (.val v) = some v := rfl
@[go_sem] theorem valA_agg {cs : List AV} : valA (.agg cs) = (valA.valAs cs).map fun l => .agg l.toArray := rfl
@[go_sem] theorem valAs_nil : valA.valAs [] = some [] := rfl
@[go_sem] theorem valAs_cons {v : Value} {cs : List AV} : valA.valAs (.val v :: cs) = (valA.valAs cs).map fun l => v :: l := by
  show (match valA (.val v), valA.valAs cs with | some v, some l => some (v :: l) | _, _ => none) = _
  rw [valA_val]
  cases valA.valAs cs <;> rfl
@[go_sem] theorem bin_agg {op : BinOp} {u v : List AV} : binQ P op t x y (.agg u) (.agg v) KK = match valA (.agg u), valA (.agg v) with
    | some p, some q => ∃ r, (∀ w, (do eqGuard op t x y p q; binOp op t p q : Sem Value).run P w = .ok r w) ∧ KK (.val r)
    | _, _ => False := by cases op <;> rfl
@[go_sem] theorem bin_bool {op : BinOp} {u v : Bool} : binQ P op t x y (.val (.bool u)) (.val (.bool v)) KK = ∃ r, (∀ w, (do eqGuard op t x y (.bool u) (.bool v); binOp op t (.bool u) (.bool v) : Sem Value).run P w = .ok r w) ∧ KK (.val r) := by cases op <;> rfl
@[go_sem] theorem bin_lss : binQ P .lss t x y (.val (.int k p)) (.val (.int k' q)) KK = (k = k' ∧ KK (.val (.bool (decide (p < q))))) := rfl
@[go_sem] theorem bin_leq : binQ P .leq t x y (.val (.int k p)) (.val (.int k' q)) KK = (k = k' ∧ KK (.val (.bool (decide (p ≤ q))))) := rfl
@[go_sem] theorem bin_gtr : binQ P .gtr t x y (.val (.int k p)) (.val (.int k' q)) KK = (k = k' ∧ KK (.val (.bool (decide (q < p))))) := rfl
@[go_sem] theorem bin_geq : binQ P .geq t x y (.val (.int k p)) (.val (.int k' q)) KK = (k = k' ∧ KK (.val (.bool (decide (q ≤ p))))) := rfl
@[go_sem] theorem bin_eql : binQ P .eql t x y (.val (.int k p)) (.val (.int k' q)) KK = (k = k' ∧ KK (.val (.bool (decide (p = q))))) := rfl
@[go_sem] theorem bin_neq : binQ P .neq t x y (.val (.int k p)) (.val (.int k' q)) KK = (k = k' ∧ KK (.val (.bool (decide (p ≠ q))))) := rfl
@[go_sem] theorem bin_add : binQ P .add t x y (.val (.int k p)) (.val (.int k' q)) KK = (k = k' ∧ ∃ m, k.wrap (p + q) = m ∧ KK (.val (.int k m))) := rfl
@[go_sem] theorem bin_sub : binQ P .sub t x y (.val (.int k p)) (.val (.int k' q)) KK = (k = k' ∧ ∃ m, k.wrap (p - q) = m ∧ KK (.val (.int k m))) := rfl
@[go_sem] theorem bin_and : binQ P .and t x y (.val (.int k p)) (.val (.int k' q)) KK = ∃ r, (∀ w, (do eqGuard .and t x y (.int k p) (.int k' q); binOp .and t (.int k p) (.int k' q) : Sem Value).run P w = .ok r w) ∧ KK (.val r) := rfl
@[go_sem] theorem bin_mul : binQ P .mul t x y (.val (.int k p)) (.val (.int k' q)) KK = (k = k' ∧ ∃ m, k.wrap (p * q) = m ∧ KK (.val (.int k m))) := rfl
end
end
@[go_sem] theorem argF_cons {i : Nat} {c : AV} {cs : List AV} : argF i (c :: cs) = (i, c) :: argF (i + 1) cs := rfl
@[go_sem] theorem argF_nil {i : Nat} : argF i [] = [] := rfl
@[go_sem] theorem oneOf_one {c : AV} : oneOf [c] = c := rfl
@[go_sem] theorem oneOf_two {c d : AV} {l : List AV} : oneOf (c :: d :: l) = .tup (c :: d :: l) := rfl
@[go_sem] theorem leF_nil {ρ : Nat → Nat} {fr : List (Nat × AV)} : leF ρ fr [] = True := rfl
@[go_sem] theorem leF_cons {ρ : Nat → Nat} {fr r : List (Nat × AV)} {i : Nat} {c : AV} : leF ρ fr ((i, c) :: r) = (look fr i = c.ren ρ ∧ leF ρ fr r) := rfl
@[go_sem] theorem leB_nil {ρ : Nat → Nat} {bk : List BA} : leB ρ bk [] = True := rfl
@[go_sem] theorem leB_cons {ρ : Nat → Nat} {bk r : List BA} {b : BA} : leB ρ bk (b :: r) = (findB (ρ b.id) bk = some (b.ren ρ) ∧ leB ρ bk r) := rfl
@[go_sem] theorem idsOf_nil {ρ : Nat → Nat} : idsOf ρ [] = [] := rfl
@[go_sem] theorem idsOf_cons {ρ : Nat → Nat} {b : BA} {r : List BA} : idsOf ρ (b :: r) = ρ b.id :: idsOf ρ r := rfl
@[go_sem] theorem id_box {b : Nat} {cs : List AV} : (BA.box b cs).id = b := rfl
@[go_sem] theorem id_arr {b : Nat} {cs : List IV} : (BA.arr b cs).id = b := rfl
@[go_sem] theorem id_row {b e k : Nat} {l : List (List IV)} : (BA.row b e k l).id = b := rfl
section
variable {ρ : Nat → Nat}
@[go_sem] theorem ren_any : AV.any.ren ρ = .any := rfl
@[go_sem] theorem ren_val {v : Value} : (AV.val v).ren ρ = .val v := rfl
@[go_sem] theorem ren_iv {i : IV} : (AV.iv i).ren ρ = .iv i := rfl
@[go_sem] theorem ren_ip {cs : List IV} : (AV.ip cs).ren ρ = .ip cs := rfl
@[go_sem] theorem ren_aggI {cs : List IV} : (AV.aggI cs).ren ρ = .aggI cs := rfl
@[go_sem] theorem ren_bp {b o : Nat} : (AV.bp b o).ren ρ = .bp (ρ b) o := rfl
@[go_sem] theorem ren_own {b : Nat} : (AV.own b).ren ρ = .own (ρ b) := rfl
@[go_sem] theorem ren_agg {cs : List AV} : (AV.agg cs).ren ρ = .agg (AV.ren.rens ρ cs) := rfl
@[go_sem] theorem ren_tup {cs : List AV} : (AV.tup cs).ren ρ = .tup (AV.ren.rens ρ cs) := rfl
@[go_sem] theorem ren_fn {f : Nat} {cs : List AV} : (AV.fn f cs).ren ρ = .fn f (AV.ren.rens ρ cs) := rfl
@[go_sem] theorem rens_nil : AV.ren.rens ρ [] = [] := rfl
@[go_sem] theorem rens_cons {c : AV} {cs : List AV} : AV.ren.rens ρ (c :: cs) = c.ren ρ :: AV.ren.rens ρ cs := rfl
@[go_sem] theorem renB_box {b : Nat} {cs : List AV} : (BA.box b cs).ren ρ = .box (ρ b) (AV.ren.rens ρ cs) := rfl
@[go_sem] theorem renB_arr {b : Nat} {cs : List IV} : (BA.arr b cs).ren ρ = .arr (ρ b) cs := rfl
@[go_sem] theorem renB_row {b e k : Nat} {l : List (List IV)} : (BA.row b e k l).ren ρ = .row (ρ b) e k l := rfl
end
@[go_sem] theorem retQ_nil {P : Program} {σ : AState} {K : List AV → Prop} : retQ P σ [] K = K [] := rfl
@[go_sem] theorem retQ_tmp {P : Program} {σ : AState} {t : Nat} {r : List ResultVar} {K : List AV → Prop} : retQ P σ (.tmp t :: r) K = retQ P σ r fun l => K (look σ.fr t :: l) := rfl
@[go_sem] theorem retQ_cell {P : Program} {σ : AState} {d t : Nat} {r : List ResultVar} {K : List AV → Prop} : retQ P σ (.cell d t :: r) K = match look σ.fr d with
    | .bp b p => match findB b σ.bk, tyK P t with
      | some (.box _ cs), some (q, s) => rdA q s (cs.drop p) fun u => retQ P σ r fun l => K (u :: l)
      | some (.arr _ cs), some (2, s) => p = 0 ∧ s = cs.length ∧ retQ P σ r fun l => K (.aggI cs :: l)
      | _, _ => False
    | _ => False := rfl
def offO (lo hi : Nat) (A : List Nat) (skip : Nat) : Nat → List AV → Bool
  | _, [] => true
  | j, x :: r => (x.off lo hi || (Nat.beq j skip || (A.getD j 0).testBit skip)) && offO lo hi A skip (j + 1) r
def offT (lo hi : Nat) (ex : Nat → Bool) : Nat → List BA → Bool
  | _, [] => true
  | t, b :: r => (b.off lo hi || ex t) && offT lo hi ex (t + 1) r
/-- a block that this operation makes, or one behind it -/
def exT (A : List Nat) (bs : List Nat) (hs : List Hint) (i t : Nat) : Bool := (outs bs hs i).contains t || (List.range hs.length).any fun j => (outs bs hs j).contains t && (A.getD j 0).testBit i
def freshB (A : List Nat) (toks : List BA) (fr0 : List (Nat × AV)) (rs : List AV) (hs : List Hint) (bs : List Nat) : Nat → List Oper → Bool
  | _, [] => true
  | i, o :: r => (match makes o with
    | true => offF (cid o.dst) (cid o.dst + 100) fr0 && offO (cid o.dst) (cid o.dst + 100) A i 0 rs && offT (cid o.dst) (cid o.dst + 100) (exT A bs hs i) 0 toks
    | false => true) && freshB A toks fr0 rs hs bs (i + 1) r
theorem offO_get {lo hi skip : Nat} {A : List Nat} : ∀ {rs : List AV} {s : Nat}, offO lo hi A skip s rs = true → ∀ (j : Nat) x, s + j ≠ skip → (A.getD (s + j) 0).testBit skip = false → rs[j]? = some x → x.off lo hi = true
  | [], _, _, j, x, _, _, h => by simp at h
  | y :: r, s, h, j, x, hne, hA, hx => by
    simp only [offO, Bool.and_eq_true, Bool.or_eq_true] at h
    cases j with
    | zero =>
      simp at hx; subst hx
      rcases h.1 with h | h | h
      · exact h
      · exact absurd (Nat.eq_of_beq_eq_true h) (by simpa using hne)
      · rw [Nat.add_zero] at hA
        rw [hA] at h; cases h
    | succ j => exact offO_get h.2 j x (by omega) (by rwa [show s + 1 + j = s + (j + 1) by omega]) (by simpa using hx)
theorem offT_get {lo hi : Nat} {ex : Nat → Bool} : ∀ {toks : List BA} {s : Nat}, offT lo hi ex s toks = true → ∀ (j : Nat) b, ex (s + j) = false → toks[j]? = some b → b.off lo hi = true
  | [], _, _, j, x, _, h => by simp at h
  | y :: r, s, h, j, x, hne, hx => by
    simp only [offT, Bool.and_eq_true, Bool.or_eq_true] at h
    cases j with
    | zero =>
      simp at hx; subst hx
      rcases h.1 with h | h
      · exact h
      · rw [Nat.add_zero] at hne
        rw [hne] at h; cases h
    | succ j => exact offT_get h.2 j x (by rwa [show s + 1 + j = s + (j + 1) by omega]) (by simpa using hx)
theorem freshB_all {toks : List BA} {fr0 : List (Nat × AV)} {ops : List Oper} {rs : List AV} {hs : List Hint} {bs : List Nat} (h : freshB (bef [] (ops.map depsO)) toks fr0 rs hs bs 0 ops = true) : freshAll toks fr0 ops rs hs bs := by
  obtain ⟨A, hA⟩ : ∃ A, bef [] (ops.map depsO) = A := ⟨_, rfl⟩
  rw [hA] at h
  unfold freshAll
  rw [hA]
  have key : ∀ (ops : List Oper) (s : Nat), freshB A toks fr0 rs hs bs s ops = true → ∀ (i : Nat) o, ops[i]? = some o → makes o = true → offF (cid o.dst) (cid o.dst + 100) fr0 = true ∧ offO (cid o.dst) (cid o.dst + 100) A (s + i) 0 rs = true ∧ offT (cid o.dst) (cid o.dst + 100) (exT A bs hs (s + i)) 0 toks = true := by
    intro ops
    induction ops with
    | nil => intro s _ i o h; simp at h
    | cons q r ih =>
      intro s h i o ho hm
      simp only [freshB, Bool.and_eq_true] at h
      cases i with
      | zero =>
        simp at ho; subst ho
        have := h.1
        rw [hm] at this
        simp only [Bool.and_eq_true] at this
        exact ⟨this.1.1, this.1.2, this.2⟩
      | succ i =>
        have := ih (s + 1) h.2 i o (by simpa using ho) hm
        rwa [show s + 1 + i = s + (i + 1) by omega] at this
  intro i o ho hm
  obtain ⟨k1, k2, k3⟩ := key ops 0 h i o ho hm
  simp only [Nat.zero_add] at k2 k3
  refine ⟨k1, fun j x hj hb hx => offO_get k2 j x (by simpa using hj) (by rwa [Nat.zero_add]) hx, fun t b ht ha hb => offT_get k3 t b ?_ hb⟩
  rw [Nat.zero_add]
  unfold exT
  rw [Bool.or_eq_false_iff]
  refine ⟨by simpa using ht, ?_⟩
  rw [List.any_eq_false]
  intro j _ hc
  rw [Bool.and_eq_true] at hc
  rw [ha j (by simpa using hc.1)] at hc
  cases hc.2
@[go_sem] theorem yieldA_eq {ops : List Oper} {fr : List (Nat × AV)} {j : Nat} : yieldA ops fr j = match ops[j]? with
  | some o => match o.dst with
    | some d => nrm (look fr d)
    | none => .any
  | none => .any := rfl
section
variable {P : Program} {G : World → Prop} {fr : List (Nat × AV)} {bk : List BA} {ops rest : List Oper} {KK : AState → Prop} {dst : Option Tmp} {op : Op} {ty : TypeId} {pos : String} {after : Array Edge} {j : Nat} {b : Bool}
/-- one operation of a region; what stands behind it is a variable -/
theorem vops_k (h : ∀ K : AV → List BA → Prop, (∀ r bk', vops P G ops rest ⟨putF dst r fr, bk'⟩ KK → K r bk') → vop P G ⟨fr, bk⟩ ⟨dst, op, ty, pos, after, none⟩ K) : vops P G ops (⟨dst, op, ty, pos, after, none⟩ :: rest) ⟨fr, bk⟩ KK := h _ fun _ _ h => h
theorem vops_g1 (hy : yieldA ops fr j = .val (.bool b)) (h : ∀ K : AV → List BA → Prop, (∀ r bk', vops P G ops rest ⟨putF dst r fr, bk'⟩ KK → K r bk') → vop P G ⟨fr, bk⟩ ⟨dst, op, ty, pos, after, some (j, b)⟩ K) : vops P G ops (⟨dst, op, ty, pos, after, some (j, b)⟩ :: rest) ⟨fr, bk⟩ KK := by
  rw [vops_guard]
  simp only [hy]
  exact ⟨fun _ => h _ fun _ _ h => h, (fun e => by cases b <;> cases e)⟩
theorem vops_g0 (hy : yieldA ops fr j = .val (.bool !b)) (h : vops P G ops rest ⟨putF dst .any fr, bk⟩ KK) : vops P G ops (⟨dst, op, ty, pos, after, some (j, b)⟩ :: rest) ⟨fr, bk⟩ KK := by
  rw [vops_guard]
  simp only [hy]
  exact ⟨(fun e => by cases b <;> cases e), fun _ => h⟩
theorem vops_end {σ : AState} (h : KK σ) : vops P G ops [] σ KK := h
variable {ds : List Nat} {fr0 : List (Nat × AV)} {toks : List BA} {rs : List AV} {KD : List BA → List AV → Prop} {sl : List (Nat × Nat)} {pre rd cs : List Nat} {out : Nat} {hs : List Hint}
theorem vdraw_k (h : ∀ K : AV → List BA → Prop, (∀ x bk', (bk' = bk'.take out ++ selB rd toks ∧ (bk'.take out).length = out ∧ vdraw P G ds fr0 rest hs (toks ++ bk'.take out) (rs ++ [x]) KD) → K x bk') →
    vopL P G (ev (selF sl rs ++ maskF pre ds ++ fr0)) (selB cs toks ++ selB rd toks) ⟨dst, op, ty, pos, after, none⟩ K) : vdraw P G ds fr0 (⟨dst, op, ty, pos, after, none⟩ :: rest) (⟨sl, pre, rd, cs, out⟩ :: hs) toks rs KD := h _ fun _ _ h => h
theorem vdraw_g1 (hy : nrm (rs.getD j .any) = .val (.bool b)) (h : ∀ K : AV → List BA → Prop, (∀ x bk', (bk' = bk'.take out ++ selB rd toks ∧ (bk'.take out).length = out ∧ vdraw P G ds fr0 rest hs (toks ++ bk'.take out) (rs ++ [x]) KD) → K x bk') →
    vopL P G (ev (selF sl rs ++ maskF pre ds ++ fr0)) (selB cs toks ++ selB rd toks) ⟨dst, op, ty, pos, after, some (j, b)⟩ K) : vdraw P G ds fr0 (⟨dst, op, ty, pos, after, some (j, b)⟩ :: rest) (⟨sl, pre, rd, cs, out⟩ :: hs) toks rs KD := by
  show guardD rs (some (j, b)) _ _
  unfold guardD
  simp only [hy]
  cases b <;> exact h _ fun _ _ h => h
theorem vdraw_g0 (hy : nrm (rs.getD j .any) = .val (.bool !b)) (h0 : out = 0) (h1 : cs = []) (h : vdraw P G ds fr0 rest hs toks (rs ++ [.any]) KD) : vdraw P G ds fr0 (⟨dst, op, ty, pos, after, some (j, b)⟩ :: rest) (⟨sl, pre, rd, cs, out⟩ :: hs) toks rs KD := by
  show guardD rs (some (j, b)) _ _
  unfold guardD
  simp only [hy]
  cases b <;> exact ⟨h0, h1, h⟩
theorem vdraw_end (h : KD toks rs) : vdraw P G ds fr0 [] [] toks rs KD := h
end
theorem AW.reg {P : Program} {G : World → Prop} {V w0 : World} {n : Nd} {ro : Option Nat} {σ : AState} {K : Exit → AState → Prop} {id : Nat} {l : List Oper} (hd : dstsOk n l = true) (h : ∀ KK : AState → Prop, (∀ σ', K .normal σ' → KK σ') → vops P G l l σ KK) : AW P G ro V w0 n (.region id l.toArray false) σ K := AW.region hd (h _ fun _ h => h)
theorem AW.scope {P : Program} {G : World → Prop} {V w0 : World} {n : Nd} {ro : Option Nat} {σ : AState} {K : Exit → AState → Prop} {c : Code} (h : AW P G ro V w0 n c σ fun e σ' => match e with
    | .goto _ => False
    | e => K e σ') : AW P G ro V w0 n (.scope c) σ K := fun hG m E a w hn hs => wpIn_scope_straight (wpIn_mono (h hG m E a w hn hs) fun e a w h => by
  obtain ⟨m', E', σ', h0, h1, h2⟩ := h
  cases e <;> first | exact ⟨m', E', σ', h0, h1, h2⟩ | exact h1.elim)
theorem AW.drawn {P : Program} {G : World → Prop} {V w0 : World} {n : Nd} {ro : Option Nat} {σ : AState} {K : Exit → AState → Prop} {id m : Nat} {ops : List Oper} (hs : List Hint) {ds fin bs : List Nat} (hp : P.follows .mixedOrders = true) (hm : σ.bk.length = m) (hok : drawOk n m ops hs = true) (hds : dstsOf ops = ds) (hfin : finOf m hs = fin) (hbs : bases m hs = bs)
    (h : ∀ KD : List BA → List AV → Prop, (∀ toks rs, (freshB (bef [] (ops.map depsO)) toks σ.fr rs hs bs 0 ops = true ∧ K .normal ⟨finF ops rs σ.fr, selB fin toks⟩) → KD toks rs) → vdraw P G ds σ.fr ops hs σ.bk [] KD) : AW P G ro V w0 n (.region id ops.toArray true) σ K := by
  subst hds hfin hbs
  exact AW.draw hs hp hm hok (fun _ _ h => freshB_all h) (h _ fun _ _ h => h)
section
variable {P : Program} {G : World → Prop} {ds : List Nat} {fr0 : List (Nat × AV)} {toks : List BA} {rs : List AV} {K : List BA → List AV → Prop}
@[go_sem] theorem guardD_none {run skip : Prop} : guardD rs none run skip = run := rfl
@[go_sem] theorem guardD_some {j : Nat} {b : Bool} {run skip : Prop} : guardD rs (some (j, b)) run skip = match nrm (rs.getD j .any) with
    | .val (.bool true) => (match b with | true => run | false => skip)
    | .val (.bool false) => (match b with | true => skip | false => run)
    | _ => False := rfl
@[go_sem] theorem selF_nil : selF [] rs = [] := rfl
@[go_sem] theorem selF_cons {d j : Nat} {r : List (Nat × Nat)} : selF ((d, j) :: r) rs = (d, rs.getD j .any) :: selF r rs := rfl
@[go_sem] theorem maskF_nil {pre : List Nat} : maskF pre [] = [] := rfl
@[go_sem] theorem maskF_no {d : Nat} {r : List Nat} : maskF [] (d :: r) = (d, .any) :: maskF [] r := rfl
@[go_sem] theorem selB_nil : selB [] toks = [] := rfl
@[go_sem] theorem selB_cons {t : Nat} {r : List Nat} : selB (t :: r) toks = toks.getD t (.arr 0 []) :: selB r toks := rfl
@[go_sem] theorem finF_nil {fr : List (Nat × AV)} : finF [] rs fr = fr := rfl
@[go_sem] theorem finF_some {d : Nat} {op : Op} {ty : TypeId} {pos : String} {after : Array Edge} {gd : Option (Nat × Bool)} {r : List Oper} {x : AV} {fr : List (Nat × AV)} : finF (⟨some d, op, ty, pos, after, gd⟩ :: r) (x :: rs) fr = (d, x) :: finF r rs fr := rfl
@[go_sem] theorem finF_none {op : Op} {ty : TypeId} {pos : String} {after : Array Edge} {gd : Option (Nat × Bool)} {r : List Oper} {x : AV} {fr : List (Nat × AV)} : finF (⟨none, op, ty, pos, after, gd⟩ :: r) (x :: rs) fr = finF r rs fr := rfl
end
attribute [go_sem] Option.map_some Option.map_none List.getElem?_cons_zero List.getElem?_cons_succ List.map_cons List.map_nil List.take_succ_cons List.take_zero List.drop_succ_cons List.drop_zero List.length_cons List.length_nil List.nil_append List.cons_append List.getD_cons_zero List.getD_cons_succ List.set_cons_zero List.set_cons_succ List.length_map true_and and_true Option.isSome_some List.append_nil List.take_nil List.drop_nil eq_self
theorem i64_wrap {x : Int} (h1 : -9223372036854775808 ≤ x) (h2 : x ≤ 9223372036854775807) : IntKind.i64.wrap x = x := IntWalk.i64_in _ (by omega)
theorem wrap_ex {x : Int} {KK : Int → Prop} (h1 : -9223372036854775808 ≤ x) (h2 : x ≤ 9223372036854775807) (h : KK x) : ∃ m, IntKind.i64.wrap x = m ∧ KK m := ⟨x, i64_wrap h1 h2, h⟩
theorem get_map {α β : Type} {f : α → β} {l : List α} {i : Nat} {y : α} (h : l[i]? = some y) : (l.map f)[i]? = some (f y) := by rw [List.getElem?_map, h]; rfl
@[go_sem] theorem toNat_nat {m : Nat} : ((m : Nat) : Int).toNat = m := rfl
end Go.Proofs.YtlemffcailmmoaaGreatDoor
