/- The least counts of vectors (the program's): an iterator over counts that the rounds turn. -/
import Derived.Test.YtaiekfeiaamemaaGreatDoorPPieces
set_option linter.all false
set_option linter.unnecessarySimpa false
set_option linter.unusedSimpArgs false
set_option linter.unusedVariables false
namespace Go.Proofs.YtaiekfeiaamemaaGreatDoor
open Go.ChangeShapes Go.WideShapes Go.ChangeAt Go.RowKit
attribute [local irreducible] AW AWY vops vopsY vop vopL vdraw callW qop binQ lenQ storeQ appendQ callQ ACalls AIter cntI
attribute [local go_sem] storeQ_bp storeQ_rp
def onBits (f : Nat → Int) (M n : Nat) : Int := if M.testBit n = true then f n else 0
theorem stampsOf_all {f : Nat → Int} {M : Nat} (hbit : ∀ n, n < 64 → M.testBit n = true → 0 < f n) {ys : List (Fin 64)} (hys : ys.map (·.1) = nodesOf M 64) : stampsOf f ys = vecOf (onBits f M) := by
 rw [vecOf, vecUpto_nodes (onBits f M) M 64 fun n hn => ?_, ← hys, List.map_map]
 ·refine List.map_congr_left fun x hx => ?_
  have : x.1 ∈ nodesOf M 64 := by rw [← hys]; exact List.mem_map_of_mem hx
  rw [mem_nodesOf] at this
  show (⟨f x.1, _⟩ : Stamp) = ⟨onBits f M x.1, _⟩
  rw [onBits, if_pos this.2]
 ·unfold onBits
  cases h : M.testBit n
  ·simp
  ·simpa using hbit n hn h
set_option maxRecDepth 100000 in
theorem list_call (f : Nat → Int) (M : Nat) (hM : M < 18446744073709551616) (hbit : ∀ n, n < 64 → M.testBit n = true → 0 < f n) (hf : ∀ n, n < 64 → I64 (f n)) : ACalls Tryz.prog TzTab 233 [.ip (cntI f M)] (.iv (stI (vecOf (onBits f M)))) [] := by
 refine ACalls.of (n := 17) (rs := [.tmp 2]) Tryz.func233 rfl (by kernel_rfl) Tryz.ntmps233 (by kernel_rfl) (by simp) (fun _ _ => TzTab.later) ?_
 intro hok V w0
 refine g ?_
 repeat' (first | refine st_ rfl (g ?_) | refine hold_ (g ?_) | exact trivial | refine cond_d (fun h => g ?_) (fun h => g ?_) | refine cond_ (fun h => g ?_) (fun h => g ?_) | (refine vops_ifd rfl rfl (fun h e => ?_) (fun h e => ?_) <;> simp only [e] <;> clear e <;> refine g ?_) | (refine vops_if rfl rfl (fun h => ?_) (fun h => ?_) <;> simp only [h] <;> refine g ?_) | refine ix_ (by omega) (g ?_) | refine call_ (each_call _) rfl (g ?_))
 refine AW.adoptB 400 9900 63 2 rfl rfl ?_
 refine AW.le (S := ⟨[(3, .bp 400 0), (7, .fn 255 [.ip [.pt (cntI f M)]])], [.row 9900 63 2 ((stampsOf f []).map enSt), .box 400 [.own 9900]]⟩) (ρ := id) ⟨⟨rfl, rfl, trivial⟩, ⟨rfl, rfl, trivial⟩, by simp [idsOf, BA.id]⟩ ?_
 refine AW.range (each_iter f M hM) [(3, .bp 400 0)] [(7, .fn 255 [.ip [.pt (cntI f M)]])] (fun pre => [.row 9900 63 2 ((stampsOf f pre).map enSt), .box 400 [.own 9900]]) (fun _ => True) rfl trivial rfl rfl rfl rfl (fun x => ⟨rfl, rfl⟩) (fun c pre x hsp hI => ?_) (fun xs hS hI => ?_)
 ·have hl := hsp.length_le
  have hl2 := nodesOf_length M 64
  rw [List.length_map, List.length_append, List.length_singleton] at hl
  have hr : (stampsOf f pre).length = pre.length := by unfold stampsOf; rw [List.length_map]
  have hsn := stampsOf_snoc f pre x
  have w1 := hf x.1 x.2
  have w2 : I64 ((x.1 : Nat) : Int) := I64.of (by omega) (by omega)
  simp only [parF, enE, List.cons_append, List.nil_append]
  refine g ?_
  refine g ?_
  repeat' (first | refine st_ rfl (g ?_) | refine hold_ (g ?_) | exact trivial | refine cond_ (fun h => g ?_) (fun h => g ?_))
  refine bs1 (by omega) rfl rfl rfl ⟨w1, w2, trivial⟩ ?_
  refine g ?_
  repeat' (first | refine st_ rfl (g ?_) | refine hold_ (g ?_) | exact trivial | refine cond_ (fun h => g ?_) (fun h => g ?_))
  refine append_own rfl (by kernel_rfl) (by omega) (by kernel_rfl) rfl (by simp; omega) ?_
  refine g ?_
  repeat' (first | refine st_ rfl (g ?_) | refine hold_ (g ?_) | exact trivial | refine cond_ (fun h => g ?_) (fun h => g ?_))
  refine ⟨trivial, fun b => if b = 9900 then 1600 else b, ⟨rfl, trivial⟩, ⟨?_, rfl, trivial⟩, by simp [idsOf, BA.id]⟩
  rw [hsn, List.map_append]
  rfl
 ·rw [stampsOf_all hbit hS]
  refine g ?_
  refine AW.freeze 9900 _ rfl trivial ?_
  simp only [go_sem, reduceIte, Nat.reduceEqDiff]
  refine AW.freeze 400 _ rfl ⟨trivial, trivial⟩ ?_
  simp only [go_sem, reduceIte, Nat.reduceEqDiff]
  refine g ?_
  repeat' (first | refine st_ rfl (g ?_) | refine hold_ (g ?_) | exact trivial | refine cond_d (fun h => g ?_) (fun h => g ?_) | refine cond_ (fun h => g ?_) (fun h => g ?_) | (refine vops_ifd rfl rfl (fun h e => ?_) (fun h e => ?_) <;> simp only [e] <;> clear e <;> refine g ?_) | (refine vops_if rfl rfl (fun h => ?_) (fun h => ?_) <;> simp only [h] <;> refine g ?_) | refine ix_ (by omega) (g ?_))
  rfl
end Go.Proofs.YtaiekfeiaamemaaGreatDoor
namespace Go.Proofs.YtaiekfeiaamemaaGreatDoor
open Go.ChangeShapes Go.WideShapes Go.ChangeAt Go.RowKit
attribute [local irreducible] vops vopsY vop vopL vdraw callW qop binQ lenQ storeQ appendQ callQ ACalls AIter
attribute [local go_sem] storeQ_bp storeQ_rp
section
variable {V w0 : World} {n : Nd} {ro : Option Nat} {σ : AState} {K : Exit → AState → Prop}
theorem AW.eachOwn {id dst x : Nat} {ats : Array TypeId} {ty : TypeId} {pos : String} {after : Array Edge} (b : Nat) (hx : look σ.fr x = .bp b 0) (hf : (offF (100 * (dst + 1)) (100 * (dst + 1) + 100) σ.fr && offB (100 * (dst + 1)) (100 * (dst + 1) + 100) σ.bk) = true) (hd : (Nat.blt dst n.n && !memN dst n.fx) = true)
  (h : K .normal ⟨(dst, .fn 255 [.bp (100 * (dst + 1)) 0]) :: σ.fr, .box (100 * (dst + 1)) [.bp b 0] :: σ.bk⟩) :
  AW Tryz.prog TzTab ro V w0 n (.region id #[⟨some dst, .call { callee := .value (.func 242), args := #[.tmp x], argTypes := ats }, ty, pos, after, none⟩] false) σ K := fun hG m E a w hn hs => by
 obtain ⟨c, hc⟩ : ∃ c, 100 * (dst + 1) = c := ⟨_, rfl⟩
 rw [hc] at hf h
 rw [Bool.and_eq_true] at hf
 refine wpIn_region_lit (l := [_]) (wpListIn_step fun K' hK' => ?_)
 rw [if_pos (by rfl)]
 refine wp_wpIn (fun _ h => by cases h) ?_
 have hxv := hs.slots x
 rw [hx] at hxv
 generalize hxe : a.tmps.getD x undef = u at hxv
 cases hxv
 have hexec : (execOp a.eval ⟨some dst, .call { callee := .value (.func 242), args := #[.tmp x], argTypes := ats }, ty, pos, after, none⟩).run Tryz.prog w = .ok (.enter 242 #[.pointer (some ⟨E.blk b, 0, none⟩)]) w := by
  have hen := enters_f (P := Tryz.prog) Tryz.func242 rfl (by kernel_rfl) #[.pointer (some ⟨E.blk b, 0, none⟩)] w
  have he : a.eval (.tmp x) = .pointer (some ⟨E.blk b, 0, none⟩) := hxe
  simp [execOp, resolve, Act.eval, Deferred.ofValue, invoke, hen, hxe]
 unfold Oper.wp
 rw [hexec, Oper.upon_enter]
 refine (countsEach (E.blk b) w).mono ?_
 rintro e w' ⟨rfl, hw'⟩
 refine hK' _ _ ?_
 let E' : Env := ⟨fun q => if q = c then w.heap.size else E.blk q, E.row⟩
 have hE : Env.same c (c + 100) E E' := fun q hq => by
  have : ¬ q = c := by omega
  simp [E', this]
 have hbel : Below w.heap.size w w' := by rw [← hw']; exact balloc (Below.refl _ w)
 have hb := offF_look hf.1 x
 rw [hx] at hb
 simp only [AV.off, Bool.or_eq_true, decide_eq_true_eq] at hb
 have hbe : E'.blk b = E.blk b := (hE b hb).1
 have ho : owns E' [.box c [.bp b 0]] = [w.heap.size] := by simp [owns, BA.owned, E']
 have hst := hs.add (nb := [.box c [.bp b 0]]) hbel hE hf.1 hf.2 (by rw [ho]; simp) (fun g hg => by rw [ho] at hg; simp at hg; omega) (fun q hq => by
  simp only [List.mem_singleton] at hq
  subst hq
  refine ⟨#[.pointer (some ⟨E.blk b, 0, none⟩)], _, by rw [← hw']; simp only [E', if_true]; exact Blk.new _ _ _, RepAs.cons ?_ RepAs.nil⟩
  rw [← hbe]; exact .bp)
 simp only [Bool.and_eq_true, Bool.not_eq_true'] at hd
 refine ⟨m, E', _, Fm.le.refl m, h, hst.put (dst := some dst) (fun d e => by cases e; rw [hn]; exact ⟨blt_iff.1 hd.1, memN_iff hd.2⟩) (.fn rfl fun j v q e1 e2 => ?_)⟩
 match j, e1, e2 with
 | 0, e1, e2 =>
  simp at e1 e2
  subst e1 e2
  have := RepA.bp (E := E') (X := vis V w0 w' (owns E' ([.box c [.bp b 0]] ++ σ.bk))) (b := c) (o := 0)
  simpa [E'] using this
 | j + 1, e1, e2 => simp at e1
theorem AW.toArr {P : Program} {G : World → Prop} {c : Code} (b : Nat) {cs : List AV} {is : List IV} (hb : findB b σ.bk = some (.box b cs)) (hi : toIs cs = some is) (ho : okAs cs) (h : AW P G ro V w0 n c ⟨σ.fr, replB b [.arr b is] σ.bk⟩ K) : AW P G ro V w0 n c σ K := fun hG m E a w hn hs => by
 obtain ⟨pre, post, e1, e2, e3⟩ := findB_split hb
 obtain ⟨fr, bk⟩ := σ
 simp only at e1 e3 h hs
 subst e1
 refine h hG m E a w hn ?_
 rw [e3]
 have e : owns E (pre ++ .arr b is :: post) = owns E (pre ++ .box b cs :: post) := by simp [owns_append, owns, BA.owned]
 refine ⟨hs.ext, hs.low, by simpa [e] using hs.apart, by simpa [e] using hs.base, fun x hx => ?_, fun i => by simpa [e] using hs.slots i, hs.size, hs.defers, by simpa [e] using hs.hold⟩
 simp only [List.singleton_append, e] at hx ⊢
 rcases List.mem_append.1 hx with hx | hx
 ·exact hs.holds x (List.mem_append_left _ hx)
 ·rcases List.mem_cons.1 hx with rfl | hx
  ·obtain ⟨C, t, h1, h2⟩ := hs.holds (.box b cs) (by simp)
   exact ⟨C, t, h1, h2.toIs hi ho⟩
  ·exact hs.holds x (List.mem_append_right _ (List.mem_cons_of_mem _ hx))
end
theorem cntI_put {f : Nat → Int} {M n : Nat} (h : n < 64) (x : Int) : (cntI f M).set n (.val (.int .i64 x)) = cntI (fun k => if k = n then x else f k) M := by
 rw [cntI, cntI, ← cnts_set h, Array.toList_setIfInBounds, List.map_set]
theorem cntI_mask {f : Nat → Int} {M M' : Nat} : (cntI f M).set 64 (.val (.int .u64 M')) = cntI f M' := by
 have := congrArg (fun C : Array Value => C.toList.map IV.val) (cnts_set_has (f := f) (M := M) (M' := M'))
 simpa [cntI, Array.toList_setIfInBounds, List.map_set] using this
theorem cntI_len {f : Nat → Int} {M : Nat} : (cntI f M).length = 65 := by rw [cntI, List.length_map, Array.length_toList, cnts_size]
theorem bp_inv {E : Env} {X : World} {v : Value} {b o : Nat} (h : RepA E X v (.bp b o)) : v = .pointer (some ⟨E.blk b, o, none⟩) := by cases h; rfl
def enX (x : Fin 64) : List AV := [.val (.int .i64 (x.1 : Nat)), .any]
attribute [local irreducible] cntI AW
section
variable {V w0 : World} {n : Nd} {K : Exit → AState → Prop}
theorem AW.rangeEach {i j b c M : Nat} {ps : Array Tmp} {assign body : Code} {bk : List BA} (hM : M < 18446744073709551616) (fx pu : List (Nat × AV)) (B : List (Fin 64) → List BA) (I : List (Fin 64) → Prop)
  (hi : look (fx ++ pu) i = .fn 255 [.bp c 0]) (hj : look (fx ++ pu) j = .bp b 0) (hbox : ∀ pre, ∃ f, BA.box c [.bp b 0] ∈ B pre ∧ BA.arr b (cntI f M) ∈ B pre)
  (hB : B [] = bk) (hI : I []) (hr : n.rnd = false) (hpu : pureF pu = true) (hps : parOk n.n (fx.map (·.1)) ps.toList = true) (hp2 : ps.size = 2)
  (hbody : ∀ l pre x, I pre → AW Tryz.prog TzTab (some l) V w0 ⟨n.n, fx.map (·.1), true⟩ assign ⟨parF ps.toList (enX x) (fx ++ pu), B pre⟩ fun e σ1 => e = .normal ∧ AW Tryz.prog TzTab (some l) V w0 ⟨n.n, fx.map (·.1), true⟩ body σ1 (rpost K fx pu (I (pre ++ [x])) (B (pre ++ [x]))))
  (hdone : ∀ xs : List (Fin 64), xs.map (·.1) = nodesOf M 64 → I xs → K .normal ⟨fx ++ pu, B xs⟩) : AW Tryz.prog TzTab none V w0 n (.rangeFunc (.tmp i) ps assign body) ⟨fx ++ pu, bk⟩ K := by
 refine AW.rangeG (gf := 255) (encs := enX) (S := fun ys : List (Fin 64) => ys.map (·.1) = nodesOf M 64) (Sp := fun _ => True) (enters_f (P := Tryz.prog) Tryz.func255 rfl (by kernel_rfl)) fx pu B I (fun m0 E0 a w W1 lb hn hs hge hlb hx hG l J Jx sJ sJx hJS hy h0 => ?_) hB hI hr hi hpu hps (fun x => ⟨hp2.symm, rfl⟩) (fun l pre x _ => hbody l pre x) hdone
 obtain ⟨v, rfl, hv⟩ : ∃ v, lb = #[v] ∧ RepA E0 (vis V w0 w (owns E0 (B []))) v (.bp c 0) := args1 hlb
 cases hv
 have hsi := hs.slots i
 have hsj := hs.slots j
 simp only [hi] at hsi
 simp only [hj] at hsj
 have key : ∀ pre X W, J pre X W → TzTab W → ∃ f, EachAny (E0.blk c) (E0.blk b) f M W := by
  intro pre X W hJ hT
  obtain ⟨E, hst⟩ := hJS pre X W hJ
  have hti := hst.slots i
  have htj := hst.slots j
  simp only [hi] at hti
  simp only [hj] at htj
  have ec : E.blk c = E0.blk c := by
   have e1 : a.tmps.getD i undef = .func (.func 255) #[] #[.pointer (some ⟨E0.blk c, 0, none⟩)] := hge
   rw [e1] at hti
   cases hti with
   | fn h1 h2 =>
    have := bp_inv (h2 0 _ _ rfl rfl)
    simpa using this.symm
  have eb : E.blk b = E0.blk b := by
   have := (bp_inv hsj).symm.trans (bp_inv htj)
   simpa using this.symm
  obtain ⟨f, hb1, hb2⟩ := hbox pre
  obtain ⟨C1, t1, p1, p2⟩ := hst.holds _ hb1
  obtain ⟨C2, t2, p3, p4⟩ := hst.holds _ hb2
  refine ⟨f, ⟨t1, ?_⟩, ⟨t2, ?_⟩, hT⟩
  ·have : C1 = #[.pointer (some ⟨E0.blk b, 0, none⟩)] := by
    obtain ⟨v, vs, e, q1, q2⟩ := RepAs.cons_iff.1 p2
    rw [RepAs.nil_iff.1 q2] at e
    cases q1
    rw [← Array.toArray_toList (xs := C1), e, eb]
   rw [← this, ← ec]
   exact p1
  ·have : C2 = cnts f M := by
    unfold cntI at p4
    rw [← Array.toArray_toList (xs := C2), reps_vals p4]
   rw [← this, ← eb]
   exact p3
 refine (callsIn_wide (n := 1)).1 ((each1_live 1 (by omega) l (E0.blk c) (E0.blk b) M hM (fun pre W => ∃ X, J pre X W ∧ Ext (vis V w0 w (owns E0 (B []))) X ∧ Ext X W ∧ W1.heap.size ≤ W.heap.size ∧ TzTab W) (fun pre W => ∃ X, Jx pre X W) (fun pre W ⟨X, h1, _, _, _, h5⟩ => key pre X W h1 h5) (fun pre x W f ⟨X, h1, h2, h3, h4, h5⟩ hE _ => ?_) W1 ⟨_, h0, Ext.refl _, hx, Nat.le_refl _, hG⟩).mono ?_)
 ·obtain ⟨fn, tmps, asg, bd, q1, q2⟩ := hy pre x X W (eachEnc f x) E0 h1 h2 h3 h4 h5 (RepAs.cons .val (RepAs.cons .any RepAs.nil)) trivial
  refine ⟨fn, tmps, asg, bd, q1, q2.mono fun e W' ⟨r1, r2, r3, r4, r5⟩ => ?_⟩
  rcases r5 with ⟨rfl, r5⟩ | ⟨rfl, r5⟩
  ·exact .inl ⟨rfl, X, r5, h2, r2, Nat.le_trans h4 r1, r3⟩
  ·exact .inr ⟨rfl, X, r5⟩
 ·rintro e W' ⟨h1, ⟨ys, h2, X, h3, _⟩ | ⟨pre, _, X, h3⟩⟩
  ·exact ⟨h1, .inl ⟨ys, X, h2, h3⟩⟩
  ·exact ⟨h1, .inr ⟨pre, X, h3⟩⟩
end
def mixMin (f d : Nat → Int) (pre : List (Fin 64)) (n : Nat) : Int := if pre.any (fun x => decide (x.1 = n)) = true then min (f n) (d n) else f n
theorem mixMin_nil (f d : Nat → Int) : mixMin f d [] = f := by funext n; simp [mixMin]
theorem mixMin_snoc (f d : Nat → Int) (pre : List (Fin 64)) (x : Fin 64) : (fun k => if k = x.1 then min (mixMin f d pre x.1) (d x.1) else mixMin f d pre k) = mixMin f d (pre ++ [x]) := by
 funext k
 by_cases hk : k = x.1
 ·subst hk
  rw [if_pos rfl, mixMin, mixMin, List.any_append]
  simp only [List.any_cons, List.any_nil, Bool.or_false, decide_true, Bool.or_true, if_true]
  split <;> omega
 ·rw [if_neg hk, mixMin, mixMin, List.any_append]
  simp [show ¬ x.1 = k from fun e => hk e.symm]
structure MeetS (ls : List (List Stamp)) where
 i : Nat
 f : Nat → Int
 M : Nat
 h0 : 0 < i
 hi : i ≤ ls.length
 hM : M < 18446744073709551616
 hf : ∀ n, n < 64 → I64 (f n)
 pos : ∀ n, n < 64 → M.testBit n = true → 0 < f n
 is : ∀ n, n < 64 → onBits f M n = meetC (ls.take i) n
set_option maxRecDepth 100000 in
set_option maxHeartbeats 1600000 in
theorem meet_call (ls : List (List Stamp)) : ACalls Tryz.prog TzTab 203 [.iv (stsI ls)] (.iv (stI (meetS ls))) [] := by
 refine ACalls.ofS (n := 47) (rs := [.tmp 2]) Tryz.func203 rfl (by kernel_rfl) Tryz.ntmps203 (by kernel_rfl) (by simp) (fun _ _ => TzTab.later) ?_
 intro hok V w0
 have hlen : ls.length ≤ 1073741824 := by simpa [stsI] using hok.1.1
 have hI : ∀ l ∈ ls, ∀ n : Int, I64 (countOf l n) := fun l hl n => by
  have h1 := okR_mem hok.1.2 [stI l] (List.mem_map_of_mem hl)
  refine countOf_i64 (fun s hs => ?_) n
  obtain ⟨-, h2, -⟩ := okR_mem h1.2.1.2 (enSt s) (List.mem_map_of_mem hs)
  exact h2
 unfold stsI
 refine g ?_
 repeat' (first | refine st_ rfl (g ?_) | refine hold_ (g ?_) | exact trivial | refine cond_d (fun h => g ?_) (fun h => g ?_) | refine cond_ (fun h => g ?_) (fun h => g ?_) | (refine hKD _ _ ⟨rfl, g ?_⟩; clear hKD KD) | ((first | refine vops_ifd rfl rfl (fun h e => ?_) (fun h e => ?_) | refine vdraw_ifd rfl rfl (fun h e => ?_) (fun h e => ?_)) <;> simp only [e] <;> clear e <;> refine g ?_) | ((first | refine vops_if rfl rfl (fun h => ?_) (fun h => ?_) | refine vdraw_if rfl rfl (fun h => ?_) (fun h => ?_)) <;> simp only [h] <;> refine g ?_) | refine ix_ (by omega) (g ?_))
 ·obtain rfl : ls = [] := List.length_eq_zero_iff.1 (by omega)
  exact nil_sub 2
 have hpos : 0 < ls.length := by omega
 refine ⟨_, get_map (List.getElem?_eq_getElem hpos), hold_ ?_⟩
 refine g ?_
 repeat' (first | refine st_ rfl (g ?_) | refine hold_ (g ?_) | exact trivial | refine cond_d (fun h => g ?_) (fun h => g ?_) | refine cond_ (fun h => g ?_) (fun h => g ?_) | (refine hKD _ _ ⟨rfl, g ?_⟩; clear hKD KD) | ((first | refine vops_ifd rfl rfl (fun h e => ?_) (fun h e => ?_) | refine vdraw_ifd rfl rfl (fun h e => ?_) (fun h e => ?_)) <;> simp only [e] <;> clear e <;> refine g ?_) | ((first | refine vops_if rfl rfl (fun h => ?_) (fun h => ?_) | refine vdraw_if rfl rfl (fun h => ?_) (fun h => ?_)) <;> simp only [h] <;> refine g ?_) | refine ix_ (by omega) (g ?_) | refine call_ (read_call ls[0]) rfl (g ?_))
 refine ⟨cntI_len, by simp [rep], ?_⟩
 rw [setsL_all (by simp [rep, cntI_len])]
 refine AW.toArr 400 rfl (toIs_map _) (okAs_map _) ?_
 simp only [replB_box, if_true, List.singleton_append]
 refine g ?_
 repeat' (first | refine st_ rfl (g ?_) | refine hold_ (g ?_) | exact trivial | refine cond_d (fun h => g ?_) (fun h => g ?_) | refine cond_ (fun h => g ?_) (fun h => g ?_) | (refine hKD _ _ ⟨rfl, g ?_⟩; clear hKD KD) | ((first | refine vops_ifd rfl rfl (fun h e => ?_) (fun h e => ?_) | refine vdraw_ifd rfl rfl (fun h e => ?_) (fun h e => ?_)) <;> simp only [e] <;> clear e <;> refine g ?_) | ((first | refine vops_if rfl rfl (fun h => ?_) (fun h => ?_) | refine vdraw_if rfl rfl (fun h => ?_) (fun h => ?_)) <;> simp only [h] <;> refine g ?_) | refine ix_ (by omega) (g ?_))
 refine ⟨1, _, rfl, rfl, by omega, by simp, hold_ ?_⟩
 refine g ?_
 repeat' (first | refine st_ rfl (g ?_) | refine hold_ (g ?_) | exact trivial | refine cond_d (fun h => g ?_) (fun h => g ?_) | refine cond_ (fun h => g ?_) (fun h => g ?_) | (refine hKD _ _ ⟨rfl, g ?_⟩; clear hKD KD) | ((first | refine vops_ifd rfl rfl (fun h e => ?_) (fun h e => ?_) | refine vdraw_ifd rfl rfl (fun h e => ?_) (fun h e => ?_)) <;> simp only [e] <;> clear e <;> refine g ?_) | ((first | refine vops_if rfl rfl (fun h => ?_) (fun h => ?_) | refine vdraw_if rfl rfl (fun h => ?_) (fun h => ?_)) <;> simp only [h] <;> refine g ?_) | refine ix_ (by omega) (g ?_))
 have e0 : ls.take 1 = [ls[0]] := by
  cases ls with
  | nil => simp at hpos
  | cons a l => rfl
 have eS : ((ls.map fun l => [stI l]).take ls.length).drop 1 = (ls.drop 1).map fun l => [stI l] := by rw [List.take_of_length_le (by simp), List.map_drop]
 have c0 : countOf ls[0] = countOf ls[0] := rfl
 have hb0 : ∀ n, n < 64 → (maskOf ls[0]).testBit n = true → 0 < countOf ls[0] (n : Nat) := fun n hn h => by
  rw [maskOf_bit hn] at h
  have := countOf_nonneg ls[0] n
  simp at h
  omega
 refine AW.loop (fun x : MeetS ls => ⟨[(3, .bp 400 0), (16, .iv (.sl 1 ((ls.drop 1).map fun l => [stI l]))), (17, .val (.int .i64 ((ls.length - 1 : Nat) : Nat))), (18, .val (.int .i64 ((x.i - 1 : Nat) : Nat)))], [.arr 400 (cntI x.f x.M)]⟩) (fun x => ls.length - x.i) ⟨1, _, _, Nat.one_pos, hpos, maskOf_lt ls[0], fun n _ => hI _ (List.getElem_mem hpos) n, hb0, fun n hn => ?_⟩ id ⟨⟨rfl, congrArg (fun l => AV.iv (.sl 1 l)) eS, congrArg (fun l : List (List IV) => AV.val (.int .i64 (l.length : Nat))) eS |>.trans (by simp [AV.ren]), rfl, trivial⟩, ⟨rfl, trivial⟩, by simp [idsOf, BA.id]⟩ fun ⟨i, f, M, hi0, hi, hM, hf, hp, hs⟩ => ?_
 ·rw [e0]
  show onBits _ _ n = countOf ls[0] n
  unfold onBits
  split
  ·rfl
  ·rename_i h
   rw [maskOf_bit hn] at h
   have h : countOf ls[0] (n : Nat) = 0 := by simpa using h
   exact h.symm
 simp only
 have hd : (ls.drop 1).length = ls.length - 1 := by simp
 repeat (refine AW.seq ?_)
 refine AW.reg rfl fun KK hKK => ?_
 refine g ?_
 repeat' (first | refine hold_ (g ?_) | (refine hKK _ (g ?_); clear hKK KK) | exact trivial)
 repeat (refine AW.seq ?_)
 refine st_ rfl ?_
 refine g ?_
 refine cond_ (fun h => ?_) (fun h => ?_)
 ·have hlt : i < ls.length := by have := of_decide_eq_true h; omega
  obtain ⟨q, hq⟩ : ∃ q, ls[i] = q := ⟨_, rfl⟩
  have hq2 : (ls.drop 1)[i - 1]? = some q := by rw [List.getElem?_drop, ← hq, show 1 + (i - 1) = i by omega]; exact List.getElem?_eq_getElem hlt
  have hqI : ∀ n : Int, I64 (countOf q n) := hI q (hq ▸ List.getElem_mem hlt)
  have hMq := maskOf_lt q
  refine g ?_
  repeat' (first | refine st_ rfl (g ?_) | refine hold_ (g ?_) | exact trivial | refine cond_ (fun h => g ?_) (fun h => g ?_) | (refine hKD _ _ ⟨rfl, g ?_⟩; clear hKD KD))
  refine ⟨by omega, _, get_map hq2, ?_⟩
  refine g ?_
  repeat' (first | refine st_ rfl (g ?_) | refine hold_ (g ?_) | exact trivial | refine cond_ (fun h => g ?_) (fun h => g ?_) | (refine hKD _ _ ⟨rfl, g ?_⟩; clear hKD KD))
  refine call_ (read_call q) rfl ?_
  refine g ?_
  repeat' (first | refine hold_ (g ?_) | (refine hKK _ (g ?_); clear hKK KK) | exact trivial)
  refine ⟨cntI_len, by simp [rep], ?_⟩
  rw [setsL_all (by simp [rep, cntI_len])]
  simp only [go_sem, reduceIte]
  refine AW.freeze 700 _ rfl (okAs_map _) ?_
  simp only [go_sem, toIs_map, reduceIte, Nat.reduceEqDiff]
  refine AW.seq ?_
  refine AW.reg rfl fun KK hKK => ?_
  refine g ?_
  repeat' (first | refine hold_ (g ?_) | (refine hKK _ (g ?_); clear hKK KK) | exact trivial)
  refine ⟨_, cntI_has, ?_⟩
  refine g ?_
  repeat' (first | refine hold_ (g ?_) | (refine hKK _ (g ?_); clear hKK KK) | exact trivial)
  refine rdI_drop cntI_has ?_
  refine g ?_
  repeat' (first | refine hold_ (g ?_) | (refine hKK _ (g ?_); clear hKK KK) | exact trivial)
  have hand : bits .and .u64 (M : Int) ((maskOf q : Nat) : Int) = ((M &&& maskOf q : Nat) : Int) := u64_and_nat _ _ hM hMq
  refine ⟨.int .u64 ((M &&& maskOf q : Nat) : Int), fun w => by go_simp, ?_⟩
  have hM2 : M &&& maskOf q < 18446744073709551616 := Nat.lt_of_le_of_lt Nat.and_le_left hM
  have ho2 : okV (.int .u64 ((M &&& maskOf q : Nat) : Int)) := by
   show (Lit.int .u64 ((M &&& maskOf q : Nat) : Int)).wf = true
   simp [Lit.wf, IntKind.max, IntKind.min, IntKind.signed, IntKind.bits]
   omega
  refine g ?_
  repeat' (first | refine hold_ (g ?_) | (refine hKK _ (g ?_); clear hKK KK) | exact trivial)
  refine ⟨_, rfl, ⟨ho2, trivial⟩, by rw [cntI_len]; omega, ?_⟩
  refine g ?_
  repeat' (first | refine hold_ (g ?_) | (refine hKK _ (g ?_); clear hKK KK) | exact trivial)
  rw [cntI_mask]
  obtain ⟨M2, hM2e⟩ : ∃ M2, M &&& maskOf q = M2 := ⟨_, rfl⟩
  rw [hM2e] at hM2 ⊢
  refine AW.seq (AW.eachOwn 400 rfl rfl rfl ?_)
  simp only [go_sem]
  refine g ?_
  repeat' (first | refine st_ rfl (g ?_) | refine hold_ (g ?_) | exact trivial | refine cond_ (fun h => g ?_) (fun h => g ?_) | (refine hKD _ _ ⟨rfl, g ?_⟩; clear hKD KD))
  refine AW.le (S := ⟨[(3, .bp 400 0), (30, .fn 255 [.bp 3100 0]), (6, .ip (cntI (fun n => countOf q n) (maskOf q))), (16, .iv (.sl 1 ((ls.drop 1).map fun l => [stI l]))), (17, .val (.int .i64 ((ls.length - 1 : Nat) : Nat))), (18, .val (.int .i64 ((i - 1 : Nat) : Nat)))], [.box 3100 [.bp 400 0], .arr 400 (cntI (mixMin f (fun n => countOf q n) []) M2)]⟩) (ρ := id) ⟨⟨rfl, rfl, rfl, rfl, rfl, rfl, trivial⟩, ⟨rfl, by rw [mixMin_nil]; rfl, trivial⟩, by simp [idsOf, BA.id]⟩ ?_
  refine AW.rangeEach (i := 30) (j := 3) (b := 400) (c := 3100) hM2 [(3, .bp 400 0), (30, .fn 255 [.bp 3100 0])] [(6, .ip (cntI (fun n => countOf q n) (maskOf q))), (16, .iv (.sl 1 ((ls.drop 1).map fun l => [stI l]))), (17, .val (.int .i64 ((ls.length - 1 : Nat) : Nat))), (18, .val (.int .i64 ((i - 1 : Nat) : Nat)))] (fun pre => [.box 3100 [.bp 400 0], .arr 400 (cntI (mixMin f (fun n => countOf q n) pre) M2)]) (fun _ => True) rfl rfl (fun pre => ⟨mixMin f (fun n => countOf q n) pre, List.mem_cons_self .., List.mem_cons_of_mem _ (List.mem_cons_self ..)⟩) rfl trivial rfl rfl rfl rfl (fun c pre x _ => ?_) (fun ys hS _ => ?_)
  ·simp only [parF, enX, List.cons_append, List.nil_append]
   refine g ?_
   refine g ?_
   repeat' (first | refine st_ rfl (g ?_) | refine hold_ (g ?_) | exact trivial | refine cond_ (fun h => g ?_) (fun h => g ?_) | (refine hKD _ _ ⟨rfl, g ?_⟩; clear hKD KD))
   refine AW.drawn (ds := [33, 34, 35, 36, 37, 38, 39, 40, 41, 42, 43, 44]) (fin := [0, 2]) (bs := [2, 2, 2, 2, 2, 2, 2, 2, 2, 2, 2, 2, 2]) [⟨[], [], [], [], 0⟩, ⟨[], [], [], [], 0⟩, ⟨[], [], [], [], 0⟩, ⟨[(35, 2), (34, 1)], [], [0, 1], [], 0⟩, ⟨[(36, 3)], [], [0, 1], [], 0⟩, ⟨[], [], [], [], 0⟩, ⟨[], [], [], [], 0⟩, ⟨[(39, 6), (38, 5)], [], [0, 1], [], 0⟩, ⟨[(40, 7)], [], [0, 1], [], 0⟩, ⟨[(37, 4), (41, 8)], [], [], [], 0⟩, ⟨[], [], [], [], 0⟩, ⟨[(43, 10), (33, 0)], [], [0, 1], [], 0⟩, ⟨[(44, 11), (42, 9)], [], [], [1], 1⟩] (by kernel_rfl) rfl (by kernel_rfl) rfl rfl rfl fun KD hKD => ?_
   have hx := x.2
   refine g ?_
   repeat' (first | refine hold_ (g ?_) | (refine hKD _ _ ⟨rfl, g ?_⟩; clear hKD KD) | exact trivial)
   refine ⟨by omega, by omega, ?_⟩
   refine g ?_
   repeat' (first | refine hold_ (g ?_) | (refine hKD _ _ ⟨rfl, g ?_⟩; clear hKD KD) | exact trivial)
   refine ⟨.val (.int .i64 (mixMin f (fun n => countOf q n) pre x.1)), by simpa using cntI_at hx, ?_⟩
   refine g ?_
   repeat' (first | refine hold_ (g ?_) | (refine hKD _ _ ⟨rfl, g ?_⟩; clear hKD KD) | exact trivial)
   refine ⟨by omega, by omega, ?_⟩
   refine g ?_
   repeat' (first | refine hold_ (g ?_) | (refine hKD _ _ ⟨rfl, g ?_⟩; clear hKD KD) | exact trivial)
   rw [Nat.mul_one]
   refine rdI_drop (cntI_at hx) ?_
   refine g ?_
   repeat' (first | refine hold_ (g ?_) | (refine hKD _ _ ⟨rfl, g ?_⟩; clear hKD KD) | exact trivial)
   refine ⟨by omega, by omega, ?_⟩
   refine g ?_
   repeat' (first | refine hold_ (g ?_) | (refine hKD _ _ ⟨rfl, g ?_⟩; clear hKD KD) | exact trivial)
   refine ⟨[.val (.int .i64 (min (mixMin f (fun n => countOf q n) pre x.1) (countOf q x.1)))], rfl, ⟨i64_min ?_ (hqI _), trivial⟩, by rw [cntI_len]; simp, ?_⟩
   ·unfold mixMin
    split
    ·exact i64_min (hf _ hx) (hqI _)
    ·exact hf _ hx
   refine g ?_
   repeat' (first | refine hold_ (g ?_) | (refine hKD _ _ ⟨rfl, g ?_⟩; clear hKD KD) | exact trivial)
   refine ⟨trivial, id, ⟨rfl, rfl, trivial⟩, ⟨rfl, ?_, trivial⟩, by simp [idsOf, BA.id]⟩
   refine congrArg (fun C => some (BA.arr 400 C)) ?_
   rw [← mixMin_snoc, ← cntI_put hx]
   simp
  ·refine g ?_
   refine g ?_
   repeat' (first | refine st_ rfl (g ?_) | refine hold_ (g ?_) | exact trivial | refine cond_d (fun h => g ?_) (fun h => g ?_) | refine cond_ (fun h => g ?_) (fun h => g ?_) | (refine hKD _ _ ⟨rfl, g ?_⟩; clear hKD KD) | ((first | refine vops_ifd rfl rfl (fun h e => ?_) (fun h e => ?_) | refine vdraw_ifd rfl rfl (fun h e => ?_) (fun h e => ?_)) <;> simp only [e] <;> clear e <;> refine g ?_) | ((first | refine vops_if rfl rfl (fun h => ?_) (fun h => ?_) | refine vdraw_if rfl rfl (fun h => ?_) (fun h => ?_)) <;> simp only [h] <;> refine g ?_) | refine ix_ (by omega) (g ?_))
   have hany : ∀ n, n < 64 → ys.any (fun x => decide (x.1 = n)) = (M.testBit n && (maskOf q).testBit n) := fun n hn => by
    rw [← Nat.testBit_and, hM2e, Bool.eq_iff_iff]
    have hm : n ∈ ys.map (·.1) ↔ M2.testBit n = true := by rw [hS, mem_nodesOf]; exact ⟨fun h => h.2, fun h => ⟨hn, h⟩⟩
    rw [← hm, List.any_eq_true, List.mem_map]
    exact ⟨fun ⟨x, h1, h2⟩ => ⟨x, h1, by simpa using h2⟩, fun ⟨x, h1, h2⟩ => ⟨x, h1, by simpa using h2⟩⟩
   have hcq := countOf_nonneg q
   have hmix : ∀ n, n < 64 → mixMin f (fun n => countOf q n) ys n = if (M.testBit n && (maskOf q).testBit n) = true then min (f n) (countOf q n) else f n := fun n hn => by rw [mixMin, hany n hn]
   have hb2 : ∀ n, n < 64 → M2.testBit n = (M.testBit n && (maskOf q).testBit n) := fun n _ => by rw [← hM2e, Nat.testBit_and]
   refine ⟨⟨i + 1, mixMin f (fun n => countOf q n) ys, M2, by omega, hlt, hM2, fun n hn => ?_, fun n hn h => ?_, fun n hn => ?_⟩, id, ⟨⟨rfl, rfl, rfl, ?_, trivial⟩, ⟨rfl, trivial⟩, by simp [idsOf, BA.id]⟩, by show ls.length - (i + 1) < ls.length - i; omega⟩
   ·rw [hmix n hn]
    split
    ·exact i64_min (hf n hn) (hqI _)
    ·exact hf n hn
   ·rw [hmix n hn, if_pos (by rw [← hb2 n hn]; exact h)]
    rw [hb2 n hn, Bool.and_eq_true, maskOf_bit hn] at h
    have h1 := hp n hn h.1
    have h2 := hcq n
    have h3 : ¬ countOf q n = 0 := by simpa using h.2
    omega
   ·rw [meet_step hi0 hlt, hq, ← hs n hn]
    unfold onBits
    have h2 := hcq n
    rw [hmix n hn, hb2 n hn, maskOf_bit hn]
    cases hMb : M.testBit n
    ·simp only [Bool.false_and, if_neg Bool.false_ne_true]
     omega
    ·have h1 := hp n hn hMb
     by_cases h3 : countOf q n = 0
     ·simp [h3]; omega
     ·simp [h3]
   ·refine congrArg (fun m : Int => AV.val (.int .i64 m)) ?_
    show ((i - 1 : Nat) : Int) + 1 = ((i + 1 - 1 : Nat) : Int)
    omega
 ·have hil : i = ls.length := by have := of_decide_eq_false h; omega
  subst hil
  rw [List.take_length] at hs
  refine AW.freeze 400 _ rfl trivial ?_
  simp only [go_sem, reduceIte, Nat.reduceEqDiff]
  refine g ?_
  repeat' (first | refine st_ rfl (g ?_) | refine hold_ (g ?_) | exact trivial | refine cond_d (fun h => g ?_) (fun h => g ?_) | refine cond_ (fun h => g ?_) (fun h => g ?_) | (refine hKD _ _ ⟨rfl, g ?_⟩; clear hKD KD) | ((first | refine vops_ifd rfl rfl (fun h e => ?_) (fun h e => ?_) | refine vdraw_ifd rfl rfl (fun h e => ?_) (fun h e => ?_)) <;> simp only [e] <;> clear e <;> refine g ?_) | ((first | refine vops_if rfl rfl (fun h => ?_) (fun h => ?_) | refine vdraw_if rfl rfl (fun h => ?_) (fun h => ?_)) <;> simp only [h] <;> refine g ?_) | refine ix_ (by omega) (g ?_) | refine call_ (list_call f M hM hp hf) rfl (g ?_))
  rw [show meetS ls = vecOf (onBits f M) from (vecUpto_congr fun n hn => (hs n hn).symm)]
  exact Sub1.rfl_ _
end Go.Proofs.YtaiekfeiaamemaaGreatDoor
