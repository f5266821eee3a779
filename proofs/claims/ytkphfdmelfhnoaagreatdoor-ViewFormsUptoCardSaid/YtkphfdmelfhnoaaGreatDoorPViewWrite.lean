/- An object is written (the program's). -/
import Derived.Test.YtkphfdmelfhnoaaGreatDoorPViewSpec2
import Derived.Test.YtkphfdmelfhnoaaGreatDoorPTakeLaw
import Derived.Test.YtkphfdmelfhnoaaGreatDoorRows
import Derived.Shelf.SlGeneric
import Derived.Shelf.SlSortCmp.WholeK
import Derived.Ground.SlsfProg
import Derived.Test.YtkphfdmelfhnoaaGreatDoorPPieces
import Derived.Test.YtkphfdmelfhnoaaGreatDoorPTurnRow
import Derived.Test.YtkphfdmelfhnoaaGreatDoorPSortSpan
import Derived.Test.YtkphfdmelfhnoaaGreatDoorPRefThr
import Derived.Test.YtkphfdmelfhnoaaGreatDoorPBridge2
import Derived.Test.YtkphfdmelfhnoaaGreatDoorPTouch
import Derived.Test.YtkphfdmelfhnoaaGreatDoorPAbsArr
import Derived.Test.YtkphfdmelfhnoaaGreatDoorPSince
import Derived.Test.YtkphfdmelfhnoaaGreatDoorPCacheForm
import Derived.Test.YtkphfdmelfhnoaaGreatDoorPSinceSame
import Derived.Test.YtkphfdmelfhnoaaGreatDoorPRefTouch
import Derived.Test.YtkphfdmelfhnoaaGreatDoorPBodies
import Derived.Test.YtkphfdmelfhnoaaGreatDoorPShelfAll
set_option linter.all false
set_option linter.unnecessarySimpa false
set_option linter.unusedSimpArgs false
set_option linter.unusedVariables false
namespace Go.Proofs.YtkphfdmelfhnoaaGreatDoor
def nextS (c n s : Int) : Stamp × Int :=
 if c < 0 ∨ n < 0 ∨ 64 ≤ n ∨ s < 0 then (⟨0, 0⟩, 1)
 else if 9223372036854775807 - c ≤ s then (⟨0, 0⟩, 2)
 else (⟨c + s + 1, n⟩, 0)
def greatS (l : List Stamp) : Int := (nodesOf (maskOf l) 64).foldl (fun m k => max m (countOf l (k : Nat))) 0
def ofN (known : List Stamp) (w : Write) : Note × Int :=
 if vecFormed known = true ∧ rightB w.stamp.count w.stamp.node = true ∧ rightO w.object = true ∧ vecHas known w.stamp = false then (⟨known, joinS [known, [w.stamp]], [], [w]⟩, 0) else (noNote, 1)
structure Told where
 view : View
 note : Note
 err : Int
def noTold (e : Int) : Told := ⟨noView, noNote, e⟩
def writeV (v : View) (me object skip : Int) (value : List Nat) (gone : Bool) : Told :=
  if viewFormed v = true ∧ rightO object = true ∧ value.length ≤ 256 ∧ (gone && decide (0 < value.length)) = false then
    (if (nextS (greatS v.known) me skip).2 = 0 then
      (if (ofN v.known ⟨(nextS (greatS v.known) me skip).1, object, gone⟩).2 = 0 then
        (if (takeV v (ofN v.known ⟨(nextS (greatS v.known) me skip).1, object, gone⟩).1).2 = 0 then
          (if gone = true then ⟨(takeV v (ofN v.known ⟨(nextS (greatS v.known) me skip).1, object, gone⟩).1).1, (ofN v.known ⟨(nextS (greatS v.known) me skip).1, object, gone⟩).1, 0⟩
           else (if (bodyV (takeV v (ofN v.known ⟨(nextS (greatS v.known) me skip).1, object, gone⟩).1).1 ⟨object, (nextS (greatS v.known) me skip).1, value⟩).2 = 0 then
              ⟨(bodyV (takeV v (ofN v.known ⟨(nextS (greatS v.known) me skip).1, object, gone⟩).1).1 ⟨object, (nextS (greatS v.known) me skip).1, value⟩).1, (ofN v.known ⟨(nextS (greatS v.known) me skip).1, object, gone⟩).1, 0⟩
            else noTold (bodyV (takeV v (ofN v.known ⟨(nextS (greatS v.known) me skip).1, object, gone⟩).1).1 ⟨object, (nextS (greatS v.known) me skip).1, value⟩).2))
         else noTold (takeV v (ofN v.known ⟨(nextS (greatS v.known) me skip).1, object, gone⟩).1).2)
       else noTold (ofN v.known ⟨(nextS (greatS v.known) me skip).1, object, gone⟩).2)
     else noTold (nextS (greatS v.known) me skip).2)
  else noTold 1
end Go.Proofs.YtkphfdmelfhnoaaGreatDoor
namespace Go.Proofs.YtkphfdmelfhnoaaGreatDoor
open Go.Proofs Go.Shelf
def sortZone_ren : Go.Shelf.Ren := ⟨fun | 6 => 222 | 15 => 246 | 14 => 245 | 28 => 261 | 29 => 262 | 20 => 253 | 21 => 254 | 22 => 255 | 23 => 256 | 24 => 257 | 25 => 258 | 26 => 259 | 27 => 260 | 46 => 273 | 47 => 274 | 48 => 275 | 49 => 276 | 50 => 277 | 57 => 282 | n => n, fun | 22 => 23 | 24 => 147 | 25 => 247 | 3 => 3 | 39 => 44 | 0 => 0 | 53 => 278 | 55 => 227 | 4 => 4 | 46 => 272 | 45 => 271 | 50 => 204 | 5 => 5 | 9 => 9 | 66 => 286 | 70 => 290 | 76 => 294 | 77 => 295 | n => n, fun | n => n⟩
theorem sortZone : Go.Proofs.SlLaysF0.n6 Tryz.prog sortZone_ren := {
 mixed := by kernel_rfl
 f6 := ⟨Tryz.f222.name, by decide, Tryz.func222.trans (congrArg some (by kernel_rfl))⟩
 f14 := ⟨Tryz.f245.name, by decide, Tryz.func245.trans (congrArg some (by kernel_rfl))⟩
 f15 := Tryz.func246.trans (congrArg some (by kernel_rfl))
 f20 := ⟨Tryz.f253.name, by decide, Tryz.func253.trans (congrArg some (by kernel_rfl))⟩
 f21 := ⟨Tryz.f254.name, by decide, Tryz.func254.trans (congrArg some (by kernel_rfl))⟩
 f22 := ⟨Tryz.f255.name, by decide, Tryz.func255.trans (congrArg some (by kernel_rfl))⟩
 f23 := ⟨Tryz.f256.name, by decide, Tryz.func256.trans (congrArg some (by kernel_rfl))⟩
 f24 := ⟨Tryz.f257.name, by decide, Tryz.func257.trans (congrArg some (by kernel_rfl))⟩
 f25 := ⟨Tryz.f258.name, by decide, Tryz.func258.trans (congrArg some (by kernel_rfl))⟩
 f26 := ⟨Tryz.f259.name, by decide, Tryz.func259.trans (congrArg some (by kernel_rfl))⟩
 f27 := ⟨Tryz.f260.name, by decide, Tryz.func260.trans (congrArg some (by kernel_rfl))⟩
 f28 := Tryz.func261.trans (congrArg some (by kernel_rfl))
 f29 := Tryz.func262.trans (congrArg some (by kernel_rfl))
 f46 := ⟨Tryz.f273.name, by decide, Tryz.func273.trans (congrArg some (by kernel_rfl))⟩
 f47 := Tryz.func274.trans (congrArg some (by kernel_rfl))
 f48 := Tryz.func275.trans (congrArg some (by kernel_rfl))
 f49 := ⟨Tryz.f276.name, by decide, Tryz.func276.trans (congrArg some (by kernel_rfl))⟩
 f50 := ⟨Tryz.f277.name, by decide, Tryz.func277.trans (congrArg some (by kernel_rfl))⟩
 f57 := ⟨Tryz.f282.name, by decide, Tryz.func282.trans (congrArg some (by kernel_rfl))⟩
 t0 := Tryz.underlying0
 a0 := Tryz.isAgg0
 z0 := Tryz.sizeOf0
 v0 := Tryz.zeroValue0
 t3 := Tryz.underlying3
 a3 := Tryz.isAgg3
 z3 := Tryz.sizeOf3
 v3 := Tryz.zeroValue3
 t4 := Tryz.underlying4
 a4 := Tryz.isAgg4
 z4 := Tryz.sizeOf4
 v4 := Tryz.zeroValue4
 t5 := Tryz.underlying5
 a5 := Tryz.isAgg5
 z5 := Tryz.sizeOf5
 v5 := Tryz.zeroValue5
 t9 := Tryz.underlying9
 a9 := Tryz.isAgg9
 z9 := Tryz.sizeOf9
 v9 := Tryz.zeroValue9
 t22 := Tryz.underlying23
 a22 := Tryz.isAgg23
 z22 := Tryz.sizeOf23
 v22 := Tryz.zeroValue23
 t25 := Tryz.underlying247
 a25 := Tryz.isAgg247
 z25 := Tryz.sizeOf247
 v25 := Tryz.zeroValue247
 t39 := Tryz.underlying44
 a39 := Tryz.isAgg44
 z39 := Tryz.sizeOf44
 v39 := Tryz.zeroValue44
 t45 := Tryz.underlying271
 a45 := Tryz.isAgg271
 z45 := Tryz.sizeOf271
 v45 := Tryz.zeroValue271
 t46 := Tryz.underlying272
 a46 := Tryz.isAgg272
 z46 := Tryz.sizeOf272
 v46 := Tryz.zeroValue272
 t50 := Tryz.underlying204
 a50 := Tryz.isAgg204
 z50 := Tryz.sizeOf204
 v50 := Tryz.zeroValue204
 t53 := Tryz.underlying278
 a53 := Tryz.isAgg278
 z53 := Tryz.sizeOf278
 v53 := Tryz.zeroValue278
 t55 := Tryz.underlying227
 a55 := Tryz.isAgg227
 z55 := Tryz.sizeOf227
 v55 := Tryz.zeroValue227
 t66 := Tryz.underlying286
 a66 := Tryz.isAgg286
 z66 := Tryz.sizeOf286
 v66 := Tryz.zeroValue286
 t70 := Tryz.underlying290
 a70 := Tryz.isAgg290
 z70 := Tryz.sizeOf290
 v70 := Tryz.zeroValue290
 t76 := Tryz.underlying294
 a76 := Tryz.isAgg294
 z76 := Tryz.sizeOf294
 v76 := Tryz.zeroValue294
 t77 := Tryz.underlying295
 a77 := Tryz.isAgg295
 z77 := Tryz.sizeOf295
 v77 := Tryz.zeroValue295 }
end Go.Proofs.YtkphfdmelfhnoaaGreatDoor
namespace Go.Proofs.YtkphfdmelfhnoaaGreatDoor
open Go.ChangeShapes Go.WideShapes Go.ChangeAt Go.RowKit
attribute [local irreducible] AW AWY vops vopsY vop vopL vdraw callW qop binQ lenQ storeQ appendQ callQ ACalls AIter cntI
attribute [local go_sem] storeQ_bp storeQ_rp
def onBits (f : Nat → Int) (M n : Nat) : Int := if M.testBit n = true then f n else 0
theorem stampsOf_all {f : Nat → Int} {M : Nat} (hbit : ∀ n, n < 64 → M.testBit n = true → 0 < f n) {ys : List (Fin 64)} (hys : ys.map (·.1) = nodesOf M 64) : stampsOf f ys = vecOf (onBits f M) := by
 rw [vecOf, vecUpto_nodes (onBits f M) M 64 fun n hn => ?_, ← hys, List.map_map]
 ·refine List.map_congr_left fun x hx => ?_
  have : x.1 ∈ nodesOf M 64 := by rw [← hys]; exact List.mem_map_of_mem hx
  rw [mem_nodesOf] at this
  show (⟨f x.1, _⟩ : Stamp) = ⟨onBits f M x.1, _⟩
  rw [onBits, if_pos this.2]
 ·unfold onBits
  cases h : M.testBit n
  ·simp
  ·simpa using hbit n hn h
set_option maxRecDepth 100000 in
theorem list_call (f : Nat → Int) (M : Nat) (hM : M < 18446744073709551616) (hbit : ∀ n, n < 64 → M.testBit n = true → 0 < f n) (hf : ∀ n, n < 64 → I64 (f n)) : ACalls Tryz.prog TzTab 220 [.ip (cntI f M)] (.iv (stI (vecOf (onBits f M)))) [] := by
 refine ACalls.of (n := 17) (rs := [.tmp 2]) Tryz.func220 rfl (by kernel_rfl) Tryz.ntmps220 (by kernel_rfl) (by simp) (fun _ _ => TzTab.later) ?_
 intro hok V w0
 refine g ?_
 repeat' (first | refine st_ rfl (g ?_) | refine hold_ (g ?_) | exact trivial | refine cond_d (fun h => g ?_) (fun h => g ?_) | refine cond_ (fun h => g ?_) (fun h => g ?_) | (refine vops_ifd rfl rfl (fun h e => ?_) (fun h e => ?_) <;> simp only [e] <;> clear e <;> refine g ?_) | (refine vops_if rfl rfl (fun h => ?_) (fun h => ?_) <;> simp only [h] <;> refine g ?_) | refine ix_ (by omega) (g ?_) | refine call_ (each_call _) rfl (g ?_))
 refine AW.adoptB 400 9900 49 2 rfl rfl ?_
 refine AW.le (S := ⟨[(3, .bp 400 0), (7, .fn 248 [.ip [.pt (cntI f M)]])], [.row 9900 49 2 ((stampsOf f []).map enSt), .box 400 [.own 9900]]⟩) (ρ := id) ⟨⟨rfl, rfl, trivial⟩, ⟨rfl, rfl, trivial⟩, by simp [idsOf, BA.id]⟩ ?_
 refine AW.range (each_iter f M hM) [(3, .bp 400 0)] [(7, .fn 248 [.ip [.pt (cntI f M)]])] (fun pre => [.row 9900 49 2 ((stampsOf f pre).map enSt), .box 400 [.own 9900]]) (fun _ => True) rfl trivial rfl rfl rfl rfl (fun x => ⟨rfl, rfl⟩) (fun c pre x hsp hI => ?_) (fun xs hS hI => ?_)
 ·have hl := hsp.length_le
  have hl2 := nodesOf_length M 64
  rw [List.length_map, List.length_append, List.length_singleton] at hl
  have hr : (stampsOf f pre).length = pre.length := by unfold stampsOf; rw [List.length_map]
  have hsn := stampsOf_snoc f pre x
  have w1 := hf x.1 x.2
  have w2 : I64 ((x.1 : Nat) : Int) := I64.of (by omega) (by omega)
  simp only [parF, enE, List.cons_append, List.nil_append]
  refine g ?_
  refine g ?_
  repeat' (first | refine st_ rfl (g ?_) | refine hold_ (g ?_) | exact trivial | refine cond_ (fun h => g ?_) (fun h => g ?_))
  refine bs1 (by omega) rfl rfl rfl ⟨w1, w2, trivial⟩ ?_
  refine g ?_
  repeat' (first | refine st_ rfl (g ?_) | refine hold_ (g ?_) | exact trivial | refine cond_ (fun h => g ?_) (fun h => g ?_))
  refine append_own rfl (by kernel_rfl) (by omega) (by kernel_rfl) rfl (by simp; omega) ?_
  refine g ?_
  repeat' (first | refine st_ rfl (g ?_) | refine hold_ (g ?_) | exact trivial | refine cond_ (fun h => g ?_) (fun h => g ?_))
  refine ⟨trivial, fun b => if b = 9900 then 1600 else b, ⟨rfl, trivial⟩, ⟨?_, rfl, trivial⟩, by simp [idsOf, BA.id]⟩
  rw [hsn, List.map_append]
  rfl
 ·rw [stampsOf_all hbit hS]
  refine g ?_
  refine AW.freeze 9900 _ rfl trivial ?_
  simp only [go_sem, reduceIte, Nat.reduceEqDiff]
  refine AW.freeze 400 _ rfl ⟨trivial, trivial⟩ ?_
  simp only [go_sem, reduceIte, Nat.reduceEqDiff]
  refine g ?_
  repeat' (first | refine st_ rfl (g ?_) | refine hold_ (g ?_) | exact trivial | refine cond_d (fun h => g ?_) (fun h => g ?_) | refine cond_ (fun h => g ?_) (fun h => g ?_) | (refine vops_ifd rfl rfl (fun h e => ?_) (fun h e => ?_) <;> simp only [e] <;> clear e <;> refine g ?_) | (refine vops_if rfl rfl (fun h => ?_) (fun h => ?_) <;> simp only [h] <;> refine g ?_) | refine ix_ (by omega) (g ?_))
  rfl
end Go.Proofs.YtkphfdmelfhnoaaGreatDoor
namespace Go.Proofs.YtkphfdmelfhnoaaGreatDoor
open Go.ChangeShapes Go.WideShapes Go.ChangeAt Go.RowKit
attribute [local irreducible] vops vopsY vop vopL vdraw callW qop binQ lenQ storeQ appendQ callQ ACalls AIter
attribute [local go_sem] storeQ_bp storeQ_rp
section
variable {V w0 : World} {n : Nd} {ro : Option Nat} {σ : AState} {K : Exit → AState → Prop}
theorem AW.eachOwn {id dst x : Nat} {ats : Array TypeId} {ty : TypeId} {pos : String} {after : Array Edge} (b : Nat) (hx : look σ.fr x = .bp b 0) (hf : (offF (100 * (dst + 1)) (100 * (dst + 1) + 100) σ.fr && offB (100 * (dst + 1)) (100 * (dst + 1) + 100) σ.bk) = true) (hd : (Nat.blt dst n.n && !memN dst n.fx) = true)
  (h : K .normal ⟨(dst, .fn 248 [.bp (100 * (dst + 1)) 0]) :: σ.fr, .box (100 * (dst + 1)) [.bp b 0] :: σ.bk⟩) :
  AW Tryz.prog TzTab ro V w0 n (.region id #[⟨some dst, .call { callee := .value (.func 228), args := #[.tmp x], argTypes := ats }, ty, pos, after, none⟩] false) σ K := fun hG m E a w hn hs => by
 obtain ⟨c, hc⟩ : ∃ c, 100 * (dst + 1) = c := ⟨_, rfl⟩
 rw [hc] at hf h
 rw [Bool.and_eq_true] at hf
 refine wpIn_region_lit (l := [_]) (wpListIn_step fun K' hK' => ?_)
 rw [if_pos (by rfl)]
 refine wp_wpIn (fun _ h => by cases h) ?_
 have hxv := hs.slots x
 rw [hx] at hxv
 generalize hxe : a.tmps.getD x undef = u at hxv
 cases hxv
 have hexec : (execOp a.eval ⟨some dst, .call { callee := .value (.func 228), args := #[.tmp x], argTypes := ats }, ty, pos, after, none⟩).run Tryz.prog w = .ok (.enter 228 #[.pointer (some ⟨E.blk b, 0, none⟩)]) w := by
  have hen := enters_f (P := Tryz.prog) Tryz.func228 rfl (by kernel_rfl) #[.pointer (some ⟨E.blk b, 0, none⟩)] w
  have he : a.eval (.tmp x) = .pointer (some ⟨E.blk b, 0, none⟩) := hxe
  simp [execOp, resolve, Act.eval, Deferred.ofValue, invoke, hen, hxe]
 unfold Oper.wp
 rw [hexec, Oper.upon_enter]
 refine (countsEach (E.blk b) w).mono ?_
 rintro e w' ⟨rfl, hw'⟩
 refine hK' _ _ ?_
 let E' : Env := ⟨fun q => if q = c then w.heap.size else E.blk q, E.row⟩
 have hE : Env.same c (c + 100) E E' := fun q hq => by
  have : ¬ q = c := by omega
  simp [E', this]
 have hbel : Below w.heap.size w w' := by rw [← hw']; exact balloc (Below.refl _ w)
 have hb := offF_look hf.1 x
 rw [hx] at hb
 simp only [AV.off, Bool.or_eq_true, decide_eq_true_eq] at hb
 have hbe : E'.blk b = E.blk b := (hE b hb).1
 have ho : owns E' [.box c [.bp b 0]] = [w.heap.size] := by simp [owns, BA.owned, E']
 have hst := hs.add (nb := [.box c [.bp b 0]]) hbel hE hf.1 hf.2 (by rw [ho]; simp) (fun g hg => by rw [ho] at hg; simp at hg; omega) (fun q hq => by
  simp only [List.mem_singleton] at hq
  subst hq
  refine ⟨#[.pointer (some ⟨E.blk b, 0, none⟩)], _, by rw [← hw']; simp only [E', if_true]; exact Blk.new _ _ _, RepAs.cons ?_ RepAs.nil⟩
  rw [← hbe]; exact .bp)
 simp only [Bool.and_eq_true, Bool.not_eq_true'] at hd
 refine ⟨m, E', _, Fm.le.refl m, h, hst.put (dst := some dst) (fun d e => by cases e; rw [hn]; exact ⟨blt_iff.1 hd.1, memN_iff hd.2⟩) (.fn rfl fun j v q e1 e2 => ?_)⟩
 match j, e1, e2 with
 | 0, e1, e2 =>
  simp at e1 e2
  subst e1 e2
  have := RepA.bp (E := E') (X := vis V w0 w' (owns E' ([.box c [.bp b 0]] ++ σ.bk))) (b := c) (o := 0)
  simpa [E'] using this
 | j + 1, e1, e2 => simp at e1
theorem AW.toArr {P : Program} {G : World → Prop} {c : Code} (b : Nat) {cs : List AV} {is : List IV} (hb : findB b σ.bk = some (.box b cs)) (hi : toIs cs = some is) (ho : okAs cs) (h : AW P G ro V w0 n c ⟨σ.fr, replB b [.arr b is] σ.bk⟩ K) : AW P G ro V w0 n c σ K := fun hG m E a w hn hs => by
 obtain ⟨pre, post, e1, e2, e3⟩ := findB_split hb
 obtain ⟨fr, bk⟩ := σ
 simp only at e1 e3 h hs
 subst e1
 refine h hG m E a w hn ?_
 rw [e3]
 have e : owns E (pre ++ .arr b is :: post) = owns E (pre ++ .box b cs :: post) := by simp [owns_append, owns, BA.owned]
 refine ⟨hs.ext, hs.low, by simpa [e] using hs.apart, by simpa [e] using hs.base, fun x hx => ?_, fun i => by simpa [e] using hs.slots i, hs.size, hs.defers, by simpa [e] using hs.hold⟩
 simp only [List.singleton_append, e] at hx ⊢
 rcases List.mem_append.1 hx with hx | hx
 ·exact hs.holds x (List.mem_append_left _ hx)
 ·rcases List.mem_cons.1 hx with rfl | hx
  ·obtain ⟨C, t, h1, h2⟩ := hs.holds (.box b cs) (by simp)
   exact ⟨C, t, h1, h2.toIs hi ho⟩
  ·exact hs.holds x (List.mem_append_right _ (List.mem_cons_of_mem _ hx))
end
theorem cntI_put {f : Nat → Int} {M n : Nat} (h : n < 64) (x : Int) : (cntI f M).set n (.val (.int .i64 x)) = cntI (fun k => if k = n then x else f k) M := by
 rw [cntI, cntI, ← cnts_set h, Array.toList_setIfInBounds, List.map_set]
theorem cntI_mask {f : Nat → Int} {M M' : Nat} : (cntI f M).set 64 (.val (.int .u64 M')) = cntI f M' := by
 have := congrArg (fun C : Array Value => C.toList.map IV.val) (cnts_set_has (f := f) (M := M) (M' := M'))
 simpa [cntI, Array.toList_setIfInBounds, List.map_set] using this
theorem cntI_len {f : Nat → Int} {M : Nat} : (cntI f M).length = 65 := by rw [cntI, List.length_map, Array.length_toList, cnts_size]
theorem bp_inv {E : Env} {X : World} {v : Value} {b o : Nat} (h : RepA E X v (.bp b o)) : v = .pointer (some ⟨E.blk b, o, none⟩) := by cases h; rfl
def enX (x : Fin 64) : List AV := [.val (.int .i64 (x.1 : Nat)), .any]
attribute [local irreducible] cntI AW
section
variable {V w0 : World} {n : Nd} {K : Exit → AState → Prop}
theorem AW.rangeEach {i j b c M : Nat} {ps : Array Tmp} {assign body : Code} {bk : List BA} (hM : M < 18446744073709551616) (fx pu : List (Nat × AV)) (B : List (Fin 64) → List BA) (I : List (Fin 64) → Prop)
  (hi : look (fx ++ pu) i = .fn 248 [.bp c 0]) (hj : look (fx ++ pu) j = .bp b 0) (hbox : ∀ pre, ∃ f, BA.box c [.bp b 0] ∈ B pre ∧ BA.arr b (cntI f M) ∈ B pre)
  (hB : B [] = bk) (hI : I []) (hr : n.rnd = false) (hpu : pureF pu = true) (hps : parOk n.n (fx.map (·.1)) ps.toList = true) (hp2 : ps.size = 2)
  (hbody : ∀ l pre x, I pre → AW Tryz.prog TzTab (some l) V w0 ⟨n.n, fx.map (·.1), true⟩ assign ⟨parF ps.toList (enX x) (fx ++ pu), B pre⟩ fun e σ1 => e = .normal ∧ AW Tryz.prog TzTab (some l) V w0 ⟨n.n, fx.map (·.1), true⟩ body σ1 (rpost K fx pu (I (pre ++ [x])) (B (pre ++ [x]))))
  (hdone : ∀ xs : List (Fin 64), xs.map (·.1) = nodesOf M 64 → I xs → K .normal ⟨fx ++ pu, B xs⟩) : AW Tryz.prog TzTab none V w0 n (.rangeFunc (.tmp i) ps assign body) ⟨fx ++ pu, bk⟩ K := by
 refine AW.rangeG (gf := 248) (encs := enX) (S := fun ys : List (Fin 64) => ys.map (·.1) = nodesOf M 64) (Sp := fun _ => True) (enters_f (P := Tryz.prog) Tryz.func248 rfl (by kernel_rfl)) fx pu B I (fun m0 E0 a w W1 lb hn hs hge hlb hx hG l J Jx sJ sJx hJS hy h0 => ?_) hB hI hr hi hpu hps (fun x => ⟨hp2.symm, rfl⟩) (fun l pre x _ => hbody l pre x) hdone
 obtain ⟨v, rfl, hv⟩ : ∃ v, lb = #[v] ∧ RepA E0 (vis V w0 w (owns E0 (B []))) v (.bp c 0) := args1 hlb
 cases hv
 have hsi := hs.slots i
 have hsj := hs.slots j
 simp only [hi] at hsi
 simp only [hj] at hsj
 have key : ∀ pre X W, J pre X W → TzTab W → ∃ f, EachAny (E0.blk c) (E0.blk b) f M W := by
  intro pre X W hJ hT
  obtain ⟨E, hst⟩ := hJS pre X W hJ
  have hti := hst.slots i
  have htj := hst.slots j
  simp only [hi] at hti
  simp only [hj] at htj
  have ec : E.blk c = E0.blk c := by
   have e1 : a.tmps.getD i undef = .func (.func 248) #[] #[.pointer (some ⟨E0.blk c, 0, none⟩)] := hge
   rw [e1] at hti
   cases hti with
   | fn h1 h2 =>
    have := bp_inv (h2 0 _ _ rfl rfl)
    simpa using this.symm
  have eb : E.blk b = E0.blk b := by
   have := (bp_inv hsj).symm.trans (bp_inv htj)
   simpa using this.symm
  obtain ⟨f, hb1, hb2⟩ := hbox pre
  obtain ⟨C1, t1, p1, p2⟩ := hst.holds _ hb1
  obtain ⟨C2, t2, p3, p4⟩ := hst.holds _ hb2
  refine ⟨f, ⟨t1, ?_⟩, ⟨t2, ?_⟩, hT⟩
  ·have : C1 = #[.pointer (some ⟨E0.blk b, 0, none⟩)] := by
    obtain ⟨v, vs, e, q1, q2⟩ := RepAs.cons_iff.1 p2
    rw [RepAs.nil_iff.1 q2] at e
    cases q1
    rw [← Array.toArray_toList (xs := C1), e, eb]
   rw [← this, ← ec]
   exact p1
  ·have : C2 = cnts f M := by
    unfold cntI at p4
    rw [← Array.toArray_toList (xs := C2), reps_vals p4]
   rw [← this, ← eb]
   exact p3
 refine (callsIn_wide (n := 1)).1 ((each1_live 1 (by omega) l (E0.blk c) (E0.blk b) M hM (fun pre W => ∃ X, J pre X W ∧ Ext (vis V w0 w (owns E0 (B []))) X ∧ Ext X W ∧ W1.heap.size ≤ W.heap.size ∧ TzTab W) (fun pre W => ∃ X, Jx pre X W) (fun pre W ⟨X, h1, _, _, _, h5⟩ => key pre X W h1 h5) (fun pre x W f ⟨X, h1, h2, h3, h4, h5⟩ hE _ => ?_) W1 ⟨_, h0, Ext.refl _, hx, Nat.le_refl _, hG⟩).mono ?_)
 ·obtain ⟨fn, tmps, asg, bd, q1, q2⟩ := hy pre x X W (eachEnc f x) E0 h1 h2 h3 h4 h5 (RepAs.cons .val (RepAs.cons .any RepAs.nil)) trivial
  refine ⟨fn, tmps, asg, bd, q1, q2.mono fun e W' ⟨r1, r2, r3, r4, r5⟩ => ?_⟩
  rcases r5 with ⟨rfl, r5⟩ | ⟨rfl, r5⟩
  ·exact .inl ⟨rfl, X, r5, h2, r2, Nat.le_trans h4 r1, r3⟩
  ·exact .inr ⟨rfl, X, r5⟩
 ·rintro e W' ⟨h1, ⟨ys, h2, X, h3, _⟩ | ⟨pre, _, X, h3⟩⟩
  ·exact ⟨h1, .inl ⟨ys, X, h2, h3⟩⟩
  ·exact ⟨h1, .inr ⟨pre, X, h3⟩⟩
end
def mixMin (f d : Nat → Int) (pre : List (Fin 64)) (n : Nat) : Int := if pre.any (fun x => decide (x.1 = n)) = true then min (f n) (d n) else f n
theorem mixMin_nil (f d : Nat → Int) : mixMin f d [] = f := by funext n; simp [mixMin]
theorem mixMin_snoc (f d : Nat → Int) (pre : List (Fin 64)) (x : Fin 64) : (fun k => if k = x.1 then min (mixMin f d pre x.1) (d x.1) else mixMin f d pre k) = mixMin f d (pre ++ [x]) := by
 funext k
 by_cases hk : k = x.1
 ·subst hk
  rw [if_pos rfl, mixMin, mixMin, List.any_append]
  simp only [List.any_cons, List.any_nil, Bool.or_false, decide_true, Bool.or_true, if_true]
  split <;> omega
 ·rw [if_neg hk, mixMin, mixMin, List.any_append]
  simp [show ¬ x.1 = k from fun e => hk e.symm]
structure MeetS (ls : List (List Stamp)) where
 i : Nat
 f : Nat → Int
 M : Nat
 h0 : 0 < i
 hi : i ≤ ls.length
 hM : M < 18446744073709551616
 hf : ∀ n, n < 64 → I64 (f n)
 pos : ∀ n, n < 64 → M.testBit n = true → 0 < f n
 is : ∀ n, n < 64 → onBits f M n = meetC (ls.take i) n
set_option maxRecDepth 100000 in
set_option maxHeartbeats 1600000 in
theorem meet_call (ls : List (List Stamp)) : ACalls Tryz.prog TzTab 217 [.iv (stsI ls)] (.iv (stI (meetS ls))) [] := by
 refine ACalls.ofS (n := 47) (rs := [.tmp 2]) Tryz.func217 rfl (by kernel_rfl) Tryz.ntmps217 (by kernel_rfl) (by simp) (fun _ _ => TzTab.later) ?_
 intro hok V w0
 have hlen : ls.length ≤ 1073741824 := by simpa [stsI] using hok.1.1
 have hI : ∀ l ∈ ls, ∀ n : Int, I64 (countOf l n) := fun l hl n => by
  have h1 := okR_mem hok.1.2 [stI l] (List.mem_map_of_mem hl)
  refine countOf_i64 (fun s hs => ?_) n
  obtain ⟨-, h2, -⟩ := okR_mem h1.2.1.2 (enSt s) (List.mem_map_of_mem hs)
  exact h2
 unfold stsI
 refine g ?_
 repeat' (first | refine st_ rfl (g ?_) | refine hold_ (g ?_) | exact trivial | refine cond_d (fun h => g ?_) (fun h => g ?_) | refine cond_ (fun h => g ?_) (fun h => g ?_) | (refine hKD _ _ ⟨rfl, g ?_⟩; clear hKD KD) | ((first | refine vops_ifd rfl rfl (fun h e => ?_) (fun h e => ?_) | refine vdraw_ifd rfl rfl (fun h e => ?_) (fun h e => ?_)) <;> simp only [e] <;> clear e <;> refine g ?_) | ((first | refine vops_if rfl rfl (fun h => ?_) (fun h => ?_) | refine vdraw_if rfl rfl (fun h => ?_) (fun h => ?_)) <;> simp only [h] <;> refine g ?_) | refine ix_ (by omega) (g ?_))
 ·obtain rfl : ls = [] := List.length_eq_zero_iff.1 (by omega)
  exact nil_sub 2
 have hpos : 0 < ls.length := by omega
 refine ⟨_, get_map (List.getElem?_eq_getElem hpos), hold_ ?_⟩
 refine g ?_
 repeat' (first | refine st_ rfl (g ?_) | refine hold_ (g ?_) | exact trivial | refine cond_d (fun h => g ?_) (fun h => g ?_) | refine cond_ (fun h => g ?_) (fun h => g ?_) | (refine hKD _ _ ⟨rfl, g ?_⟩; clear hKD KD) | ((first | refine vops_ifd rfl rfl (fun h e => ?_) (fun h e => ?_) | refine vdraw_ifd rfl rfl (fun h e => ?_) (fun h e => ?_)) <;> simp only [e] <;> clear e <;> refine g ?_) | ((first | refine vops_if rfl rfl (fun h => ?_) (fun h => ?_) | refine vdraw_if rfl rfl (fun h => ?_) (fun h => ?_)) <;> simp only [h] <;> refine g ?_) | refine ix_ (by omega) (g ?_) | refine call_ (read_call ls[0]) rfl (g ?_))
 refine ⟨cntI_len, by simp [rep], ?_⟩
 rw [setsL_all (by simp [rep, cntI_len])]
 refine AW.toArr 400 rfl (toIs_map _) (okAs_map _) ?_
 simp only [replB_box, if_true, List.singleton_append]
 refine g ?_
 repeat' (first | refine st_ rfl (g ?_) | refine hold_ (g ?_) | exact trivial | refine cond_d (fun h => g ?_) (fun h => g ?_) | refine cond_ (fun h => g ?_) (fun h => g ?_) | (refine hKD _ _ ⟨rfl, g ?_⟩; clear hKD KD) | ((first | refine vops_ifd rfl rfl (fun h e => ?_) (fun h e => ?_) | refine vdraw_ifd rfl rfl (fun h e => ?_) (fun h e => ?_)) <;> simp only [e] <;> clear e <;> refine g ?_) | ((first | refine vops_if rfl rfl (fun h => ?_) (fun h => ?_) | refine vdraw_if rfl rfl (fun h => ?_) (fun h => ?_)) <;> simp only [h] <;> refine g ?_) | refine ix_ (by omega) (g ?_))
 refine ⟨1, _, rfl, rfl, by omega, by simp, hold_ ?_⟩
 refine g ?_
 repeat' (first | refine st_ rfl (g ?_) | refine hold_ (g ?_) | exact trivial | refine cond_d (fun h => g ?_) (fun h => g ?_) | refine cond_ (fun h => g ?_) (fun h => g ?_) | (refine hKD _ _ ⟨rfl, g ?_⟩; clear hKD KD) | ((first | refine vops_ifd rfl rfl (fun h e => ?_) (fun h e => ?_) | refine vdraw_ifd rfl rfl (fun h e => ?_) (fun h e => ?_)) <;> simp only [e] <;> clear e <;> refine g ?_) | ((first | refine vops_if rfl rfl (fun h => ?_) (fun h => ?_) | refine vdraw_if rfl rfl (fun h => ?_) (fun h => ?_)) <;> simp only [h] <;> refine g ?_) | refine ix_ (by omega) (g ?_))
 have e0 : ls.take 1 = [ls[0]] := by
  cases ls with
  | nil => simp at hpos
  | cons a l => rfl
 have eS : ((ls.map fun l => [stI l]).take ls.length).drop 1 = (ls.drop 1).map fun l => [stI l] := by rw [List.take_of_length_le (by simp), List.map_drop]
 have c0 : countOf ls[0] = countOf ls[0] := rfl
 have hb0 : ∀ n, n < 64 → (maskOf ls[0]).testBit n = true → 0 < countOf ls[0] (n : Nat) := fun n hn h => by
  rw [maskOf_bit hn] at h
  have := countOf_nonneg ls[0] n
  simp at h
  omega
 refine AW.loop (fun x : MeetS ls => ⟨[(3, .bp 400 0), (16, .iv (.sl 1 ((ls.drop 1).map fun l => [stI l]))), (17, .val (.int .i64 ((ls.length - 1 : Nat) : Nat))), (18, .val (.int .i64 ((x.i - 1 : Nat) : Nat)))], [.arr 400 (cntI x.f x.M)]⟩) (fun x => ls.length - x.i) ⟨1, _, _, Nat.one_pos, hpos, maskOf_lt ls[0], fun n _ => hI _ (List.getElem_mem hpos) n, hb0, fun n hn => ?_⟩ id ⟨⟨rfl, congrArg (fun l => AV.iv (.sl 1 l)) eS, congrArg (fun l : List (List IV) => AV.val (.int .i64 (l.length : Nat))) eS |>.trans (by simp [AV.ren]), rfl, trivial⟩, ⟨rfl, trivial⟩, by simp [idsOf, BA.id]⟩ fun ⟨i, f, M, hi0, hi, hM, hf, hp, hs⟩ => ?_
 ·rw [e0]
  show onBits _ _ n = countOf ls[0] n
  unfold onBits
  split
  ·rfl
  ·rename_i h
   rw [maskOf_bit hn] at h
   have h : countOf ls[0] (n : Nat) = 0 := by simpa using h
   exact h.symm
 simp only
 have hd : (ls.drop 1).length = ls.length - 1 := by simp
 repeat (refine AW.seq ?_)
 refine AW.reg rfl fun KK hKK => ?_
 refine g ?_
 repeat' (first | refine hold_ (g ?_) | (refine hKK _ (g ?_); clear hKK KK) | exact trivial)
 repeat (refine AW.seq ?_)
 refine st_ rfl ?_
 refine g ?_
 refine cond_ (fun h => ?_) (fun h => ?_)
 ·have hlt : i < ls.length := by have := of_decide_eq_true h; omega
  obtain ⟨q, hq⟩ : ∃ q, ls[i] = q := ⟨_, rfl⟩
  have hq2 : (ls.drop 1)[i - 1]? = some q := by rw [List.getElem?_drop, ← hq, show 1 + (i - 1) = i by omega]; exact List.getElem?_eq_getElem hlt
  have hqI : ∀ n : Int, I64 (countOf q n) := hI q (hq ▸ List.getElem_mem hlt)
  have hMq := maskOf_lt q
  refine g ?_
  repeat' (first | refine st_ rfl (g ?_) | refine hold_ (g ?_) | exact trivial | refine cond_ (fun h => g ?_) (fun h => g ?_) | (refine hKD _ _ ⟨rfl, g ?_⟩; clear hKD KD))
  refine ⟨by omega, _, get_map hq2, ?_⟩
  refine g ?_
  repeat' (first | refine st_ rfl (g ?_) | refine hold_ (g ?_) | exact trivial | refine cond_ (fun h => g ?_) (fun h => g ?_) | (refine hKD _ _ ⟨rfl, g ?_⟩; clear hKD KD))
  refine call_ (read_call q) rfl ?_
  refine g ?_
  repeat' (first | refine hold_ (g ?_) | (refine hKK _ (g ?_); clear hKK KK) | exact trivial)
  refine ⟨cntI_len, by simp [rep], ?_⟩
  rw [setsL_all (by simp [rep, cntI_len])]
  simp only [go_sem, reduceIte]
  refine AW.freeze 700 _ rfl (okAs_map _) ?_
  simp only [go_sem, toIs_map, reduceIte, Nat.reduceEqDiff]
  refine AW.seq ?_
  refine AW.reg rfl fun KK hKK => ?_
  refine g ?_
  repeat' (first | refine hold_ (g ?_) | (refine hKK _ (g ?_); clear hKK KK) | exact trivial)
  refine ⟨_, cntI_has, ?_⟩
  refine g ?_
  repeat' (first | refine hold_ (g ?_) | (refine hKK _ (g ?_); clear hKK KK) | exact trivial)
  refine rdI_drop cntI_has ?_
  refine g ?_
  repeat' (first | refine hold_ (g ?_) | (refine hKK _ (g ?_); clear hKK KK) | exact trivial)
  have hand : bits .and .u64 (M : Int) ((maskOf q : Nat) : Int) = ((M &&& maskOf q : Nat) : Int) := u64_and_nat _ _ hM hMq
  refine ⟨.int .u64 ((M &&& maskOf q : Nat) : Int), fun w => by go_simp, ?_⟩
  have hM2 : M &&& maskOf q < 18446744073709551616 := Nat.lt_of_le_of_lt Nat.and_le_left hM
  have ho2 : okV (.int .u64 ((M &&& maskOf q : Nat) : Int)) := by
   show (Lit.int .u64 ((M &&& maskOf q : Nat) : Int)).wf = true
   simp [Lit.wf, IntKind.max, IntKind.min, IntKind.signed, IntKind.bits]
   omega
  refine g ?_
  repeat' (first | refine hold_ (g ?_) | (refine hKK _ (g ?_); clear hKK KK) | exact trivial)
  refine ⟨_, rfl, ⟨ho2, trivial⟩, by rw [cntI_len]; omega, ?_⟩
  refine g ?_
  repeat' (first | refine hold_ (g ?_) | (refine hKK _ (g ?_); clear hKK KK) | exact trivial)
  rw [cntI_mask]
  obtain ⟨M2, hM2e⟩ : ∃ M2, M &&& maskOf q = M2 := ⟨_, rfl⟩
  rw [hM2e] at hM2 ⊢
  refine AW.seq (AW.eachOwn 400 rfl rfl rfl ?_)
  simp only [go_sem]
  refine g ?_
  repeat' (first | refine st_ rfl (g ?_) | refine hold_ (g ?_) | exact trivial | refine cond_ (fun h => g ?_) (fun h => g ?_) | (refine hKD _ _ ⟨rfl, g ?_⟩; clear hKD KD))
  refine AW.le (S := ⟨[(3, .bp 400 0), (30, .fn 248 [.bp 3100 0]), (6, .ip (cntI (fun n => countOf q n) (maskOf q))), (16, .iv (.sl 1 ((ls.drop 1).map fun l => [stI l]))), (17, .val (.int .i64 ((ls.length - 1 : Nat) : Nat))), (18, .val (.int .i64 ((i - 1 : Nat) : Nat)))], [.box 3100 [.bp 400 0], .arr 400 (cntI (mixMin f (fun n => countOf q n) []) M2)]⟩) (ρ := id) ⟨⟨rfl, rfl, rfl, rfl, rfl, rfl, trivial⟩, ⟨rfl, by rw [mixMin_nil]; rfl, trivial⟩, by simp [idsOf, BA.id]⟩ ?_
  refine AW.rangeEach (i := 30) (j := 3) (b := 400) (c := 3100) hM2 [(3, .bp 400 0), (30, .fn 248 [.bp 3100 0])] [(6, .ip (cntI (fun n => countOf q n) (maskOf q))), (16, .iv (.sl 1 ((ls.drop 1).map fun l => [stI l]))), (17, .val (.int .i64 ((ls.length - 1 : Nat) : Nat))), (18, .val (.int .i64 ((i - 1 : Nat) : Nat)))] (fun pre => [.box 3100 [.bp 400 0], .arr 400 (cntI (mixMin f (fun n => countOf q n) pre) M2)]) (fun _ => True) rfl rfl (fun pre => ⟨mixMin f (fun n => countOf q n) pre, List.mem_cons_self .., List.mem_cons_of_mem _ (List.mem_cons_self ..)⟩) rfl trivial rfl rfl rfl rfl (fun c pre x _ => ?_) (fun ys hS _ => ?_)
  ·simp only [parF, enX, List.cons_append, List.nil_append]
   refine g ?_
   refine g ?_
   repeat' (first | refine st_ rfl (g ?_) | refine hold_ (g ?_) | exact trivial | refine cond_ (fun h => g ?_) (fun h => g ?_) | (refine hKD _ _ ⟨rfl, g ?_⟩; clear hKD KD))
   refine AW.drawn (ds := [33, 34, 35, 36, 37, 38, 39, 40, 41, 42, 43, 44]) (fin := [0, 2]) (bs := [2, 2, 2, 2, 2, 2, 2, 2, 2, 2, 2, 2, 2]) [⟨[], [], [], [], 0⟩, ⟨[], [], [], [], 0⟩, ⟨[], [], [], [], 0⟩, ⟨[(35, 2), (34, 1)], [], [0, 1], [], 0⟩, ⟨[(36, 3)], [], [0, 1], [], 0⟩, ⟨[], [], [], [], 0⟩, ⟨[], [], [], [], 0⟩, ⟨[(39, 6), (38, 5)], [], [0, 1], [], 0⟩, ⟨[(40, 7)], [], [0, 1], [], 0⟩, ⟨[(37, 4), (41, 8)], [], [], [], 0⟩, ⟨[], [], [], [], 0⟩, ⟨[(43, 10), (33, 0)], [], [0, 1], [], 0⟩, ⟨[(44, 11), (42, 9)], [], [], [1], 1⟩] (by kernel_rfl) rfl (by kernel_rfl) rfl rfl rfl fun KD hKD => ?_
   have hx := x.2
   refine g ?_
   repeat' (first | refine hold_ (g ?_) | (refine hKD _ _ ⟨rfl, g ?_⟩; clear hKD KD) | exact trivial)
   refine ⟨by omega, by omega, ?_⟩
   refine g ?_
   repeat' (first | refine hold_ (g ?_) | (refine hKD _ _ ⟨rfl, g ?_⟩; clear hKD KD) | exact trivial)
   refine ⟨.val (.int .i64 (mixMin f (fun n => countOf q n) pre x.1)), by simpa using cntI_at hx, ?_⟩
   refine g ?_
   repeat' (first | refine hold_ (g ?_) | (refine hKD _ _ ⟨rfl, g ?_⟩; clear hKD KD) | exact trivial)
   refine ⟨by omega, by omega, ?_⟩
   refine g ?_
   repeat' (first | refine hold_ (g ?_) | (refine hKD _ _ ⟨rfl, g ?_⟩; clear hKD KD) | exact trivial)
   rw [Nat.mul_one]
   refine rdI_drop (cntI_at hx) ?_
   refine g ?_
   repeat' (first | refine hold_ (g ?_) | (refine hKD _ _ ⟨rfl, g ?_⟩; clear hKD KD) | exact trivial)
   refine ⟨by omega, by omega, ?_⟩
   refine g ?_
   repeat' (first | refine hold_ (g ?_) | (refine hKD _ _ ⟨rfl, g ?_⟩; clear hKD KD) | exact trivial)
   refine ⟨[.val (.int .i64 (min (mixMin f (fun n => countOf q n) pre x.1) (countOf q x.1)))], rfl, ⟨i64_min ?_ (hqI _), trivial⟩, by rw [cntI_len]; simp, ?_⟩
   ·unfold mixMin
    split
    ·exact i64_min (hf _ hx) (hqI _)
    ·exact hf _ hx
   refine g ?_
   repeat' (first | refine hold_ (g ?_) | (refine hKD _ _ ⟨rfl, g ?_⟩; clear hKD KD) | exact trivial)
   refine ⟨trivial, id, ⟨rfl, rfl, trivial⟩, ⟨rfl, ?_, trivial⟩, by simp [idsOf, BA.id]⟩
   refine congrArg (fun C => some (BA.arr 400 C)) ?_
   rw [← mixMin_snoc, ← cntI_put hx]
   simp
  ·refine g ?_
   refine g ?_
   repeat' (first | refine st_ rfl (g ?_) | refine hold_ (g ?_) | exact trivial | refine cond_d (fun h => g ?_) (fun h => g ?_) | refine cond_ (fun h => g ?_) (fun h => g ?_) | (refine hKD _ _ ⟨rfl, g ?_⟩; clear hKD KD) | ((first | refine vops_ifd rfl rfl (fun h e => ?_) (fun h e => ?_) | refine vdraw_ifd rfl rfl (fun h e => ?_) (fun h e => ?_)) <;> simp only [e] <;> clear e <;> refine g ?_) | ((first | refine vops_if rfl rfl (fun h => ?_) (fun h => ?_) | refine vdraw_if rfl rfl (fun h => ?_) (fun h => ?_)) <;> simp only [h] <;> refine g ?_) | refine ix_ (by omega) (g ?_))
   have hany : ∀ n, n < 64 → ys.any (fun x => decide (x.1 = n)) = (M.testBit n && (maskOf q).testBit n) := fun n hn => by
    rw [← Nat.testBit_and, hM2e, Bool.eq_iff_iff]
    have hm : n ∈ ys.map (·.1) ↔ M2.testBit n = true := by rw [hS, mem_nodesOf]; exact ⟨fun h => h.2, fun h => ⟨hn, h⟩⟩
    rw [← hm, List.any_eq_true, List.mem_map]
    exact ⟨fun ⟨x, h1, h2⟩ => ⟨x, h1, by simpa using h2⟩, fun ⟨x, h1, h2⟩ => ⟨x, h1, by simpa using h2⟩⟩
   have hcq := countOf_nonneg q
   have hmix : ∀ n, n < 64 → mixMin f (fun n => countOf q n) ys n = if (M.testBit n && (maskOf q).testBit n) = true then min (f n) (countOf q n) else f n := fun n hn => by rw [mixMin, hany n hn]
   have hb2 : ∀ n, n < 64 → M2.testBit n = (M.testBit n && (maskOf q).testBit n) := fun n _ => by rw [← hM2e, Nat.testBit_and]
   refine ⟨⟨i + 1, mixMin f (fun n => countOf q n) ys, M2, by omega, hlt, hM2, fun n hn => ?_, fun n hn h => ?_, fun n hn => ?_⟩, id, ⟨⟨rfl, rfl, rfl, ?_, trivial⟩, ⟨rfl, trivial⟩, by simp [idsOf, BA.id]⟩, by show ls.length - (i + 1) < ls.length - i; omega⟩
   ·rw [hmix n hn]
    split
    ·exact i64_min (hf n hn) (hqI _)
    ·exact hf n hn
   ·rw [hmix n hn, if_pos (by rw [← hb2 n hn]; exact h)]
    rw [hb2 n hn, Bool.and_eq_true, maskOf_bit hn] at h
    have h1 := hp n hn h.1
    have h2 := hcq n
    have h3 : ¬ countOf q n = 0 := by simpa using h.2
    omega
   ·rw [meet_step hi0 hlt, hq, ← hs n hn]
    unfold onBits
    have h2 := hcq n
    rw [hmix n hn, hb2 n hn, maskOf_bit hn]
    cases hMb : M.testBit n
    ·simp only [Bool.false_and, if_neg Bool.false_ne_true]
     omega
    ·have h1 := hp n hn hMb
     by_cases h3 : countOf q n = 0
     ·simp [h3]; omega
     ·simp [h3]
   ·refine congrArg (fun m : Int => AV.val (.int .i64 m)) ?_
    show ((i - 1 : Nat) : Int) + 1 = ((i + 1 - 1 : Nat) : Int)
    omega
 ·have hil : i = ls.length := by have := of_decide_eq_false h; omega
  subst hil
  rw [List.take_length] at hs
  refine AW.freeze 400 _ rfl trivial ?_
  simp only [go_sem, reduceIte, Nat.reduceEqDiff]
  refine g ?_
  repeat' (first | refine st_ rfl (g ?_) | refine hold_ (g ?_) | exact trivial | refine cond_d (fun h => g ?_) (fun h => g ?_) | refine cond_ (fun h => g ?_) (fun h => g ?_) | (refine hKD _ _ ⟨rfl, g ?_⟩; clear hKD KD) | ((first | refine vops_ifd rfl rfl (fun h e => ?_) (fun h e => ?_) | refine vdraw_ifd rfl rfl (fun h e => ?_) (fun h e => ?_)) <;> simp only [e] <;> clear e <;> refine g ?_) | ((first | refine vops_if rfl rfl (fun h => ?_) (fun h => ?_) | refine vdraw_if rfl rfl (fun h => ?_) (fun h => ?_)) <;> simp only [h] <;> refine g ?_) | refine ix_ (by omega) (g ?_) | refine call_ (list_call f M hM hp hf) rfl (g ?_))
  rw [show meetS ls = vecOf (onBits f M) from (vecUpto_congr fun n hn => (hs n hn).symm)]
  exact Sub1.rfl_ _
end Go.Proofs.YtkphfdmelfhnoaaGreatDoor
namespace Go.Proofs.YtkphfdmelfhnoaaGreatDoor
open Go.ChangeShapes Go.WideShapes Go.ChangeAt Go.RowKit
attribute [local irreducible] AW AWY vops vopsY vop vopL vdraw callW qop binQ lenQ storeQ appendQ callQ ACalls AIter cntI
attribute [local go_sem] noteA_eq storeQ_bp storeQ_rp
def farP (v : List Stamp) (n : Note) (pre : List (Fin 64)) (o : Nat) : Int := if pre.any (fun x => decide (x.1 = o)) = true then stretchC v n o else countOf v o
theorem stretchC_nonneg (v : List Stamp) (n : Note) (o : Nat) : 0 ≤ stretchC v n o := by
 have := countOf_nonneg v o
 unfold stretchC
 split <;> omega
theorem farP_nonneg (v : List Stamp) (n : Note) (pre : List (Fin 64)) (o : Nat) : 0 ≤ farP v n pre o := by
 have := countOf_nonneg v o
 have := stretchC_nonneg v n o
 unfold farP
 split <;> omega
theorem farP_snoc {v : List Stamp} {n : Note} {pre : List (Fin 64)} {x : Fin 64} {o : Nat} : farP v n (pre ++ [x]) o = if o = x.1 then stretchC v n x.1 else farP v n pre o := by
 unfold farP
 rw [List.any_append]
 simp only [List.any_cons, List.any_nil, Bool.or_false]
 by_cases e : o = x.1
 ·subst e; simp
 ·rw [if_neg e, decide_eq_false (fun h => e h.symm), Bool.or_false]
theorem farP_at {v : List Stamp} {n : Note} {pre : List (Fin 64)} {x : Fin 64} : farP v n pre x.1 = stretchC v n x.1 ∨ farP v n pre x.1 = countOf v x.1 := by
 unfold farP
 split
 ·exact .inl rfl
 ·exact .inr rfl
theorem farP_no {v : List Stamp} {n : Note} {pre : List (Fin 64)} {x : Fin 64} (h : ¬ (countOf v x.1 < countOf n.end_ x.1 ∧ countOf n.start x.1 ≤ countOf v x.1)) : vecOf (farP v n (pre ++ [x])) = vecOf (farP v n pre) :=
 vecOf_congr fun o ho => by
  rw [farP_snoc]
  split
  ·rename_i e
   subst e
   have hs : stretchC v n x.1 = countOf v x.1 := by
    unfold stretchC
    split <;> omega
   rcases farP_at (v := v) (n := n) (pre := pre) (x := x) with e | e <;> omega
  ·rfl
theorem countOf_one {c : Int} {k : Nat} (h : rightB c k = true) (o : Nat) : countOf [⟨c, k⟩] o = if o = k then c else 0 := by
 simp only [countOf, h, and_true]
 by_cases e : o = k
 ·subst e; simp
 ·rw [if_neg e, if_neg (by omega)]
theorem farP_yes {v : List Stamp} {n : Note} {pre : List (Fin 64)} {x : Fin 64} (h1 : countOf v x.1 < countOf n.end_ x.1) (h2 : countOf n.start x.1 ≤ countOf v x.1) (hr : rightB (countOf n.end_ x.1) x.1 = true) : joinS [vecOf (farP v n pre), [⟨countOf n.end_ x.1, (x.1 : Nat)⟩]] = vecOf (farP v n (pre ++ [x])) :=
 vecOf_congr fun o ho => by
  rw [joinC_two, countOf_vecOf _ ho (farP_nonneg _ _ _ _), countOf_one hr, farP_snoc]
  have h3 := farP_nonneg v n pre o
  by_cases e : o = x.1
  ·subst e
   rw [if_pos rfl, if_pos rfl]
   have hs : stretchC v n x.1 = countOf n.end_ x.1 := by
    unfold stretchC
    rw [if_pos h2]; omega
   rcases farP_at (v := v) (n := n) (pre := pre) (x := x) with e | e <;> omega
  ·rw [if_neg e, if_neg e]; omega
theorem farP_nil {v : List Stamp} (hv : vecFormed v = true) (n : Note) : vecOf (farP v n []) = v := by
 have : vecOf (farP v n []) = vecOf fun k => countOf v k := vecOf_congr fun o _ => by simp [farP]
 rw [this, vecOf_count hv]
theorem farP_all {v : List Stamp} {n : Note} {xs : List (Fin 64)} (h : xs.map (·.1) = nodesOf (maskOf n.end_) 64) : vecOf (farP v n xs) = farS v n :=
 vecOf_congr fun o ho => by
  unfold farP
  split
  ·rfl
  ·rename_i hh
   have : o ∉ nodesOf (maskOf n.end_) 64 := fun hm => hh (by
    rw [← h, List.mem_map] at hm
    obtain ⟨x, h1, h2⟩ := hm
    exact List.any_eq_true.2 ⟨x, h1, by simpa using h2⟩)
   rw [mem_nodesOf, maskOf_bit ho] at this
   have h0 : countOf n.end_ o = 0 := by
    by_cases e : countOf n.end_ o = 0
    ·exact e
    ·exact absurd ⟨ho, by simp [e]⟩ this
   have := countOf_nonneg v o
   unfold stretchC
   rw [h0]
   split <;> omega
theorem vwithD (l : List Stamp) (s : Stamp) (i1 : I64 s.count) (i2 : I64 s.node) : ACalls Tryz.prog TzTab 177 [.iv (stI l), .agg [.val (.int .i64 s.count), .val (.int .i64 s.node)]] (.iv (stI (joinS [l, [s]]))) [] := (vwith_call l s i1 i2).frz trivial
set_option maxRecDepth 100000 in
set_option maxHeartbeats 1600000 in
theorem stretched_call (v : List Stamp) (n : Note) (hv : vecFormed v = true) : ACalls Tryz.prog TzTab 156 [.iv (stI v), noteA n] (.iv (stI (farS v n))) [] := by
 refine ACalls.ofS (n := 35) (rs := [.tmp 4]) Tryz.func156 rfl (by kernel_rfl) Tryz.ntmps156 (by kernel_rfl) (by simp) (fun _ _ => TzTab.later) ?_
 intro hok V w0
 refine g ?_
 refine AW.seq ?_
 refine AW.reg rfl fun KK hKK => ?_
 refine g ?_
 repeat' (first | refine hold_ (g ?_) | (refine hKK _ (g ?_); clear hKK KK) | exact trivial)
 refine AW.freeze 300 _ rfl ⟨trivial, trivial⟩ ?_
 simp only [go_sem, reduceIte, Nat.reduceEqDiff]
 refine AW.freeze 400 _ rfl ⟨trivial, trivial, trivial, trivial, trivial⟩ ?_
 simp only [go_sem, reduceIte, Nat.reduceEqDiff]
 refine g ?_
 repeat' (first | refine st_ rfl (g ?_) | refine hold_ (g ?_) | exact trivial | refine cond_d (fun h => g ?_) (fun h => g ?_) | refine cond_ (fun h => g ?_) (fun h => g ?_) | (refine vops_ifd rfl rfl (fun h e => ?_) (fun h e => ?_) <;> simp only [e] <;> clear e <;> refine g ?_) | (refine vops_if rfl rfl (fun h => ?_) (fun h => ?_) <;> simp only [h] <;> refine g ?_) | refine ix_ (by omega) (g ?_) | refine call_ (all_call _) rfl (g ?_))
 have hI : ∀ k : Int, I64 (countOf n.end_ k) := fun k => by
  refine countOf_i64 (fun s hs => ?_) k
  obtain ⟨-, h2, -⟩ := okR_mem hok.2.1.2.1.2 (enSt s) (List.mem_map_of_mem hs)
  exact h2
 refine AW.le (S := ⟨[(5, .bp 600 0), (2, .ip [stI v]), (3, .ip [stI n.start, stI n.end_, spI n.blur, wrI n.writes]), (12, .fn 248 [.ip [.pt (cntI (fun k => countOf n.end_ k) (maskOf n.end_))]])], [.box 600 [.iv (stI (vecOf (farP v n [])))]]⟩) (ρ := id) ⟨⟨rfl, rfl, rfl, rfl, trivial⟩, ⟨by rw [farP_nil hv]; rfl, trivial⟩, by simp [idsOf, BA.id]⟩ ?_
 refine AW.range (each_iter (fun k => countOf n.end_ k) (maskOf n.end_) (maskOf_lt _)) [(5, .bp 600 0)] [(2, .ip [stI v]), (3, .ip [stI n.start, stI n.end_, spI n.blur, wrI n.writes]), (12, .fn 248 [.ip [.pt (cntI (fun k => countOf n.end_ k) (maskOf n.end_))]])] (fun pre => [.box 600 [.iv (stI (vecOf (farP v n pre)))]]) (fun _ => True) rfl trivial rfl rfl rfl rfl (fun x => ⟨rfl, rfl⟩) (fun c pre x hsp _ => ?_) (fun xs hS _ => ?_)
 ·have hm : x.1 ∈ nodesOf (maskOf n.end_) 64 := hsp.subset (by simp)
  rw [mem_nodesOf, maskOf_bit x.2] at hm
  have hne : countOf n.end_ x.1 ≠ 0 := by simpa using hm.2
  have hpos := countOf_pos hne
  have hr : rightB (countOf n.end_ x.1) x.1 = true := decide_eq_true ⟨hpos, by omega, by have := x.2; omega⟩
  have hx := x.2
  simp only [parF, enE, List.cons_append, List.nil_append]
  refine g ?_
  refine g ?_
  repeat' (first | refine st_ rfl (g ?_) | refine hold_ (g ?_) | exact trivial | refine cond_d (fun h => g ?_) (fun h => g ?_) | refine cond_ (fun h => g ?_) (fun h => g ?_) | (refine vops_ifd rfl rfl (fun h e => ?_) (fun h e => ?_) <;> simp only [e] <;> clear e <;> refine g ?_) | (refine vops_if rfl rfl (fun h => ?_) (fun h => ?_) <;> simp only [h] <;> refine g ?_) | refine ix_ (by omega) (g ?_) | refine call_ (vcount_call _ _) rfl (g ?_) | refine call_ (vwithD (vecOf (farP v n pre)) ⟨countOf n.end_ x.1, (x.1 : Nat)⟩ (hI _) (I64.of (by show (-9223372036854775808 : Int) ≤ (x.1 : Nat); omega) (by show ((x.1 : Nat) : Int) ≤ 9223372036854775807; omega))) rfl (g ?_))
  ·rename_i h1
   exact ⟨trivial, id, ⟨rfl, trivial⟩, ⟨congrArg (fun l => some (BA.box 600 [.iv (stI l)])) (farP_yes h1 h hr), trivial⟩, by simp [idsOf, BA.id]⟩
  ·exact ⟨trivial, id, ⟨rfl, trivial⟩, ⟨congrArg (fun l => some (BA.box 600 [.iv (stI l)])) (farP_no (fun q => h q.2)).symm, trivial⟩, by simp [idsOf, BA.id]⟩
  ·exact ⟨trivial, id, ⟨rfl, trivial⟩, ⟨congrArg (fun l => some (BA.box 600 [.iv (stI l)])) (farP_no (fun q => h q.1)).symm, trivial⟩, by simp [idsOf, BA.id]⟩
 ·refine g ?_
  rw [farP_all hS]
  refine g ?_
  repeat' (first | refine st_ rfl (g ?_) | refine hold_ (g ?_) | exact trivial | refine cond_d (fun h => g ?_) (fun h => g ?_) | refine cond_ (fun h => g ?_) (fun h => g ?_) | (refine vops_ifd rfl rfl (fun h e => ?_) (fun h e => ?_) <;> simp only [e] <;> clear e <;> refine g ?_) | (refine vops_if rfl rfl (fun h => ?_) (fun h => ?_) <;> simp only [h] <;> refine g ?_) | refine ix_ (by omega) (g ?_))
  exact Sub1.rfl_ _
end Go.Proofs.YtkphfdmelfhnoaaGreatDoor
namespace Go.Proofs.YtkphfdmelfhnoaaGreatDoor
open Go.ChangeShapes Go.WideShapes Go.ChangeAt Go.RowKit
attribute [local irreducible] AW AWY vops vopsY vop vopL vdraw callW qop binQ lenQ storeQ appendQ callQ ACalls AIter
attribute [local go_sem] enZ_eq storeQ_bp storeQ_rp
theorem spI_eq (l : List Span) : spI l = .sl 2 (l.map enSp) := rfl
attribute [local go_sem] spI_eq enSp_eq
set_option maxRecDepth 100000 in
set_option maxHeartbeats 1600000 in
theorem put_call (l : List Span) (reach now : List Stamp) (z : List Zone) (hl : l.length ≤ 128) (hz : z.length ≤ 1000000) : TCalls Tryz.prog TzTab 154 [.iv (spI l), .iv (stI reach), .ip [stI now], .bp 0 0] (.tup []) [.row 1 147 3 (z.map enZ), .box 0 [.own 1]] [.row 2 147 3 ((z ++ cutZ now l reach).map enZ)] [(0, [.own 2])] [] := by
 refine TCalls.of [(3, 0)] (n := 25) (rs := []) Tryz.func154 rfl (by kernel_rfl) Tryz.ntmps154 (by kernel_rfl) (by simp) ⟨rfl, trivial⟩ rfl rfl fun hok V w0 F => ?_
 have hle : l.length ≤ 1073741824 := by omega
 obtain ⟨C, hC⟩ : ∃ C, cutZ now l reach = C := ⟨_, rfl⟩
 rw [hC]
 unfold cutZ at hC
 have hcov := vcovers_call reach now
 obtain ⟨B, hB⟩ : ∃ B, coversB reach now = B := ⟨_, rfl⟩
 rw [hB] at hcov hC
 cases B with
 | true =>
  rw [if_pos rfl] at hC
  subst hC
  rw [List.append_nil]
  refine g ?_
  repeat' (first | refine st_ rfl (g ?_) | refine hold_ (g ?_) | exact trivial | refine cond_d (fun h => g ?_) (fun h => g ?_) | refine cond_ (fun h => g ?_) (fun h => g ?_) | (refine hKD _ _ ⟨rfl, g ?_⟩; clear hKD KD) | ((first | refine vops_ifd rfl rfl (fun h e => ?_) (fun h e => ?_) | refine vdraw_ifd rfl rfl (fun h e => ?_) (fun h e => ?_)) <;> simp only [e] <;> clear e <;> refine g ?_) | ((first | refine vops_if rfl rfl (fun h => ?_) (fun h => ?_) | refine vdraw_if rfl rfl (fun h => ?_) (fun h => ?_)) <;> simp only [h] <;> refine g ?_) | refine ix_ (by omega) (g ?_) | refine call_ (hcov) rfl (g ?_))
  exact ⟨fun b => if b = 2 then 1 else b, fun _ _ _ h => h, ⟨rfl, trivial⟩, ⟨rfl, rfl, rfl⟩, by simp⟩
 | false =>
  rw [if_neg (by decide)] at hC
  refine g ?_
  repeat' (first | refine st_ rfl (g ?_) | refine hold_ (g ?_) | exact trivial | refine cond_d (fun h => g ?_) (fun h => g ?_) | refine cond_ (fun h => g ?_) (fun h => g ?_) | (refine hKD _ _ ⟨rfl, g ?_⟩; clear hKD KD) | ((first | refine vops_ifd rfl rfl (fun h e => ?_) (fun h e => ?_) | refine vdraw_ifd rfl rfl (fun h e => ?_) (fun h e => ?_)) <;> simp only [e] <;> clear e <;> refine g ?_) | ((first | refine vops_if rfl rfl (fun h => ?_) (fun h => ?_) | refine vdraw_if rfl rfl (fun h => ?_) (fun h => ?_)) <;> simp only [h] <;> refine g ?_) | refine ix_ (by omega) (g ?_) | refine call_ (hcov) rfl (g ?_))
  refine AW.loop (fun m : {m : Nat // m ≤ l.length} => ⟨[(1, .iv (stI reach)), (3, .bp 0 0), (11, .iv (spI l)), (12, .val (.int .i64 (l.length : Nat))), (13, .val (.int .i64 (m.1 : Nat)))], [.row 1 147 3 ((z ++ (l.take m.1).map fun s => (⟨s, reach⟩ : Zone)).map enZ), .box 0 [.own 1], .opq 99 F]⟩) (fun m => l.length - m.1) ⟨0, Nat.zero_le _⟩ id ⟨⟨rfl, rfl, rfl, ?_, rfl, trivial⟩, ⟨by simp; rfl, rfl, rfl, trivial⟩, by simp [idsOf, BA.id]⟩ fun ⟨m, hm⟩ => ?_
  ·simp [AV.ren, look]
  simp only
  repeat (refine AW.seq ?_)
  refine AW.reg rfl fun KK hKK => ?_
  refine g ?_
  repeat' (first | refine hold_ (g ?_) | (refine hKK _ (g ?_); clear hKK KK) | exact trivial)
  repeat (refine AW.seq ?_)
  refine st_ rfl ?_
  refine g ?_
  refine cond_ (fun h => ?_) (fun h => ?_)
  ·have hlt : m < l.length := by have := of_decide_eq_true h; omega
   obtain ⟨-, o1, o2, -⟩ := okR_mem (by simpa [spI] using hok.1.2) (enSp l[m]) (List.mem_map_of_mem (List.getElem_mem hlt))
   refine g ?_
   repeat' (first | refine st_ rfl (g ?_) | refine hold_ (g ?_) | exact trivial | refine cond_ (fun h => g ?_) (fun h => g ?_) | (refine hKD _ _ ⟨rfl, g ?_⟩; clear hKD KD))
   refine ⟨by omega, _, get_map (List.getElem?_eq_getElem hlt), ?_⟩
   refine g ?_
   repeat' (first | refine st_ rfl (g ?_) | refine hold_ (g ?_) | exact trivial | refine cond_ (fun h => g ?_) (fun h => g ?_) | (refine hKD _ _ ⟨rfl, g ?_⟩; clear hKD KD))
   refine AW.freeze 800 _ rfl ⟨o1, o2, trivial⟩ ?_
   simp only [go_sem, reduceIte, Nat.reduceEqDiff]
   refine AW.drawn (ds := [17, 18, 19, 20, 21, 22, 23]) (fin := [2, 3, 4, 5]) (bs := [3, 3, 3, 3, 3, 3, 4, 5]) [⟨[], [], [0, 1, 2], [], 0⟩, ⟨[], [], [0, 1, 2], [], 0⟩, ⟨[], [], [], [], 0⟩, ⟨[(19, 2)], [], [0, 1, 2], [], 0⟩, ⟨[(18, 1), (20, 3)], [], [], [], 0⟩, ⟨[(21, 4)], [], [], [], 1⟩, ⟨[(17, 0), (22, 5)], [], [1, 2, 3], [0], 1⟩, ⟨[(23, 6)], [], [], [1], 1⟩] (by kernel_rfl) rfl (by kernel_rfl) rfl rfl rfl fun KD hKD => ?_
   refine g ?_
   repeat' (first | refine st_ rfl (g ?_) | refine hold_ (g ?_) | exact trivial | refine cond_d (fun h => g ?_) (fun h => g ?_) | refine cond_ (fun h => g ?_) (fun h => g ?_) | (refine hKD _ _ ⟨rfl, g ?_⟩; clear hKD KD) | ((first | refine vops_ifd rfl rfl (fun h e => ?_) (fun h e => ?_) | refine vdraw_ifd rfl rfl (fun h e => ?_) (fun h e => ?_)) <;> simp only [e] <;> clear e <;> refine g ?_) | ((first | refine vops_if rfl rfl (fun h => ?_) (fun h => ?_) | refine vdraw_if rfl rfl (fun h => ?_) (fun h => ?_)) <;> simp only [h] <;> refine g ?_) | refine ix_ (by omega) (g ?_) | refine call_ (clonestD _) rfl (g ?_))
   refine bs1 (by omega) rfl rfl rfl ⟨o1, o2, trivial, trivial⟩ ?_
   refine g ?_
   repeat' (first | refine hold_ (g ?_) | (refine hKD _ _ ⟨rfl, g ?_⟩; clear hKD KD) | exact trivial)
   refine append_own rfl (by kernel_rfl) (by omega) (by kernel_rfl) rfl (by simp; omega) ?_
   refine g ?_
   repeat' (first | refine st_ rfl (g ?_) | refine hold_ (g ?_) | exact trivial | refine cond_d (fun h => g ?_) (fun h => g ?_) | refine cond_ (fun h => g ?_) (fun h => g ?_) | (refine hKD _ _ ⟨rfl, g ?_⟩; clear hKD KD) | ((first | refine vops_ifd rfl rfl (fun h e => ?_) (fun h e => ?_) | refine vdraw_ifd rfl rfl (fun h e => ?_) (fun h e => ?_)) <;> simp only [e] <;> clear e <;> refine g ?_) | ((first | refine vops_if rfl rfl (fun h => ?_) (fun h => ?_) | refine vdraw_if rfl rfl (fun h => ?_) (fun h => ?_)) <;> simp only [h] <;> refine g ?_) | refine ix_ (by omega) (g ?_))
   refine ⟨⟨m + 1, hlt⟩, fun b => if b = 1 then 2400 else b, ⟨⟨rfl, rfl, rfl, rfl, rfl, trivial⟩, ⟨?_, rfl, rfl, trivial⟩, by simp [idsOf, BA.id]⟩, by show l.length - (m + 1) < l.length - m; omega⟩
   show some (BA.row _ _ _ _) = some (BA.row _ _ _ ((z ++ (l.take (m + 1)).map fun s => (⟨s, reach⟩ : Zone)).map enZ))
   rw [List.take_succ_eq_append_getElem hlt]
   simp only [List.map_append, List.append_assoc]
   rfl
  ·obtain rfl : m = l.length := by have := of_decide_eq_false h; omega
   refine AW.exit ?_
   simp only [reduceIte]
   rw [List.take_length, hC]
   refine g ?_
   repeat' (first | refine st_ rfl (g ?_) | refine hold_ (g ?_) | exact trivial | refine cond_d (fun h => g ?_) (fun h => g ?_) | refine cond_ (fun h => g ?_) (fun h => g ?_) | (refine hKD _ _ ⟨rfl, g ?_⟩; clear hKD KD) | ((first | refine vops_ifd rfl rfl (fun h e => ?_) (fun h e => ?_) | refine vdraw_ifd rfl rfl (fun h e => ?_) (fun h e => ?_)) <;> simp only [e] <;> clear e <;> refine g ?_) | ((first | refine vops_if rfl rfl (fun h => ?_) (fun h => ?_) | refine vdraw_if rfl rfl (fun h => ?_) (fun h => ?_)) <;> simp only [h] <;> refine g ?_) | refine ix_ (by omega) (g ?_))
   exact ⟨.inr trivial, fun b => if b = 2 then 1 else b, fun _ _ _ h => h, ⟨rfl, trivial⟩, ⟨rfl, rfl, rfl⟩, by simp⟩
end Go.Proofs.YtkphfdmelfhnoaaGreatDoor
namespace Go.Proofs.YtkphfdmelfhnoaaGreatDoor
open Go.ChangeShapes Go.WideShapes Go.ChangeAt Go.RowKit Go.Sort Go.Shelf
structure ZB where
 lo : Nat
 hi : Int
 v : Value
 small : lo < 256
 one : v.oneCell' = true
instance : Inhabited ZB := ⟨⟨0, 0, .bool false, by decide, rfl⟩⟩
def encZB (b : ZB) : List Value := [.int .i64 (b.lo : Nat), .int .i64 b.hi, b.v]
def cfZB (a b : ZB) : Int := (a.lo : Int) - b.lo
theorem ltZB (a b : ZB) : ltOf cfZB a b = decide (a.lo < b.lo) := by
 unfold ltOf cfZB
 rw [decide_eq_decide]
 omega
theorem swoZB : SWO (ltOf cfZB) where
 irrefl x := by rw [ltZB]; simp
 trans x y z h1 h2 := by rw [ltZB] at *; simp at *; omega
 ntrans x y z h1 h2 := by rw [ltZB] at *; simp at *; omega
theorem joined1 (x y : ZB) (W : World) : Calls Tryz.prog 223 #[.agg #[.int .i64 (x.lo : Nat), .int .i64 x.hi, x.v], .agg #[.int .i64 (y.lo : Nat), .int .i64 y.hi, y.v]] W fun e w' => e = .returned (.int .i64 (cfZB x y)) ∧ ∃ q os', w' = grow (W.drewN q) os' := by
 obtain ⟨a, b, u, ha, hu⟩ := x
 obtain ⟨c, d, v, hc, hv⟩ := y
 unfold cfZB
 simp only
 go_enter Tryz.func223, Tryz.ntmps223
 go_wp2_with fail
 go_ret
 exact ⟨rfl, 0, _, by rw [alloc_eq_grow, alloc_eq_grow, grow_grow]; rfl⟩
def RelZ (X : World) : List Zone → List ZB → Prop
 | [], [] => True
 | z :: l, b :: d => ((b.lo : Int) = z.span.lo ∧ b.hi = z.span.hi ∧ I64 z.span.hi ∧ RepV X b.v (stI z.vec)) ∧ RelZ X l d
 | _, _ => False
theorem relZ_of {X : World} : ∀ {l : List Zone} {xs : List Value}, (∀ z ∈ l, 0 ≤ z.span.lo ∧ z.span.lo ≤ 255) → Chunks (RepVs X) 3 xs (l.map enZ) → ∃ d, Chunks (EncR encZB) 3 xs d ∧ RelZ X l d
 | [], xs, _, h => ⟨[], h, trivial⟩
 | z :: l, xs, hz, ⟨cs, rest, e, hk, h1, h2⟩ => by
  obtain ⟨d, h3, h4⟩ := relZ_of (fun y hy => hz y (by simp [hy])) h2
  have hz0 := hz z (by simp)
  match cs, h1 with
  | [c0, c1, c2], ⟨q0, q1, q2, _⟩ =>
   cases q0 with | val i0 => cases q1 with | val i1 =>
   refine ⟨⟨z.span.lo.toNat, z.span.hi, c2, by omega, q2.one⟩ :: d, ⟨_, rest, e, hk, ?_, h3⟩, ⟨by show ((z.span.lo.toNat : Nat) : Int) = _; omega, rfl, i1, q2⟩, h4⟩
   show _ = encZB _
   unfold encZB
   simp only
   rw [show ((z.span.lo.toNat : Nat) : Int) = z.span.lo by omega]
theorem relZ_back {X : World} : ∀ {l : List Zone} {d : List ZB} {xs : List Value}, RelZ X l d → Chunks (EncR encZB) 3 xs d → Chunks (RepVs X) 3 xs (l.map enZ)
 | [], [], _, _, h => h
 | z :: l, b :: d, xs, ⟨⟨e0, e1, i1, h3⟩, h4⟩, ⟨cs, rest, e, hk, h1, h2⟩ => by
  refine ⟨cs, rest, e, hk, ?_, relZ_back h4 h2⟩
  rw [show cs = encZB b from h1]
  unfold encZB
  refine ⟨?_, ?_, h3, trivial⟩
  ·rw [e0]; exact .val (by rw [← e0]; have := b.small; exact I64.of (by omega) (by omega))
  ·rw [e1]; exact .val i1
 | [], _ :: _, _, h, _ => h.elim
 | _ :: _, [], _, h, _ => h.elim
theorem relZ_len {X : World} : ∀ {l : List Zone} {d : List ZB}, RelZ X l d → l.length = d.length
 | [], [], _ => rfl
 | _ :: _, _ :: _, h => congrArg (· + 1) (relZ_len h.2)
 | [], _ :: _, h => h.elim
 | _ :: _, [], h => h.elim
theorem relZ_perm {X : World} {d d' : List ZB} (hp : d.Perm d') : ∀ {l : List Zone}, RelZ X l d → ∃ l', l.Perm l' ∧ RelZ X l' d' := by
 induction hp with
 | nil => exact fun {l} h => ⟨l, List.Perm.refl _, h⟩
 | cons x _ ih =>
  intro l h
  cases l with
  | nil => exact h.elim
  | cons z l =>
   obtain ⟨l', h1, h2⟩ := ih h.2
   exact ⟨z :: l', h1.cons z, h.1, h2⟩
 | swap x y d =>
  intro l h
  match l, h with
  | z :: u :: l, ⟨h1, h2, h3⟩ => exact ⟨u :: z :: l, List.Perm.swap _ _ _, h2, h1, h3⟩
 | trans _ _ ih1 ih2 =>
  intro l h
  obtain ⟨l', h1, h2⟩ := ih1 h
  obtain ⟨l'', h3, h4⟩ := ih2 h2
  exact ⟨l'', h1.trans h3, h4⟩
theorem relZ_lo {X : World} : ∀ {l : List Zone} {d : List ZB}, RelZ X l d → d.map (fun b => (b.lo : Int)) = l.map fun z => z.span.lo
 | [], [], _ => rfl
 | _ :: _, _ :: _, h => by rw [List.map_cons, List.map_cons, h.1.1, relZ_lo h.2]
 | [], _ :: _, h => h.elim
 | _ :: _, [], h => h.elim
theorem sorted_unique {α : Type} {k : α → Int} : ∀ {l m : List α}, l.Pairwise (fun a b => k a < k b) → m.Pairwise (fun a b => k a < k b) → (∀ x, x ∈ l ↔ x ∈ m) → l = m
 | [], [], _, _, _ => rfl
 | [], y :: m, _, _, h => by have := (h y).2 (by simp); cases this
 | x :: l, [], _, _, h => by have := (h x).1 (by simp); cases this
 | x :: l, y :: m, h1, h2, h => by
  obtain ⟨a1, a2⟩ := List.pairwise_cons.1 h1
  obtain ⟨b1, b2⟩ := List.pairwise_cons.1 h2
  have e : x = y := by
   rcases List.mem_cons.1 ((h x).1 (by simp)) with e | hx
   ·exact e
   ·rcases List.mem_cons.1 ((h y).2 (by simp)) with e | hy
    ·exact e.symm
    ·have := a1 y hy; have := b1 x hx; omega
  subst e
  congr 1
  refine sorted_unique a2 b2 fun w => ⟨fun hw => ?_, fun hw => ?_⟩
  ·rcases List.mem_cons.1 ((h w).1 (by simp [hw])) with e | h3
   ·have := a1 w hw; rw [e] at this; omega
   ·exact h3
  ·rcases List.mem_cons.1 ((h w).2 (by simp [hw])) with e | h3
   ·have := b1 w hw; rw [e] at this; omega
   ·exact h3
theorem sortz_call {l s : List Zone} (hl : ∀ z ∈ l, 0 ≤ z.span.lo ∧ z.span.lo ≤ 255) (hp : s.Perm l) (hs : s.Pairwise fun a b => a.span.lo < b.span.lo) :
  TCalls Tryz.prog TzTab 222 [.own 1, .fn 223 []] (.tup []) [.row 1 147 3 (l.map enZ)] [] [] [.row 1 147 3 (s.map enZ)] := by
 refine TCalls.keep (r := .tuple #[]) Tryz.func222 rfl (by kernel_rfl) (fun E X => .tup rfl fun j v c a b => by simp at a) fun X w E v vs base hX hbase hG h hvs => ?_
 obtain ⟨u, rfl, hu⟩ : ∃ u, vs = [u] ∧ RepA E X u (.fn 223 []) := by
  obtain ⟨u, vs', e, h1, h2⟩ := RepAs.cons_iff.1 hvs
  rw [RepAs.nil_iff.1 h2] at e
  exact ⟨u, e, h1⟩
 cases hu with
 | @fn _ fv _ p1 p2 =>
 obtain rfl : fv = #[] := Array.eq_empty_of_size_eq_zero (by simpa using p1)
 obtain ⟨xs, hown, hch, hbig⟩ := id h
 obtain ⟨d, hd1, hd2⟩ := relZ_of hl hch
 have hdl := relZ_len hd2
 have hE : OwnSl (EncR encZB) 3 w base 147 v d := ⟨xs, by rw [List.length_map] at hown; rw [← hdl]; exact hown, hd1, by rw [← hdl]; simpa using hbig⟩
 rcases hE.forms with ⟨rfl, hd0⟩ | ⟨g, c, rfl, hg1, hg2⟩
 ·have := AnyF.slices_SortFunc_none (P := Tryz.prog) (ρ := sortZone_ren) { sortZone with } none 0 (.func (.func 223) #[] #[]) w
  refine Calls.mono this ?_
  rintro e w' ⟨rfl, rfl⟩
  have hl0 : l = [] := List.eq_nil_of_length_eq_zero (by rw [hdl, hd0]; rfl)
  subst hl0
  obtain rfl : s = [] := List.Perm.eq_nil hp
  exact ⟨rfl, h, World.grownBy.refl _ _⟩
 ·have hcon := AnyQ.slices_SortFunc (P := Tryz.prog) (ρ := sortZone_ren) sortZone 3 Tryz.isAgg147 Tryz.sizeOf147 encZB (fun _ => rfl)
   (fun x v hv => by simp [encZB] at hv; rcases hv with rfl | rfl | rfl <;> first | rfl | exact x.one) cfZB swoZB 223 #[] g 0 c d.toArray w (enters_of Tryz.func223 (by kernel_rfl) rfl)
   (fun _ _ _ _ x y => joined1 x y _) (holds_own (k := 3) (fun _ => rfl) (by decide) hE) hg2 (by rw [List.length_map] at hbig; simp only [List.size_toArray]; omega)
  refine Calls.mono hcon ?_
  rintro e w' ⟨rfl, d', n, os, hp', hs', rfl⟩
  obtain ⟨p1, p2⟩ := perm_lists hp'
  have hsz : d'.size = d.length := by simpa using p2
  obtain ⟨o1, o2⟩ := sorted_own (k := 3) (enc := encZB) (fun _ => rfl) hE n d' os hsz
  have hpd : d.Perm d'.toList := by simpa using p1.symm
  obtain ⟨l', q1, q2⟩ := relZ_perm hpd hd2
  have hs2 : SortedIn (ltOf cfZB) 0 d'.size d' := by rw [p2]; exact hs'
  have hle : l'.Pairwise fun a b => a.span.lo ≤ b.span.lo := by
   have h1 : (d'.toList.map fun b => (b.lo : Int)).Pairwise (· ≤ ·) := by
    rw [List.pairwise_map]
    refine (sorted_lists hs2).imp ?_
    intro a b hab
    rw [ltZB, decide_eq_false_iff_not] at hab
    omega
   rw [relZ_lo q2, List.pairwise_map] at h1
   exact h1
  have hne : l'.Pairwise fun a b => a.span.lo ≠ b.span.lo := by
   have : s.Pairwise fun a b => a.span.lo ≠ b.span.lo := hs.imp fun h => by omega
   exact this.perm (hp.trans q1) fun h => h.symm
  have hlt : l'.Pairwise fun a b => a.span.lo < b.span.lo := (hle.and hne).imp fun h => by have := h.1; have := h.2; omega
  obtain rfl : s = l' := sorted_unique (k := fun z : Zone => z.span.lo) hs hlt fun x => (hp.mem_iff).trans q1.mem_iff
  obtain ⟨xs', r1, r2, r3⟩ := o1
  refine ⟨rfl, ⟨xs', ?_, relZ_back q2 r2, by rw [List.length_map, relZ_len q2]; exact r3⟩, o2⟩
  rw [List.length_map, relZ_len q2]
  exact r1
end Go.Proofs.YtkphfdmelfhnoaaGreatDoor
namespace Go.Proofs.YtkphfdmelfhnoaaGreatDoor
open Go.ChangeShapes Go.WideShapes Go.ChangeAt Go.RowKit
attribute [local irreducible] AW AWY vops vopsY vop vopL vdraw callW qop binQ lenQ storeQ appendQ callQ ACalls AIter
attribute [local go_sem] enZ_eq znI_eq storeQ_bp storeQ_rp
theorem apart_lt {s : List Zone} (h : Apart s) : s.Pairwise fun a b => a.span.lo < b.span.lo :=
 h.1.imp_of_mem fun {a b} ha _ hab => by
  have := (h.2 a ha).2
  simp only [zoneOk, Bool.and_eq_true, decide_eq_true_eq] at this
  omega
theorem apart_in {s : List Zone} (h : Apart s) {z : Zone} (hz : z ∈ s) : 0 ≤ z.span.lo ∧ z.span.lo ≤ z.span.hi ∧ z.span.hi ≤ 255 := by
 have := h.2 z hz
 simp only [zoneOk, Bool.and_eq_true, decide_eq_true_eq] at this
 omega
set_option maxRecDepth 100000 in
set_option maxHeartbeats 1600000 in
theorem joined_call {l s : List Zone} (hp : s.Perm l) (hA : Apart s) (hbig : s.length ≤ 1000000) : TCalls Tryz.prog TzTab 158 [.own 1] (.own 0) [.row 1 147 3 (l.map enZ)] [.row 0 147 3 ((joinZ s).map enZ)] [] [] := by
 refine TCalls.of [] (n := 59) (rs := [.tmp 2]) Tryz.func158 rfl (by kernel_rfl) Tryz.ntmps158 (by kernel_rfl) (by simp) trivial rfl rfl fun hok V w0 F => ?_
 have hl : ∀ z ∈ l, 0 ≤ z.span.lo ∧ z.span.lo ≤ 255 := fun z hz => by have := apart_in hA (hp.mem_iff.2 hz); omega
 refine g ?_
 refine AW.seq ?_
 refine AW.reg rfl fun KK hKK => ?_
 refine g ?_
 repeat' (first | refine hold_ (g ?_) | (refine hKK _ (g ?_); clear hKK KK) | exact trivial)
 refine AW.seq ?_
 refine AW.reg rfl fun KK hKK => ?_
 refine g ?_
 repeat' (first | refine hold_ (g ?_) | (refine hKK _ (g ?_); clear hKK KK) | exact trivial)
 refine call_t [] [.opq 99 F] id (sortz_call hl hp (apart_lt hA)) rfl rfl rfl ?_
 refine g ?_
 repeat' (first | refine hold_ (g ?_) | (refine hKK _ (g ?_); clear hKK KK) | exact trivial)
 refine AW.freeze 1 _ rfl trivial ?_
 simp only [go_sem, reduceIte, Nat.reduceEqDiff]
 refine g ?_
 repeat' (first | refine st_ rfl (g ?_) | refine hold_ (g ?_) | exact trivial | refine cond_d (fun h => g ?_) (fun h => g ?_) | refine cond_ (fun h => g ?_) (fun h => g ?_) | (refine hKD _ _ ⟨rfl, g ?_⟩; clear hKD KD) | ((first | refine vops_ifd rfl rfl (fun h e => ?_) (fun h e => ?_) | refine vdraw_ifd rfl rfl (fun h e => ?_) (fun h e => ?_)) <;> simp only [e] <;> clear e <;> refine g ?_) | ((first | refine vops_if rfl rfl (fun h => ?_) (fun h => ?_) | refine vdraw_if rfl rfl (fun h => ?_) (fun h => ?_)) <;> simp only [h] <;> refine g ?_) | refine ix_ (by omega) (g ?_))
 refine AW.adopt 3 9900 147 3 rfl rfl ?_
 refine AW.loop (fun m : {m : Nat // m ≤ s.length} => ⟨[(3, .own 9900), (9, .iv (znI s)), (10, .val (.int .i64 (s.length : Nat))), (11, .val (.int .i64 (m.1 : Nat)))], [.row 9900 147 3 ((joinZ (s.take m.1)).map enZ), .opq 99 F]⟩) (fun m => s.length - m.1) ⟨0, Nat.zero_le _⟩ id ⟨⟨rfl, rfl, ?_, rfl, trivial⟩, ⟨rfl, rfl, trivial⟩, by simp [idsOf, BA.id]⟩ fun ⟨m, hm⟩ => ?_
 ·simp [AV.ren, look]
 simp only
 repeat (refine AW.seq ?_)
 refine AW.reg rfl fun KK hKK => ?_
 refine g ?_
 repeat' (first | refine hold_ (g ?_) | (refine hKK _ (g ?_); clear hKK KK) | exact trivial)
 repeat (refine AW.seq ?_)
 refine st_ rfl ?_
 refine g ?_
 refine cond_ (fun h => ?_) (fun h => ?_)
 ·have hlt : m < s.length := by have := of_decide_eq_true h; omega
  have hin := apart_in hA (List.getElem_mem hlt)
  have hj := joinZ_inv hA m hm
  have hs := joinZ_snoc (s.take m) s[m]
  rw [← List.take_succ_eq_append_getElem hlt] at hs
  obtain ⟨x, hx⟩ : ∃ x, s[m] = x := ⟨_, rfl⟩
  have hget := get_map (f := enZ) (List.getElem?_eq_getElem hlt)
  rw [hx] at hin hs hget
  obtain ⟨J, hJ⟩ : ∃ J, joinZ (s.take m) = J := ⟨_, rfl⟩
  rw [hJ] at hj hs ⊢
  have hJl : J.length ≤ m := by have := hj.len; rw [List.length_take] at this; omega
  refine g ?_
  repeat' (first | refine st_ rfl (g ?_) | refine hold_ (g ?_) | exact trivial | refine cond_ (fun h => g ?_) (fun h => g ?_) | (refine hKD _ _ ⟨rfl, g ?_⟩; clear hKD KD))
  refine ⟨by omega, _, hget, ?_⟩
  refine g ?_
  repeat' (first | refine st_ rfl (g ?_) | refine hold_ (g ?_) | exact trivial | refine cond_ (fun h => g ?_) (fun h => g ?_) | (refine hKD _ _ ⟨rfl, g ?_⟩; clear hKD KD))
  have w1 : I64 x.span.lo := I64.of (by omega) (by omega)
  have w2 : I64 x.span.hi := I64.of (by omega) (by omega)
  refine AW.freeze 600 _ rfl ⟨w1, w2, trivial, trivial⟩ ?_
  simp only [go_sem, reduceIte, Nat.reduceEqDiff]
  refine AW.drawn (ds := [17, 18, 19, 20, 21, 22, 23, 24, 25, 26, 27, 28, 29, 30, 31, 32, 33, 34, 35, 36, 37, 38, 39, 40, 41, 42, 43]) (fin := [0, 1]) (bs := [2, 2, 2, 2, 2, 2, 2, 2, 2, 2, 2, 2, 2, 2, 2, 2, 2, 2, 2, 2, 2, 2, 2, 2, 2, 2, 2]) [⟨[], [], [], [], 0⟩, ⟨[(17, 0)], [], [], [], 0⟩, ⟨[(18, 1)], [], [], [], 0⟩, ⟨[], [], [], [], 0⟩, ⟨[], [], [], [], 0⟩, ⟨[(21, 4)], [], [], [], 0⟩, ⟨[(20, 3), (22, 5)], [], [0, 1], [], 0⟩, ⟨[(23, 6)], [], [], [], 0⟩, ⟨[(24, 7)], [], [], [], 0⟩, ⟨[(25, 8)], [], [0, 1], [], 0⟩, ⟨[(26, 9)], [], [], [], 0⟩, ⟨[], [], [], [], 0⟩, ⟨[(28, 11)], [], [], [], 0⟩, ⟨[(29, 12)], [], [0, 1], [], 0⟩, ⟨[(27, 10), (30, 13)], [], [], [], 0⟩, ⟨[(19, 2), (31, 14)], [], [], [], 0⟩, ⟨[(32, 15)], [], [], [], 0⟩, ⟨[], [], [], [], 0⟩, ⟨[], [], [], [], 0⟩, ⟨[(35, 18)], [], [], [], 0⟩, ⟨[(34, 17), (36, 19)], [], [0, 1], [], 0⟩, ⟨[(37, 20)], [], [], [], 0⟩, ⟨[(38, 21)], [], [0, 1], [], 0⟩, ⟨[], [], [], [], 0⟩, ⟨[(40, 23)], [], [0, 1], [], 0⟩, ⟨[(39, 22), (41, 24)], [], [0, 1], [], 0⟩, ⟨[(33, 16), (42, 25)], [], [], [], 0⟩] (by kernel_rfl) rfl (by kernel_rfl) rfl rfl rfl fun KD hKD => ?_
  cases hy : J.getLast? with
  | none =>
   have hJ0 : J = [] := List.getLast?_eq_none_iff.1 hy
   subst hJ0
   simp only [joinStep, List.getLast?_nil] at hs
   refine g ?_
   repeat' (first | refine st_ rfl (g ?_) | refine hold_ (g ?_) | exact trivial | refine cond_d (fun h => g ?_) (fun h => g ?_) | refine cond_ (fun h => g ?_) (fun h => g ?_) | (refine hKD _ _ ⟨rfl, g ?_⟩; clear hKD KD) | ((first | refine vops_ifd rfl rfl (fun h e => ?_) (fun h e => ?_) | refine vdraw_ifd rfl rfl (fun h e => ?_) (fun h e => ?_)) <;> simp only [e] <;> clear e <;> refine g ?_) | ((first | refine vops_if rfl rfl (fun h => ?_) (fun h => ?_) | refine vdraw_if rfl rfl (fun h => ?_) (fun h => ?_)) <;> simp only [h] <;> refine g ?_) | refine ix_ (by omega) (g ?_))
   refine bs1 (by omega) rfl rfl rfl ⟨w1, w2, trivial, trivial⟩ ?_
   refine g ?_
   repeat' (first | refine st_ rfl (g ?_) | refine hold_ (g ?_) | exact trivial | refine cond_ (fun h => g ?_) (fun h => g ?_) | (refine hKD _ _ ⟨rfl, g ?_⟩; clear hKD KD))
   refine append_own rfl (by kernel_rfl) (by omega) (by kernel_rfl) rfl (by simp) ?_
   refine g ?_
   repeat' (first | refine st_ rfl (g ?_) | refine hold_ (g ?_) | exact trivial | refine cond_d (fun h => g ?_) (fun h => g ?_) | refine cond_ (fun h => g ?_) (fun h => g ?_) | (refine hKD _ _ ⟨rfl, g ?_⟩; clear hKD KD) | ((first | refine vops_ifd rfl rfl (fun h e => ?_) (fun h e => ?_) | refine vdraw_ifd rfl rfl (fun h e => ?_) (fun h e => ?_)) <;> simp only [e] <;> clear e <;> refine g ?_) | ((first | refine vops_if rfl rfl (fun h => ?_) (fun h => ?_) | refine vdraw_if rfl rfl (fun h => ?_) (fun h => ?_)) <;> simp only [h] <;> refine g ?_) | refine ix_ (by omega) (g ?_))
   refine ⟨⟨m + 1, hlt⟩, fun b => if b = 9900 then 5700 else b, ⟨⟨rfl, rfl, rfl, rfl, trivial⟩, ⟨?_, rfl, trivial⟩, by simp [idsOf, BA.id]⟩, by show s.length - (m + 1) < s.length - m; omega⟩
   show some (BA.row _ _ _ _) = some (BA.row _ _ _ ((joinZ (s.take (m + 1))).map enZ))
   rw [hs]
   rfl
  | some y =>
   obtain ⟨D, hD⟩ : ∃ D, J.dropLast = D := ⟨_, rfl⟩
   have hl2 := list_last hy
   rw [hD] at hl2
   have hyF := zonesFrom_mem hj.formed y (List.mem_of_getLast? hy)
   simp only [zoneOk, Bool.and_eq_true, decide_eq_true_eq] at hyF
   have hye := zoneEnd_in hj.formed ⟨by decide, by decide⟩
   rw [Option.or_none, hy] at hye
   simp only [zoneEnd] at hye
   simp only [joinStep, hy, hD] at hs
   have hlen : J.length = D.length + 1 := by rw [← hl2]; simp
   have hJget : J[D.length]? = some y := by rw [← hl2]; simp
   have hget2 := get_map (f := enZ) hJget
   have hcast : ((J.length : Nat) : Int) - 1 = (D.length : Nat) := by omega
   have hi : ((J.length : Int) - 1).toNat = D.length := by omega
   refine g ?_
   repeat' (first | refine st_ rfl (g ?_) | refine hold_ (g ?_) | exact trivial | refine cond_d (fun h => g ?_) (fun h => g ?_) | refine cond_ (fun h => g ?_) (fun h => g ?_) | (refine hKD _ _ ⟨rfl, g ?_⟩; clear hKD KD) | ((first | refine vops_ifd rfl rfl (fun h e => ?_) (fun h e => ?_) | refine vdraw_ifd rfl rfl (fun h e => ?_) (fun h e => ?_)) <;> simp only [e] <;> clear e <;> refine g ?_) | ((first | refine vops_if rfl rfl (fun h => ?_) (fun h => ?_) | refine vdraw_if rfl rfl (fun h => ?_) (fun h => ?_)) <;> simp only [h] <;> refine g ?_) | refine ix_ (by omega) (g ?_))
   ·refine ⟨by omega, by omega, ?_⟩
    rw [hi]
    refine g ?_
    repeat' (first | refine st_ rfl (g ?_) | refine hold_ (g ?_) | exact trivial | refine cond_d (fun h => g ?_) (fun h => g ?_) | refine cond_ (fun h => g ?_) (fun h => g ?_) | (refine hKD _ _ ⟨rfl, g ?_⟩; clear hKD KD) | ((first | refine vops_ifd rfl rfl (fun h e => ?_) (fun h e => ?_) | refine vdraw_ifd rfl rfl (fun h e => ?_) (fun h e => ?_)) <;> simp only [e] <;> clear e <;> refine g ?_) | ((first | refine vops_if rfl rfl (fun h => ?_) (fun h => ?_) | refine vdraw_if rfl rfl (fun h => ?_) (fun h => ?_)) <;> simp only [h] <;> refine g ?_) | refine ix_ (by omega) (g ?_))
    refine ⟨_, hget2, ?_⟩
    refine g ?_
    repeat' (first | refine st_ rfl (g ?_) | refine hold_ (g ?_) | exact trivial | refine cond_d (fun h => g ?_) (fun h => g ?_) | refine cond_ (fun h => g ?_) (fun h => g ?_) | (refine hKD _ _ ⟨rfl, g ?_⟩; clear hKD KD) | ((first | refine vops_ifd rfl rfl (fun h e => ?_) (fun h e => ?_) | refine vdraw_ifd rfl rfl (fun h e => ?_) (fun h e => ?_)) <;> simp only [e] <;> clear e <;> refine g ?_) | ((first | refine vops_if rfl rfl (fun h => ?_) (fun h => ?_) | refine vdraw_if rfl rfl (fun h => ?_) (fun h => ?_)) <;> simp only [h] <;> refine g ?_) | refine ix_ (by omega) (g ?_))
    ·refine ⟨by omega, by omega, ?_⟩
     rw [hi]
     refine g ?_
     repeat' (first | refine st_ rfl (g ?_) | refine hold_ (g ?_) | exact trivial | refine cond_d (fun h => g ?_) (fun h => g ?_) | refine cond_ (fun h => g ?_) (fun h => g ?_) | (refine hKD _ _ ⟨rfl, g ?_⟩; clear hKD KD) | ((first | refine vops_ifd rfl rfl (fun h e => ?_) (fun h e => ?_) | refine vdraw_ifd rfl rfl (fun h e => ?_) (fun h e => ?_)) <;> simp only [e] <;> clear e <;> refine g ?_) | ((first | refine vops_if rfl rfl (fun h => ?_) (fun h => ?_) | refine vdraw_if rfl rfl (fun h => ?_) (fun h => ?_)) <;> simp only [h] <;> refine g ?_) | refine ix_ (by omega) (g ?_))
     refine ⟨_, hget2, ?_⟩
     refine g ?_
     repeat' (first | refine st_ rfl (g ?_) | refine hold_ (g ?_) | exact trivial | refine cond_d (fun h => g ?_) (fun h => g ?_) | refine cond_ (fun h => g ?_) (fun h => g ?_) | (refine hKD _ _ ⟨rfl, g ?_⟩; clear hKD KD) | ((first | refine vops_ifd rfl rfl (fun h e => ?_) (fun h e => ?_) | refine vdraw_ifd rfl rfl (fun h e => ?_) (fun h e => ?_)) <;> simp only [e] <;> clear e <;> refine g ?_) | ((first | refine vops_if rfl rfl (fun h => ?_) (fun h => ?_) | refine vdraw_if rfl rfl (fun h => ?_) (fun h => ?_)) <;> simp only [h] <;> refine g ?_) | refine ix_ (by omega) (g ?_) | refine call_ (eqst_call _ _) rfl (g ?_))
     ·refine ⟨by omega, by omega, ?_⟩
      rw [hi]
      refine g ?_
      repeat' (first | refine st_ rfl (g ?_) | refine hold_ (g ?_) | exact trivial | refine cond_d (fun h => g ?_) (fun h => g ?_) | refine cond_ (fun h => g ?_) (fun h => g ?_) | (refine hKD _ _ ⟨rfl, g ?_⟩; clear hKD KD) | ((first | refine vops_ifd rfl rfl (fun h e => ?_) (fun h e => ?_) | refine vdraw_ifd rfl rfl (fun h e => ?_) (fun h e => ?_)) <;> simp only [e] <;> clear e <;> refine g ?_) | ((first | refine vops_if rfl rfl (fun h => ?_) (fun h => ?_) | refine vdraw_if rfl rfl (fun h => ?_) (fun h => ?_)) <;> simp only [h] <;> refine g ?_) | refine ix_ (by omega) (g ?_))
      refine ⟨_, _, rfl, ⟨w2, trivial⟩, hget2, ?_⟩
      refine g ?_
      repeat' (first | refine st_ rfl (g ?_) | refine hold_ (g ?_) | exact trivial | refine cond_d (fun h => g ?_) (fun h => g ?_) | refine cond_ (fun h => g ?_) (fun h => g ?_) | (refine hKD _ _ ⟨rfl, g ?_⟩; clear hKD KD) | ((first | refine vops_ifd rfl rfl (fun h e => ?_) (fun h e => ?_) | refine vdraw_ifd rfl rfl (fun h e => ?_) (fun h e => ?_)) <;> simp only [e] <;> clear e <;> refine g ?_) | ((first | refine vops_if rfl rfl (fun h => ?_) (fun h => ?_) | refine vdraw_if rfl rfl (fun h => ?_) (fun h => ?_)) <;> simp only [h] <;> refine g ?_) | refine ix_ (by omega) (g ?_))
      rename_i h1
      refine ⟨⟨m + 1, hlt⟩, id, ⟨⟨rfl, rfl, rfl, rfl, trivial⟩, ⟨?_, rfl, trivial⟩, by simp [idsOf, BA.id]⟩, by show s.length - (m + 1) < s.length - m; omega⟩
      show some (BA.row _ _ _ _) = some (BA.row _ _ _ ((joinZ (s.take (m + 1))).map enZ))
      rw [hs, if_pos ⟨h1, h⟩, ← hl2, List.map_append, List.map_append, List.set_append_right _ _ (by simp)]
      simp
      rfl
     ·refine bs1 (by omega) rfl rfl rfl ⟨w1, w2, trivial, trivial⟩ ?_
      refine g ?_
      repeat' (first | refine st_ rfl (g ?_) | refine hold_ (g ?_) | exact trivial | refine cond_ (fun h => g ?_) (fun h => g ?_) | (refine hKD _ _ ⟨rfl, g ?_⟩; clear hKD KD))
      refine append_own rfl (by kernel_rfl) (by omega) (by kernel_rfl) rfl (by simp; omega) ?_
      refine g ?_
      repeat' (first | refine st_ rfl (g ?_) | refine hold_ (g ?_) | exact trivial | refine cond_d (fun h => g ?_) (fun h => g ?_) | refine cond_ (fun h => g ?_) (fun h => g ?_) | (refine hKD _ _ ⟨rfl, g ?_⟩; clear hKD KD) | ((first | refine vops_ifd rfl rfl (fun h e => ?_) (fun h e => ?_) | refine vdraw_ifd rfl rfl (fun h e => ?_) (fun h e => ?_)) <;> simp only [e] <;> clear e <;> refine g ?_) | ((first | refine vops_if rfl rfl (fun h => ?_) (fun h => ?_) | refine vdraw_if rfl rfl (fun h => ?_) (fun h => ?_)) <;> simp only [h] <;> refine g ?_) | refine ix_ (by omega) (g ?_))
      refine ⟨⟨m + 1, hlt⟩, fun b => if b = 9900 then 5700 else b, ⟨⟨rfl, rfl, rfl, rfl, trivial⟩, ⟨?_, rfl, trivial⟩, by simp [idsOf, BA.id]⟩, by show s.length - (m + 1) < s.length - m; omega⟩
      show some (BA.row _ _ _ _) = some (BA.row _ _ _ ((joinZ (s.take (m + 1))).map enZ))
      rw [hs, if_neg (fun q => h q.2), List.map_append]
      rfl
    ·refine bs1 (by omega) rfl rfl rfl ⟨w1, w2, trivial, trivial⟩ ?_
     refine g ?_
     repeat' (first | refine st_ rfl (g ?_) | refine hold_ (g ?_) | exact trivial | refine cond_ (fun h => g ?_) (fun h => g ?_) | (refine hKD _ _ ⟨rfl, g ?_⟩; clear hKD KD))
     refine append_own rfl (by kernel_rfl) (by omega) (by kernel_rfl) rfl (by simp; omega) ?_
     refine g ?_
     repeat' (first | refine st_ rfl (g ?_) | refine hold_ (g ?_) | exact trivial | refine cond_d (fun h => g ?_) (fun h => g ?_) | refine cond_ (fun h => g ?_) (fun h => g ?_) | (refine hKD _ _ ⟨rfl, g ?_⟩; clear hKD KD) | ((first | refine vops_ifd rfl rfl (fun h e => ?_) (fun h e => ?_) | refine vdraw_ifd rfl rfl (fun h e => ?_) (fun h e => ?_)) <;> simp only [e] <;> clear e <;> refine g ?_) | ((first | refine vops_if rfl rfl (fun h => ?_) (fun h => ?_) | refine vdraw_if rfl rfl (fun h => ?_) (fun h => ?_)) <;> simp only [h] <;> refine g ?_) | refine ix_ (by omega) (g ?_))
     refine ⟨⟨m + 1, hlt⟩, fun b => if b = 9900 then 5700 else b, ⟨⟨rfl, rfl, rfl, rfl, trivial⟩, ⟨?_, rfl, trivial⟩, by simp [idsOf, BA.id]⟩, by show s.length - (m + 1) < s.length - m; omega⟩
     show some (BA.row _ _ _ _) = some (BA.row _ _ _ ((joinZ (s.take (m + 1))).map enZ))
     rw [hs, if_neg (fun q => h q.1), List.map_append]
     rfl
   ·omega
 ·obtain rfl : m = s.length := by have := of_decide_eq_false h; omega
  refine AW.exit ?_
  simp only [reduceIte]
  rw [List.take_length]
  refine g ?_
  repeat' (first | refine st_ rfl (g ?_) | refine hold_ (g ?_) | exact trivial | refine cond_d (fun h => g ?_) (fun h => g ?_) | refine cond_ (fun h => g ?_) (fun h => g ?_) | (refine hKD _ _ ⟨rfl, g ?_⟩; clear hKD KD) | ((first | refine vops_ifd rfl rfl (fun h e => ?_) (fun h e => ?_) | refine vdraw_ifd rfl rfl (fun h e => ?_) (fun h e => ?_)) <;> simp only [e] <;> clear e <;> refine g ?_) | ((first | refine vops_if rfl rfl (fun h => ?_) (fun h => ?_) | refine vdraw_if rfl rfl (fun h => ?_) (fun h => ?_)) <;> simp only [h] <;> refine g ?_) | refine ix_ (by omega) (g ?_))
  exact ⟨fun b => if b = 0 then 9900 else b, fun _ _ _ h => h, trivial, ⟨rfl, rfl⟩, by simp⟩
end Go.Proofs.YtkphfdmelfhnoaaGreatDoor
namespace Go.Proofs.YtkphfdmelfhnoaaGreatDoor
open Go.ChangeShapes Go.WideShapes Go.ChangeAt Go.RowKit
attribute [local irreducible] AW AWY vops vopsY vop vopL vdraw callW qop binQ lenQ storeQ appendQ callQ ACalls AIter
attribute [local go_sem] wrI_eq noteA_eq storeQ_bp storeQ_rp
theorem smeet_D (l m : List Span) : ACalls Tryz.prog TzTab 119 [.iv (spI l), .iv (spI m)] (.iv (spI (meetS2 l m))) [] := (smeet_call l m).frz trivial
end Go.Proofs.YtkphfdmelfhnoaaGreatDoor
namespace Go.Proofs.YtkphfdmelfhnoaaGreatDoor
open Go.ChangeShapes Go.WideShapes Go.ChangeAt Go.RowKit
attribute [local irreducible] AW AWY vops vopsY vop vopL vdraw callW qop binQ lenQ storeQ appendQ callQ ACalls AIter
attribute [local go_sem] storeQ_bp storeQ_rp
attribute [local go_sem] spI_eq enSp_eq
def gapS (n : Int) (s : Span) : List Span := if n < s.lo then [⟨n, s.lo - 1⟩] else []
def restF (n : Int) : List Span → List Span × Int
 | [] => ([], n)
 | s :: l => (gapS n s ++ (restF (s.hi + 1) l).1, (restF (s.hi + 1) l).2)
theorem restF_snoc : ∀ (l : List Span) (n : Int) (s : Span), restF n (l ++ [s]) = ((restF n l).1 ++ gapS (restF n l).2 s, s.hi + 1)
 | [], n, s => by simp [restF]
 | t :: l, n, s => by rw [List.cons_append, restF, restF_snoc l]; simp [restF]
def tailS (n : Int) : List Span := if n ≤ 255 then [⟨n, 255⟩] else []
theorem restF_all : ∀ (l : List Span) (n : Int), restL n l = (restF n l).1 ++ tailS (restF n l).2
 | [], n => by rw [restL, restF, tailS, List.nil_append]
 | s :: l, n => by rw [restL, restF, restF_all l]; simp [gapS]
theorem restF_len : ∀ (l : List Span) (n : Int), (restF n l).1.length ≤ l.length
 | [], n => Nat.le_refl _
 | s :: l, n => by
  have := restF_len l (s.hi + 1)
  have h2 : (gapS n s).length ≤ 1 := by unfold gapS; split <;> simp
  rw [restF, List.length_append, List.length_cons]
  omega
def restS (l : List Span) : List Span := ofSet fun o => !memB l o
set_option maxRecDepth 100000 in
set_option maxHeartbeats 800000 in
theorem srest_call (l : List Span) : ACalls Tryz.prog TzTab 185 [.iv (spI l)] (.iv (spI (restS l))) [] := by
 refine ACalls.ofS (n := 38) (rs := [.tmp 2]) Tryz.func185 rfl (by kernel_rfl) Tryz.ntmps185 (by kernel_rfl) (by simp) (fun _ _ => TzTab.later) ?_
 intro hok V w0
 obtain ⟨T, hT⟩ : ∃ T, tidyS l = T := ⟨_, rfl⟩
 have hin : ∀ s ∈ T, 0 ≤ s.lo ∧ s.lo ≤ s.hi ∧ s.hi ≤ 255 := fun s hs => by
  have := formed_all (e := -2) (by rw [← hT]; exact ofSet_formed _) s hs
  omega
 have hTl : T.length ≤ 128 := by rw [← hT]; exact ofSet_len _
 have hres : restS l = (restF 0 T).1 ++ tailS (restF 0 T).2 := by rw [← restF_all, ← hT, restL_tidy]; rfl
 have hst := stidyD l
 rw [hT] at hst
 rw [hres]
 refine g ?_
 repeat' (first | refine st_ rfl (g ?_) | refine hold_ (g ?_) | exact trivial | refine cond_d (fun h => g ?_) (fun h => g ?_) | refine cond_ (fun h => g ?_) (fun h => g ?_) | (refine vops_ifd rfl rfl (fun h e => ?_) (fun h e => ?_) <;> simp only [e] <;> clear e <;> refine g ?_) | (refine vops_if rfl rfl (fun h => ?_) (fun h => ?_) <;> simp only [h] <;> refine g ?_) | refine ix_ (by omega) (g ?_) | refine call_ (hst) rfl (g ?_))
 refine AW.adopt 3 9900 78 2 rfl rfl ?_
 refine AW.loop (fun m : {m : Nat // m ≤ T.length ∧ 0 ≤ (restF 0 (T.take m)).2 ∧ (restF 0 (T.take m)).2 ≤ 256} => ⟨[(3, .own 9900), (4, .val (.int .i64 (restF 0 (T.take m.1)).2)), (8, .iv (spI T)), (9, .val (.int .i64 (T.length : Nat))), (10, .val (.int .i64 (m.1 : Nat)))], [.row 9900 78 2 ((restF 0 (T.take m.1)).1.map enSp)]⟩) (fun m => T.length - m.1) ⟨0, Nat.zero_le _, by simp [restF], by simp [restF]⟩ id ⟨⟨rfl, rfl, rfl, ?_, rfl, trivial⟩, ⟨rfl, trivial⟩, by simp [idsOf, BA.id]⟩ fun ⟨m, hm, h0, h1⟩ => ?_
 ·simp [AV.ren, look]
 simp only
 have hl1 := restF_len (T.take m) 0
 rw [List.length_take] at hl1
 obtain ⟨fr, hfr⟩ : ∃ fr, (restF 0 (T.take m)).2 = fr := ⟨_, rfl⟩
 obtain ⟨O, hO⟩ : ∃ O, (restF 0 (T.take m)).1 = O := ⟨_, rfl⟩
 simp only [hfr, hO] at h0 h1 hl1 ⊢
 repeat (refine AW.seq ?_)
 refine AW.reg rfl fun KK hKK => ?_
 refine g ?_
 repeat' (first | refine hold_ (g ?_) | (refine hKK _ (g ?_); clear hKK KK) | exact trivial)
 repeat (refine AW.seq ?_)
 refine st_ rfl ?_
 refine g ?_
 refine cond_ (fun h => ?_) (fun h => ?_)
 ·have hlt : m < T.length := by have := of_decide_eq_true h; omega
  obtain ⟨x, hx⟩ : ∃ x, T[m] = x := ⟨_, rfl⟩
  have hi := hin x (hx ▸ List.getElem_mem hlt)
  have hget := get_map (f := enSp) (List.getElem?_eq_getElem hlt)
  have hs := restF_snoc (T.take m) 0 T[m]
  rw [← List.take_succ_eq_append_getElem hlt, hfr, hO] at hs
  rw [hx] at hs hget
  have w1 : I64 x.lo := I64.of (by omega) (by omega)
  have w2 : I64 x.hi := I64.of (by omega) (by omega)
  have w3 : I64 fr := I64.of (by omega) (by omega)
  have w4 : I64 (x.lo - 1) := I64.of (by omega) (by omega)
  refine g ?_
  repeat' (first | refine st_ rfl (g ?_) | refine hold_ (g ?_) | exact trivial | refine cond_ (fun h => g ?_) (fun h => g ?_))
  refine ⟨by omega, _, hget, ?_⟩
  refine g ?_
  repeat' (first | refine st_ rfl (g ?_) | refine hold_ (g ?_) | exact trivial | refine cond_d (fun h => g ?_) (fun h => g ?_) | refine cond_ (fun h => g ?_) (fun h => g ?_) | (refine vops_ifd rfl rfl (fun h e => ?_) (fun h e => ?_) <;> simp only [e] <;> clear e <;> refine g ?_) | (refine vops_if rfl rfl (fun h => ?_) (fun h => ?_) <;> simp only [h] <;> refine g ?_) | refine ix_ (by omega) (g ?_))
  ·refine bs1 (by omega) rfl rfl rfl ⟨w3, w4, trivial⟩ ?_
   refine g ?_
   repeat' (first | refine st_ rfl (g ?_) | refine hold_ (g ?_) | exact trivial | refine cond_d (fun h => g ?_) (fun h => g ?_) | refine cond_ (fun h => g ?_) (fun h => g ?_) | (refine vops_ifd rfl rfl (fun h e => ?_) (fun h e => ?_) <;> simp only [e] <;> clear e <;> refine g ?_) | (refine vops_if rfl rfl (fun h => ?_) (fun h => ?_) <;> simp only [h] <;> refine g ?_) | refine ix_ (by omega) (g ?_))
   refine append_own rfl (by kernel_rfl) (by omega) (by kernel_rfl) rfl (by simp; omega) ?_
   refine g ?_
   repeat' (first | refine st_ rfl (g ?_) | refine hold_ (g ?_) | exact trivial | refine cond_d (fun h => g ?_) (fun h => g ?_) | refine cond_ (fun h => g ?_) (fun h => g ?_) | (refine vops_ifd rfl rfl (fun h e => ?_) (fun h e => ?_) <;> simp only [e] <;> clear e <;> refine g ?_) | (refine vops_if rfl rfl (fun h => ?_) (fun h => ?_) <;> simp only [h] <;> refine g ?_) | refine ix_ (by omega) (g ?_))
   refine ⟨⟨m + 1, hlt, by rw [hs]; show 0 ≤ x.hi + 1; omega, by rw [hs]; show x.hi + 1 ≤ 256; omega⟩, fun b => if b = 9900 then 2600 else b, ⟨⟨rfl, by rw [hs]; rfl, rfl, rfl, rfl, trivial⟩, ⟨?_, trivial⟩, by simp [idsOf, BA.id]⟩, by show T.length - (m + 1) < T.length - m; omega⟩
   rw [hs, gapS, if_pos h, List.map_append]
   rfl
  ·refine ⟨⟨m + 1, hlt, by rw [hs]; show 0 ≤ x.hi + 1; omega, by rw [hs]; show x.hi + 1 ≤ 256; omega⟩, id, ⟨⟨rfl, by rw [hs]; rfl, rfl, rfl, rfl, trivial⟩, ⟨?_, trivial⟩, by simp [idsOf, BA.id]⟩, by show T.length - (m + 1) < T.length - m; omega⟩
   rw [hs, gapS, if_neg h, List.append_nil]
   rfl
 ·obtain rfl : m = T.length := by have := of_decide_eq_false h; omega
  rw [List.take_length] at hfr hO
  have w3 : I64 fr := I64.of (by omega) (by omega)
  refine AW.exit ?_
  simp only [reduceIte, hfr, hO]
  unfold tailS
  repeat (refine AW.seq ?_)
  refine AW.reg rfl fun KK hKK => ?_
  refine g ?_
  repeat' (first | refine hold_ (g ?_) | (refine hKK _ (g ?_); clear hKK KK) | exact trivial)
  repeat (refine AW.seq ?_)
  refine st_ rfl ?_
  refine g ?_
  refine cond_d (fun h => ?_) (fun h => ?_)
  ·rw [if_pos h]
   refine g ?_
   repeat' (first | refine st_ rfl (g ?_) | refine hold_ (g ?_) | exact trivial | refine cond_ (fun h => g ?_) (fun h => g ?_))
   refine bs1 (by omega) rfl rfl rfl ⟨w3, rfl, trivial⟩ ?_
   refine g ?_
   repeat' (first | refine st_ rfl (g ?_) | refine hold_ (g ?_) | exact trivial | refine cond_ (fun h => g ?_) (fun h => g ?_))
   refine append_own rfl (by kernel_rfl) (by omega) (by kernel_rfl) rfl (by simp; omega) ?_
   refine g ?_
   repeat' (first | refine hold_ (g ?_) | (refine hKK _ (g ?_); clear hKK KK) | exact trivial)
   refine AW.freeze 3700 _ rfl trivial ?_
   simp only [go_sem, reduceIte, Nat.reduceEqDiff]
   refine g ?_
   repeat' (first | refine st_ rfl (g ?_) | refine hold_ (g ?_) | exact trivial | refine cond_d (fun h => g ?_) (fun h => g ?_) | refine cond_ (fun h => g ?_) (fun h => g ?_) | (refine vops_ifd rfl rfl (fun h e => ?_) (fun h e => ?_) <;> simp only [e] <;> clear e <;> refine g ?_) | (refine vops_if rfl rfl (fun h => ?_) (fun h => ?_) <;> simp only [h] <;> refine g ?_) | refine ix_ (by omega) (g ?_))
   rw [List.map_append]
   exact Sub1.rfl_ _
  ·rw [if_neg h, List.append_nil]
   refine AW.freeze 9900 _ rfl trivial ?_
   simp only [go_sem, reduceIte, Nat.reduceEqDiff]
   refine g ?_
   repeat' (first | refine st_ rfl (g ?_) | refine hold_ (g ?_) | exact trivial | refine cond_d (fun h => g ?_) (fun h => g ?_) | refine cond_ (fun h => g ?_) (fun h => g ?_) | (refine vops_ifd rfl rfl (fun h e => ?_) (fun h e => ?_) <;> simp only [e] <;> clear e <;> refine g ?_) | (refine vops_if rfl rfl (fun h => ?_) (fun h => ?_) <;> simp only [h] <;> refine g ?_) | refine ix_ (by omega) (g ?_))
   exact Sub1.rfl_ _
theorem sless_D (l m : List Span) : ACalls Tryz.prog TzTab 115 [.iv (spI l), .iv (spI m)] (.iv (spI (lessS2 l m))) [] := by
 have he : lessS2 l m = meetS2 l (restS m) := by
  unfold lessS2 meetS2 restS
  exact ofSet_congr fun o ho => by rw [memB_ofSet _ ho]
 rw [he]
 refine ACalls.of (n := 9) (rs := [.tmp 4]) Tryz.func115 rfl (by kernel_rfl) Tryz.ntmps115 (by kernel_rfl) (by simp) (fun _ _ => TzTab.later) ?_
 intro hok V w0
 refine g ?_
 repeat' (first | refine st_ rfl (g ?_) | refine hold_ (g ?_) | exact trivial | refine cond_d (fun h => g ?_) (fun h => g ?_) | refine cond_ (fun h => g ?_) (fun h => g ?_) | (refine vops_ifd rfl rfl (fun h e => ?_) (fun h e => ?_) <;> simp only [e] <;> clear e <;> refine g ?_) | (refine vops_if rfl rfl (fun h => ?_) (fun h => ?_) <;> simp only [h] <;> refine g ?_) | refine ix_ (by omega) (g ?_) | refine call_ (srest_call _) rfl (g ?_) | refine call_ (smeet_D _ _) rfl (g ?_))
end Go.Proofs.YtkphfdmelfhnoaaGreatDoor
namespace Go.Proofs.YtkphfdmelfhnoaaGreatDoor
open Go.ChangeShapes Go.WideShapes Go.ChangeAt Go.RowKit
attribute [local irreducible] AW AWY vops vopsY vop vopL vdraw callW qop binQ lenQ storeQ appendQ callQ ACalls AIter
attribute [local go_sem] wrI_eq enW_eq noteA_eq storeQ_bp storeQ_rp
theorem sof_D (os : List Int) : ACalls Tryz.prog TzTab 157 [.iv (inI os)] (.iv (spI (tidyS (dots os)))) [] := (sof_call os).frz trivial
def enI (n : Int) : List IV := [.val (.int .i64 n)]
end Go.Proofs.YtkphfdmelfhnoaaGreatDoor
namespace Go.Proofs.YtkphfdmelfhnoaaGreatDoor
open Go.ChangeShapes Go.WideShapes Go.ChangeAt Go.RowKit
attribute [local irreducible] AW AWY vops vopsY vop vopL vdraw callW qop binQ lenQ storeQ appendQ callQ ACalls AIter
attribute [local go_sem] enZ_eq znI_eq noteA_eq wrI_eq enW_eq storeQ_bp storeQ_rp
theorem vjoinD (ls : List (List Stamp)) : ACalls Tryz.prog TzTab 153 [.iv (stsI ls)] (.iv (stI (joinS ls))) [] := (vjoin_call ls).frz trivial
theorem sjoinD (ls : List (List Span)) (hs : sumSpan ls ≤ 1073741824) : ACalls Tryz.prog TzTab 118 [.iv (spsI ls)] (.iv (spI (tidyS ls.flatten))) [] := (sjoin_call ls hs).frz trivial
theorem cutZ_len (now : List Stamp) (l : List Span) (v : List Stamp) : (cutZ now l v).length ≤ l.length := by unfold cutZ; split <;> simp
theorem pieceZ_len (n : Note) (now : List Stamp) (x : Zone) : (pieceZ n now x).length ≤ 256 := by
 unfold pieceZ
 rw [List.length_append]
 have h1 := cutZ_len now (meetS2 [x.span] (staysS n (farS x.vec n))) x.vec
 have h2 := cutZ_len now (lessS2 [x.span] (staysS n (farS x.vec n))) (farS x.vec n)
 have h3 : (meetS2 [x.span] (staysS n (farS x.vec n))).length ≤ 128 := ofSet_len _
 have h4 : (lessS2 [x.span] (staysS n (farS x.vec n))).length ≤ 128 := ofSet_len _
 omega
theorem takeL_len (n : Note) (now : List Stamp) : ∀ l : List Zone, (takeL n now l).length ≤ 256 * l.length
 | [] => Nat.le_refl _
 | x :: l => by
  have h1 := takeL_len n now l
  have h2 := pieceZ_len n now x
  have : takeL n now (x :: l) = pieceZ n now x ++ takeL n now l := by simp [takeL]
  rw [this, List.length_append, List.length_cons]
  omega
theorem stay_len {n : Note} (h : noteFormed n = true) (far : List Stamp) : ∀ m, ((n.writes.take m).foldl (stayStep far) n.blur).length ≤ 128 := by
 intro m
 have : ∀ (l : List Write) (s : List Span), s.length ≤ 128 → (l.foldl (stayStep far) s).length ≤ 128 := by
  intro l
  induction l with
  | nil => exact fun s hs => hs
  | cons w l ih =>
   intro s hs
   refine ih _ ?_
   unfold stayStep
   split
   ·exact hs
   ·exact ofSet_len _
 exact this _ _ ((spanFormed_iff _).1 (noteFormed_iff.1 h).2.2.2.1).1
theorem take_no {q : List Zone × List Stamp × Int} {e : Int} (h : q = ([], [], e)) : Sub1 (.tup [.val (.slice none 0 0), .val (.slice none 0 0), .val (.int .i64 e)]) (.tup [.iv (znI q.1), .iv (stI q.2.1), .val (.int .i64 q.2.2)]) := by
 subst h
 refine tup_sub rfl fun p hp => ?_
 simp only [List.zip_cons_cons, List.zip_nil_right, List.mem_cons, List.not_mem_nil, or_false] at hp
 rcases hp with rfl | rfl | rfl
 ·exact nil_sub 3
 ·exact nil_sub 2
 ·exact Sub1.rfl_ _
set_option maxRecDepth 100000 in
set_option maxHeartbeats 3200000 in
theorem ttake_call (z : List Zone) (known : List Stamp) (n : Note) : ACalls Tryz.prog TzTab 69 [.iv (znI z), .iv (stI known), noteA n] (.tup [.iv (znI (takeZ z known n).1), .iv (stI (takeZ z known n).2.1), .val (.int .i64 (takeZ z known n).2.2)]) [] := by
 refine ACalls.ofS (n := 90) (rs := [.tmp 6, .tmp 7, .tmp 8]) Tryz.func69 rfl (by kernel_rfl) Tryz.ntmps69 (by kernel_rfl) (by simp) (fun _ _ => TzTab.later) ?_
 intro hok V w0
 obtain ⟨R, hR⟩ : ∃ R, takeZ z known n = R := ⟨_, rfl⟩
 rw [hR]
 unfold takeZ takeOk at hR
 have hwl : n.writes.length ≤ 1073741824 := by simpa [wrI] using hok.2.2.1.2.2.2.1.1
 refine g ?_
 refine AW.seq ?_
 refine AW.reg rfl fun KK hKK => ?_
 refine g ?_
 repeat' (first | refine hold_ (g ?_) | (refine hKK _ (g ?_); clear hKK KK) | exact trivial)
 refine AW.freeze 600 _ rfl ⟨trivial, trivial, trivial, trivial, trivial⟩ ?_
 simp only [go_sem, reduceIte, Nat.reduceEqDiff]
 refine g ?_
 repeat' (first | refine st_ rfl (g ?_) | refine hold_ (g ?_) | exact trivial | refine cond_d (fun h => g ?_) (fun h => g ?_) | refine cond_ (fun h => g ?_) (fun h => g ?_) | (refine hKD _ _ ⟨rfl, g ?_⟩; clear hKD KD) | ((first | refine vops_ifd rfl rfl (fun h e => ?_) (fun h e => ?_) | refine vdraw_ifd rfl rfl (fun h e => ?_) (fun h e => ?_)) <;> simp only [e] <;> clear e <;> refine g ?_) | ((first | refine vops_if rfl rfl (fun h => ?_) (fun h => ?_) | refine vdraw_if rfl rfl (fun h => ?_) (fun h => ?_)) <;> simp only [h] <;> refine g ?_) | refine ix_ (by omega) (g ?_) | refine call_ (zformed_call _) rfl (g ?_) | refine call_ (vformed_call _) rfl (g ?_) | refine call_ (nformed_call _) rfl (g ?_) | refine call_ (nfits_call _ _) rfl (g ?_))
 ·rw [if_neg (by simp at h; simp [h])] at hR
  exact take_no hR.symm
 ·rw [if_neg (by simp at h; simp [h])] at hR
  exact take_no hR.symm
 ·rw [if_neg (by simp at h; simp [h])] at hR
  exact take_no hR.symm
 ·rename_i h1 h2 h3
  rw [if_pos (by simp at *; simp [*]), if_neg (by simp at h; simp [h])] at hR
  exact take_no hR.symm
 rename_i h1 h2 h3
 have hz : zonesFormed z = true := by simpa using h1
 have hk : vecFormed known = true := by simpa using h2
 have hn : noteFormed n = true := by simpa using h3
 rw [if_pos (by simp [hz, hk, hn]), if_pos (by simpa using h)] at hR
 refine bd2 (by omega) rfl rfl rfl ⟨trivial, trivial⟩ rfl rfl rfl ⟨trivial, trivial⟩ ?_
 refine g ?_
 repeat' (first | refine hold_ (g ?_) | (refine hKK _ (g ?_); clear hKK KK) | exact trivial)
 refine call_ (vjoinD [known, n.end_]) rfl ?_
 refine g ?_
 repeat' (first | refine hold_ (g ?_) | (refine hKK _ (g ?_); clear hKK KK) | exact trivial)
 refine AW.freeze 1000 _ rfl ⟨trivial, trivial⟩ ?_
 simp only [go_sem, reduceIte, Nat.reduceEqDiff]
 refine g ?_
 repeat' (first | refine st_ rfl (g ?_) | refine hold_ (g ?_) | exact trivial | refine cond_d (fun h => g ?_) (fun h => g ?_) | refine cond_ (fun h => g ?_) (fun h => g ?_) | (refine hKD _ _ ⟨rfl, g ?_⟩; clear hKD KD) | ((first | refine vops_ifd rfl rfl (fun h e => ?_) (fun h e => ?_) | refine vdraw_ifd rfl rfl (fun h e => ?_) (fun h e => ?_)) <;> simp only [e] <;> clear e <;> refine g ?_) | ((first | refine vops_if rfl rfl (fun h => ?_) (fun h => ?_) | refine vdraw_if rfl rfl (fun h => ?_) (fun h => ?_)) <;> simp only [h] <;> refine g ?_) | refine ix_ (by omega) (g ?_) | refine call_ (pieces_call _ _) rfl (g ?_))
 obtain ⟨now, hnow⟩ : ∃ now, joinS [known, n.end_] = now := ⟨_, rfl⟩
 have hkt : knownThen known n = now := hnow
 rw [hnow]
 rw [hkt] at hR
 obtain ⟨Z, hZ⟩ : ∃ Z, zonesOf (zonesThen z known n) = Z := ⟨_, rfl⟩
 rw [hZ] at hR
 subst hR
 simp only
 have hpin := pieces_in hz hk
 have hzl : z.length ≤ 256 := by
  have : (z.length : Int) ≤ 255 - -1 := zones_len hz (by decide)
  omega
 refine AW.adoptB 1100 9900 147 3 rfl rfl ?_
 refine AW.le (S := ⟨[(10, .bp 1100 0), (11, .bp 1200 0), (5, .ip [stI n.start, stI n.end_, spI n.blur, wrI n.writes]), (9, .ip [stI now]), (43, .fn 221 [.ip [znI z], .ip [stI known]])], [.row 9900 147 3 ((takeL n now []).map enZ), .box 1100 [.own 9900], .box 1200 [.fn 154 [.ip [stI now], .bp 1100 0]]]⟩) (ρ := id) ⟨⟨rfl, rfl, rfl, rfl, rfl, trivial⟩, ⟨rfl, rfl, rfl, trivial⟩, by simp [idsOf, BA.id]⟩ ?_
 refine AW.range (pieces_iter z known hz) [(10, .bp 1100 0), (11, .bp 1200 0)] [(5, .ip [stI n.start, stI n.end_, spI n.blur, wrI n.writes]), (9, .ip [stI now]), (43, .fn 221 [.ip [znI z], .ip [stI known]])] (fun pre => [.row 9900 147 3 ((takeL n now pre).map enZ), .box 1100 [.own 9900], .box 1200 [.fn 154 [.ip [stI now], .bp 1100 0]]]) (fun _ => True) rfl trivial rfl rfl rfl rfl (fun x => ⟨rfl, rfl⟩) (fun c pre x hsp hI => ?_) (fun xs hS hI => ?_)
 ·have hl := hsp.length_le
  have hl2 := pieces_len z known
  rw [List.length_append, List.length_singleton] at hl
  have hx := hpin x (hsp.subset (by simp))
  have htl := takeL_len n now pre
  have w1 : I64 x.span.lo := i64_litS (by simp; omega)
  have w2 : I64 x.span.hi := i64_litS (by simp; omega)
  have hsn := takeL_snoc n now pre x
  simp only [parF, enZo, zoA, List.cons_append, List.nil_append]
  refine g ?_
  refine AW.reg rfl fun KK hKK => ?_
  refine g ?_
  repeat' (first | refine hold_ (g ?_) | (refine hKK _ (g ?_); clear hKK KK) | exact trivial)
  refine AW.freeze 1300 _ rfl ⟨w1, w2, trivial, trivial⟩ ?_
  simp only [go_sem, reduceIte, Nat.reduceEqDiff]
  refine g ?_
  repeat' (first | refine st_ rfl (g ?_) | refine hold_ (g ?_) | exact trivial | refine cond_d (fun h => g ?_) (fun h => g ?_) | refine cond_ (fun h => g ?_) (fun h => g ?_) | (refine hKD _ _ ⟨rfl, g ?_⟩; clear hKD KD) | ((first | refine vops_ifd rfl rfl (fun h e => ?_) (fun h e => ?_) | refine vdraw_ifd rfl rfl (fun h e => ?_) (fun h e => ?_)) <;> simp only [e] <;> clear e <;> refine g ?_) | ((first | refine vops_if rfl rfl (fun h => ?_) (fun h => ?_) | refine vdraw_if rfl rfl (fun h => ?_) (fun h => ?_)) <;> simp only [h] <;> refine g ?_) | refine ix_ (by omega) (g ?_))
  refine bd1 (by omega) rfl rfl rfl ⟨w1, w2, trivial⟩ ?_
  refine g ?_
  repeat' (first | refine st_ rfl (g ?_) | refine hold_ (g ?_) | exact trivial | refine cond_d (fun h => g ?_) (fun h => g ?_) | refine cond_ (fun h => g ?_) (fun h => g ?_) | (refine hKD _ _ ⟨rfl, g ?_⟩; clear hKD KD) | ((first | refine vops_ifd rfl rfl (fun h e => ?_) (fun h e => ?_) | refine vdraw_ifd rfl rfl (fun h e => ?_) (fun h e => ?_)) <;> simp only [e] <;> clear e <;> refine g ?_) | ((first | refine vops_if rfl rfl (fun h => ?_) (fun h => ?_) | refine vdraw_if rfl rfl (fun h => ?_) (fun h => ?_)) <;> simp only [h] <;> refine g ?_) | refine ix_ (by omega) (g ?_) | refine call_ (stretched_call x.vec n hx.2) rfl (g ?_))
  obtain ⟨far, hfar⟩ : ∃ far, farS x.vec n = far := ⟨_, rfl⟩
  have hsl := stay_len hn far
  have hst : staysS n (farS x.vec n) = (n.writes.take n.writes.length).foldl (stayStep far) n.blur := by rw [hfar, List.take_length]; rfl
  rw [hfar]
  refine AW.loop (fun m : {m : Nat // m ≤ n.writes.length} => ⟨[(10, .bp 1100 0), (11, .bp 1200 0), (12, .ip [.val (.int .i64 x.span.lo), .val (.int .i64 x.span.hi), stI x.vec]), (13, .iv (spI [x.span])), (14, .iv (stI far)), (15, .iv (spI ((n.writes.take m.1).foldl (stayStep far) n.blur))), (55, .iv (wrI n.writes)), (56, .val (.int .i64 (n.writes.length : Nat))), (57, .val (.int .i64 (m.1 : Nat)))], [.row 9900 147 3 ((takeL n now pre).map enZ), .box 1100 [.own 9900], .box 1200 [.fn 154 [.ip [stI now], .bp 1100 0]]]⟩) (fun m => n.writes.length - m.1) ⟨0, Nat.zero_le _⟩ id ⟨⟨rfl, rfl, rfl, rfl, rfl, rfl, rfl, ?_, rfl, trivial⟩, ⟨rfl, rfl, rfl, trivial⟩, by simp [idsOf, BA.id]⟩ fun ⟨m, hm⟩ => ?_
  ·simp [AV.ren, look]
  simp only
  repeat (refine AW.seq ?_)
  refine AW.reg rfl fun KK hKK => ?_
  refine g ?_
  repeat' (first | refine hold_ (g ?_) | (refine hKK _ (g ?_); clear hKK KK) | exact trivial)
  repeat (refine AW.seq ?_)
  refine st_ rfl ?_
  refine g ?_
  refine cond_ (fun h => ?_) (fun h => ?_)
  ·have hlt : m < n.writes.length := by have := of_decide_eq_true h; omega
   have hget := get_map (f := enW) (List.getElem?_eq_getElem hlt)
   obtain ⟨-, o1, o2, o3, -⟩ := okR_mem (by simpa [wrI] using hok.2.2.1.2.2.2.1.2) (enW n.writes[m]) (List.mem_map_of_mem (List.getElem_mem hlt))
   have hs := List.foldl_append (f := stayStep far) (b := n.blur) (l := n.writes.take m) (l' := [n.writes[m]])
   rw [← List.take_succ_eq_append_getElem hlt] at hs
   have hsm := hsl m
   obtain ⟨S, hS⟩ : ∃ S, (n.writes.take m).foldl (stayStep far) n.blur = S := ⟨_, rfl⟩
   rw [hS] at hs hsm ⊢
   simp only [List.foldl_cons, List.foldl_nil, stayStep] at hs
   refine g ?_
   repeat' (first | refine st_ rfl (g ?_) | refine hold_ (g ?_) | exact trivial | refine cond_d (fun h => g ?_) (fun h => g ?_) | refine cond_ (fun h => g ?_) (fun h => g ?_) | (refine hKD _ _ ⟨rfl, g ?_⟩; clear hKD KD) | ((first | refine vops_ifd rfl rfl (fun h e => ?_) (fun h e => ?_) | refine vdraw_ifd rfl rfl (fun h e => ?_) (fun h e => ?_)) <;> simp only [e] <;> clear e <;> refine g ?_) | ((first | refine vops_if rfl rfl (fun h => ?_) (fun h => ?_) | refine vdraw_if rfl rfl (fun h => ?_) (fun h => ?_)) <;> simp only [h] <;> refine g ?_) | refine ix_ (by omega) (g ?_) | refine call_ (vhas_call far n.writes[m].stamp) rfl (g ?_))
   ·obtain ⟨o, ho⟩ : ∃ o, n.writes[m].object = o := ⟨_, rfl⟩
    rw [ho] at hs ⊢
    have o3 : I64 o := by rw [← ho]; exact o3
    refine bd1 (by omega) rfl rfl rfl ⟨o3, trivial⟩ ?_
    refine g ?_
    repeat' (first | refine st_ rfl (g ?_) | refine hold_ (g ?_) | exact trivial | refine cond_d (fun h => g ?_) (fun h => g ?_) | refine cond_ (fun h => g ?_) (fun h => g ?_) | (refine hKD _ _ ⟨rfl, g ?_⟩; clear hKD KD) | ((first | refine vops_ifd rfl rfl (fun h e => ?_) (fun h e => ?_) | refine vdraw_ifd rfl rfl (fun h e => ?_) (fun h e => ?_)) <;> simp only [e] <;> clear e <;> refine g ?_) | ((first | refine vops_if rfl rfl (fun h => ?_) (fun h => ?_) | refine vdraw_if rfl rfl (fun h => ?_) (fun h => ?_)) <;> simp only [h] <;> refine g ?_) | refine ix_ (by omega) (g ?_) | refine call_ (sof_D [o]) rfl (g ?_))
    obtain ⟨T, hT⟩ : ∃ T, tidyS (dots [o]) = T := ⟨_, rfl⟩
    have hTl : T.length ≤ 128 := by rw [← hT]; exact ofSet_len _
    rw [hT] at hs ⊢
    refine bd2 (by omega) rfl rfl rfl ⟨trivial, trivial⟩ rfl rfl rfl ⟨trivial, trivial⟩ ?_
    refine g ?_
    repeat' (first | refine st_ rfl (g ?_) | refine hold_ (g ?_) | exact trivial | refine cond_d (fun h => g ?_) (fun h => g ?_) | refine cond_ (fun h => g ?_) (fun h => g ?_) | (refine hKD _ _ ⟨rfl, g ?_⟩; clear hKD KD) | ((first | refine vops_ifd rfl rfl (fun h e => ?_) (fun h e => ?_) | refine vdraw_ifd rfl rfl (fun h e => ?_) (fun h e => ?_)) <;> simp only [e] <;> clear e <;> refine g ?_) | ((first | refine vops_if rfl rfl (fun h => ?_) (fun h => ?_) | refine vdraw_if rfl rfl (fun h => ?_) (fun h => ?_)) <;> simp only [h] <;> refine g ?_) | refine ix_ (by omega) (g ?_) | refine call_ (sjoinD [S, T] (by simp [sumSpan]; omega)) rfl (g ?_))
    refine ⟨⟨m + 1, hlt⟩, id, ⟨⟨rfl, rfl, rfl, rfl, rfl, ?_, rfl, rfl, rfl, trivial⟩, ⟨rfl, rfl, rfl, trivial⟩, by simp [idsOf, BA.id]⟩, by show n.writes.length - (m + 1) < n.writes.length - m; omega⟩
    show _ = AV.iv (spI _)
    rw [hs, if_neg (by simpa using h)]
    simp
    rfl
   ·refine ⟨⟨m + 1, hlt⟩, id, ⟨⟨rfl, rfl, rfl, rfl, rfl, ?_, rfl, rfl, rfl, trivial⟩, ⟨rfl, rfl, rfl, trivial⟩, by simp [idsOf, BA.id]⟩, by show n.writes.length - (m + 1) < n.writes.length - m; omega⟩
    show _ = AV.iv (spI _)
    rw [hs, if_pos (by simpa using h)]
    rfl
  ·obtain rfl : m = n.writes.length := by have := of_decide_eq_false h; omega
   refine AW.exit ?_
   simp only [reduceIte]
   rw [← hst]
   have hp1 := put_call (meetS2 [x.span] (staysS n (farS x.vec n))) x.vec now (takeL n now pre) (ofSet_len _) (by omega)
   obtain ⟨Z1, hZ1⟩ : ∃ Z1, takeL n now pre ++ cutZ now (meetS2 [x.span] (staysS n (farS x.vec n))) x.vec = Z1 := ⟨_, rfl⟩
   have hZl : Z1.length ≤ 256 * pre.length + 128 := by
    rw [← hZ1, List.length_append]
    have h1 := cutZ_len now (meetS2 [x.span] (staysS n (farS x.vec n))) x.vec
    have h2 : (meetS2 [x.span] (staysS n (farS x.vec n))).length ≤ 128 := ofSet_len _
    omega
   rw [hZ1] at hp1
   have hp2 := put_call (lessS2 [x.span] (staysS n (farS x.vec n))) far now Z1 (ofSet_len _) (by omega)
   have hend : Z1 ++ cutZ now (lessS2 [x.span] (staysS n (farS x.vec n))) far = takeL n now (pre ++ [x]) := by
    rw [hsn, ← hZ1, List.append_assoc, ← hfar]
    rfl
   rw [hend] at hp2
   generalize staysS n (farS x.vec n) = stays at hp1 hp2 ⊢
   refine AW.seq ?_
   refine AW.drawn (ds := [74, 75, 76, 77, 78, 79, 80]) (fin := [2, 3, 4]) (bs := [3, 3, 3, 3, 3, 3, 3]) [⟨[], [], [0, 1, 2], [], 0⟩, ⟨[], [], [], [], 0⟩, ⟨[], [], [], [], 0⟩, ⟨[(75, 1), (76, 2)], [], [0, 1, 2], [], 0⟩, ⟨[], [], [], [], 0⟩, ⟨[(78, 4)], [], [0, 1, 2], [], 0⟩, ⟨[(74, 0), (77, 3), (79, 5)], [], [2], [0, 1], 2⟩] (by kernel_rfl) rfl (by kernel_rfl) rfl rfl rfl fun KD hKD => ?_
   refine g ?_
   repeat' (first | refine st_ rfl (g ?_) | refine hold_ (g ?_) | exact trivial | refine cond_d (fun h => g ?_) (fun h => g ?_) | refine cond_ (fun h => g ?_) (fun h => g ?_) | (refine hKD _ _ ⟨rfl, g ?_⟩; clear hKD KD) | ((first | refine vops_ifd rfl rfl (fun h e => ?_) (fun h e => ?_) | refine vdraw_ifd rfl rfl (fun h e => ?_) (fun h e => ?_)) <;> simp only [e] <;> clear e <;> refine g ?_) | ((first | refine vops_if rfl rfl (fun h => ?_) (fun h => ?_) | refine vdraw_if rfl rfl (fun h => ?_) (fun h => ?_)) <;> simp only [h] <;> refine g ?_) | refine ix_ (by omega) (g ?_) | refine call_ (smeet_D _ _) rfl (g ?_))
   refine call_t [] [.box 1200 [.fn 154 [.ip [stI now], .bp 1100 0]]] (fun b => if b = 0 then 1100 else 9900) hp1 rfl rfl rfl (g ?_)
   refine g ?_
   repeat' (first | refine st_ rfl (g ?_) | refine hold_ (g ?_) | exact trivial | refine cond_d (fun h => g ?_) (fun h => g ?_) | refine cond_ (fun h => g ?_) (fun h => g ?_) | (refine hKD _ _ ⟨rfl, g ?_⟩; clear hKD KD) | ((first | refine vops_ifd rfl rfl (fun h e => ?_) (fun h e => ?_) | refine vdraw_ifd rfl rfl (fun h e => ?_) (fun h e => ?_)) <;> simp only [e] <;> clear e <;> refine g ?_) | ((first | refine vops_if rfl rfl (fun h => ?_) (fun h => ?_) | refine vdraw_if rfl rfl (fun h => ?_) (fun h => ?_)) <;> simp only [h] <;> refine g ?_) | refine ix_ (by omega) (g ?_))
   refine AW.drawn (ds := [81, 82, 83, 84, 85, 86]) (fin := [0, 3, 4]) (bs := [3, 3, 3, 3, 3, 3]) [⟨[], [], [0, 1, 2], [], 0⟩, ⟨[], [], [], [], 0⟩, ⟨[], [], [], [], 0⟩, ⟨[(82, 1), (83, 2)], [], [0, 1, 2], [], 0⟩, ⟨[], [], [], [], 0⟩, ⟨[(81, 0), (84, 3), (85, 4)], [], [0], [1, 2], 2⟩] (by kernel_rfl) rfl (by kernel_rfl) rfl rfl rfl fun KD hKD => ?_
   refine g ?_
   repeat' (first | refine st_ rfl (g ?_) | refine hold_ (g ?_) | exact trivial | refine cond_d (fun h => g ?_) (fun h => g ?_) | refine cond_ (fun h => g ?_) (fun h => g ?_) | (refine hKD _ _ ⟨rfl, g ?_⟩; clear hKD KD) | ((first | refine vops_ifd rfl rfl (fun h e => ?_) (fun h e => ?_) | refine vdraw_ifd rfl rfl (fun h e => ?_) (fun h e => ?_)) <;> simp only [e] <;> clear e <;> refine g ?_) | ((first | refine vops_if rfl rfl (fun h => ?_) (fun h => ?_) | refine vdraw_if rfl rfl (fun h => ?_) (fun h => ?_)) <;> simp only [h] <;> refine g ?_) | refine ix_ (by omega) (g ?_) | refine call_ (sless_D _ _) rfl (g ?_))
   refine call_t [] [.box 1200 [.fn 154 [.ip [stI now], .bp 1100 0]]] (fun b => if b = 0 then 1100 else 8102) hp2 rfl rfl rfl (g ?_)
   refine g ?_
   repeat' (first | refine st_ rfl (g ?_) | refine hold_ (g ?_) | exact trivial | refine cond_d (fun h => g ?_) (fun h => g ?_) | refine cond_ (fun h => g ?_) (fun h => g ?_) | (refine hKD _ _ ⟨rfl, g ?_⟩; clear hKD KD) | ((first | refine vops_ifd rfl rfl (fun h e => ?_) (fun h e => ?_) | refine vdraw_ifd rfl rfl (fun h e => ?_) (fun h e => ?_)) <;> simp only [e] <;> clear e <;> refine g ?_) | ((first | refine vops_if rfl rfl (fun h => ?_) (fun h => ?_) | refine vdraw_if rfl rfl (fun h => ?_) (fun h => ?_)) <;> simp only [h] <;> refine g ?_) | refine ix_ (by omega) (g ?_))
   exact ⟨trivial, fun b => if b = 9900 then 8702 else b, ⟨rfl, rfl, trivial⟩, ⟨rfl, rfl, rfl, trivial⟩, by simp [idsOf, BA.id]⟩
 ·subst hS
  obtain ⟨s, hs⟩ : ∃ s, (takeL n now (piecesZ z known)).mergeSort (fun a b => decide (a.span.lo ≤ b.span.lo)) = s := ⟨_, rfl⟩
  have hp : s.Perm (takeL n now (piecesZ z known)) := by rw [← hs]; exact List.mergeSort_perm _ _
  have hle : s.Pairwise fun a b => a.span.lo ≤ b.span.lo := by
   have h1 := List.pairwise_mergeSort (le := fun a b : Zone => decide (a.span.lo ≤ b.span.lo)) (fun a b c h1 h2 => by simp at *; omega) (fun a b => by simp; omega) (takeL n now (piecesZ z known))
   rw [hs] at h1
   exact h1.imp fun h => by simpa using h
  have hpf := pieces_formed hz hk
  have hA : Apart s := sorted_apart hp hle (takeL_off hpf.2 hpf.1) fun x hx => takeL_mem hpf.1 hx
  have hT := take_same (z := z) (known := known) (n := n) (by simp [takeOk, hz, hk, hn]) (by rw [hkt]; exact hp) hle
  have hsl : s.length ≤ 1000000 := by
   have h1 := takeL_len n now (piecesZ z known)
   have h2 := pieces_len z known
   rw [hp.length_eq]
   omega
  have hj := joined_call hp hA hsl
  rw [hT, hZ] at hj
  refine g ?_
  refine AW.seq ?_
  refine AW.drawn (ds := [87, 88, 89, 6, 7, 8]) (fin := [1, 2, 3]) (bs := [3, 3, 4, 4, 4, 4]) [⟨[], [], [0, 1, 2], [], 0⟩, ⟨[(87, 0)], [], [1, 2], [0], 1⟩, ⟨[], [], [1, 2], [], 0⟩, ⟨[(88, 1)], [], [], [], 0⟩, ⟨[(89, 2)], [], [], [], 0⟩, ⟨[], [], [], [], 0⟩] (by kernel_rfl) rfl (by kernel_rfl) rfl rfl rfl fun KD hKD => ?_
  refine g ?_
  repeat' (first | refine st_ rfl (g ?_) | refine hold_ (g ?_) | exact trivial | refine cond_d (fun h => g ?_) (fun h => g ?_) | refine cond_ (fun h => g ?_) (fun h => g ?_) | (refine hKD _ _ ⟨rfl, g ?_⟩; clear hKD KD) | ((first | refine vops_ifd rfl rfl (fun h e => ?_) (fun h e => ?_) | refine vdraw_ifd rfl rfl (fun h e => ?_) (fun h e => ?_)) <;> simp only [e] <;> clear e <;> refine g ?_) | ((first | refine vops_if rfl rfl (fun h => ?_) (fun h => ?_) | refine vdraw_if rfl rfl (fun h => ?_) (fun h => ?_)) <;> simp only [h] <;> refine g ?_) | refine ix_ (by omega) (g ?_))
  refine call_t [] [.box 1100 [.own 9900], .box 1200 [.fn 154 [.ip [stI now], .bp 1100 0]]] (fun _ => 9900) hj rfl rfl rfl (g ?_)
  refine g ?_
  repeat' (first | ((fail_if_success refine AW.ret ?_); refine st_ rfl (g ?_)) | refine hold_ (g ?_) | exact trivial | refine cond_ (fun h => g ?_) (fun h => g ?_) | (refine hKD _ _ ⟨rfl, g ?_⟩; clear hKD KD))
  refine AW.freeze 8900 _ rfl trivial ?_
  simp only [go_sem, reduceIte, Nat.reduceEqDiff]
  refine g ?_
  repeat' (first | refine st_ rfl (g ?_) | refine hold_ (g ?_) | exact trivial | refine cond_d (fun h => g ?_) (fun h => g ?_) | refine cond_ (fun h => g ?_) (fun h => g ?_) | (refine hKD _ _ ⟨rfl, g ?_⟩; clear hKD KD) | ((first | refine vops_ifd rfl rfl (fun h e => ?_) (fun h e => ?_) | refine vdraw_ifd rfl rfl (fun h e => ?_) (fun h e => ?_)) <;> simp only [e] <;> clear e <;> refine g ?_) | ((first | refine vops_if rfl rfl (fun h => ?_) (fun h => ?_) | refine vdraw_if rfl rfl (fun h => ?_) (fun h => ?_)) <;> simp only [h] <;> refine g ?_) | refine ix_ (by omega) (g ?_))
  exact Sub1.rfl_ _
end Go.Proofs.YtkphfdmelfhnoaaGreatDoor
namespace Go.Proofs.YtkphfdmelfhnoaaGreatDoor
open Go.ChangeShapes Go.WideShapes Go.ChangeAt Go.RowKit
attribute [local irreducible] AW AWY vops vopsY vop vopL vdraw callW qop binQ lenQ storeQ appendQ callQ ACalls AIter setI
attribute [local go_sem] vwA_eq storeQ_bp storeQ_rp
def sinceVT (v : View) (it : List Span) : List Stamp := if viewFormed v = true then sinceT v.zones v.known it else []
set_option maxRecDepth 100000 in
theorem vsince_call (hM : MeetOk) (v : View) (it : List Span) (hV : ACalls Tryz.prog TzTab 22 [vwA v] (.val (.bool (viewFormed v))) []) : ACalls Tryz.prog TzTab 61 [vwA v, .iv (spI it)] (.iv (stI (sinceVT v it))) [] := by
 refine ACalls.ofS (n := 14) (rs := [.tmp 4]) Tryz.func61 rfl (by kernel_rfl) Tryz.ntmps61 (by kernel_rfl) (by simp) (fun _ _ => TzTab.later) ?_
 intro hok V w0
 refine g ?_
 repeat' (first | refine st_ rfl (g ?_) | refine hold_ (g ?_) | exact trivial | refine cond_d (fun h => g ?_) (fun h => g ?_) | refine cond_ (fun h => g ?_) (fun h => g ?_) | (refine vops_ifd rfl rfl (fun h e => ?_) (fun h e => ?_) <;> simp only [e] <;> clear e <;> refine g ?_) | (refine vops_if rfl rfl (fun h => ?_) (fun h => ?_) <;> simp only [h] <;> refine g ?_) | refine ix_ (by omega) (g ?_) | refine call_ (hV) rfl (g ?_) | refine call_ (tsince_call hM _ _ _) rfl (g ?_))
 ·rw [sinceVT, if_neg (by simpa using h)]; exact nil_sub 2
 ·rw [sinceVT, if_pos (by simpa using h)]; exact Sub1.rfl_ _
end Go.Proofs.YtkphfdmelfhnoaaGreatDoor
namespace Go.Proofs.YtkphfdmelfhnoaaGreatDoor
open Go.ChangeShapes Go.WideShapes Go.ChangeAt Go.RowKit
attribute [local irreducible] AW AWY vops vopsY vop vopL vdraw callW qop binQ lenQ storeQ appendQ callQ ACalls AIter setI
theorem meetOk : MeetOk := fun ls _ => meet_call ls
theorem vform_call (v : View) (iR : I64 v.room) : ACalls Tryz.prog TzTab 22 [vwA v] (.val (.bool (viewFormed v))) [] := view_of (fun l r h => cformed_call l r h) v iR
theorem sinceVT_same (v : View) (it : List Span) : sinceVT v it = sinceV v it := by
 unfold sinceVT sinceV
 rw [since_same]
theorem vsinceS_call (v : View) (iR : I64 v.room) (it : List Span) : ACalls Tryz.prog TzTab 61 [vwA v, .iv (spI it)] (.iv (stI (sinceV v it))) [] := by
 rw [← sinceVT_same]
 exact vsince_call meetOk v it (vform_call v iR)
end Go.Proofs.YtkphfdmelfhnoaaGreatDoor
namespace Go.Proofs.YtkphfdmelfhnoaaGreatDoor
theorem told_right {z : List Zone} {k : List Stamp} {n : Note} : ∀ w ∈ toldW z k n, rightW w = true := fun w hw => by
 have h := (List.mem_filter.1 hw).2
 simp only [reachedB, vecHas, Bool.and_eq_true, decide_eq_true_eq] at h
 have ho : 0 ≤ w.object ∧ w.object ≤ 255 := by
  have h2 := h.2
  have h1 := h.1
  unfold reachS at h2
  by_cases hc : zonesFormed z = true ∧ vecFormed k = true ∧ 0 ≤ w.object ∧ w.object ≤ 255
  ·exact hc.2.2
  ·rw [if_neg hc] at h2
   simp only [countOf, rightB, decide_eq_true_eq] at h1 h2
   omega
 simp only [rightW, rightO, Bool.and_eq_true, decide_eq_true_eq]
 exact ⟨ho, h.1⟩
theorem putL_get_other : ∀ {list l : List Write} {o : Int}, Shelf l → (∀ w ∈ list, rightW w = true) → (∀ w ∈ list, ¬ w.object = o) → getW (putL l list) o = getW l o
 | [], _, _, _, _, _ => rfl
 | w :: list, l, o, h, hr, hn => by
  have h1 := put_get h (hr w (by simp)) o
  rw [if_neg fun e => hn w (by simp) e.symm] at h1
  rw [← h1]
  exact putL_get_other (l := putStep l w) (put_shelf h (hr w (by simp))).1 (fun x hx => hr x (by simp [hx])) fun x hx => hn x (by simp [hx])
def stayB (H : List Write) (t : List Write) (l : List Body) : List Body := l.filter fun x => wantedB H x || !t.any fun w => decide (x.object = w.object)
theorem stayB_nil (H : List Write) (l : List Body) : stayB H [] l = l := List.filter_eq_self.2 fun x _ => by simp
theorem stayB_snoc (H t : List Write) (w : Write) (l : List Body) : stayB H (t ++ [w]) l = (stayB H t l).filter fun x => wantedB H x || !decide (x.object = w.object) := by
 unfold stayB
 rw [List.filter_filter]
 congr 1
 funext x
 simp only [List.any_append, List.any_cons, List.any_nil, Bool.or_false, Bool.not_or]
 cases wantedB H x <;> simp [Bool.and_comm]
theorem stayB_once {H t : List Write} {l : List Body} (h : (l.map (·.object)).Nodup) : ((stayB H t l).map (·.object)).Nodup := h.sublist (List.filter_sublist.map _)
theorem keep_none {q : Body → Bool} {o : Int} {l : List Body} (h : l.any (fun x => decide (x.object = o)) = false) : (l.filter fun x => q x || !decide (x.object = o)) = l :=
 List.filter_eq_self.2 fun x hx => by
  have := List.any_eq_false.1 h x hx
  simp only [decide_eq_true_eq] at this
  simp [this]
theorem keep_one {q : Body → Bool} {o : Int} {l : List Body} {i : Nat} (hn : (l.map (·.object)).Nodup) (hi : i < l.length) (ho : l[i].object = o) : (l.filter fun x => q x || !decide (x.object = o)) = if q l[i] = true then l else l.take i ++ l.drop (i + 1) := by
 have hne : ∀ (j : Nat) (hj : j < l.length), j ≠ i → ¬ l[j].object = o := fun j hj hji e => by
  have := (List.getElem_inj (xs := l.map (·.object)) (i := j) (j := i) (h₀ := by simpa using hj) (h₁ := by simpa using hi) hn).1 (by simp [e, ho])
  exact hji this
 by_cases hq : q l[i] = true
 ·rw [if_pos hq, List.filter_eq_self]
  intro x hx
  obtain ⟨j, hj, rfl⟩ := List.mem_iff_getElem.1 hx
  by_cases e : j = i
  ·subst e
   rw [hq, Bool.true_or]
  ·simp [hne j hj e]
 ·rw [if_neg hq]
  conv => lhs; rw [← List.take_append_drop i l, List.drop_eq_getElem_cons hi]
  rw [List.filter_append, List.filter_cons, if_neg (by simp [ho, hq]), List.filter_eq_self.2, List.filter_eq_self.2]
  ·intro x hx
   obtain ⟨j, hj, rfl⟩ := List.mem_drop_iff_getElem.1 hx
   simp [hne _ _ (by omega : i + 1 + j ≠ i)]
  ·intro x hx
   obtain ⟨j, hj, rfl⟩ := List.mem_take_iff_getElem.1 hx
   simp [hne j (by omega) (by omega)]
theorem stayB_end {v : View} {z : List Zone} {k : List Stamp} {n : Note} (h : viewFormed v = true) : stayB (putL v.held (toldW z k n)) (toldW z k n) v.bodies = v.bodies.filter fun x => wantedB (putL v.held (toldW z k n)) x := by
 simp only [viewFormed, partsB, Bool.and_eq_true, List.all_eq_true] at h
 refine List.filter_congr fun x hx => ?_
 cases ht : (toldW z k n).any fun w => decide (x.object = w.object) with
 | true => simp
 | false =>
  have hw : wantedB (putL v.held (toldW z k n)) x = true := by
   unfold wantedB
   rw [putL_get_other (shelf_iff.1 h.1.1.1.1.2) told_right fun w hw e => by
    have := List.any_eq_false.1 ht w hw
    simp [e] at this]
   exact h.2 x hx
  rw [hw]
  rfl
theorem view_forget {v : View} (h : viewFormed v = true) : forgetB v.bodies (-1) = v.bodies := by
 simp only [viewFormed, partsB, cacheFormed, Bool.and_eq_true] at h
 refine List.filter_eq_self.2 fun x hx => ?_
 have := rightBody_in (once_right h.1.1.1.2.1.2 x hx)
 simp
 omega
theorem view_len {v : View} (h : viewFormed v = true) : v.bodies.length ≤ 256 := by
 simp only [viewFormed, partsB, cacheFormed, Bool.and_eq_true, decide_eq_true_eq] at h
 exact h.1.1.1.2.1.1.2
theorem view_zones {v : View} (h : viewFormed v = true) : v.zones.length ≤ 256 := by
 simp only [viewFormed, partsB, Bool.and_eq_true] at h
 have : (v.zones.length : Int) ≤ 255 - -1 := zones_len h.1.1.1.1.1.2 (by decide)
 omega
theorem view_once {v : View} (h : viewFormed v = true) : (v.bodies.map (·.object)).Nodup := by
 simp only [viewFormed, partsB, cacheFormed, onceB, Bool.and_eq_true, decide_eq_true_eq] at h
 exact h.1.1.1.2.1.2.2
end Go.Proofs.YtkphfdmelfhnoaaGreatDoor
namespace Go.Proofs.YtkphfdmelfhnoaaGreatDoor
open Go.ChangeShapes Go.WideShapes Go.ChangeAt Go.RowKit
attribute [local irreducible] AW AWY vops vopsY vop vopL vdraw callW qop binQ lenQ storeQ appendQ callQ ACalls AIter
attribute [local go_sem] enZ_eq znI_eq enB_eq boI_eq boA_eq byI_eq enW_eq wrI_eq wA_eq vwA_eq noteA_eq storeQ_bp storeQ_rp
theorem keepw_call (z : List Zone) (k : List Stamp) (w : Write) : ACalls Tryz.prog TzTab 72 [wA w, .ip [znI z], .ip [stI k]] (.val (.bool (!reachedB z k w))) [] := by
 refine ACalls.of (n := 10) (rs := [.tmp 4]) Tryz.func72 rfl (by kernel_rfl) Tryz.ntmps72 (by kernel_rfl) (by simp) (fun _ _ => TzTab.later) ?_
 intro hok V w0
 refine g ?_
 repeat' (first | refine st_ rfl (g ?_) | refine hold_ (g ?_) | exact trivial | refine cond_d (fun h => g ?_) (fun h => g ?_) | refine cond_ (fun h => g ?_) (fun h => g ?_) | (refine vops_ifd rfl rfl (fun h e => ?_) (fun h e => ?_) <;> simp only [e] <;> clear e <;> refine g ?_) | (refine vops_if rfl rfl (fun h => ?_) (fun h => ?_) <;> simp only [h] <;> refine g ?_) | refine ix_ (by omega) (g ?_) | refine call_ (reached_call _ _ _) rfl (g ?_))
theorem sameo_call (w : Write) (x : Body) : ACalls Tryz.prog TzTab 77 [boA x, .ip (enW w)] (.val (.bool (decide (x.object = w.object)))) [] := by
 refine ACalls.of (n := 9) (rs := [.tmp 3]) Tryz.func77 rfl (by kernel_rfl) Tryz.ntmps77 (by kernel_rfl) (by simp) (fun _ _ => TzTab.later) ?_
 intro hok V w0
 refine g ?_
 repeat' (first | refine st_ rfl (g ?_) | refine hold_ (g ?_) | exact trivial | refine cond_d (fun h => g ?_) (fun h => g ?_) | refine cond_ (fun h => g ?_) (fun h => g ?_) | (refine vops_ifd rfl rfl (fun h e => ?_) (fun h e => ?_) <;> simp only [e] <;> clear e <;> refine g ?_) | (refine vops_if rfl rfl (fun h => ?_) (fun h => ?_) <;> simp only [h] <;> refine g ?_) | refine ix_ (by omega) (g ?_))
theorem view_no {q : View × Int} {e : Int} (h : q = (noView, e)) : Sub1 (.tup [.agg [.val (.slice none 0 0), .val (.slice none 0 0), .val (.slice none 0 0), .val (.slice none 0 0), .val (.int .i64 0)], .val (.int .i64 e)]) (.tup [vwA q.1, .val (.int .i64 q.2)]) := by
 subst h
 refine tup_sub rfl fun p hp => ?_
 simp only [List.zip_cons_cons, List.zip_nil_right, List.mem_cons, List.not_mem_nil, or_false] at hp
 rcases hp with rfl | rfl
 ·refine agg_sub rfl fun p hp => ?_
  simp only [List.zip_cons_cons, List.zip_nil_right, List.mem_cons, List.not_mem_nil, or_false] at hp
  rcases hp with rfl | rfl | rfl | rfl | rfl
  ·exact nil_sub 2
  ·exact nil_sub 3
  ·exact nil_sub 4
  ·exact nil_sub 4
  ·exact Sub1.rfl_ _
 ·exact Sub1.rfl_ _
set_option maxRecDepth 100000 in
set_option maxHeartbeats 3200000 in
theorem vtake_call (v : View) (n : Note) (iR : I64 v.room) : ACalls Tryz.prog TzTab 18 [vwA v, noteA n] (.tup [vwA (takeV v n).1, .val (.int .i64 (takeV v n).2)]) [] := by
 refine ACalls.ofS (n := 85) (rs := [.cell 4 27, .tmp 5]) Tryz.func18 rfl (by kernel_rfl) Tryz.ntmps18 (by kernel_rfl) (by simp) (fun _ _ => TzTab.later) ?_
 intro hok V w0
 obtain ⟨R, hR⟩ : ∃ R, takeV v n = R := ⟨_, rfl⟩
 rw [hR]
 unfold takeV at hR
 have hwl : n.writes.length ≤ 1073741824 := by simpa [wrI] using hok.2.1.2.2.2.1.1
 refine g ?_
 refine AW.seq ?_
 refine AW.reg rfl fun KK hKK => ?_
 refine g ?_
 repeat' (first | refine hold_ (g ?_) | (refine hKK _ (g ?_); clear hKK KK) | exact trivial)
 refine AW.freeze 300 _ rfl ⟨trivial, trivial, trivial, trivial, iR, trivial⟩ ?_
 simp only [go_sem, reduceIte, Nat.reduceEqDiff]
 refine AW.freeze 400 _ rfl ⟨trivial, trivial, trivial, trivial, trivial⟩ ?_
 simp only [go_sem, reduceIte, Nat.reduceEqDiff]
 refine g ?_
 repeat' (first | refine st_ rfl (g ?_) | refine hold_ (g ?_) | exact trivial | refine cond_d (fun h => g ?_) (fun h => g ?_) | refine cond_ (fun h => g ?_) (fun h => g ?_) | (refine vops_ifd rfl rfl (fun h e => ?_) (fun h e => ?_) <;> simp only [e] <;> clear e <;> refine g ?_) | (refine vops_if rfl rfl (fun h => ?_) (fun h => ?_) <;> simp only [h] <;> refine g ?_) | refine ix_ (by omega) (g ?_) | refine call_ (vform_call v iR) rfl (g ?_))
 ·rw [if_neg (by simpa using h)] at hR
  exact view_no hR.symm
 have hF : viewFormed v = true := by simpa using h
 rw [if_pos hF] at hR
 obtain ⟨T, hT⟩ : ∃ T, takeZ v.zones v.known n = T := ⟨_, rfl⟩
 have htk := ttake_call v.zones v.known n
 rw [hT] at htk hR
 obtain ⟨Z, K, e⟩ := T
 simp only at htk hR
 refine call_ htk rfl (g ?_)
 refine g ?_
 repeat' (first | refine hold_ (g ?_) | (refine hKK _ (g ?_); clear hKK KK) | exact trivial)
 refine AW.freeze 700 _ rfl ⟨trivial, trivial⟩ ?_
 simp only [go_sem, reduceIte, Nat.reduceEqDiff]
 refine AW.freeze 800 _ rfl ⟨trivial, trivial⟩ ?_
 simp only [go_sem, reduceIte, Nat.reduceEqDiff]
 refine g ?_
 repeat' (first | refine st_ rfl (g ?_) | refine hold_ (g ?_) | exact trivial | refine cond_d (fun h => g ?_) (fun h => g ?_) | refine cond_ (fun h => g ?_) (fun h => g ?_) | (refine vops_ifd rfl rfl (fun h e => ?_) (fun h e => ?_) <;> simp only [e] <;> clear e <;> refine g ?_) | (refine vops_if rfl rfl (fun h => ?_) (fun h => ?_) <;> simp only [h] <;> refine g ?_) | refine ix_ (by omega) (g ?_) | refine call_ (clonew_call _) rfl (g ?_))
 ·rw [if_neg h] at hR
  exact view_no hR.symm
 obtain rfl : e = 0 := by simpa using h
 rw [if_pos rfl] at hR
 have hfl : (n.writes.filter fun x => !!reachedB Z K x) = toldW Z K n := by simp [toldW]
 have hdel := delw_call 72 [znI Z] [stI K] (fun w => !reachedB Z K w) (keepw_call Z K) n.writes hwl fun x hx => by
  obtain ⟨-, o1, o2, o3, -⟩ := okR_mem (by simpa [wrI] using hok.2.1.2.2.2.1.2) (enW x) (List.mem_map_of_mem hx)
  exact ⟨o1, o2, o3⟩
 simp only [hfl] at hdel
 have hoI : ∀ x ∈ toldW Z K n, I64 x.stamp.count ∧ I64 x.stamp.node ∧ I64 x.object := fun x hx => by
  obtain ⟨-, o1, o2, o3, -⟩ := okR_mem (by simpa [wrI] using hok.2.1.2.2.2.1.2) (enW x) (List.mem_map_of_mem (List.mem_filter.1 hx).1)
  exact ⟨o1, o2, o3⟩
 refine call_t [] [.box 500 [.val (.slice none 0 0), .val (.slice none 0 0), .val (.slice none 0 0), .val (.slice none 0 0), .val (.int .i64 0)]] (fun _ => 3600) hdel rfl rfl rfl (g ?_)
 have htr : (toldW Z K n).all rightW = true := List.all_eq_true.2 told_right
 have hend := stayB_end (z := Z) (k := K) (n := n) hF
 have honce := view_once hF
 have hhf : shelfFormed v.held = true := by
  simp only [viewFormed, partsB, Bool.and_eq_true] at hF
  exact hF.1.1.1.1.2
 have hput := shput_call v.held (toldW Z K n)
 unfold putS at hput
 rw [if_pos ⟨hhf, htr⟩] at hput
 have hHf : shelfFormed (putL v.held (toldW Z K n)) = true := shelf_iff.2 (putL_shelf (shelf_iff.1 hhf) told_right)
 obtain ⟨told, htold⟩ : ∃ told, toldW Z K n = told := ⟨_, rfl⟩
 rw [htold] at hput hend hHf hR hoI ⊢
 obtain ⟨H, hH⟩ : ∃ H, putL v.held told = H := ⟨_, rfl⟩
 rw [hH] at hput hend hHf hR
 have htl : told.length ≤ 1073741824 := by rw [← htold]; exact Nat.le_trans (List.length_filter_le _ _) hwl
 refine g ?_
 repeat' (first | refine hold_ (g ?_) | (refine hKK _ (g ?_); clear hKK KK) | exact trivial)
 refine AW.freeze 3800 _ rfl trivial ?_
 simp only [go_sem, reduceIte, Nat.reduceEqDiff]
 have hfg := forget_call v.bodies (-1)
 rw [view_forget hF] at hfg
 refine g ?_
 repeat' (first | refine st_ rfl (g ?_) | refine hold_ (g ?_) | exact trivial | refine cond_d (fun h => g ?_) (fun h => g ?_) | refine cond_ (fun h => g ?_) (fun h => g ?_) | (refine vops_ifd rfl rfl (fun h e => ?_) (fun h e => ?_) <;> simp only [e] <;> clear e <;> refine g ?_) | (refine vops_if rfl rfl (fun h => ?_) (fun h => ?_) <;> simp only [h] <;> refine g ?_) | refine ix_ (by omega) (g ?_) | refine call_ (hput) rfl (g ?_) | refine call_ (hfg) rfl (g ?_))
 refine AW.loop (fun m : {m : Nat // m ≤ told.length} => ⟨[(2, .ip [stI v.known, znI v.zones, wrI v.held, boI v.bodies, .val (.int .i64 v.room)]), (4, .bp 500 0), (6, .ip [znI Z]), (7, .ip [stI K]), (10, .iv (wrI H)), (11, .own 5200), (52, .iv (wrI told)), (53, .val (.int .i64 (told.length : Nat))), (54, .val (.int .i64 (m.1 : Nat)))], [.row 5200 51 4 ((stayB H (told.take m.1) v.bodies).map enB), .box 500 [.val (.slice none 0 0), .val (.slice none 0 0), .val (.slice none 0 0), .val (.slice none 0 0), .val (.int .i64 0)]]⟩) (fun m => told.length - m.1) ⟨0, Nat.zero_le _⟩ id ⟨⟨rfl, rfl, rfl, rfl, rfl, rfl, rfl, ?_, rfl, trivial⟩, ⟨?_, rfl, trivial⟩, by simp [idsOf, BA.id]⟩ fun ⟨m, hm⟩ => ?_
 ·simp [AV.ren, look]
 ·rw [List.take_zero, stayB_nil]
  rfl
 simp only
 repeat (refine AW.seq ?_)
 refine AW.reg rfl fun KK hKK => ?_
 refine g ?_
 repeat' (first | refine hold_ (g ?_) | (refine hKK _ (g ?_); clear hKK KK) | exact trivial)
 repeat (refine AW.seq ?_)
 refine st_ rfl ?_
 refine g ?_
 refine cond_ (fun h => ?_) (fun h => ?_)
 ·have hlt : m < told.length := by have := of_decide_eq_true h; omega
  have hs := stayB_snoc H (told.take m) told[m] v.bodies
  rw [← List.take_succ_eq_append_getElem hlt] at hs
  have hon := stayB_once (H := H) (t := told.take m) honce
  have hLl : (stayB H (told.take m) v.bodies).length ≤ 256 := Nat.le_trans (List.length_filter_le _ _) (view_len hF)
  obtain ⟨L, hL⟩ : ∃ L, stayB H (told.take m) v.bodies = L := ⟨_, rfl⟩
  rw [hL] at hs hon hLl ⊢
  obtain ⟨w, hw⟩ : ∃ w, told[m] = w := ⟨_, rfl⟩
  have hget := get_map (f := enW) (List.getElem?_eq_getElem hlt)
  rw [hw] at hs hget
  have hidx := idxb_call L 77 (enW w) (fun x => decide (x.object = w.object)) fun x => sameo_call w x
  obtain ⟨o1, o2, o3⟩ := hoI w (hw ▸ List.getElem_mem hlt)
  refine st_ rfl (g ?_)
  refine AW.seq ?_
  refine AW.block ?_
  repeat (refine AW.seq ?_)
  refine AW.reg rfl fun KK hKK => ?_
  refine g ?_
  repeat' (first | refine hold_ (g ?_) | (refine hKK _ (g ?_); clear hKK KK) | exact trivial)
  refine ⟨by omega, _, hget, ?_⟩
  refine g ?_
  repeat' (first | refine hold_ (g ?_) | (refine hKK _ (g ?_); clear hKK KK) | exact trivial)
  refine AW.freeze 1400 _ rfl ⟨o1, o2, o3, trivial, trivial⟩ ?_
  simp only [go_sem, reduceIte, Nat.reduceEqDiff]
  cases ha : L.any fun x => decide (x.object = w.object) with
  | false =>
   rw [keep_none ha] at hs
   rw [ha, if_neg (by decide)] at hidx
   refine g ?_
   repeat' (first | refine st_ rfl (g ?_) | refine hold_ (g ?_) | exact trivial | refine cond_d (fun h => g ?_) (fun h => g ?_) | refine cond_ (fun h => g ?_) (fun h => g ?_) | (refine vops_ifd rfl rfl (fun h e => ?_) (fun h e => ?_) <;> simp only [e] <;> clear e <;> refine g ?_) | (refine vops_if rfl rfl (fun h => ?_) (fun h => ?_) <;> simp only [h] <;> refine g ?_) | refine ix_ (by omega) (g ?_))
   refine call_l hidx (by simp [okBk, okAs]; exact ⟨trivial, rfl⟩) rfl (fun _ h => by cases h) (Sbs.rfl_ _) rfl (g ?_)
   refine g ?_
   repeat' (first | refine st_ rfl (g ?_) | refine hold_ (g ?_) | exact trivial | refine cond_d (fun h => g ?_) (fun h => g ?_) | refine cond_ (fun h => g ?_) (fun h => g ?_) | (refine vops_ifd rfl rfl (fun h e => ?_) (fun h e => ?_) <;> simp only [e] <;> clear e <;> refine g ?_) | (refine vops_if rfl rfl (fun h => ?_) (fun h => ?_) <;> simp only [h] <;> refine g ?_) | refine ix_ (by omega) (g ?_))
   refine ⟨⟨m + 1, hlt⟩, id, ⟨⟨rfl, rfl, rfl, rfl, rfl, rfl, rfl, rfl, rfl, trivial⟩, ⟨?_, rfl, trivial⟩, by simp [idsOf, BA.id]⟩, by show told.length - (m + 1) < told.length - m; omega⟩
   rw [hs]
   rfl
  | true =>
   obtain ⟨hl, hp1, hf⟩ := find_at ha
   rw [ha, if_pos rfl] at hidx
   generalize L.findIdx (fun x => decide (x.object = w.object)) = i at hl hp1 hf hidx
   rw [keep_one (q := wantedB H) hon hl (of_decide_eq_true hp1)] at hs
   have hgi := get_map (f := enB) (List.getElem?_eq_getElem hl)
   refine g ?_
   repeat' (first | refine st_ rfl (g ?_) | refine hold_ (g ?_) | exact trivial | refine cond_d (fun h => g ?_) (fun h => g ?_) | refine cond_ (fun h => g ?_) (fun h => g ?_) | (refine vops_ifd rfl rfl (fun h e => ?_) (fun h e => ?_) <;> simp only [e] <;> clear e <;> refine g ?_) | (refine vops_if rfl rfl (fun h => ?_) (fun h => ?_) <;> simp only [h] <;> refine g ?_) | refine ix_ (by omega) (g ?_))
   refine call_l hidx (by simp [okBk, okAs]; exact ⟨trivial, rfl⟩) rfl (fun _ h => by cases h) (Sbs.rfl_ _) rfl (g ?_)
   refine g ?_
   repeat' (first | refine st_ rfl (g ?_) | refine hold_ (g ?_) | exact trivial | refine cond_d (fun h => g ?_) (fun h => g ?_) | refine cond_ (fun h => g ?_) (fun h => g ?_) | (refine vops_ifd rfl rfl (fun h e => ?_) (fun h e => ?_) <;> simp only [e] <;> clear e <;> refine g ?_) | (refine vops_if rfl rfl (fun h => ?_) (fun h => ?_) <;> simp only [h] <;> refine g ?_) | refine ix_ (by omega) (g ?_))
   refine ⟨by omega, hl, ?_⟩
   refine g ?_
   repeat' (first | refine st_ rfl (g ?_) | refine hold_ (g ?_) | exact trivial | refine cond_d (fun h => g ?_) (fun h => g ?_) | refine cond_ (fun h => g ?_) (fun h => g ?_) | (refine vops_ifd rfl rfl (fun h e => ?_) (fun h e => ?_) <;> simp only [e] <;> clear e <;> refine g ?_) | (refine vops_if rfl rfl (fun h => ?_) (fun h => ?_) <;> simp only [h] <;> refine g ?_) | refine ix_ (by omega) (g ?_))
   refine ⟨_, hgi, ?_⟩
   refine g ?_
   repeat' (first | refine st_ rfl (g ?_) | refine hold_ (g ?_) | exact trivial | refine cond_d (fun h => g ?_) (fun h => g ?_) | refine cond_ (fun h => g ?_) (fun h => g ?_) | (refine vops_ifd rfl rfl (fun h e => ?_) (fun h e => ?_) <;> simp only [e] <;> clear e <;> refine g ?_) | (refine vops_if rfl rfl (fun h => ?_) (fun h => ?_) <;> simp only [h] <;> refine g ?_) | refine ix_ (by omega) (g ?_) | refine call_ (wanted_call H L[i] hHf) rfl (g ?_))
   ·have hq : ¬ wantedB H L[i] = true := by simpa using h
    rw [if_neg hq] at hs
    refine call_t [] [.box 500 [.val (.slice none 0 0), .val (.slice none 0 0), .val (.slice none 0 0), .val (.slice none 0 0), .val (.int .i64 0)]] (fun _ => 5200) (delb_call L i hl) rfl rfl rfl (g ?_)
    refine g ?_
    repeat' (first | refine st_ rfl (g ?_) | refine hold_ (g ?_) | exact trivial | refine cond_d (fun h => g ?_) (fun h => g ?_) | refine cond_ (fun h => g ?_) (fun h => g ?_) | (refine vops_ifd rfl rfl (fun h e => ?_) (fun h e => ?_) <;> simp only [e] <;> clear e <;> refine g ?_) | (refine vops_if rfl rfl (fun h => ?_) (fun h => ?_) <;> simp only [h] <;> refine g ?_) | refine ix_ (by omega) (g ?_))
    refine ⟨⟨m + 1, hlt⟩, fun b => if b = 5200 then 7700 else b, ⟨⟨rfl, rfl, rfl, rfl, rfl, rfl, rfl, rfl, rfl, trivial⟩, ⟨?_, rfl, trivial⟩, by simp [idsOf, BA.id]⟩, by show told.length - (m + 1) < told.length - m; omega⟩
    rw [hs]
    rfl
   ·have hq : wantedB H L[i] = true := by simpa using h
    rw [if_pos hq] at hs
    refine ⟨⟨m + 1, hlt⟩, id, ⟨⟨rfl, rfl, rfl, rfl, rfl, rfl, rfl, rfl, rfl, trivial⟩, ⟨?_, rfl, trivial⟩, by simp [idsOf, BA.id]⟩, by show told.length - (m + 1) < told.length - m; omega⟩
    rw [hs]
    rfl
 ·obtain rfl : m = told.length := by have := of_decide_eq_false h; omega
  rw [List.take_length, hend]
  refine AW.exit ?_
  simp only [reduceIte]
  refine AW.freeze 5200 _ rfl trivial ?_
  simp only [go_sem, reduceIte, Nat.reduceEqDiff]
  refine g ?_
  repeat' (first | refine st_ rfl (g ?_) | refine hold_ (g ?_) | exact trivial | refine cond_d (fun h => g ?_) (fun h => g ?_) | refine cond_ (fun h => g ?_) (fun h => g ?_) | (refine vops_ifd rfl rfl (fun h e => ?_) (fun h e => ?_) <;> simp only [e] <;> clear e <;> refine g ?_) | (refine vops_if rfl rfl (fun h => ?_) (fun h => ?_) <;> simp only [h] <;> refine g ?_) | refine ix_ (by omega) (g ?_))
  subst hR
  exact Sub1.rfl_ _
end Go.Proofs.YtkphfdmelfhnoaaGreatDoor
namespace Go.Proofs.YtkphfdmelfhnoaaGreatDoor
open Go.ChangeShapes Go.WideShapes Go.ChangeAt Go.RowKit
attribute [local irreducible] AW AWY vops vopsY vop vopL vdraw callW qop binQ lenQ storeQ appendQ callQ ACalls AIter
attribute [local go_sem] enB_eq boI_eq boA_eq byI_eq enW_eq wrI_eq wA_eq enZ_eq znI_eq vwA_eq noteA_eq storeQ_bp storeQ_rp
theorem new_sub (room : Int) : Sub1 (.tup [.agg [.val (.slice none 0 0), .val (.slice none 0 0), .val (.slice none 0 0), .val (.slice none 0 0), .val (.int .i64 room)], .val (.int .i64 0)]) (.tup [vwA ⟨[], [], [], [], room⟩, .val (.int .i64 0)]) := by
 refine tup_sub rfl fun p hp => ?_
 simp only [List.zip_cons_cons, List.zip_nil_right, List.mem_cons, List.not_mem_nil, or_false] at hp
 rcases hp with rfl | rfl
 ·refine agg_sub rfl fun p hp => ?_
  simp only [List.zip_cons_cons, List.zip_nil_right, List.mem_cons, List.not_mem_nil, or_false] at hp
  rcases hp with rfl | rfl | rfl | rfl | rfl
  ·exact nil_sub 2
  ·exact nil_sub 3
  ·exact nil_sub 4
  ·exact nil_sub 4
  ·exact Sub1.rfl_ _
 ·exact Sub1.rfl_ _
theorem new_call (room : Int) (iR : I64 room) : ACalls Tryz.prog TzTab 23 [.val (.int .i64 room)] (.tup [vwA (newS room).1, .val (.int .i64 (newS room).2)]) [] := by
 refine ACalls.ofS (n := 10) (rs := [.cell 2 27, .tmp 3]) Tryz.func23 rfl (by kernel_rfl) Tryz.ntmps23 (by kernel_rfl) (by simp) (fun _ _ => TzTab.later) ?_
 intro hok V w0
 obtain ⟨R, hR⟩ : ∃ R, newS room = R := ⟨_, rfl⟩
 rw [hR]
 unfold newS at hR
 have hc := cformed_call [] room iR
 have e : cacheFormed [] room = roomB room := by
  simp only [cacheFormed, onceB, usedS]
  cases h : roomB room with
  | false => simp
  | true =>
   simp only [roomB, Bool.and_eq_true, decide_eq_true_eq] at h
   simp [h.1]
 rw [e] at hc
 refine g ?_
 repeat' (first | refine st_ rfl (g ?_) | refine hold_ (g ?_) | exact trivial | refine cond_d (fun h => g ?_) (fun h => g ?_) | refine cond_ (fun h => g ?_) (fun h => g ?_) | (refine vops_ifd rfl rfl (fun h e => ?_) (fun h e => ?_) <;> simp only [e] <;> clear e <;> refine g ?_) | (refine vops_if rfl rfl (fun h => ?_) (fun h => ?_) <;> simp only [h] <;> refine g ?_) | refine ix_ (by omega) (g ?_))
 refine call_s hc (by exact Sbs.of_ (nil_sub 4) (Sbs.rfl_ _)) rfl (g ?_)
 refine g ?_
 repeat' (first | refine st_ rfl (g ?_) | refine hold_ (g ?_) | exact trivial | refine cond_d (fun h => g ?_) (fun h => g ?_) | refine cond_ (fun h => g ?_) (fun h => g ?_) | (refine vops_ifd rfl rfl (fun h e => ?_) (fun h e => ?_) <;> simp only [e] <;> clear e <;> refine g ?_) | (refine vops_if rfl rfl (fun h => ?_) (fun h => ?_) <;> simp only [h] <;> refine g ?_) | refine ix_ (by omega) (g ?_))
 ·rw [if_neg (by simpa using h)] at hR
  exact view_no hR.symm
 ·rw [if_pos (by simpa using h)] at hR
  subst hR
  exact new_sub room
theorem next_call (c n s : Int) (ic : c ≤ 9223372036854775807) (is : s ≤ 9223372036854775807) : ACalls Tryz.prog TzTab 102 [.val (.int .i64 c), .val (.int .i64 n), .val (.int .i64 s)] (.tup [.agg [.val (.int .i64 (nextS c n s).1.count), .val (.int .i64 (nextS c n s).1.node)], .val (.int .i64 (nextS c n s).2)]) [] := by
 refine ACalls.of (n := 36) (rs := [.cell 6 49, .tmp 7]) Tryz.func102 rfl (by kernel_rfl) Tryz.ntmps102 (by kernel_rfl) (by simp) (fun _ _ => TzTab.later) ?_
 intro hok V w0
 obtain ⟨R, hR⟩ : ∃ R, nextS c n s = R := ⟨_, rfl⟩
 rw [hR]
 unfold nextS at hR
 refine g ?_
 repeat' (first | refine st_ rfl (g ?_) | refine hold_ (g ?_) | exact trivial | refine cond_d (fun h => g ?_) (fun h => g ?_) | refine cond_ (fun h => g ?_) (fun h => g ?_) | (refine vops_ifd rfl rfl (fun h e => ?_) (fun h e => ?_) <;> simp only [e] <;> clear e <;> refine g ?_) | (refine vops_if rfl rfl (fun h => ?_) (fun h => ?_) <;> simp only [h] <;> refine g ?_) | refine ix_ (by omega) (g ?_))
 all_goals first
  | (rw [if_pos (by omega)] at hR; subst hR; rfl)
  | (rw [if_neg (by omega), if_pos (by omega)] at hR; subst hR; rfl)
  | (rw [if_neg (by omega), if_neg (by omega)] at hR; subst hR; rfl)
theorem greatS_in (l : List Stamp) (hI : ∀ k : Int, I64 (countOf l k)) : I64 (greatS l) := by
 unfold greatS
 suffices H : ∀ (ks : List Nat) (m : Int), I64 m → I64 (ks.foldl (fun m k => max m (countOf l (k : Nat))) m) from H _ 0 (I64.of (by decide) (by decide))
 intro ks
 induction ks with
 | nil => exact fun m h => h
 | cons k ks ih =>
  intro m h
  refine ih _ ?_
  show I64 (max m (countOf l (k : Nat)))
  rw [Int.max_def]
  split
  ·exact hI _
  ·exact h
set_option maxRecDepth 100000 in
theorem great_call (l : List Stamp) : ACalls Tryz.prog TzTab 103 [.iv (stI l)] (.val (.int .i64 (greatS l))) [] := by
 refine ACalls.ofS (n := 14) (rs := [.tmp 2]) Tryz.func103 rfl (by kernel_rfl) Tryz.ntmps103 (by kernel_rfl) (by simp) (fun _ _ => TzTab.later) ?_
 intro hok V w0
 have hI : ∀ k : Int, I64 (countOf l k) := fun k => by
  refine countOf_i64 (fun s hs => ?_) k
  obtain ⟨-, h2, -⟩ := okR_mem (by simpa [stI] using hok.1.2) (enSt s) (List.mem_map_of_mem hs)
  exact h2
 refine g ?_
 repeat' (first | refine st_ rfl (g ?_) | refine hold_ (g ?_) | exact trivial | refine cond_d (fun h => g ?_) (fun h => g ?_) | refine cond_ (fun h => g ?_) (fun h => g ?_) | (refine vops_ifd rfl rfl (fun h e => ?_) (fun h e => ?_) <;> simp only [e] <;> clear e <;> refine g ?_) | (refine vops_if rfl rfl (fun h => ?_) (fun h => ?_) <;> simp only [h] <;> refine g ?_) | refine ix_ (by omega) (g ?_) | refine call_ (all_call _) rfl (g ?_))
 refine AW.le (S := ⟨[(3, .bp 400 0), (7, .fn 248 [.ip [.pt (cntI (fun k => countOf l k) (maskOf l))]])], [.box 400 [.val (.int .i64 0)]]⟩) (ρ := id) ⟨⟨rfl, rfl, trivial⟩, ⟨rfl, trivial⟩, by simp [idsOf, BA.id]⟩ ?_
 refine AW.range (each_iter (fun k => countOf l k) (maskOf l) (maskOf_lt _)) [(3, .bp 400 0)] [(7, .fn 248 [.ip [.pt (cntI (fun k => countOf l k) (maskOf l))]])] (fun pre => [.box 400 [.val (.int .i64 ((pre.map (·.1)).foldl (fun m k => max m (countOf l (k : Nat))) 0))]]) (fun _ => True) rfl trivial rfl rfl rfl rfl (fun x => ⟨rfl, rfl⟩) (fun c pre x hsp _ => ?_) (fun xs hS _ => ?_)
 ·simp only [parF, enE, List.cons_append, List.nil_append]
  refine g ?_
  refine g ?_
  repeat' (first | refine st_ rfl (g ?_) | refine hold_ (g ?_) | exact trivial | refine cond_d (fun h => g ?_) (fun h => g ?_) | refine cond_ (fun h => g ?_) (fun h => g ?_) | (refine vops_ifd rfl rfl (fun h e => ?_) (fun h e => ?_) <;> simp only [e] <;> clear e <;> refine g ?_) | (refine vops_if rfl rfl (fun h => ?_) (fun h => ?_) <;> simp only [h] <;> refine g ?_) | refine ix_ (by omega) (g ?_))
  refine ⟨_, rfl, ?_⟩
  refine g ?_
  repeat' (first | refine st_ rfl (g ?_) | refine hold_ (g ?_) | exact trivial | refine cond_d (fun h => g ?_) (fun h => g ?_) | refine cond_ (fun h => g ?_) (fun h => g ?_) | (refine vops_ifd rfl rfl (fun h e => ?_) (fun h e => ?_) <;> simp only [e] <;> clear e <;> refine g ?_) | (refine vops_if rfl rfl (fun h => ?_) (fun h => ?_) <;> simp only [h] <;> refine g ?_) | refine ix_ (by omega) (g ?_))
  exact ⟨trivial, id, ⟨rfl, trivial⟩, ⟨by rw [List.map_append, List.foldl_append]; rfl, trivial⟩, by simp [idsOf, BA.id]⟩
 ·refine g ?_
  refine g ?_
  repeat' (first | refine st_ rfl (g ?_) | refine hold_ (g ?_) | exact trivial | refine cond_d (fun h => g ?_) (fun h => g ?_) | refine cond_ (fun h => g ?_) (fun h => g ?_) | (refine vops_ifd rfl rfl (fun h e => ?_) (fun h e => ?_) <;> simp only [e] <;> clear e <;> refine g ?_) | (refine vops_if rfl rfl (fun h => ?_) (fun h => ?_) <;> simp only [h] <;> refine g ?_) | refine ix_ (by omega) (g ?_))
  rw [hS]
  exact Sub1.rfl_ _
theorem nobj_call (o : Int) : ACalls Tryz.prog TzTab 124 [.val (.int .i64 o)] (.val (.bool (rightO o))) [] := by
 refine ACalls.of (n := 9) (rs := [.tmp 2]) Tryz.func124 rfl (by kernel_rfl) Tryz.ntmps124 (by kernel_rfl) (by simp) (fun _ _ => TzTab.later) ?_
 intro hok V w0
 obtain ⟨B, hB⟩ : ∃ B, rightO o = B := ⟨_, rfl⟩
 rw [hB]
 unfold rightO at hB
 refine g ?_
 repeat' (first | refine st_ rfl (g ?_) | refine hold_ (g ?_) | exact trivial | refine cond_d (fun h => g ?_) (fun h => g ?_) | refine cond_ (fun h => g ?_) (fun h => g ?_) | (refine vops_ifd rfl rfl (fun h e => ?_) (fun h e => ?_) <;> simp only [e] <;> clear e <;> refine g ?_) | (refine vops_if rfl rfl (fun h => ?_) (fun h => ?_) <;> simp only [h] <;> refine g ?_) | refine ix_ (by omega) (g ?_))
 all_goals (rw [← hB, Bool.eq_iff_iff]; simp [*]; try omega)
theorem note_no {q : Note × Int} {e : Int} (h : q = (noNote, e)) : Sub1 (.tup [.agg [.val (.slice none 0 0), .val (.slice none 0 0), .val (.slice none 0 0), .val (.slice none 0 0)], .val (.int .i64 e)]) (.tup [noteA q.1, .val (.int .i64 q.2)]) := by
 subst h
 refine tup_sub rfl fun p hp => ?_
 simp only [List.zip_cons_cons, List.zip_nil_right, List.mem_cons, List.not_mem_nil, or_false] at hp
 rcases hp with rfl | rfl
 ·refine agg_sub rfl fun p hp => ?_
  simp only [List.zip_cons_cons, List.zip_nil_right, List.mem_cons, List.not_mem_nil, or_false] at hp
  rcases hp with rfl | rfl | rfl | rfl
  ·exact nil_sub 2
  ·exact nil_sub 2
  ·exact nil_sub 2
  ·exact nil_sub 4
 ·exact Sub1.rfl_ _
set_option maxRecDepth 100000 in
theorem nof_call (known : List Stamp) (w : Write) (i1 : I64 w.stamp.count) (i2 : I64 w.stamp.node) (i3 : I64 w.object) : ACalls Tryz.prog TzTab 104 [.iv (stI known), wA w] (.tup [noteA (ofN known w).1, .val (.int .i64 (ofN known w).2)]) [] := by
 refine ACalls.ofS (n := 37) (rs := [.cell 4 30, .tmp 5]) Tryz.func104 rfl (by kernel_rfl) Tryz.ntmps104 (by kernel_rfl) (by simp) (fun _ _ => TzTab.later) ?_
 intro hok V w0
 obtain ⟨R, hR⟩ : ∃ R, ofN known w = R := ⟨_, rfl⟩
 rw [hR]
 unfold ofN at hR
 refine g ?_
 refine AW.seq ?_
 refine AW.reg rfl fun KK hKK => ?_
 refine g ?_
 repeat' (first | refine hold_ (g ?_) | (refine hKK _ (g ?_); clear hKK KK) | exact trivial)
 refine AW.freeze 400 _ rfl ⟨i1, i2, i3, trivial, trivial⟩ ?_
 simp only [go_sem, reduceIte, Nat.reduceEqDiff]
 refine g ?_
 repeat' (first | refine st_ rfl (g ?_) | refine hold_ (g ?_) | exact trivial | refine cond_d (fun h => g ?_) (fun h => g ?_) | refine cond_ (fun h => g ?_) (fun h => g ?_) | (refine hKD _ _ ⟨rfl, g ?_⟩; clear hKD KD) | ((first | refine vops_ifd rfl rfl (fun h e => ?_) (fun h e => ?_) | refine vdraw_ifd rfl rfl (fun h e => ?_) (fun h e => ?_)) <;> simp only [e] <;> clear e <;> refine g ?_) | ((first | refine vops_if rfl rfl (fun h => ?_) (fun h => ?_) | refine vdraw_if rfl rfl (fun h => ?_) (fun h => ?_)) <;> simp only [h] <;> refine g ?_) | refine ix_ (by omega) (g ?_) | refine call_ (vformed_call _) rfl (g ?_) | refine call_ (right_call _ _) rfl (g ?_) | refine call_ (nobj_call _) rfl (g ?_) | refine call_ (vhas_call _ w.stamp) rfl (g ?_) | refine call_ (clonestD _) rfl (g ?_) | refine call_ (vwithD known w.stamp i1 i2) rfl (g ?_))
 ·rw [if_neg (by rintro ⟨a, _⟩; simp [a] at h)] at hR
  exact note_no hR.symm
 ·rw [if_neg (by rintro ⟨_, a, _⟩; simp [a] at h)] at hR
  exact note_no hR.symm
 ·rw [if_neg (by rintro ⟨_, _, a, _⟩; simp [a] at h)] at hR
  exact note_no hR.symm
 ·rw [if_neg (by rintro ⟨_, _, _, a⟩; simp [a] at h)] at hR
  exact note_no hR.symm
 rename_i h1 h2 h3
 rw [if_pos (by simp at *; simp [*])] at hR
 subst hR
 refine AW.drawn (ds := [28, 29, 30, 31, 32, 33, 34, 35, 36, 5]) (fin := [1, 2]) (bs := [1, 1, 1, 1, 1, 1, 1, 1, 2, 2, 3]) [⟨[], [], [], [], 0⟩, ⟨[(28, 0)], [], [0], [], 0⟩, ⟨[], [], [], [], 0⟩, ⟨[], [], [], [], 0⟩, ⟨[(31, 3)], [], [0], [], 0⟩, ⟨[(30, 2), (32, 4)], [], [0], [], 0⟩, ⟨[], [], [0], [], 0⟩, ⟨[(34, 6)], [], [], [], 1⟩, ⟨[(29, 1), (33, 5), (35, 7)], [], [], [], 0⟩, ⟨[(36, 8)], [], [], [0], 1⟩, ⟨[], [], [], [], 0⟩] (by kernel_rfl) rfl (by kernel_rfl) rfl rfl rfl fun KD hKD => ?_
 refine g ?_
 repeat' (first | refine st_ rfl (g ?_) | refine hold_ (g ?_) | exact trivial | refine cond_d (fun h => g ?_) (fun h => g ?_) | refine cond_ (fun h => g ?_) (fun h => g ?_) | (refine hKD _ _ ⟨rfl, g ?_⟩; clear hKD KD) | ((first | refine vops_ifd rfl rfl (fun h e => ?_) (fun h e => ?_) | refine vdraw_ifd rfl rfl (fun h e => ?_) (fun h e => ?_)) <;> simp only [e] <;> clear e <;> refine g ?_) | ((first | refine vops_if rfl rfl (fun h => ?_) (fun h => ?_) | refine vdraw_if rfl rfl (fun h => ?_) (fun h => ?_)) <;> simp only [h] <;> refine g ?_) | refine ix_ (by omega) (g ?_) | refine call_ (clonestD _) rfl (g ?_) | refine call_ (vwithD known w.stamp i1 i2) rfl (g ?_))
 refine bs1 (by omega) rfl rfl rfl ⟨i1, i2, i3, trivial, trivial⟩ ?_
 refine g ?_
 repeat' (first | refine hold_ (g ?_) | (refine hKD _ _ ⟨rfl, g ?_⟩; clear hKD KD) | exact trivial)
 refine AW.freeze 3600 _ rfl trivial ?_
 simp only [go_sem, reduceIte, Nat.reduceEqDiff]
 refine g ?_
 repeat' (first | refine st_ rfl (g ?_) | refine hold_ (g ?_) | exact trivial | refine cond_d (fun h => g ?_) (fun h => g ?_) | refine cond_ (fun h => g ?_) (fun h => g ?_) | (refine hKD _ _ ⟨rfl, g ?_⟩; clear hKD KD) | ((first | refine vops_ifd rfl rfl (fun h e => ?_) (fun h e => ?_) | refine vdraw_ifd rfl rfl (fun h e => ?_) (fun h e => ?_)) <;> simp only [e] <;> clear e <;> refine g ?_) | ((first | refine vops_if rfl rfl (fun h => ?_) (fun h => ?_) | refine vdraw_if rfl rfl (fun h => ?_) (fun h => ?_)) <;> simp only [h] <;> refine g ?_) | refine ix_ (by omega) (g ?_))
 refine tup_sub rfl fun p hp => ?_
 simp only [List.zip_cons_cons, List.zip_nil_right, List.mem_cons, List.not_mem_nil, or_false] at hp
 rcases hp with rfl | rfl
 ·refine agg_sub rfl fun p hp => ?_
  simp only [List.zip_cons_cons, List.zip_nil_right, List.mem_cons, List.not_mem_nil, or_false] at hp
  rcases hp with rfl | rfl | rfl | rfl
  ·exact Sub1.rfl_ _
  ·exact Sub1.rfl_ _
  ·exact nil_sub 2
  ·exact Sub1.rfl_ _
 ·exact Sub1.rfl_ _
end Go.Proofs.YtkphfdmelfhnoaaGreatDoor
namespace Go.Proofs.YtkphfdmelfhnoaaGreatDoor
open Go.ChangeShapes Go.WideShapes Go.ChangeAt Go.RowKit
attribute [local irreducible] AW AWY vops vopsY vop vopL vdraw callW qop binQ lenQ storeQ appendQ callQ ACalls AIter
attribute [local go_sem] enB_eq boI_eq boA_eq enW_eq wrI_eq wA_eq enZ_eq znI_eq vwA_eq noteA_eq storeQ_bp storeQ_rp
set_option maxRecDepth 100000 in
set_option maxHeartbeats 3200000 in
theorem vbody_call (v : View) (x : Body) (iR : I64 v.room) (i0 : I64 x.object) (i1 : I64 x.stamp.count) (i2 : I64 x.stamp.node) : ACalls Tryz.prog TzTab 27 [vwA v, boA x] (.tup [vwA (bodyV v x).1, .val (.int .i64 (bodyV v x).2)]) [] := by
 refine ACalls.ofS (n := 64) (rs := [.cell 4 27, .tmp 5]) Tryz.func27 rfl (by kernel_rfl) Tryz.ntmps27 (by kernel_rfl) (by simp) (fun _ _ => TzTab.later) ?_
 intro hok V w0
 obtain ⟨R, hR⟩ : ∃ R, bodyV v x = R := ⟨_, rfl⟩
 rw [hR]
 unfold bodyV at hR
 refine g ?_
 refine AW.seq ?_
 refine AW.reg rfl fun KK hKK => ?_
 refine g ?_
 repeat' (first | refine hold_ (g ?_) | (refine hKK _ (g ?_); clear hKK KK) | exact trivial)
 refine AW.freeze 300 _ rfl ⟨trivial, trivial, trivial, trivial, iR, trivial⟩ ?_
 simp only [go_sem, reduceIte, Nat.reduceEqDiff]
 refine AW.freeze 400 _ rfl ⟨i0, i1, i2, trivial, trivial⟩ ?_
 simp only [go_sem, reduceIte, Nat.reduceEqDiff]
 refine g ?_
 repeat' (first | refine st_ rfl (g ?_) | refine hold_ (g ?_) | exact trivial | refine cond_d (fun h => g ?_) (fun h => g ?_) | refine cond_ (fun h => g ?_) (fun h => g ?_) | (refine hKD _ _ ⟨rfl, g ?_⟩; clear hKD KD) | ((first | refine vops_ifd rfl rfl (fun h e => ?_) (fun h e => ?_) | refine vdraw_ifd rfl rfl (fun h e => ?_) (fun h e => ?_)) <;> simp only [e] <;> clear e <;> refine g ?_) | ((first | refine vops_if rfl rfl (fun h => ?_) (fun h => ?_) | refine vdraw_if rfl rfl (fun h => ?_) (fun h => ?_)) <;> simp only [h] <;> refine g ?_) | refine ix_ (by omega) (g ?_) | refine call_ (vform_call v iR) rfl (g ?_))
 ·rw [if_neg (by rintro ⟨a, _⟩; simp [a] at h)] at hR
  exact view_no hR.symm
 have hF : viewFormed v = true := by simpa using h
 have hcf : cacheFormed v.bodies v.room = true := by
  simp only [viewFormed, partsB, Bool.and_eq_true] at hF
  exact hF.1.1.1.2
 have hhf : shelfFormed v.held = true := by
  simp only [viewFormed, partsB, Bool.and_eq_true] at hF
  exact hF.1.1.1.1.2
 have hput := cput_call v.bodies v.room x iR i0 i1 i2
 unfold putB at hput
 cases hr : rightBody x with
 | false =>
  rw [if_neg (by simp [hr])] at hput
  rw [if_neg (by simp [hr])] at hR
  refine g ?_
  repeat' (first | refine st_ rfl (g ?_) | refine hold_ (g ?_) | exact trivial | refine cond_d (fun h => g ?_) (fun h => g ?_) | refine cond_ (fun h => g ?_) (fun h => g ?_) | (refine hKD _ _ ⟨rfl, g ?_⟩; clear hKD KD) | ((first | refine vops_ifd rfl rfl (fun h e => ?_) (fun h e => ?_) | refine vdraw_ifd rfl rfl (fun h e => ?_) (fun h e => ?_)) <;> simp only [e] <;> clear e <;> refine g ?_) | ((first | refine vops_if rfl rfl (fun h => ?_) (fun h => ?_) | refine vdraw_if rfl rfl (fun h => ?_) (fun h => ?_)) <;> simp only [h] <;> refine g ?_) | refine ix_ (by omega) (g ?_) | refine call_ (hput) rfl (g ?_))
  exact view_no hR.symm
 | true =>
 rw [if_pos ⟨hcf, hr⟩] at hput
 rw [if_pos ⟨hF, hr⟩] at hR
 obtain ⟨B, hB⟩ : ∃ B, fitB v.room (forgetB v.bodies x.object ++ [x]) = B := ⟨_, rfl⟩
 rw [hB] at hput hR
 simp only at hput
 refine g ?_
 repeat' (first | refine st_ rfl (g ?_) | refine hold_ (g ?_) | exact trivial | refine cond_d (fun h => g ?_) (fun h => g ?_) | refine cond_ (fun h => g ?_) (fun h => g ?_) | (refine hKD _ _ ⟨rfl, g ?_⟩; clear hKD KD) | ((first | refine vops_ifd rfl rfl (fun h e => ?_) (fun h e => ?_) | refine vdraw_ifd rfl rfl (fun h e => ?_) (fun h e => ?_)) <;> simp only [e] <;> clear e <;> refine g ?_) | ((first | refine vops_if rfl rfl (fun h => ?_) (fun h => ?_) | refine vdraw_if rfl rfl (fun h => ?_) (fun h => ?_)) <;> simp only [h] <;> refine g ?_) | refine ix_ (by omega) (g ?_) | refine call_ (hput) rfl (g ?_) | refine call_ (wanted_call v.held x hhf) rfl (g ?_))
 ·rw [if_neg (by simpa using h)] at hR
  exact view_no hR.symm
 rw [if_pos (by simpa using h)] at hR
 subst hR
 refine AW.drawn (ds := [34, 35, 36, 37, 38, 39, 40, 41, 42, 43, 8]) (fin := [0, 2]) (bs := [1, 1, 1, 1, 1, 1, 1, 1, 1, 1, 1, 2]) [⟨[], [], [], [], 0⟩, ⟨[(34, 0)], [], [0], [], 0⟩, ⟨[(35, 1)], [], [0], [], 0⟩, ⟨[], [], [], [], 0⟩, ⟨[(37, 3)], [], [0], [], 0⟩, ⟨[(38, 4)], [], [0], [], 0⟩, ⟨[], [], [], [], 0⟩, ⟨[], [], [], [], 0⟩, ⟨[(41, 7)], [], [0], [], 0⟩, ⟨[(36, 2), (39, 5), (40, 6), (42, 8)], [], [], [], 0⟩, ⟨[], [], [], [], 1⟩, ⟨[(8, 10), (43, 9)], [], [], [1], 1⟩] (by kernel_rfl) rfl (by kernel_rfl) rfl rfl rfl fun KD hKD => ?_
 refine g ?_
 repeat' (first | refine st_ rfl (g ?_) | refine hold_ (g ?_) | exact trivial | refine cond_d (fun h => g ?_) (fun h => g ?_) | refine cond_ (fun h => g ?_) (fun h => g ?_) | (refine hKD _ _ ⟨rfl, g ?_⟩; clear hKD KD) | ((first | refine vops_ifd rfl rfl (fun h e => ?_) (fun h e => ?_) | refine vdraw_ifd rfl rfl (fun h e => ?_) (fun h e => ?_)) <;> simp only [e] <;> clear e <;> refine g ?_) | ((first | refine vops_if rfl rfl (fun h => ?_) (fun h => ?_) | refine vdraw_if rfl rfl (fun h => ?_) (fun h => ?_)) <;> simp only [h] <;> refine g ?_) | refine ix_ (by omega) (g ?_) | refine call_ (clonestD _) rfl (g ?_) | refine call_ (clonewD _) rfl (g ?_))
 have hzl : v.zones.length ≤ 256 := view_zones hF
 refine AW.adoptC 900 1 9900 147 3 rfl rfl rfl ?_
 refine AW.loop (fun m : {m : Nat // m ≤ v.zones.length} => ⟨[(2, .ip [stI v.known, znI v.zones, wrI v.held, boI v.bodies, .val (.int .i64 v.room)]), (4, .bp 500 0), (8, .bp 900 0), (45, .iv (znI v.zones)), (46, .val (.int .i64 (v.zones.length : Nat))), (47, .val (.int .i64 (m.1 : Nat)))], [.row 9900 147 3 ((v.zones.take m.1).map enZ), .box 900 [.iv (stI v.known), .own 9900, .iv (wrI v.held), .iv (boI B), .val (.int .i64 v.room)], .box 500 [.val (.slice none 0 0), .val (.slice none 0 0), .val (.slice none 0 0), .val (.slice none 0 0), .val (.int .i64 0)]]⟩) (fun m => v.zones.length - m.1) ⟨0, Nat.zero_le _⟩ id ⟨⟨rfl, rfl, rfl, rfl, ?_, rfl, trivial⟩, ⟨rfl, rfl, rfl, trivial⟩, by simp [idsOf, BA.id]⟩ fun ⟨m, hm⟩ => ?_
 ·simp [AV.ren, look]
 simp only
 repeat (refine AW.seq ?_)
 refine AW.reg rfl fun KK hKK => ?_
 refine g ?_
 repeat' (first | refine hold_ (g ?_) | (refine hKK _ (g ?_); clear hKK KK) | exact trivial)
 repeat (refine AW.seq ?_)
 refine st_ rfl ?_
 refine g ?_
 refine cond_ (fun h => ?_) (fun h => ?_)
 ·have hlt : m < v.zones.length := by have := of_decide_eq_true h; omega
  have hget := get_map (f := enZ) (List.getElem?_eq_getElem hlt)
  obtain ⟨-, o1, o2, -⟩ := okR_mem (by simpa [znI] using hok.1.2.1.2) (enZ v.zones[m]) (List.mem_map_of_mem (List.getElem_mem hlt))
  obtain ⟨z, hz⟩ : ∃ z, v.zones[m] = z := ⟨_, rfl⟩
  have htk := List.take_succ_eq_append_getElem hlt
  rw [hz] at hget o1 o2 htk
  refine st_ rfl (g ?_)
  refine AW.seq ?_
  refine AW.block ?_
  repeat (refine AW.seq ?_)
  refine AW.reg rfl fun KK hKK => ?_
  refine g ?_
  repeat' (first | refine hold_ (g ?_) | (refine hKK _ (g ?_); clear hKK KK) | exact trivial)
  refine ⟨by omega, _, hget, ?_⟩
  refine g ?_
  repeat' (first | refine hold_ (g ?_) | (refine hKK _ (g ?_); clear hKK KK) | exact trivial)
  refine AW.freeze 1100 _ rfl ⟨o1, o2, trivial, trivial⟩ ?_
  simp only [go_sem, reduceIte, Nat.reduceEqDiff]
  refine AW.drawn (ds := [51, 52, 53, 54, 55, 56, 57, 58, 59, 60, 61]) (fin := [2, 3, 4, 5]) (bs := [3, 3, 3, 3, 3, 3, 3, 3, 3, 4, 5, 5]) [⟨[], [], [], [], 0⟩, ⟨[(51, 0)], [], [0, 1, 2], [], 0⟩, ⟨[], [], [], [], 0⟩, ⟨[(53, 2)], [], [0, 1, 2], [], 0⟩, ⟨[], [], [], [], 0⟩, ⟨[(55, 4)], [], [0, 1, 2], [], 0⟩, ⟨[(56, 5)], [], [0, 1, 2], [], 0⟩, ⟨[(54, 3), (57, 6)], [], [], [], 0⟩, ⟨[(58, 7)], [], [], [], 1⟩, ⟨[(52, 1), (59, 8)], [], [1, 2, 3], [0], 1⟩, ⟨[], [], [], [], 0⟩, ⟨[(61, 10), (60, 9)], [], [], [1], 1⟩] (by kernel_rfl) rfl (by kernel_rfl) rfl rfl rfl fun KD hKD => ?_
  refine g ?_
  repeat' (first | refine st_ rfl (g ?_) | refine hold_ (g ?_) | exact trivial | refine cond_d (fun h => g ?_) (fun h => g ?_) | refine cond_ (fun h => g ?_) (fun h => g ?_) | (refine hKD _ _ ⟨rfl, g ?_⟩; clear hKD KD) | ((first | refine vops_ifd rfl rfl (fun h e => ?_) (fun h e => ?_) | refine vdraw_ifd rfl rfl (fun h e => ?_) (fun h e => ?_)) <;> simp only [e] <;> clear e <;> refine g ?_) | ((first | refine vops_if rfl rfl (fun h => ?_) (fun h => ?_) | refine vdraw_if rfl rfl (fun h => ?_) (fun h => ?_)) <;> simp only [h] <;> refine g ?_) | refine ix_ (by omega) (g ?_) | refine call_ (clonestD _) rfl (g ?_))
  refine bs1 (by omega) rfl rfl rfl ⟨o1, o2, trivial, trivial⟩ ?_
  refine g ?_
  repeat' (first | refine hold_ (g ?_) | (refine hKD _ _ ⟨rfl, g ?_⟩; clear hKD KD) | exact trivial)
  refine append_own rfl (by kernel_rfl) (by omega) (by kernel_rfl) rfl (by simp; omega) ?_
  refine g ?_
  repeat' (first | refine st_ rfl (g ?_) | refine hold_ (g ?_) | exact trivial | refine cond_d (fun h => g ?_) (fun h => g ?_) | refine cond_ (fun h => g ?_) (fun h => g ?_) | (refine hKD _ _ ⟨rfl, g ?_⟩; clear hKD KD) | ((first | refine vops_ifd rfl rfl (fun h e => ?_) (fun h e => ?_) | refine vdraw_ifd rfl rfl (fun h e => ?_) (fun h e => ?_)) <;> simp only [e] <;> clear e <;> refine g ?_) | ((first | refine vops_if rfl rfl (fun h => ?_) (fun h => ?_) | refine vdraw_if rfl rfl (fun h => ?_) (fun h => ?_)) <;> simp only [h] <;> refine g ?_) | refine ix_ (by omega) (g ?_))
  refine ⟨⟨m + 1, hlt⟩, fun b => if b = 9900 then 6100 else b, ⟨⟨rfl, rfl, rfl, rfl, rfl, rfl, trivial⟩, ⟨?_, rfl, rfl, trivial⟩, by simp [idsOf, BA.id]⟩, by show v.zones.length - (m + 1) < v.zones.length - m; omega⟩
  rw [htk, List.map_append]
  rfl
 ·obtain rfl : m = v.zones.length := by have := of_decide_eq_false h; omega
  rw [List.take_length]
  refine AW.exit ?_
  simp only [reduceIte]
  refine AW.freeze 9900 _ rfl trivial ?_
  simp only [go_sem, reduceIte, Nat.reduceEqDiff]
  refine g ?_
  repeat' (first | refine st_ rfl (g ?_) | refine hold_ (g ?_) | exact trivial | refine cond_d (fun h => g ?_) (fun h => g ?_) | refine cond_ (fun h => g ?_) (fun h => g ?_) | (refine hKD _ _ ⟨rfl, g ?_⟩; clear hKD KD) | ((first | refine vops_ifd rfl rfl (fun h e => ?_) (fun h e => ?_) | refine vdraw_ifd rfl rfl (fun h e => ?_) (fun h e => ?_)) <;> simp only [e] <;> clear e <;> refine g ?_) | ((first | refine vops_if rfl rfl (fun h => ?_) (fun h => ?_) | refine vdraw_if rfl rfl (fun h => ?_) (fun h => ?_)) <;> simp only [h] <;> refine g ?_) | refine ix_ (by omega) (g ?_))
  exact Sub1.rfl_ _
end Go.Proofs.YtkphfdmelfhnoaaGreatDoor
namespace Go.Proofs.YtkphfdmelfhnoaaGreatDoor
open Go.ChangeShapes Go.WideShapes Go.ChangeAt Go.RowKit
attribute [local irreducible] AW AWY vops vopsY vop vopL vdraw callW qop binQ lenQ storeQ appendQ callQ ACalls AIter
attribute [local go_sem] enB_eq boI_eq boA_eq enW_eq wrI_eq wA_eq enZ_eq znI_eq vwA_eq noteA_eq storeQ_bp storeQ_rp
theorem read_no {q : List Nat × Write × Int} {e : Int} (h : q = ([], noW, e)) : Sub1 (.tup [.val (.slice none 0 0), .agg [.val (.int .i64 0), .val (.int .i64 0), .val (.int .i64 0), .val (.bool false)], .val (.int .i64 e)]) (.tup [.iv (byI q.1), wA q.2.1, .val (.int .i64 q.2.2)]) := by
 subst h
 refine tup_sub rfl fun p hp => ?_
 simp only [List.zip_cons_cons, List.zip_nil_right, List.mem_cons, List.not_mem_nil, or_false] at hp
 rcases hp with rfl | rfl | rfl
 ·exact nil_sub 1
 ·exact Sub1.rfl_ _
 ·exact Sub1.rfl_ _
theorem get_in {l : List Write} {o : Int} {w : Write} (h : getW l o = some w) (hI : ∀ x ∈ l, I64 x.stamp.count ∧ I64 x.stamp.node ∧ I64 x.object) : I64 w.stamp.count ∧ I64 w.stamp.node ∧ I64 w.object := hI w (List.mem_of_find?_eq_some h)
set_option maxRecDepth 100000 in
set_option maxHeartbeats 3200000 in
theorem vread_call (v : View) (o : Int) (iR : I64 v.room) (iO : I64 o) : ACalls Tryz.prog TzTab 28 [vwA v, .val (.int .i64 o)] (.tup [.iv (byI (readV v o).1), wA (readV v o).2.1, .val (.int .i64 (readV v o).2.2)]) [] := by
 refine ACalls.ofS (n := 55) (rs := [.tmp 4, .cell 5 55, .tmp 6]) Tryz.func28 rfl (by kernel_rfl) Tryz.ntmps28 (by kernel_rfl) (by simp) (fun _ _ => TzTab.later) ?_
 intro hok V w0
 obtain ⟨R, hR⟩ : ∃ R, readV v o = R := ⟨_, rfl⟩
 rw [hR]
 unfold readV at hR
 have hI : ∀ x ∈ v.held, I64 x.stamp.count ∧ I64 x.stamp.node ∧ I64 x.object := fun x hx => by
  obtain ⟨-, o1, o2, o3, -⟩ := okR_mem (by simpa [wrI] using hok.1.2.2.1.2) (enW x) (List.mem_map_of_mem hx)
  exact ⟨o1, o2, o3⟩
 refine g ?_
 refine AW.seq ?_
 refine AW.reg rfl fun KK hKK => ?_
 refine g ?_
 repeat' (first | refine hold_ (g ?_) | (refine hKK _ (g ?_); clear hKK KK) | exact trivial)
 refine AW.freeze 300 _ rfl ⟨trivial, trivial, trivial, trivial, iR, trivial⟩ ?_
 simp only [go_sem, reduceIte, Nat.reduceEqDiff]
 refine g ?_
 repeat' (first | refine st_ rfl (g ?_) | refine hold_ (g ?_) | exact trivial | refine cond_d (fun h => g ?_) (fun h => g ?_) | refine cond_ (fun h => g ?_) (fun h => g ?_) | (refine hKD _ _ ⟨rfl, g ?_⟩; clear hKD KD) | ((first | refine vops_ifd rfl rfl (fun h e => ?_) (fun h e => ?_) | refine vdraw_ifd rfl rfl (fun h e => ?_) (fun h e => ?_)) <;> simp only [e] <;> clear e <;> refine g ?_) | ((first | refine vops_if rfl rfl (fun h => ?_) (fun h => ?_) | refine vdraw_if rfl rfl (fun h => ?_) (fun h => ?_)) <;> simp only [h] <;> refine g ?_) | refine ix_ (by omega) (g ?_) | refine call_ (vform_call v iR) rfl (g ?_) | refine call_ (zblur_call _) rfl (g ?_) | refine call_ (shas_call _ _) rfl (g ?_))
 ·rw [if_neg (by rintro ⟨a, _⟩; simp [a] at h)] at hR
  exact read_no hR.symm
 ·rw [if_neg (by rintro ⟨_, a⟩; simp [rightO] at a; omega)] at hR
  exact read_no hR.symm
 ·rw [if_neg (by rintro ⟨_, a⟩; simp [rightO] at a; omega)] at hR
  exact read_no hR.symm
 ·rw [if_pos ⟨by simpa using (by assumption : (!viewFormed v) = false), by simp [rightO]; omega⟩, if_pos h] at hR
  exact read_no hR.symm
 rename_i h1 h2 h3
 have hF : viewFormed v = true := by simpa using h1
 have hO : rightO o = true := by simp [rightO]; omega
 rw [if_pos ⟨hF, hO⟩, if_neg (by simp [h])] at hR
 have hhf : shelfFormed v.held = true := by
  simp only [viewFormed, partsB, Bool.and_eq_true] at hF
  exact hF.1.1.1.1.2
 have hget := shget_call v.held o
 unfold getS at hget
 rw [if_pos hhf] at hget
 cases hg : getW v.held o with
 | none =>
  rw [hg] at hget hR
  simp only at hget hR
  refine call_ hget rfl (g ?_)
  refine g ?_
  repeat' (first | refine hold_ (g ?_) | (refine hKK _ (g ?_); clear hKK KK) | exact trivial)
  refine AW.freeze 800 _ rfl ⟨rfl, rfl, rfl, trivial, trivial⟩ ?_
  simp only [go_sem, reduceIte, Nat.reduceEqDiff]
  refine g ?_
  repeat' (first | refine st_ rfl (g ?_) | refine hold_ (g ?_) | exact trivial | refine cond_d (fun h => g ?_) (fun h => g ?_) | refine cond_ (fun h => g ?_) (fun h => g ?_) | (refine hKD _ _ ⟨rfl, g ?_⟩; clear hKD KD) | ((first | refine vops_ifd rfl rfl (fun h e => ?_) (fun h e => ?_) | refine vdraw_ifd rfl rfl (fun h e => ?_) (fun h e => ?_)) <;> simp only [e] <;> clear e <;> refine g ?_) | ((first | refine vops_if rfl rfl (fun h => ?_) (fun h => ?_) | refine vdraw_if rfl rfl (fun h => ?_) (fun h => ?_)) <;> simp only [h] <;> refine g ?_) | refine ix_ (by omega) (g ?_))
  refine AW.drawn (ds := [41, 42, 4, 6]) (fin := [1]) (bs := [1, 1, 1, 1, 2]) [⟨[], [], [0], [], 0⟩, ⟨[], [], [], [], 0⟩, ⟨[], [], [], [], 0⟩, ⟨[(41, 0)], [], [], [0], 1⟩, ⟨[(42, 1)], [], [], [], 0⟩] (by kernel_rfl) rfl (by kernel_rfl) rfl rfl rfl fun KD hKD => ?_
  refine g ?_
  repeat' (first | refine st_ rfl (g ?_) | refine hold_ (g ?_) | exact trivial | refine cond_d (fun h => g ?_) (fun h => g ?_) | refine cond_ (fun h => g ?_) (fun h => g ?_) | (refine hKD _ _ ⟨rfl, g ?_⟩; clear hKD KD) | ((first | refine vops_ifd rfl rfl (fun h e => ?_) (fun h e => ?_) | refine vdraw_ifd rfl rfl (fun h e => ?_) (fun h e => ?_)) <;> simp only [e] <;> clear e <;> refine g ?_) | ((first | refine vops_if rfl rfl (fun h => ?_) (fun h => ?_) | refine vdraw_if rfl rfl (fun h => ?_) (fun h => ?_)) <;> simp only [h] <;> refine g ?_) | refine ix_ (by omega) (g ?_))
  exact read_no hR.symm
 | some w =>
  rw [hg] at hget hR
  simp only at hget hR
  obtain ⟨w1, w2, w3⟩ := get_in hg hI
  refine call_ hget rfl (g ?_)
  refine g ?_
  repeat' (first | refine hold_ (g ?_) | (refine hKK _ (g ?_); clear hKK KK) | exact trivial)
  refine AW.freeze 800 _ rfl ⟨w1, w2, w3, trivial, trivial⟩ ?_
  simp only [go_sem, reduceIte, Nat.reduceEqDiff]
  refine g ?_
  repeat' (first | refine st_ rfl (g ?_) | refine hold_ (g ?_) | exact trivial | refine cond_d (fun h => g ?_) (fun h => g ?_) | refine cond_ (fun h => g ?_) (fun h => g ?_) | (refine hKD _ _ ⟨rfl, g ?_⟩; clear hKD KD) | ((first | refine vops_ifd rfl rfl (fun h e => ?_) (fun h e => ?_) | refine vdraw_ifd rfl rfl (fun h e => ?_) (fun h e => ?_)) <;> simp only [e] <;> clear e <;> refine g ?_) | ((first | refine vops_if rfl rfl (fun h => ?_) (fun h => ?_) | refine vdraw_if rfl rfl (fun h => ?_) (fun h => ?_)) <;> simp only [h] <;> refine g ?_) | refine ix_ (by omega) (g ?_) | refine call_ (cget_call v.bodies o w.stamp iO w1 w2) rfl (g ?_))
  ·rw [if_pos h] at hR
   subst hR
   refine AW.drawn (ds := [41, 42, 4, 6]) (fin := [1]) (bs := [1, 1, 1, 1, 2]) [⟨[], [], [0], [], 0⟩, ⟨[], [], [], [], 0⟩, ⟨[], [], [], [], 0⟩, ⟨[(41, 0)], [], [], [0], 1⟩, ⟨[(42, 1)], [], [], [], 0⟩] (by kernel_rfl) rfl (by kernel_rfl) rfl rfl rfl fun KD hKD => ?_
   refine g ?_
   repeat' (first | refine st_ rfl (g ?_) | refine hold_ (g ?_) | exact trivial | refine cond_d (fun h => g ?_) (fun h => g ?_) | refine cond_ (fun h => g ?_) (fun h => g ?_) | (refine hKD _ _ ⟨rfl, g ?_⟩; clear hKD KD) | ((first | refine vops_ifd rfl rfl (fun h e => ?_) (fun h e => ?_) | refine vdraw_ifd rfl rfl (fun h e => ?_) (fun h e => ?_)) <;> simp only [e] <;> clear e <;> refine g ?_) | ((first | refine vops_if rfl rfl (fun h => ?_) (fun h => ?_) | refine vdraw_if rfl rfl (fun h => ?_) (fun h => ?_)) <;> simp only [h] <;> refine g ?_) | refine ix_ (by omega) (g ?_))
   refine tup_sub rfl fun p hp => ?_
   simp only [List.zip_cons_cons, List.zip_nil_right, List.mem_cons, List.not_mem_nil, or_false] at hp
   rcases hp with rfl | rfl | rfl
   ·exact nil_sub 1
   ·exact Sub1.rfl_ _
   ·exact Sub1.rfl_ _
  ·rw [if_neg (by simp [h])] at hR
   subst hR
   refine AW.drawn (ds := [52, 53, 54, 4, 6]) (fin := [1]) (bs := [1, 1, 1, 1, 1, 2]) [⟨[], [], [], [], 0⟩, ⟨[], [], [0], [], 0⟩, ⟨[], [], [], [], 0⟩, ⟨[(52, 0)], [], [], [], 0⟩, ⟨[(53, 1)], [], [], [0], 1⟩, ⟨[(54, 2)], [], [], [], 0⟩] (by kernel_rfl) rfl (by kernel_rfl) rfl rfl rfl fun KD hKD => ?_
   refine g ?_
   repeat' (first | refine st_ rfl (g ?_) | refine hold_ (g ?_) | exact trivial | refine cond_d (fun h => g ?_) (fun h => g ?_) | refine cond_ (fun h => g ?_) (fun h => g ?_) | (refine hKD _ _ ⟨rfl, g ?_⟩; clear hKD KD) | ((first | refine vops_ifd rfl rfl (fun h e => ?_) (fun h e => ?_) | refine vdraw_ifd rfl rfl (fun h e => ?_) (fun h e => ?_)) <;> simp only [e] <;> clear e <;> refine g ?_) | ((first | refine vops_if rfl rfl (fun h => ?_) (fun h => ?_) | refine vdraw_if rfl rfl (fun h => ?_) (fun h => ?_)) <;> simp only [h] <;> refine g ?_) | refine ix_ (by omega) (g ?_))
   exact Sub1.rfl_ _
end Go.Proofs.YtkphfdmelfhnoaaGreatDoor
namespace Go.Proofs.YtkphfdmelfhnoaaGreatDoor
open Go.ChangeShapes Go.WideShapes Go.ChangeAt Go.RowKit
attribute [local irreducible] AW AWY vops vopsY vop vopL vdraw callW qop binQ lenQ storeQ appendQ callQ ACalls AIter
attribute [local go_sem] byI_eq enB_eq boI_eq boA_eq enW_eq wrI_eq wA_eq enZ_eq znI_eq vwA_eq noteA_eq storeQ_bp storeQ_rp
def toldA (q : Told) : AV := .tup [vwA q.view, noteA q.note, .val (.int .i64 q.err)]
theorem write_no {q : Told} {e : Int} (h : q = noTold e) : Sub1 (.tup [.agg [.val (.slice none 0 0), .val (.slice none 0 0), .val (.slice none 0 0), .val (.slice none 0 0), .val (.int .i64 0)], .agg [.val (.slice none 0 0), .val (.slice none 0 0), .val (.slice none 0 0), .val (.slice none 0 0)], .val (.int .i64 e)]) (.tup [vwA q.view, noteA q.note, .val (.int .i64 q.err)]) := by
 subst h
 refine tup_sub rfl fun p hp => ?_
 simp only [List.zip_cons_cons, List.zip_nil_right, List.mem_cons, List.not_mem_nil, or_false] at hp
 rcases hp with rfl | rfl | rfl
 ·refine agg_sub rfl fun p hp => ?_
  simp only [List.zip_cons_cons, List.zip_nil_right, List.mem_cons, List.not_mem_nil, or_false] at hp
  rcases hp with rfl | rfl | rfl | rfl | rfl
  ·exact nil_sub 2
  ·exact nil_sub 3
  ·exact nil_sub 4
  ·exact nil_sub 4
  ·exact Sub1.rfl_ _
 ·refine agg_sub rfl fun p hp => ?_
  simp only [List.zip_cons_cons, List.zip_nil_right, List.mem_cons, List.not_mem_nil, or_false] at hp
  rcases hp with rfl | rfl | rfl | rfl
  ·exact nil_sub 2
  ·exact nil_sub 2
  ·exact nil_sub 2
  ·exact nil_sub 4
 ·exact Sub1.rfl_ _
theorem nextS_in {c n s : Int} (hc : c ≤ 9223372036854775807) (hn : I64 n) : I64 (nextS c n s).1.count ∧ I64 (nextS c n s).1.node := by
 unfold nextS
 split
 ·exact ⟨rfl, rfl⟩
 ·split
  ·exact ⟨rfl, rfl⟩
  ·exact ⟨I64.of (by simp only; omega) (by simp only; omega), hn⟩
theorem body_room (v : View) (x : Body) (h : I64 v.room) : I64 (bodyV v x).1.room := by
 unfold bodyV
 split
 ·split
  ·exact h
  ·exact rfl
 ·exact rfl
theorem take_room (v : View) (n : Note) (h : I64 v.room) : I64 (takeV v n).1.room := by
 unfold takeV
 split
 ·split
  ·exact h
  ·exact rfl
 ·exact rfl
set_option maxRecDepth 100000 in
set_option maxHeartbeats 6400000 in
theorem vwrite_call (v : View) (me o skip : Int) (l : List Nat) (gone : Bool) (iR : I64 v.room) (iM : I64 me) (iO : I64 o) (iS : I64 skip) : ACalls Tryz.prog TzTab 26 [vwA v, .val (.int .i64 me), .val (.int .i64 o), .val (.int .i64 skip), .iv (byI l), .val (.bool gone)] (.tup [vwA (writeV v me o skip l gone).view, noteA (writeV v me o skip l gone).note, .val (.int .i64 (writeV v me o skip l gone).err)]) [] := by
 refine ACalls.ofS (n := 102) (rs := [.cell 12 27, .cell 13 30, .tmp 14]) Tryz.func26 rfl (by kernel_rfl) Tryz.ntmps26 (by kernel_rfl) (by simp) (fun _ _ => TzTab.later) ?_
 intro hok V w0
 obtain ⟨R, hR⟩ : ∃ R, writeV v me o skip l gone = R := ⟨_, rfl⟩
 rw [hR]
 unfold writeV at hR
 have hI : ∀ k : Int, I64 (countOf v.known k) := fun k => by
  refine countOf_i64 (fun s hs => ?_) k
  obtain ⟨-, h2, -⟩ := okR_mem (by simpa [stI] using hok.1.1.2) (enSt s) (List.mem_map_of_mem hs)
  exact h2
 have hG := greatS_in v.known hI
 have hnx := next_call (greatS v.known) me skip (I64.hi hG) (I64.hi iS)
 obtain ⟨x1, x2⟩ := nextS_in (s := skip) (I64.hi hG) iM
 obtain ⟨N, hN⟩ : ∃ N, nextS (greatS v.known) me skip = N := ⟨_, rfl⟩
 rw [hN] at hnx x1 x2 hR
 obtain ⟨s, e1⟩ := N
 simp only at hnx x1 x2 hR
 refine g ?_
 refine AW.seq ?_
 refine AW.reg rfl fun KK hKK => ?_
 refine g ?_
 repeat' (first | refine hold_ (g ?_) | (refine hKK _ (g ?_); clear hKK KK) | exact trivial)
 refine AW.freeze 700 _ rfl ⟨trivial, trivial, trivial, trivial, iR, trivial⟩ ?_
 simp only [go_sem, reduceIte, Nat.reduceEqDiff]
 have hT := vtake_call v
 cases gone with
 | true =>
  have hof := nof_call v.known ⟨s, o, true⟩ x1 x2 iO
  obtain ⟨N, hN⟩ : ∃ N, ofN v.known ⟨s, o, true⟩ = N := ⟨_, rfl⟩
  rw [hN] at hof hR
  obtain ⟨n, e2⟩ := N
  simp only at hof hR
  have htk := vtake_call v n iR
  have hroom := take_room v n iR
  obtain ⟨X, hX⟩ : ∃ X, takeV v n = X := ⟨_, rfl⟩
  rw [hX] at htk hR hroom
  obtain ⟨x, e3⟩ := X
  simp only at htk hR hroom
  have hbo := vbody_call x ⟨o, s, l⟩ hroom iO x1 x2
  obtain ⟨Y, hY⟩ : ∃ Y, bodyV x ⟨o, s, l⟩ = Y := ⟨_, rfl⟩
  have hyr := body_room x ⟨o, s, l⟩ hroom
  rw [hY] at hbo hR hyr
  obtain ⟨y, e4⟩ := Y
  simp only at hbo hR hyr
  refine g ?_
  repeat' (first | refine st_ rfl (g ?_) | refine hold_ (g ?_) | exact trivial | refine cond_d (fun h => g ?_) (fun h => g ?_) | refine cond_ (fun h => g ?_) (fun h => g ?_) | (refine hKD _ _ ⟨rfl, g ?_⟩; clear hKD KD) | ((first | refine vops_ifd rfl rfl (fun h e => ?_) (fun h e => ?_) | refine vdraw_ifd rfl rfl (fun h e => ?_) (fun h e => ?_)) <;> simp only [e] <;> clear e <;> refine g ?_) | ((first | refine vops_if rfl rfl (fun h => ?_) (fun h => ?_) | refine vdraw_if rfl rfl (fun h => ?_) (fun h => ?_)) <;> simp only [h] <;> refine g ?_) | refine ix_ (by omega) (g ?_) | refine call_ (vform_call v iR) rfl (g ?_) | refine call_ (great_call _) rfl (g ?_))
  ·rw [if_neg (by rintro ⟨a, _⟩; simp [a] at h)] at hR
   exact write_no hR.symm
  ·rw [if_neg (by rintro ⟨_, a, _⟩; simp [rightO] at a; omega)] at hR
   exact write_no hR.symm
  ·rw [if_neg (by rintro ⟨_, a, _⟩; simp [rightO] at a; omega)] at hR
   exact write_no hR.symm
  ·rw [if_neg (by rintro ⟨_, _, a, _⟩; omega)] at hR
   exact write_no hR.symm
  ·rw [if_neg (by rintro ⟨_, _, _, a⟩; simp at a; simp [a] at h)] at hR
   exact write_no hR.symm
  rw [if_pos (by simp at *; simp [rightO, *]; try omega)] at hR
  refine call_ hnx rfl (g ?_)
  refine g ?_
  repeat' (first | refine hold_ (g ?_) | (refine hKK _ (g ?_); clear hKK KK) | exact trivial)
  refine AW.freeze 1600 _ rfl ⟨x1, x2, trivial⟩ ?_
  simp only [go_sem, reduceIte, Nat.reduceEqDiff]
  refine g ?_
  repeat' (first | refine st_ rfl (g ?_) | refine hold_ (g ?_) | exact trivial | refine cond_d (fun h => g ?_) (fun h => g ?_) | refine cond_ (fun h => g ?_) (fun h => g ?_) | (refine hKD _ _ ⟨rfl, g ?_⟩; clear hKD KD) | ((first | refine vops_ifd rfl rfl (fun h e => ?_) (fun h e => ?_) | refine vdraw_ifd rfl rfl (fun h e => ?_) (fun h e => ?_)) <;> simp only [e] <;> clear e <;> refine g ?_) | ((first | refine vops_if rfl rfl (fun h => ?_) (fun h => ?_) | refine vdraw_if rfl rfl (fun h => ?_) (fun h => ?_)) <;> simp only [h] <;> refine g ?_) | refine ix_ (by omega) (g ?_))
  ·rw [if_neg h] at hR
   exact write_no hR.symm
  rw [if_pos (by simpa using h)] at hR
  refine call_ hof rfl (g ?_)
  refine g ?_
  repeat' (first | refine hold_ (g ?_) | (refine hKK _ (g ?_); clear hKK KK) | exact trivial)
  refine AW.freeze 1800 _ rfl ⟨trivial, trivial, trivial, trivial, trivial⟩ ?_
  simp only [go_sem, reduceIte, Nat.reduceEqDiff]
  refine g ?_
  repeat' (first | refine st_ rfl (g ?_) | refine hold_ (g ?_) | exact trivial | refine cond_d (fun h => g ?_) (fun h => g ?_) | refine cond_ (fun h => g ?_) (fun h => g ?_) | (refine hKD _ _ ⟨rfl, g ?_⟩; clear hKD KD) | ((first | refine vops_ifd rfl rfl (fun h e => ?_) (fun h e => ?_) | refine vdraw_ifd rfl rfl (fun h e => ?_) (fun h e => ?_)) <;> simp only [e] <;> clear e <;> refine g ?_) | ((first | refine vops_if rfl rfl (fun h => ?_) (fun h => ?_) | refine vdraw_if rfl rfl (fun h => ?_) (fun h => ?_)) <;> simp only [h] <;> refine g ?_) | refine ix_ (by omega) (g ?_))
  ·rw [if_neg h] at hR
   exact write_no hR.symm
  rw [if_pos (by simpa using h)] at hR
  refine g ?_
  repeat' (first | refine st_ rfl (g ?_) | refine hold_ (g ?_) | exact trivial | refine cond_d (fun h => g ?_) (fun h => g ?_) | refine cond_ (fun h => g ?_) (fun h => g ?_) | (refine hKD _ _ ⟨rfl, g ?_⟩; clear hKD KD) | ((first | refine vops_ifd rfl rfl (fun h e => ?_) (fun h e => ?_) | refine vdraw_ifd rfl rfl (fun h e => ?_) (fun h e => ?_)) <;> simp only [e] <;> clear e <;> refine g ?_) | ((first | refine vops_if rfl rfl (fun h => ?_) (fun h => ?_) | refine vdraw_if rfl rfl (fun h => ?_) (fun h => ?_)) <;> simp only [h] <;> refine g ?_) | refine ix_ (by omega) (g ?_) | refine call_ (htk) rfl (g ?_) | refine call_ (hbo) rfl (g ?_))
  ·omega
  ·rw [if_pos (by assumption), if_pos trivial] at hR
   subst hR
   refine AW.freeze 1900 _ rfl ⟨trivial, trivial, trivial, trivial, hroom, trivial⟩ ?_
   simp only [go_sem, reduceIte, Nat.reduceEqDiff]
   refine AW.drawn (ds := [100, 101, 14]) (fin := [2, 3]) (bs := [2, 2, 2, 3, 4]) [⟨[], [], [0, 1], [], 0⟩, ⟨[], [], [0], [], 0⟩, ⟨[(100, 0)], [], [], [1], 1⟩, ⟨[(101, 1)], [], [], [0], 1⟩, ⟨[], [], [], [], 0⟩] (by kernel_rfl) rfl (by kernel_rfl) rfl rfl rfl fun KD hKD => ?_
   refine g ?_
   repeat' (first | refine st_ rfl (g ?_) | refine hold_ (g ?_) | exact trivial | refine cond_d (fun h => g ?_) (fun h => g ?_) | refine cond_ (fun h => g ?_) (fun h => g ?_) | (refine hKD _ _ ⟨rfl, g ?_⟩; clear hKD KD) | ((first | refine vops_ifd rfl rfl (fun h e => ?_) (fun h e => ?_) | refine vdraw_ifd rfl rfl (fun h e => ?_) (fun h e => ?_)) <;> simp only [e] <;> clear e <;> refine g ?_) | ((first | refine vops_if rfl rfl (fun h => ?_) (fun h => ?_) | refine vdraw_if rfl rfl (fun h => ?_) (fun h => ?_)) <;> simp only [h] <;> refine g ?_) | refine ix_ (by omega) (g ?_))
   exact Sub1.rfl_ _
  ·rw [if_neg h] at hR
   exact write_no hR.symm
  ·omega
 | false =>
  have hof := nof_call v.known ⟨s, o, false⟩ x1 x2 iO
  obtain ⟨N, hN⟩ : ∃ N, ofN v.known ⟨s, o, false⟩ = N := ⟨_, rfl⟩
  rw [hN] at hof hR
  obtain ⟨n, e2⟩ := N
  simp only at hof hR
  have htk := vtake_call v n iR
  have hroom := take_room v n iR
  obtain ⟨X, hX⟩ : ∃ X, takeV v n = X := ⟨_, rfl⟩
  rw [hX] at htk hR hroom
  obtain ⟨x, e3⟩ := X
  simp only at htk hR hroom
  have hbo := vbody_call x ⟨o, s, l⟩ hroom iO x1 x2
  obtain ⟨Y, hY⟩ : ∃ Y, bodyV x ⟨o, s, l⟩ = Y := ⟨_, rfl⟩
  have hyr := body_room x ⟨o, s, l⟩ hroom
  rw [hY] at hbo hR hyr
  obtain ⟨y, e4⟩ := Y
  simp only at hbo hR hyr
  refine g ?_
  repeat' (first | refine st_ rfl (g ?_) | refine hold_ (g ?_) | exact trivial | refine cond_d (fun h => g ?_) (fun h => g ?_) | refine cond_ (fun h => g ?_) (fun h => g ?_) | (refine hKD _ _ ⟨rfl, g ?_⟩; clear hKD KD) | ((first | refine vops_ifd rfl rfl (fun h e => ?_) (fun h e => ?_) | refine vdraw_ifd rfl rfl (fun h e => ?_) (fun h e => ?_)) <;> simp only [e] <;> clear e <;> refine g ?_) | ((first | refine vops_if rfl rfl (fun h => ?_) (fun h => ?_) | refine vdraw_if rfl rfl (fun h => ?_) (fun h => ?_)) <;> simp only [h] <;> refine g ?_) | refine ix_ (by omega) (g ?_) | refine call_ (vform_call v iR) rfl (g ?_) | refine call_ (great_call _) rfl (g ?_))
  ·rw [if_neg (by rintro ⟨a, _⟩; simp [a] at h)] at hR
   exact write_no hR.symm
  ·rw [if_neg (by rintro ⟨_, a, _⟩; simp [rightO] at a; omega)] at hR
   exact write_no hR.symm
  ·rw [if_neg (by rintro ⟨_, a, _⟩; simp [rightO] at a; omega)] at hR
   exact write_no hR.symm
  ·rw [if_neg (by rintro ⟨_, _, a, _⟩; omega)] at hR
   exact write_no hR.symm
  rw [if_pos (by simp at *; simp [rightO, *]; try omega)] at hR
  refine call_ hnx rfl (g ?_)
  refine g ?_
  repeat' (first | refine hold_ (g ?_) | (refine hKK _ (g ?_); clear hKK KK) | exact trivial)
  refine AW.freeze 1600 _ rfl ⟨x1, x2, trivial⟩ ?_
  simp only [go_sem, reduceIte, Nat.reduceEqDiff]
  refine g ?_
  repeat' (first | refine st_ rfl (g ?_) | refine hold_ (g ?_) | exact trivial | refine cond_d (fun h => g ?_) (fun h => g ?_) | refine cond_ (fun h => g ?_) (fun h => g ?_) | (refine hKD _ _ ⟨rfl, g ?_⟩; clear hKD KD) | ((first | refine vops_ifd rfl rfl (fun h e => ?_) (fun h e => ?_) | refine vdraw_ifd rfl rfl (fun h e => ?_) (fun h e => ?_)) <;> simp only [e] <;> clear e <;> refine g ?_) | ((first | refine vops_if rfl rfl (fun h => ?_) (fun h => ?_) | refine vdraw_if rfl rfl (fun h => ?_) (fun h => ?_)) <;> simp only [h] <;> refine g ?_) | refine ix_ (by omega) (g ?_))
  ·rw [if_neg h] at hR
   exact write_no hR.symm
  rw [if_pos (by simpa using h)] at hR
  refine call_ hof rfl (g ?_)
  refine g ?_
  repeat' (first | refine hold_ (g ?_) | (refine hKK _ (g ?_); clear hKK KK) | exact trivial)
  refine AW.freeze 1800 _ rfl ⟨trivial, trivial, trivial, trivial, trivial⟩ ?_
  simp only [go_sem, reduceIte, Nat.reduceEqDiff]
  refine g ?_
  repeat' (first | refine st_ rfl (g ?_) | refine hold_ (g ?_) | exact trivial | refine cond_d (fun h => g ?_) (fun h => g ?_) | refine cond_ (fun h => g ?_) (fun h => g ?_) | (refine hKD _ _ ⟨rfl, g ?_⟩; clear hKD KD) | ((first | refine vops_ifd rfl rfl (fun h e => ?_) (fun h e => ?_) | refine vdraw_ifd rfl rfl (fun h e => ?_) (fun h e => ?_)) <;> simp only [e] <;> clear e <;> refine g ?_) | ((first | refine vops_if rfl rfl (fun h => ?_) (fun h => ?_) | refine vdraw_if rfl rfl (fun h => ?_) (fun h => ?_)) <;> simp only [h] <;> refine g ?_) | refine ix_ (by omega) (g ?_))
  ·rw [if_neg h] at hR
   exact write_no hR.symm
  rw [if_pos (by simpa using h)] at hR
  refine g ?_
  repeat' (first | refine st_ rfl (g ?_) | refine hold_ (g ?_) | exact trivial | refine cond_d (fun h => g ?_) (fun h => g ?_) | refine cond_ (fun h => g ?_) (fun h => g ?_) | (refine hKD _ _ ⟨rfl, g ?_⟩; clear hKD KD) | ((first | refine vops_ifd rfl rfl (fun h e => ?_) (fun h e => ?_) | refine vdraw_ifd rfl rfl (fun h e => ?_) (fun h e => ?_)) <;> simp only [e] <;> clear e <;> refine g ?_) | ((first | refine vops_if rfl rfl (fun h => ?_) (fun h => ?_) | refine vdraw_if rfl rfl (fun h => ?_) (fun h => ?_)) <;> simp only [h] <;> refine g ?_) | refine ix_ (by omega) (g ?_) | refine call_ (htk) rfl (g ?_) | refine call_ (hbo) rfl (g ?_))
  ·rename_i hb
   rw [if_pos hb, if_neg (by decide), if_neg h] at hR
   exact write_no hR.symm
  ·rename_i hb
   rw [if_pos hb, if_neg (by decide), if_pos (by simpa using h)] at hR
   subst hR
   refine AW.freeze 1900 _ rfl ⟨trivial, trivial, trivial, trivial, hyr, trivial⟩ ?_
   simp only [go_sem, reduceIte, Nat.reduceEqDiff]
   refine AW.drawn (ds := [100, 101, 14]) (fin := [2, 3]) (bs := [2, 2, 2, 3, 4]) [⟨[], [], [0, 1], [], 0⟩, ⟨[], [], [0], [], 0⟩, ⟨[(100, 0)], [], [], [1], 1⟩, ⟨[(101, 1)], [], [], [0], 1⟩, ⟨[], [], [], [], 0⟩] (by kernel_rfl) rfl (by kernel_rfl) rfl rfl rfl fun KD hKD => ?_
   refine g ?_
   repeat' (first | refine st_ rfl (g ?_) | refine hold_ (g ?_) | exact trivial | refine cond_d (fun h => g ?_) (fun h => g ?_) | refine cond_ (fun h => g ?_) (fun h => g ?_) | (refine hKD _ _ ⟨rfl, g ?_⟩; clear hKD KD) | ((first | refine vops_ifd rfl rfl (fun h e => ?_) (fun h e => ?_) | refine vdraw_ifd rfl rfl (fun h e => ?_) (fun h e => ?_)) <;> simp only [e] <;> clear e <;> refine g ?_) | ((first | refine vops_if rfl rfl (fun h => ?_) (fun h => ?_) | refine vdraw_if rfl rfl (fun h => ?_) (fun h => ?_)) <;> simp only [h] <;> refine g ?_) | refine ix_ (by omega) (g ?_))
   exact Sub1.rfl_ _
  ·rw [if_neg h] at hR
   exact write_no hR.symm
  ·omega
end Go.Proofs.YtkphfdmelfhnoaaGreatDoor
