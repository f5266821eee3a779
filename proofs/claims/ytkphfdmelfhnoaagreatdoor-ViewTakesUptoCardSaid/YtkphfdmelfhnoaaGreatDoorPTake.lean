/- A note is taken by zones (the program's). -/
import Derived.Test.YtkphfdmelfhnoaaGreatDoorRows
import Derived.Shelf.SlGeneric
import Derived.Shelf.SlSortCmp.WholeK
import Derived.Ground.SlsfProg
import Derived.Test.YtkphfdmelfhnoaaGreatDoorPStretch
import Derived.Test.YtkphfdmelfhnoaaGreatDoorPTurnRow
import Derived.Test.YtkphfdmelfhnoaaGreatDoorPSortSpan
import Derived.Test.YtkphfdmelfhnoaaGreatDoorPRefMrg
import Derived.Test.YtkphfdmelfhnoaaGreatDoorPBridge2
import Derived.Test.YtkphfdmelfhnoaaGreatDoorPTouch
import Derived.Test.YtkphfdmelfhnoaaGreatDoorPTakeLaw
import Derived.Test.YtkphfdmelfhnoaaGreatDoorPAbsArr
import Derived.Test.YtkphfdmelfhnoaaGreatDoorPPutLaw
set_option linter.all false
set_option linter.unnecessarySimpa false
set_option linter.unusedSimpArgs false
set_option linter.unusedVariables false
namespace Go.Proofs.YtkphfdmelfhnoaaGreatDoor
open Go.Proofs Go.Shelf
def sortZone_ren : Go.Shelf.Ren := ⟨fun | 6 => 222 | 15 => 246 | 14 => 245 | 28 => 261 | 29 => 262 | 20 => 253 | 21 => 254 | 22 => 255 | 23 => 256 | 24 => 257 | 25 => 258 | 26 => 259 | 27 => 260 | 46 => 273 | 47 => 274 | 48 => 275 | 49 => 276 | 50 => 277 | 57 => 282 | n => n, fun | 22 => 23 | 24 => 147 | 25 => 247 | 3 => 3 | 39 => 44 | 0 => 0 | 53 => 278 | 55 => 227 | 4 => 4 | 46 => 272 | 45 => 271 | 50 => 204 | 5 => 5 | 9 => 9 | 66 => 286 | 70 => 290 | 76 => 294 | 77 => 295 | n => n, fun | n => n⟩
theorem sortZone : Go.Proofs.SlLaysF0.n6 Tryz.prog sortZone_ren := {
 mixed := by kernel_rfl
 f6 := ⟨Tryz.f222.name, by decide, Tryz.func222.trans (congrArg some (by kernel_rfl))⟩
 f14 := ⟨Tryz.f245.name, by decide, Tryz.func245.trans (congrArg some (by kernel_rfl))⟩
 f15 := Tryz.func246.trans (congrArg some (by kernel_rfl))
 f20 := ⟨Tryz.f253.name, by decide, Tryz.func253.trans (congrArg some (by kernel_rfl))⟩
 f21 := ⟨Tryz.f254.name, by decide, Tryz.func254.trans (congrArg some (by kernel_rfl))⟩
 f22 := ⟨Tryz.f255.name, by decide, Tryz.func255.trans (congrArg some (by kernel_rfl))⟩
 f23 := ⟨Tryz.f256.name, by decide, Tryz.func256.trans (congrArg some (by kernel_rfl))⟩
 f24 := ⟨Tryz.f257.name, by decide, Tryz.func257.trans (congrArg some (by kernel_rfl))⟩
 f25 := ⟨Tryz.f258.name, by decide, Tryz.func258.trans (congrArg some (by kernel_rfl))⟩
 f26 := ⟨Tryz.f259.name, by decide, Tryz.func259.trans (congrArg some (by kernel_rfl))⟩
 f27 := ⟨Tryz.f260.name, by decide, Tryz.func260.trans (congrArg some (by kernel_rfl))⟩
 f28 := Tryz.func261.trans (congrArg some (by kernel_rfl))
 f29 := Tryz.func262.trans (congrArg some (by kernel_rfl))
 f46 := ⟨Tryz.f273.name, by decide, Tryz.func273.trans (congrArg some (by kernel_rfl))⟩
 f47 := Tryz.func274.trans (congrArg some (by kernel_rfl))
 f48 := Tryz.func275.trans (congrArg some (by kernel_rfl))
 f49 := ⟨Tryz.f276.name, by decide, Tryz.func276.trans (congrArg some (by kernel_rfl))⟩
 f50 := ⟨Tryz.f277.name, by decide, Tryz.func277.trans (congrArg some (by kernel_rfl))⟩
 f57 := ⟨Tryz.f282.name, by decide, Tryz.func282.trans (congrArg some (by kernel_rfl))⟩
 t0 := Tryz.underlying0
 a0 := Tryz.isAgg0
 z0 := Tryz.sizeOf0
 v0 := Tryz.zeroValue0
 t3 := Tryz.underlying3
 a3 := Tryz.isAgg3
 z3 := Tryz.sizeOf3
 v3 := Tryz.zeroValue3
 t4 := Tryz.underlying4
 a4 := Tryz.isAgg4
 z4 := Tryz.sizeOf4
 v4 := Tryz.zeroValue4
 t5 := Tryz.underlying5
 a5 := Tryz.isAgg5
 z5 := Tryz.sizeOf5
 v5 := Tryz.zeroValue5
 t9 := Tryz.underlying9
 a9 := Tryz.isAgg9
 z9 := Tryz.sizeOf9
 v9 := Tryz.zeroValue9
 t22 := Tryz.underlying23
 a22 := Tryz.isAgg23
 z22 := Tryz.sizeOf23
 v22 := Tryz.zeroValue23
 t25 := Tryz.underlying247
 a25 := Tryz.isAgg247
 z25 := Tryz.sizeOf247
 v25 := Tryz.zeroValue247
 t39 := Tryz.underlying44
 a39 := Tryz.isAgg44
 z39 := Tryz.sizeOf44
 v39 := Tryz.zeroValue44
 t45 := Tryz.underlying271
 a45 := Tryz.isAgg271
 z45 := Tryz.sizeOf271
 v45 := Tryz.zeroValue271
 t46 := Tryz.underlying272
 a46 := Tryz.isAgg272
 z46 := Tryz.sizeOf272
 v46 := Tryz.zeroValue272
 t50 := Tryz.underlying204
 a50 := Tryz.isAgg204
 z50 := Tryz.sizeOf204
 v50 := Tryz.zeroValue204
 t53 := Tryz.underlying278
 a53 := Tryz.isAgg278
 z53 := Tryz.sizeOf278
 v53 := Tryz.zeroValue278
 t55 := Tryz.underlying227
 a55 := Tryz.isAgg227
 z55 := Tryz.sizeOf227
 v55 := Tryz.zeroValue227
 t66 := Tryz.underlying286
 a66 := Tryz.isAgg286
 z66 := Tryz.sizeOf286
 v66 := Tryz.zeroValue286
 t70 := Tryz.underlying290
 a70 := Tryz.isAgg290
 z70 := Tryz.sizeOf290
 v70 := Tryz.zeroValue290
 t76 := Tryz.underlying294
 a76 := Tryz.isAgg294
 z76 := Tryz.sizeOf294
 v76 := Tryz.zeroValue294
 t77 := Tryz.underlying295
 a77 := Tryz.isAgg295
 z77 := Tryz.sizeOf295
 v77 := Tryz.zeroValue295 }
end Go.Proofs.YtkphfdmelfhnoaaGreatDoor
namespace Go.Proofs.YtkphfdmelfhnoaaGreatDoor
open Go.ChangeShapes Go.WideShapes Go.ChangeAt Go.RowKit
attribute [local irreducible] AW AWY vops vopsY vop vopL vdraw callW qop binQ lenQ storeQ appendQ callQ ACalls AIter
attribute [local go_sem] enZ_eq storeQ_bp storeQ_rp
theorem spI_eq (l : List Span) : spI l = .sl 2 (l.map enSp) := rfl
attribute [local go_sem] spI_eq enSp_eq
set_option maxRecDepth 100000 in
set_option maxHeartbeats 1600000 in
theorem put_call (l : List Span) (reach now : List Stamp) (z : List Zone) (hl : l.length ≤ 128) (hz : z.length ≤ 1000000) : TCalls Tryz.prog TzTab 154 [.iv (spI l), .iv (stI reach), .ip [stI now], .bp 0 0] (.tup []) [.row 1 147 3 (z.map enZ), .box 0 [.own 1]] [.row 2 147 3 ((z ++ cutZ now l reach).map enZ)] [(0, [.own 2])] [] := by
 refine TCalls.of [(3, 0)] (n := 25) (rs := []) Tryz.func154 rfl (by kernel_rfl) Tryz.ntmps154 (by kernel_rfl) (by simp) ⟨rfl, trivial⟩ rfl rfl fun hok V w0 F => ?_
 have hle : l.length ≤ 1073741824 := by omega
 obtain ⟨C, hC⟩ : ∃ C, cutZ now l reach = C := ⟨_, rfl⟩
 rw [hC]
 unfold cutZ at hC
 have hcov := vcovers_call reach now
 obtain ⟨B, hB⟩ : ∃ B, coversB reach now = B := ⟨_, rfl⟩
 rw [hB] at hcov hC
 cases B with
 | true =>
  rw [if_pos rfl] at hC
  subst hC
  rw [List.append_nil]
  refine g ?_
  repeat' (first | refine st_ rfl (g ?_) | refine call_ (hcov) rfl (g ?_))
  exact ⟨fun b => if b = 2 then 1 else b, fun _ _ _ h => h, ⟨rfl, trivial⟩, ⟨rfl, rfl, rfl⟩, by simp⟩
 | false =>
  rw [if_neg (by decide)] at hC
  refine g ?_
  repeat' (first | refine st_ rfl (g ?_) | refine call_ (hcov) rfl (g ?_))
  refine AW.loop (fun m : {m : Nat // m ≤ l.length} => ⟨[(1, .iv (stI reach)), (3, .bp 0 0), (11, .iv (spI l)), (12, .val (.int .i64 (l.length : Nat))), (13, .val (.int .i64 (m.1 : Nat)))], [.row 1 147 3 ((z ++ (l.take m.1).map fun s => (⟨s, reach⟩ : Zone)).map enZ), .box 0 [.own 1], .opq 99 F]⟩) (fun m => l.length - m.1) ⟨0, Nat.zero_le _⟩ id ⟨⟨rfl, rfl, rfl, ?_, rfl, trivial⟩, ⟨by simp; rfl, rfl, rfl, trivial⟩, by simp [idsOf, BA.id]⟩ fun ⟨m, hm⟩ => ?_
  ·simp [AV.ren, look]
  simp only
  repeat (refine AW.seq ?_)
  refine AW.reg rfl fun KK hKK => ?_
  refine g ?_
  repeat' (refine hKK _ (g ?_); clear hKK KK)
  repeat (refine AW.seq ?_)
  refine st_ rfl ?_
  refine g ?_
  refine cond_ (fun h => ?_) (fun h => ?_)
  ·have hlt : m < l.length := by have := of_decide_eq_true h; omega
   obtain ⟨-, o1, o2, -⟩ := okR_mem (by simpa [spI] using hok.1.2) (enSp l[m]) (List.mem_map_of_mem (List.getElem_mem hlt))
   refine g ?_
   repeat' refine st_ rfl (g ?_)
   refine ⟨by omega, _, get_map (List.getElem?_eq_getElem hlt), ?_⟩
   refine g ?_
   repeat' refine hold_ (g ?_)
   refine AW.freeze 800 _ rfl ⟨o1, o2, trivial⟩ ?_
   simp only [go_sem, reduceIte, Nat.reduceEqDiff]
   refine AW.drawn (ds := [17, 18, 19, 20, 21, 22, 23]) (fin := [2, 3, 4, 5]) (bs := [3, 3, 3, 3, 3, 3, 4, 5]) [⟨[], [], [0, 1, 2], [], 0⟩, ⟨[], [], [0, 1, 2], [], 0⟩, ⟨[], [], [], [], 0⟩, ⟨[(19, 2)], [], [0, 1, 2], [], 0⟩, ⟨[(18, 1), (20, 3)], [], [], [], 0⟩, ⟨[(21, 4)], [], [], [], 1⟩, ⟨[(17, 0), (22, 5)], [], [1, 2, 3], [0], 1⟩, ⟨[(23, 6)], [], [], [1], 1⟩] (by kernel_rfl) rfl (by kernel_rfl) rfl rfl rfl fun KD hKD => ?_
   refine g ?_
   repeat' refine call_ (clonestD _) rfl (g ?_)
   refine bs1 (by omega) rfl rfl rfl ⟨o1, o2, trivial, trivial⟩ ?_
   refine g ?_
   refine append_own rfl (by kernel_rfl) (by omega) (by kernel_rfl) rfl (by simp; omega) ?_
   refine g ?_
   repeat' (first | refine st_ rfl (g ?_) | (refine hKD _ _ ⟨rfl, g ?_⟩; clear hKD KD))
   refine ⟨⟨m + 1, hlt⟩, fun b => if b = 1 then 2400 else b, ⟨⟨rfl, rfl, rfl, rfl, rfl, trivial⟩, ⟨?_, rfl, rfl, trivial⟩, by simp [idsOf, BA.id]⟩, by show l.length - (m + 1) < l.length - m; omega⟩
   show some (BA.row _ _ _ _) = some (BA.row _ _ _ ((z ++ (l.take (m + 1)).map fun s => (⟨s, reach⟩ : Zone)).map enZ))
   rw [List.take_succ_eq_append_getElem hlt]
   simp only [List.map_append, List.append_assoc]
   rfl
  ·obtain rfl : m = l.length := by have := of_decide_eq_false h; omega
   refine AW.exit ?_
   simp only [reduceIte]
   rw [List.take_length, hC]
   refine g ?_
   exact ⟨.inr trivial, fun b => if b = 2 then 1 else b, fun _ _ _ h => h, ⟨rfl, trivial⟩, ⟨rfl, rfl, rfl⟩, by simp⟩
end Go.Proofs.YtkphfdmelfhnoaaGreatDoor
namespace Go.Proofs.YtkphfdmelfhnoaaGreatDoor
open Go.ChangeShapes Go.WideShapes Go.ChangeAt Go.RowKit Go.Sort Go.Shelf
structure ZB where
 lo : Nat
 hi : Int
 v : Value
 small : lo < 256
 one : v.oneCell' = true
instance : Inhabited ZB := ⟨⟨0, 0, .bool false, by decide, rfl⟩⟩
def encZB (b : ZB) : List Value := [.int .i64 (b.lo : Nat), .int .i64 b.hi, b.v]
def cfZB (a b : ZB) : Int := (a.lo : Int) - b.lo
theorem ltZB (a b : ZB) : ltOf cfZB a b = decide (a.lo < b.lo) := by
 unfold ltOf cfZB
 rw [decide_eq_decide]
 omega
theorem swoZB : SWO (ltOf cfZB) where
 irrefl x := by rw [ltZB]; simp
 trans x y z h1 h2 := by rw [ltZB] at *; simp at *; omega
 ntrans x y z h1 h2 := by rw [ltZB] at *; simp at *; omega
theorem joined1 (x y : ZB) (W : World) : Calls Tryz.prog 223 #[.agg #[.int .i64 (x.lo : Nat), .int .i64 x.hi, x.v], .agg #[.int .i64 (y.lo : Nat), .int .i64 y.hi, y.v]] W fun e w' => e = .returned (.int .i64 (cfZB x y)) ∧ ∃ q os', w' = grow (W.drewN q) os' := by
 obtain ⟨a, b, u, ha, hu⟩ := x
 obtain ⟨c, d, v, hc, hv⟩ := y
 unfold cfZB
 simp only
 go_enter Tryz.func223, Tryz.ntmps223
 go_wp2_with fail
 go_ret
 exact ⟨rfl, 0, _, by rw [alloc_eq_grow, alloc_eq_grow, grow_grow]; rfl⟩
def RelZ (X : World) : List Zone → List ZB → Prop
 | [], [] => True
 | z :: l, b :: d => ((b.lo : Int) = z.span.lo ∧ b.hi = z.span.hi ∧ I64 z.span.hi ∧ RepV X b.v (stI z.vec)) ∧ RelZ X l d
 | _, _ => False
theorem relZ_of {X : World} : ∀ {l : List Zone} {xs : List Value}, (∀ z ∈ l, 0 ≤ z.span.lo ∧ z.span.lo ≤ 255) → Chunks (RepVs X) 3 xs (l.map enZ) → ∃ d, Chunks (EncR encZB) 3 xs d ∧ RelZ X l d
 | [], xs, _, h => ⟨[], h, trivial⟩
 | z :: l, xs, hz, ⟨cs, rest, e, hk, h1, h2⟩ => by
  obtain ⟨d, h3, h4⟩ := relZ_of (fun y hy => hz y (by simp [hy])) h2
  have hz0 := hz z (by simp)
  match cs, h1 with
  | [c0, c1, c2], ⟨q0, q1, q2, _⟩ =>
   cases q0 with | val i0 => cases q1 with | val i1 =>
   refine ⟨⟨z.span.lo.toNat, z.span.hi, c2, by omega, q2.one⟩ :: d, ⟨_, rest, e, hk, ?_, h3⟩, ⟨by show ((z.span.lo.toNat : Nat) : Int) = _; omega, rfl, i1, q2⟩, h4⟩
   show _ = encZB _
   unfold encZB
   simp only
   rw [show ((z.span.lo.toNat : Nat) : Int) = z.span.lo by omega]
theorem relZ_back {X : World} : ∀ {l : List Zone} {d : List ZB} {xs : List Value}, RelZ X l d → Chunks (EncR encZB) 3 xs d → Chunks (RepVs X) 3 xs (l.map enZ)
 | [], [], _, _, h => h
 | z :: l, b :: d, xs, ⟨⟨e0, e1, i1, h3⟩, h4⟩, ⟨cs, rest, e, hk, h1, h2⟩ => by
  refine ⟨cs, rest, e, hk, ?_, relZ_back h4 h2⟩
  rw [show cs = encZB b from h1]
  unfold encZB
  refine ⟨?_, ?_, h3, trivial⟩
  ·rw [e0]; exact .val (by rw [← e0]; have := b.small; exact I64.of (by omega) (by omega))
  ·rw [e1]; exact .val i1
 | [], _ :: _, _, h, _ => h.elim
 | _ :: _, [], _, h, _ => h.elim
theorem relZ_len {X : World} : ∀ {l : List Zone} {d : List ZB}, RelZ X l d → l.length = d.length
 | [], [], _ => rfl
 | _ :: _, _ :: _, h => congrArg (· + 1) (relZ_len h.2)
 | [], _ :: _, h => h.elim
 | _ :: _, [], h => h.elim
theorem relZ_perm {X : World} {d d' : List ZB} (hp : d.Perm d') : ∀ {l : List Zone}, RelZ X l d → ∃ l', l.Perm l' ∧ RelZ X l' d' := by
 induction hp with
 | nil => exact fun {l} h => ⟨l, List.Perm.refl _, h⟩
 | cons x _ ih =>
  intro l h
  cases l with
  | nil => exact h.elim
  | cons z l =>
   obtain ⟨l', h1, h2⟩ := ih h.2
   exact ⟨z :: l', h1.cons z, h.1, h2⟩
 | swap x y d =>
  intro l h
  match l, h with
  | z :: u :: l, ⟨h1, h2, h3⟩ => exact ⟨u :: z :: l, List.Perm.swap _ _ _, h2, h1, h3⟩
 | trans _ _ ih1 ih2 =>
  intro l h
  obtain ⟨l', h1, h2⟩ := ih1 h
  obtain ⟨l'', h3, h4⟩ := ih2 h2
  exact ⟨l'', h1.trans h3, h4⟩
theorem relZ_lo {X : World} : ∀ {l : List Zone} {d : List ZB}, RelZ X l d → d.map (fun b => (b.lo : Int)) = l.map fun z => z.span.lo
 | [], [], _ => rfl
 | _ :: _, _ :: _, h => by rw [List.map_cons, List.map_cons, h.1.1, relZ_lo h.2]
 | [], _ :: _, h => h.elim
 | _ :: _, [], h => h.elim
theorem sorted_unique {α : Type} {k : α → Int} : ∀ {l m : List α}, l.Pairwise (fun a b => k a < k b) → m.Pairwise (fun a b => k a < k b) → (∀ x, x ∈ l ↔ x ∈ m) → l = m
 | [], [], _, _, _ => rfl
 | [], y :: m, _, _, h => by have := (h y).2 (by simp); cases this
 | x :: l, [], _, _, h => by have := (h x).1 (by simp); cases this
 | x :: l, y :: m, h1, h2, h => by
  obtain ⟨a1, a2⟩ := List.pairwise_cons.1 h1
  obtain ⟨b1, b2⟩ := List.pairwise_cons.1 h2
  have e : x = y := by
   rcases List.mem_cons.1 ((h x).1 (by simp)) with e | hx
   ·exact e
   ·rcases List.mem_cons.1 ((h y).2 (by simp)) with e | hy
    ·exact e.symm
    ·have := a1 y hy; have := b1 x hx; omega
  subst e
  congr 1
  refine sorted_unique a2 b2 fun w => ⟨fun hw => ?_, fun hw => ?_⟩
  ·rcases List.mem_cons.1 ((h w).1 (by simp [hw])) with e | h3
   ·have := a1 w hw; rw [e] at this; omega
   ·exact h3
  ·rcases List.mem_cons.1 ((h w).2 (by simp [hw])) with e | h3
   ·have := b1 w hw; rw [e] at this; omega
   ·exact h3
theorem sortz_call {l s : List Zone} (hl : ∀ z ∈ l, 0 ≤ z.span.lo ∧ z.span.lo ≤ 255) (hp : s.Perm l) (hs : s.Pairwise fun a b => a.span.lo < b.span.lo) :
  TCalls Tryz.prog TzTab 222 [.own 1, .fn 223 []] (.tup []) [.row 1 147 3 (l.map enZ)] [] [] [.row 1 147 3 (s.map enZ)] := by
 refine TCalls.keep (r := .tuple #[]) Tryz.func222 rfl (by kernel_rfl) (fun E X => .tup rfl fun j v c a b => by simp at a) fun X w E v vs base hX hbase hG h hvs => ?_
 obtain ⟨u, rfl, hu⟩ : ∃ u, vs = [u] ∧ RepA E X u (.fn 223 []) := by
  obtain ⟨u, vs', e, h1, h2⟩ := RepAs.cons_iff.1 hvs
  rw [RepAs.nil_iff.1 h2] at e
  exact ⟨u, e, h1⟩
 cases hu with
 | @fn _ fv _ p1 p2 =>
 obtain rfl : fv = #[] := Array.eq_empty_of_size_eq_zero (by simpa using p1)
 obtain ⟨xs, hown, hch, hbig⟩ := id h
 obtain ⟨d, hd1, hd2⟩ := relZ_of hl hch
 have hdl := relZ_len hd2
 have hE : OwnSl (EncR encZB) 3 w base 147 v d := ⟨xs, by rw [List.length_map] at hown; rw [← hdl]; exact hown, hd1, by rw [← hdl]; simpa using hbig⟩
 rcases hE.forms with ⟨rfl, hd0⟩ | ⟨g, c, rfl, hg1, hg2⟩
 ·have := AnyF.slices_SortFunc_none (P := Tryz.prog) (ρ := sortZone_ren) { sortZone with } none 0 (.func (.func 223) #[] #[]) w
  refine Calls.mono this ?_
  rintro e w' ⟨rfl, rfl⟩
  have hl0 : l = [] := List.eq_nil_of_length_eq_zero (by rw [hdl, hd0]; rfl)
  subst hl0
  obtain rfl : s = [] := List.Perm.eq_nil hp
  exact ⟨rfl, h, World.grownBy.refl _ _⟩
 ·have hcon := AnyQ.slices_SortFunc (P := Tryz.prog) (ρ := sortZone_ren) sortZone 3 Tryz.isAgg147 Tryz.sizeOf147 encZB (fun _ => rfl)
   (fun x v hv => by simp [encZB] at hv; rcases hv with rfl | rfl | rfl <;> first | rfl | exact x.one) cfZB swoZB 223 #[] g 0 c d.toArray w (enters_of Tryz.func223 (by kernel_rfl) rfl)
   (fun _ _ _ _ x y => joined1 x y _) (holds_own (k := 3) (fun _ => rfl) (by decide) hE) hg2 (by rw [List.length_map] at hbig; simp only [List.size_toArray]; omega)
  refine Calls.mono hcon ?_
  rintro e w' ⟨rfl, d', n, os, hp', hs', rfl⟩
  obtain ⟨p1, p2⟩ := perm_lists hp'
  have hsz : d'.size = d.length := by simpa using p2
  obtain ⟨o1, o2⟩ := sorted_own (k := 3) (enc := encZB) (fun _ => rfl) hE n d' os hsz
  have hpd : d.Perm d'.toList := by simpa using p1.symm
  obtain ⟨l', q1, q2⟩ := relZ_perm hpd hd2
  have hs2 : SortedIn (ltOf cfZB) 0 d'.size d' := by rw [p2]; exact hs'
  have hle : l'.Pairwise fun a b => a.span.lo ≤ b.span.lo := by
   have h1 : (d'.toList.map fun b => (b.lo : Int)).Pairwise (· ≤ ·) := by
    rw [List.pairwise_map]
    refine (sorted_lists hs2).imp ?_
    intro a b hab
    rw [ltZB, decide_eq_false_iff_not] at hab
    omega
   rw [relZ_lo q2, List.pairwise_map] at h1
   exact h1
  have hne : l'.Pairwise fun a b => a.span.lo ≠ b.span.lo := by
   have : s.Pairwise fun a b => a.span.lo ≠ b.span.lo := hs.imp fun h => by omega
   exact this.perm (hp.trans q1) fun h => h.symm
  have hlt : l'.Pairwise fun a b => a.span.lo < b.span.lo := (hle.and hne).imp fun h => by have := h.1; have := h.2; omega
  obtain rfl : s = l' := sorted_unique (k := fun z : Zone => z.span.lo) hs hlt fun x => (hp.mem_iff).trans q1.mem_iff
  obtain ⟨xs', r1, r2, r3⟩ := o1
  refine ⟨rfl, ⟨xs', ?_, relZ_back q2 r2, by rw [List.length_map, relZ_len q2]; exact r3⟩, o2⟩
  rw [List.length_map, relZ_len q2]
  exact r1
end Go.Proofs.YtkphfdmelfhnoaaGreatDoor
namespace Go.Proofs.YtkphfdmelfhnoaaGreatDoor
open Go.ChangeShapes Go.WideShapes Go.ChangeAt Go.RowKit
attribute [local irreducible] AW AWY vops vopsY vop vopL vdraw callW qop binQ lenQ storeQ appendQ callQ ACalls AIter
attribute [local go_sem] enZ_eq znI_eq storeQ_bp storeQ_rp
theorem apart_lt {s : List Zone} (h : Apart s) : s.Pairwise fun a b => a.span.lo < b.span.lo :=
 h.1.imp_of_mem fun {a b} ha _ hab => by
  have := (h.2 a ha).2
  simp only [zoneOk, Bool.and_eq_true, decide_eq_true_eq] at this
  omega
theorem apart_in {s : List Zone} (h : Apart s) {z : Zone} (hz : z ∈ s) : 0 ≤ z.span.lo ∧ z.span.lo ≤ z.span.hi ∧ z.span.hi ≤ 255 := by
 have := h.2 z hz
 simp only [zoneOk, Bool.and_eq_true, decide_eq_true_eq] at this
 omega
set_option maxRecDepth 100000 in
set_option maxHeartbeats 1600000 in
theorem joined_call {l s : List Zone} (hp : s.Perm l) (hA : Apart s) (hbig : s.length ≤ 1000000) : TCalls Tryz.prog TzTab 158 [.own 1] (.own 0) [.row 1 147 3 (l.map enZ)] [.row 0 147 3 ((joinZ s).map enZ)] [] [] := by
 refine TCalls.of [] (n := 59) (rs := [.tmp 2]) Tryz.func158 rfl (by kernel_rfl) Tryz.ntmps158 (by kernel_rfl) (by simp) trivial rfl rfl fun hok V w0 F => ?_
 have hl : ∀ z ∈ l, 0 ≤ z.span.lo ∧ z.span.lo ≤ 255 := fun z hz => by have := apart_in hA (hp.mem_iff.2 hz); omega
 refine g ?_
 refine AW.seq ?_
 refine AW.reg rfl fun KK hKK => ?_
 refine g ?_
 repeat' (refine hKK _ (g ?_); clear hKK KK)
 refine AW.seq ?_
 refine AW.reg rfl fun KK hKK => ?_
 refine g ?_
 refine call_t [] [.opq 99 F] id (sortz_call hl hp (apart_lt hA)) rfl rfl rfl ?_
 refine g ?_
 repeat' (refine hKK _ (g ?_); clear hKK KK)
 refine AW.freeze 1 _ rfl trivial ?_
 simp only [go_sem, reduceIte, Nat.reduceEqDiff]
 refine g ?_
 repeat' refine st_ rfl (g ?_)
 refine AW.adopt 3 9900 147 3 rfl rfl ?_
 refine AW.loop (fun m : {m : Nat // m ≤ s.length} => ⟨[(3, .own 9900), (9, .iv (znI s)), (10, .val (.int .i64 (s.length : Nat))), (11, .val (.int .i64 (m.1 : Nat)))], [.row 9900 147 3 ((joinZ (s.take m.1)).map enZ), .opq 99 F]⟩) (fun m => s.length - m.1) ⟨0, Nat.zero_le _⟩ id ⟨⟨rfl, rfl, ?_, rfl, trivial⟩, ⟨rfl, rfl, trivial⟩, by simp [idsOf, BA.id]⟩ fun ⟨m, hm⟩ => ?_
 ·simp [AV.ren, look]
 simp only
 repeat (refine AW.seq ?_)
 refine AW.reg rfl fun KK hKK => ?_
 refine g ?_
 repeat' (refine hKK _ (g ?_); clear hKK KK)
 repeat (refine AW.seq ?_)
 refine st_ rfl ?_
 refine g ?_
 refine cond_ (fun h => ?_) (fun h => ?_)
 ·have hlt : m < s.length := by have := of_decide_eq_true h; omega
  have hin := apart_in hA (List.getElem_mem hlt)
  have hj := joinZ_inv hA m hm
  have hs := joinZ_snoc (s.take m) s[m]
  rw [← List.take_succ_eq_append_getElem hlt] at hs
  obtain ⟨x, hx⟩ : ∃ x, s[m] = x := ⟨_, rfl⟩
  have hget := get_map (f := enZ) (List.getElem?_eq_getElem hlt)
  rw [hx] at hin hs hget
  obtain ⟨J, hJ⟩ : ∃ J, joinZ (s.take m) = J := ⟨_, rfl⟩
  rw [hJ] at hj hs ⊢
  have hJl : J.length ≤ m := by have := hj.len; rw [List.length_take] at this; omega
  refine g ?_
  repeat' refine st_ rfl (g ?_)
  refine ⟨by omega, _, hget, ?_⟩
  refine g ?_
  repeat' (first | refine st_ rfl (g ?_) | refine hold_ (g ?_))
  have w1 : I64 x.span.lo := I64.of (by omega) (by omega)
  have w2 : I64 x.span.hi := I64.of (by omega) (by omega)
  refine AW.freeze 600 _ rfl ⟨w1, w2, trivial, trivial⟩ ?_
  simp only [go_sem, reduceIte, Nat.reduceEqDiff]
  refine AW.drawn (ds := [17, 18, 19, 20, 21, 22, 23, 24, 25, 26, 27, 28, 29, 30, 31, 32, 33, 34, 35, 36, 37, 38, 39, 40, 41, 42, 43]) (fin := [0, 1]) (bs := [2, 2, 2, 2, 2, 2, 2, 2, 2, 2, 2, 2, 2, 2, 2, 2, 2, 2, 2, 2, 2, 2, 2, 2, 2, 2, 2]) [⟨[], [], [], [], 0⟩, ⟨[(17, 0)], [], [], [], 0⟩, ⟨[(18, 1)], [], [], [], 0⟩, ⟨[], [], [], [], 0⟩, ⟨[], [], [], [], 0⟩, ⟨[(21, 4)], [], [], [], 0⟩, ⟨[(20, 3), (22, 5)], [], [0, 1], [], 0⟩, ⟨[(23, 6)], [], [], [], 0⟩, ⟨[(24, 7)], [], [], [], 0⟩, ⟨[(25, 8)], [], [0, 1], [], 0⟩, ⟨[(26, 9)], [], [], [], 0⟩, ⟨[], [], [], [], 0⟩, ⟨[(28, 11)], [], [], [], 0⟩, ⟨[(29, 12)], [], [0, 1], [], 0⟩, ⟨[(27, 10), (30, 13)], [], [], [], 0⟩, ⟨[(19, 2), (31, 14)], [], [], [], 0⟩, ⟨[(32, 15)], [], [], [], 0⟩, ⟨[], [], [], [], 0⟩, ⟨[], [], [], [], 0⟩, ⟨[(35, 18)], [], [], [], 0⟩, ⟨[(34, 17), (36, 19)], [], [0, 1], [], 0⟩, ⟨[(37, 20)], [], [], [], 0⟩, ⟨[(38, 21)], [], [0, 1], [], 0⟩, ⟨[], [], [], [], 0⟩, ⟨[(40, 23)], [], [0, 1], [], 0⟩, ⟨[(39, 22), (41, 24)], [], [0, 1], [], 0⟩, ⟨[(33, 16), (42, 25)], [], [], [], 0⟩] (by kernel_rfl) rfl (by kernel_rfl) rfl rfl rfl fun KD hKD => ?_
  cases hy : J.getLast? with
  | none =>
   have hJ0 : J = [] := List.getLast?_eq_none_iff.1 hy
   subst hJ0
   simp only [joinStep, List.getLast?_nil] at hs
   refine g ?_
   repeat' (first | refine st_ rfl (g ?_) | (refine hKD _ _ ⟨rfl, g ?_⟩; clear hKD KD))
   refine bs1 (by omega) rfl rfl rfl ⟨w1, w2, trivial, trivial⟩ ?_
   refine g ?_
   refine append_own rfl (by kernel_rfl) (by omega) (by kernel_rfl) rfl (by simp) ?_
   refine g ?_
   repeat' refine st_ rfl (g ?_)
   refine ⟨⟨m + 1, hlt⟩, fun b => if b = 9900 then 5700 else b, ⟨⟨rfl, rfl, rfl, rfl, trivial⟩, ⟨?_, rfl, trivial⟩, by simp [idsOf, BA.id]⟩, by show s.length - (m + 1) < s.length - m; omega⟩
   show some (BA.row _ _ _ _) = some (BA.row _ _ _ ((joinZ (s.take (m + 1))).map enZ))
   rw [hs]
   rfl
  | some y =>
   obtain ⟨D, hD⟩ : ∃ D, J.dropLast = D := ⟨_, rfl⟩
   have hl2 := list_last hy
   rw [hD] at hl2
   have hyF := zonesFrom_mem hj.formed y (List.mem_of_getLast? hy)
   simp only [zoneOk, Bool.and_eq_true, decide_eq_true_eq] at hyF
   have hye := zoneEnd_in hj.formed ⟨by decide, by decide⟩
   rw [Option.or_none, hy] at hye
   simp only [zoneEnd] at hye
   simp only [joinStep, hy, hD] at hs
   have hlen : J.length = D.length + 1 := by rw [← hl2]; simp
   have hJget : J[D.length]? = some y := by rw [← hl2]; simp
   have hget2 := get_map (f := enZ) hJget
   have hcast : ((J.length : Nat) : Int) - 1 = (D.length : Nat) := by omega
   have hi : ((J.length : Int) - 1).toNat = D.length := by omega
   refine g ?_
   repeat' (refine vdraw_ifd rfl rfl (fun h e => ?_) (fun h e => ?_) <;> simp only [e] <;> clear e <;> refine g ?_)
   ·refine ⟨by omega, by omega, ?_⟩
    rw [hi]
    refine g ?_
    repeat' refine hold_ (g ?_)
    refine ⟨_, hget2, ?_⟩
    refine g ?_
    repeat' (first | refine st_ rfl (g ?_) | refine hold_ (g ?_) | (refine hKD _ _ ⟨rfl, g ?_⟩; clear hKD KD) | (refine vdraw_ifd rfl rfl (fun h e => ?_) (fun h e => ?_) <;> simp only [e] <;> clear e <;> refine g ?_))
    ·refine ⟨by omega, by omega, ?_⟩
     rw [hi]
     refine g ?_
     repeat' refine hold_ (g ?_)
     refine ⟨_, hget2, ?_⟩
     refine g ?_
     repeat' (first | refine st_ rfl (g ?_) | refine hold_ (g ?_) | refine cond_d (fun h => g ?_) (fun h => g ?_) | (refine hKD _ _ ⟨rfl, g ?_⟩; clear hKD KD) | refine call_ (eqst_call _ _) rfl (g ?_))
     ·refine ⟨by omega, by omega, ?_⟩
      rw [hi]
      refine g ?_
      repeat' refine hold_ (g ?_)
      refine ⟨_, _, rfl, ⟨w2, trivial⟩, hget2, ?_⟩
      refine g ?_
      repeat' (first | refine st_ rfl (g ?_) | refine hold_ (g ?_))
      rename_i h1
      refine ⟨⟨m + 1, hlt⟩, id, ⟨⟨rfl, rfl, rfl, rfl, trivial⟩, ⟨?_, rfl, trivial⟩, by simp [idsOf, BA.id]⟩, by show s.length - (m + 1) < s.length - m; omega⟩
      show some (BA.row _ _ _ _) = some (BA.row _ _ _ ((joinZ (s.take (m + 1))).map enZ))
      rw [hs, if_pos ⟨h1, h⟩, ← hl2, List.map_append, List.map_append, List.set_append_right _ _ (by simp)]
      simp
      rfl
     ·refine bs1 (by omega) rfl rfl rfl ⟨w1, w2, trivial, trivial⟩ ?_
      refine g ?_
      refine append_own rfl (by kernel_rfl) (by omega) (by kernel_rfl) rfl (by simp; omega) ?_
      refine g ?_
      repeat' refine st_ rfl (g ?_)
      refine ⟨⟨m + 1, hlt⟩, fun b => if b = 9900 then 5700 else b, ⟨⟨rfl, rfl, rfl, rfl, trivial⟩, ⟨?_, rfl, trivial⟩, by simp [idsOf, BA.id]⟩, by show s.length - (m + 1) < s.length - m; omega⟩
      show some (BA.row _ _ _ _) = some (BA.row _ _ _ ((joinZ (s.take (m + 1))).map enZ))
      rw [hs, if_neg (fun q => h q.2), List.map_append]
      rfl
    ·refine bs1 (by omega) rfl rfl rfl ⟨w1, w2, trivial, trivial⟩ ?_
     refine g ?_
     refine append_own rfl (by kernel_rfl) (by omega) (by kernel_rfl) rfl (by simp; omega) ?_
     refine g ?_
     repeat' refine st_ rfl (g ?_)
     refine ⟨⟨m + 1, hlt⟩, fun b => if b = 9900 then 5700 else b, ⟨⟨rfl, rfl, rfl, rfl, trivial⟩, ⟨?_, rfl, trivial⟩, by simp [idsOf, BA.id]⟩, by show s.length - (m + 1) < s.length - m; omega⟩
     show some (BA.row _ _ _ _) = some (BA.row _ _ _ ((joinZ (s.take (m + 1))).map enZ))
     rw [hs, if_neg (fun q => h q.1), List.map_append]
     rfl
   ·omega
 ·obtain rfl : m = s.length := by have := of_decide_eq_false h; omega
  refine AW.exit ?_
  simp only [reduceIte]
  rw [List.take_length]
  refine g ?_
  repeat' refine st_ rfl (g ?_)
  exact ⟨fun b => if b = 0 then 9900 else b, fun _ _ _ h => h, trivial, ⟨rfl, rfl⟩, by simp⟩
end Go.Proofs.YtkphfdmelfhnoaaGreatDoor
namespace Go.Proofs.YtkphfdmelfhnoaaGreatDoor
open Go.ChangeShapes Go.WideShapes Go.ChangeAt Go.RowKit
attribute [local irreducible] AW AWY vops vopsY vop vopL vdraw callW qop binQ lenQ storeQ appendQ callQ ACalls AIter
attribute [local go_sem] wrI_eq noteA_eq storeQ_bp storeQ_rp
theorem smeet_D (l m : List Span) : ACalls Tryz.prog TzTab 119 [.iv (spI l), .iv (spI m)] (.iv (spI (meetS2 l m))) [] := (smeet_call l m).frz trivial
end Go.Proofs.YtkphfdmelfhnoaaGreatDoor
namespace Go.Proofs.YtkphfdmelfhnoaaGreatDoor
open Go.ChangeShapes Go.WideShapes Go.ChangeAt Go.RowKit
attribute [local irreducible] AW AWY vops vopsY vop vopL vdraw callW qop binQ lenQ storeQ appendQ callQ ACalls AIter
attribute [local go_sem] storeQ_bp storeQ_rp
attribute [local go_sem] spI_eq enSp_eq
def gapS (n : Int) (s : Span) : List Span := if n < s.lo then [⟨n, s.lo - 1⟩] else []
def restF (n : Int) : List Span → List Span × Int
 | [] => ([], n)
 | s :: l => (gapS n s ++ (restF (s.hi + 1) l).1, (restF (s.hi + 1) l).2)
theorem restF_snoc : ∀ (l : List Span) (n : Int) (s : Span), restF n (l ++ [s]) = ((restF n l).1 ++ gapS (restF n l).2 s, s.hi + 1)
 | [], n, s => by simp [restF]
 | t :: l, n, s => by rw [List.cons_append, restF, restF_snoc l]; simp [restF]
def tailS (n : Int) : List Span := if n ≤ 255 then [⟨n, 255⟩] else []
theorem restF_all : ∀ (l : List Span) (n : Int), restL n l = (restF n l).1 ++ tailS (restF n l).2
 | [], n => by rw [restL, restF, tailS, List.nil_append]
 | s :: l, n => by rw [restL, restF, restF_all l]; simp [gapS]
theorem restF_len : ∀ (l : List Span) (n : Int), (restF n l).1.length ≤ l.length
 | [], n => Nat.le_refl _
 | s :: l, n => by
  have := restF_len l (s.hi + 1)
  have h2 : (gapS n s).length ≤ 1 := by unfold gapS; split <;> simp
  rw [restF, List.length_append, List.length_cons]
  omega
def restS (l : List Span) : List Span := ofSet fun o => !memB l o
set_option maxRecDepth 100000 in
set_option maxHeartbeats 800000 in
theorem srest_call (l : List Span) : ACalls Tryz.prog TzTab 185 [.iv (spI l)] (.iv (spI (restS l))) [] := by
 refine ACalls.ofS (n := 38) (rs := [.tmp 2]) Tryz.func185 rfl (by kernel_rfl) Tryz.ntmps185 (by kernel_rfl) (by simp) (fun _ _ => TzTab.later) ?_
 intro hok V w0
 obtain ⟨T, hT⟩ : ∃ T, tidyS l = T := ⟨_, rfl⟩
 have hin : ∀ s ∈ T, 0 ≤ s.lo ∧ s.lo ≤ s.hi ∧ s.hi ≤ 255 := fun s hs => by
  have := formed_all (e := -2) (by rw [← hT]; exact ofSet_formed _) s hs
  omega
 have hTl : T.length ≤ 128 := by rw [← hT]; exact ofSet_len _
 have hres : restS l = (restF 0 T).1 ++ tailS (restF 0 T).2 := by rw [← restF_all, ← hT, restL_tidy]; rfl
 have hst := stidyD l
 rw [hT] at hst
 rw [hres]
 refine g ?_
 repeat' (first | refine st_ rfl (g ?_) | refine call_ (hst) rfl (g ?_))
 refine AW.adopt 3 9900 78 2 rfl rfl ?_
 refine AW.loop (fun m : {m : Nat // m ≤ T.length ∧ 0 ≤ (restF 0 (T.take m)).2 ∧ (restF 0 (T.take m)).2 ≤ 256} => ⟨[(3, .own 9900), (4, .val (.int .i64 (restF 0 (T.take m.1)).2)), (8, .iv (spI T)), (9, .val (.int .i64 (T.length : Nat))), (10, .val (.int .i64 (m.1 : Nat)))], [.row 9900 78 2 ((restF 0 (T.take m.1)).1.map enSp)]⟩) (fun m => T.length - m.1) ⟨0, Nat.zero_le _, by simp [restF], by simp [restF]⟩ id ⟨⟨rfl, rfl, rfl, ?_, rfl, trivial⟩, ⟨rfl, trivial⟩, by simp [idsOf, BA.id]⟩ fun ⟨m, hm, h0, h1⟩ => ?_
 ·simp [AV.ren, look]
 simp only
 have hl1 := restF_len (T.take m) 0
 rw [List.length_take] at hl1
 obtain ⟨fr, hfr⟩ : ∃ fr, (restF 0 (T.take m)).2 = fr := ⟨_, rfl⟩
 obtain ⟨O, hO⟩ : ∃ O, (restF 0 (T.take m)).1 = O := ⟨_, rfl⟩
 simp only [hfr, hO] at h0 h1 hl1 ⊢
 repeat (refine AW.seq ?_)
 refine AW.reg rfl fun KK hKK => ?_
 refine g ?_
 repeat' (refine hKK _ (g ?_); clear hKK KK)
 repeat (refine AW.seq ?_)
 refine st_ rfl ?_
 refine g ?_
 refine cond_ (fun h => ?_) (fun h => ?_)
 ·have hlt : m < T.length := by have := of_decide_eq_true h; omega
  obtain ⟨x, hx⟩ : ∃ x, T[m] = x := ⟨_, rfl⟩
  have hi := hin x (hx ▸ List.getElem_mem hlt)
  have hget := get_map (f := enSp) (List.getElem?_eq_getElem hlt)
  have hs := restF_snoc (T.take m) 0 T[m]
  rw [← List.take_succ_eq_append_getElem hlt, hfr, hO] at hs
  rw [hx] at hs hget
  have w1 : I64 x.lo := I64.of (by omega) (by omega)
  have w2 : I64 x.hi := I64.of (by omega) (by omega)
  have w3 : I64 fr := I64.of (by omega) (by omega)
  have w4 : I64 (x.lo - 1) := I64.of (by omega) (by omega)
  refine g ?_
  repeat' refine st_ rfl (g ?_)
  refine ⟨by omega, _, hget, ?_⟩
  refine g ?_
  repeat' (first | refine st_ rfl (g ?_) | refine hold_ (g ?_) | refine cond_d (fun h => g ?_) (fun h => g ?_))
  ·refine bs1 (by omega) rfl rfl rfl ⟨w3, w4, trivial⟩ ?_
   refine g ?_
   refine append_own rfl (by kernel_rfl) (by omega) (by kernel_rfl) rfl (by simp; omega) ?_
   refine g ?_
   repeat' refine st_ rfl (g ?_)
   refine ⟨⟨m + 1, hlt, by rw [hs]; show 0 ≤ x.hi + 1; omega, by rw [hs]; show x.hi + 1 ≤ 256; omega⟩, fun b => if b = 9900 then 2600 else b, ⟨⟨rfl, by rw [hs]; rfl, rfl, rfl, rfl, trivial⟩, ⟨?_, trivial⟩, by simp [idsOf, BA.id]⟩, by show T.length - (m + 1) < T.length - m; omega⟩
   rw [hs, gapS, if_pos h, List.map_append]
   rfl
  ·refine ⟨⟨m + 1, hlt, by rw [hs]; show 0 ≤ x.hi + 1; omega, by rw [hs]; show x.hi + 1 ≤ 256; omega⟩, id, ⟨⟨rfl, by rw [hs]; rfl, rfl, rfl, rfl, trivial⟩, ⟨?_, trivial⟩, by simp [idsOf, BA.id]⟩, by show T.length - (m + 1) < T.length - m; omega⟩
   rw [hs, gapS, if_neg h, List.append_nil]
   rfl
 ·obtain rfl : m = T.length := by have := of_decide_eq_false h; omega
  rw [List.take_length] at hfr hO
  have w3 : I64 fr := I64.of (by omega) (by omega)
  refine AW.exit ?_
  simp only [reduceIte, hfr, hO]
  unfold tailS
  repeat (refine AW.seq ?_)
  refine AW.reg rfl fun KK hKK => ?_
  refine g ?_
  repeat' (refine hKK _ (g ?_); clear hKK KK)
  repeat (refine AW.seq ?_)
  refine st_ rfl ?_
  refine g ?_
  refine cond_d (fun h => ?_) (fun h => ?_)
  ·rw [if_pos h]
   refine g ?_
   repeat' refine st_ rfl (g ?_)
   refine bs1 (by omega) rfl rfl rfl ⟨w3, rfl, trivial⟩ ?_
   refine g ?_
   refine append_own rfl (by kernel_rfl) (by omega) (by kernel_rfl) rfl (by simp; omega) ?_
   refine g ?_
   refine AW.freeze 3700 _ rfl trivial ?_
   simp only [go_sem, reduceIte, Nat.reduceEqDiff]
   refine g ?_
   repeat' refine st_ rfl (g ?_)
   rw [List.map_append]
   exact Sub1.rfl_ _
  ·rw [if_neg h, List.append_nil]
   refine AW.freeze 9900 _ rfl trivial ?_
   simp only [go_sem, reduceIte, Nat.reduceEqDiff]
   refine g ?_
   repeat' refine st_ rfl (g ?_)
   exact Sub1.rfl_ _
theorem sless_D (l m : List Span) : ACalls Tryz.prog TzTab 115 [.iv (spI l), .iv (spI m)] (.iv (spI (lessS2 l m))) [] := by
 have he : lessS2 l m = meetS2 l (restS m) := by
  unfold lessS2 meetS2 restS
  exact ofSet_congr fun o ho => by rw [memB_ofSet _ ho]
 rw [he]
 refine ACalls.of (n := 9) (rs := [.tmp 4]) Tryz.func115 rfl (by kernel_rfl) Tryz.ntmps115 (by kernel_rfl) (by simp) (fun _ _ => TzTab.later) ?_
 intro hok V w0
 refine g ?_
 repeat' (first | refine st_ rfl (g ?_) | exact trivial | refine call_ (srest_call _) rfl (g ?_) | refine call_ (smeet_D _ _) rfl (g ?_))
end Go.Proofs.YtkphfdmelfhnoaaGreatDoor
namespace Go.Proofs.YtkphfdmelfhnoaaGreatDoor
open Go.ChangeShapes Go.WideShapes Go.ChangeAt Go.RowKit
attribute [local irreducible] AW AWY vops vopsY vop vopL vdraw callW qop binQ lenQ storeQ appendQ callQ ACalls AIter
attribute [local go_sem] wrI_eq enW_eq noteA_eq storeQ_bp storeQ_rp
theorem sof_D (os : List Int) : ACalls Tryz.prog TzTab 157 [.iv (inI os)] (.iv (spI (tidyS (dots os)))) [] := (sof_call os).frz trivial
def enI (n : Int) : List IV := [.val (.int .i64 n)]
end Go.Proofs.YtkphfdmelfhnoaaGreatDoor
namespace Go.Proofs.YtkphfdmelfhnoaaGreatDoor
open Go.ChangeShapes Go.WideShapes Go.ChangeAt Go.RowKit
attribute [local irreducible] AW AWY vops vopsY vop vopL vdraw callW qop binQ lenQ storeQ appendQ callQ ACalls AIter
attribute [local go_sem] enZ_eq znI_eq noteA_eq wrI_eq enW_eq storeQ_bp storeQ_rp
theorem vjoinD (ls : List (List Stamp)) : ACalls Tryz.prog TzTab 153 [.iv (stsI ls)] (.iv (stI (joinS ls))) [] := (vjoin_call ls).frz trivial
theorem sjoinD (ls : List (List Span)) (hs : sumSpan ls ≤ 1073741824) : ACalls Tryz.prog TzTab 118 [.iv (spsI ls)] (.iv (spI (tidyS ls.flatten))) [] := (sjoin_call ls hs).frz trivial
theorem cutZ_len (now : List Stamp) (l : List Span) (v : List Stamp) : (cutZ now l v).length ≤ l.length := by unfold cutZ; split <;> simp
theorem pieceZ_len (n : Note) (now : List Stamp) (x : Zone) : (pieceZ n now x).length ≤ 256 := by
 unfold pieceZ
 rw [List.length_append]
 have h1 := cutZ_len now (meetS2 [x.span] (staysS n (farS x.vec n))) x.vec
 have h2 := cutZ_len now (lessS2 [x.span] (staysS n (farS x.vec n))) (farS x.vec n)
 have h3 : (meetS2 [x.span] (staysS n (farS x.vec n))).length ≤ 128 := ofSet_len _
 have h4 : (lessS2 [x.span] (staysS n (farS x.vec n))).length ≤ 128 := ofSet_len _
 omega
theorem takeL_len (n : Note) (now : List Stamp) : ∀ l : List Zone, (takeL n now l).length ≤ 256 * l.length
 | [] => Nat.le_refl _
 | x :: l => by
  have h1 := takeL_len n now l
  have h2 := pieceZ_len n now x
  have : takeL n now (x :: l) = pieceZ n now x ++ takeL n now l := by simp [takeL]
  rw [this, List.length_append, List.length_cons]
  omega
theorem stay_len {n : Note} (h : noteFormed n = true) (far : List Stamp) : ∀ m, ((n.writes.take m).foldl (stayStep far) n.blur).length ≤ 128 := by
 intro m
 have : ∀ (l : List Write) (s : List Span), s.length ≤ 128 → (l.foldl (stayStep far) s).length ≤ 128 := by
  intro l
  induction l with
  | nil => exact fun s hs => hs
  | cons w l ih =>
   intro s hs
   refine ih _ ?_
   unfold stayStep
   split
   ·exact hs
   ·exact ofSet_len _
 exact this _ _ ((spanFormed_iff _).1 (noteFormed_iff.1 h).2.2.2.1).1
theorem take_no {q : List Zone × List Stamp × Int} {e : Int} (h : q = ([], [], e)) : Sub1 (.tup [.val (.slice none 0 0), .val (.slice none 0 0), .val (.int .i64 e)]) (.tup [.iv (znI q.1), .iv (stI q.2.1), .val (.int .i64 q.2.2)]) := by
 subst h
 refine tup_sub rfl fun p hp => ?_
 simp only [List.zip_cons_cons, List.zip_nil_right, List.mem_cons, List.not_mem_nil, or_false] at hp
 rcases hp with rfl | rfl | rfl
 ·exact nil_sub 3
 ·exact nil_sub 2
 ·exact Sub1.rfl_ _
set_option maxRecDepth 100000 in
set_option maxHeartbeats 3200000 in
theorem ttake_call (z : List Zone) (known : List Stamp) (n : Note) : ACalls Tryz.prog TzTab 69 [.iv (znI z), .iv (stI known), noteA n] (.tup [.iv (znI (takeZ z known n).1), .iv (stI (takeZ z known n).2.1), .val (.int .i64 (takeZ z known n).2.2)]) [] := by
 refine ACalls.ofS (n := 90) (rs := [.tmp 6, .tmp 7, .tmp 8]) Tryz.func69 rfl (by kernel_rfl) Tryz.ntmps69 (by kernel_rfl) (by simp) (fun _ _ => TzTab.later) ?_
 intro hok V w0
 obtain ⟨R, hR⟩ : ∃ R, takeZ z known n = R := ⟨_, rfl⟩
 rw [hR]
 unfold takeZ takeOk at hR
 have hwl : n.writes.length ≤ 1073741824 := by simpa [wrI] using hok.2.2.1.2.2.2.1.1
 refine g ?_
 refine AW.seq ?_
 refine AW.reg rfl fun KK hKK => ?_
 refine g ?_
 repeat' (refine hKK _ (g ?_); clear hKK KK)
 refine AW.freeze 600 _ rfl ⟨trivial, trivial, trivial, trivial, trivial⟩ ?_
 simp only [go_sem, reduceIte, Nat.reduceEqDiff]
 refine g ?_
 repeat' (first | refine st_ rfl (g ?_) | refine cond_ (fun h => g ?_) (fun h => g ?_) | (refine vops_if rfl rfl (fun h => ?_) (fun h => ?_) <;> simp only [h] <;> refine g ?_) | refine call_ (zformed_call _) rfl (g ?_) | refine call_ (vformed_call _) rfl (g ?_) | refine call_ (nformed_call _) rfl (g ?_) | refine call_ (nfits_call _ _) rfl (g ?_))
 ·rw [if_neg (by simp at h; simp [h])] at hR
  exact take_no hR.symm
 ·rw [if_neg (by simp at h; simp [h])] at hR
  exact take_no hR.symm
 ·rw [if_neg (by simp at h; simp [h])] at hR
  exact take_no hR.symm
 ·rename_i h1 h2 h3
  rw [if_pos (by simp at *; simp [*]), if_neg (by simp at h; simp [h])] at hR
  exact take_no hR.symm
 rename_i h1 h2 h3
 have hz : zonesFormed z = true := by simpa using h1
 have hk : vecFormed known = true := by simpa using h2
 have hn : noteFormed n = true := by simpa using h3
 rw [if_pos (by simp [hz, hk, hn]), if_pos (by simpa using h)] at hR
 refine bd2 (by omega) rfl rfl rfl ⟨trivial, trivial⟩ rfl rfl rfl ⟨trivial, trivial⟩ ?_
 refine g ?_
 refine call_ (vjoinD [known, n.end_]) rfl ?_
 refine g ?_
 refine AW.freeze 1000 _ rfl ⟨trivial, trivial⟩ ?_
 simp only [go_sem, reduceIte, Nat.reduceEqDiff]
 refine g ?_
 repeat' (first | refine st_ rfl (g ?_) | refine call_ (pieces_call _ _) rfl (g ?_))
 obtain ⟨now, hnow⟩ : ∃ now, joinS [known, n.end_] = now := ⟨_, rfl⟩
 have hkt : knownThen known n = now := hnow
 rw [hnow]
 rw [hkt] at hR
 obtain ⟨Z, hZ⟩ : ∃ Z, zonesOf (zonesThen z known n) = Z := ⟨_, rfl⟩
 rw [hZ] at hR
 subst hR
 simp only
 have hpin := pieces_in hz hk
 have hzl : z.length ≤ 256 := by
  have : (z.length : Int) ≤ 255 - -1 := zones_len hz (by decide)
  omega
 refine AW.adoptB 1100 9900 147 3 rfl rfl ?_
 refine AW.le (S := ⟨[(10, .bp 1100 0), (11, .bp 1200 0), (5, .ip [stI n.start, stI n.end_, spI n.blur, wrI n.writes]), (9, .ip [stI now]), (43, .fn 221 [.ip [znI z], .ip [stI known]])], [.row 9900 147 3 ((takeL n now []).map enZ), .box 1100 [.own 9900], .box 1200 [.fn 154 [.ip [stI now], .bp 1100 0]]]⟩) (ρ := id) ⟨⟨rfl, rfl, rfl, rfl, rfl, trivial⟩, ⟨rfl, rfl, rfl, trivial⟩, by simp [idsOf, BA.id]⟩ ?_
 refine AW.range (pieces_iter z known hz) [(10, .bp 1100 0), (11, .bp 1200 0)] [(5, .ip [stI n.start, stI n.end_, spI n.blur, wrI n.writes]), (9, .ip [stI now]), (43, .fn 221 [.ip [znI z], .ip [stI known]])] (fun pre => [.row 9900 147 3 ((takeL n now pre).map enZ), .box 1100 [.own 9900], .box 1200 [.fn 154 [.ip [stI now], .bp 1100 0]]]) (fun _ => True) rfl trivial rfl rfl rfl rfl (fun x => ⟨rfl, rfl⟩) (fun c pre x hsp hI => ?_) (fun xs hS hI => ?_)
 ·have hl := hsp.length_le
  have hl2 := pieces_len z known
  rw [List.length_append, List.length_singleton] at hl
  have hx := hpin x (hsp.subset (by simp))
  have htl := takeL_len n now pre
  have w1 : I64 x.span.lo := i64_litS (by simp; omega)
  have w2 : I64 x.span.hi := i64_litS (by simp; omega)
  have hsn := takeL_snoc n now pre x
  simp only [parF, enZo, zoA, List.cons_append, List.nil_append]
  refine g ?_
  refine AW.reg rfl fun KK hKK => ?_
  refine g ?_
  repeat' (refine hKK _ (g ?_); clear hKK KK)
  refine AW.freeze 1300 _ rfl ⟨w1, w2, trivial, trivial⟩ ?_
  simp only [go_sem, reduceIte, Nat.reduceEqDiff]
  refine g ?_
  repeat' refine st_ rfl (g ?_)
  refine bd1 (by omega) rfl rfl rfl ⟨w1, w2, trivial⟩ ?_
  refine g ?_
  repeat' (first | refine st_ rfl (g ?_) | refine call_ (stretched_call x.vec n hx.2) rfl (g ?_))
  obtain ⟨far, hfar⟩ : ∃ far, farS x.vec n = far := ⟨_, rfl⟩
  have hsl := stay_len hn far
  have hst : staysS n (farS x.vec n) = (n.writes.take n.writes.length).foldl (stayStep far) n.blur := by rw [hfar, List.take_length]; rfl
  rw [hfar]
  refine AW.loop (fun m : {m : Nat // m ≤ n.writes.length} => ⟨[(10, .bp 1100 0), (11, .bp 1200 0), (12, .ip [.val (.int .i64 x.span.lo), .val (.int .i64 x.span.hi), stI x.vec]), (13, .iv (spI [x.span])), (14, .iv (stI far)), (15, .iv (spI ((n.writes.take m.1).foldl (stayStep far) n.blur))), (55, .iv (wrI n.writes)), (56, .val (.int .i64 (n.writes.length : Nat))), (57, .val (.int .i64 (m.1 : Nat)))], [.row 9900 147 3 ((takeL n now pre).map enZ), .box 1100 [.own 9900], .box 1200 [.fn 154 [.ip [stI now], .bp 1100 0]]]⟩) (fun m => n.writes.length - m.1) ⟨0, Nat.zero_le _⟩ id ⟨⟨rfl, rfl, rfl, rfl, rfl, rfl, rfl, ?_, rfl, trivial⟩, ⟨rfl, rfl, rfl, trivial⟩, by simp [idsOf, BA.id]⟩ fun ⟨m, hm⟩ => ?_
  ·simp [AV.ren, look]
  simp only
  repeat (refine AW.seq ?_)
  refine AW.reg rfl fun KK hKK => ?_
  refine g ?_
  repeat' (refine hKK _ (g ?_); clear hKK KK)
  repeat (refine AW.seq ?_)
  refine st_ rfl ?_
  refine g ?_
  refine cond_ (fun h => ?_) (fun h => ?_)
  ·have hlt : m < n.writes.length := by have := of_decide_eq_true h; omega
   have hget := get_map (f := enW) (List.getElem?_eq_getElem hlt)
   obtain ⟨-, o1, o2, o3, -⟩ := okR_mem (by simpa [wrI] using hok.2.2.1.2.2.2.1.2) (enW n.writes[m]) (List.mem_map_of_mem (List.getElem_mem hlt))
   have hs := List.foldl_append (f := stayStep far) (b := n.blur) (l := n.writes.take m) (l' := [n.writes[m]])
   rw [← List.take_succ_eq_append_getElem hlt] at hs
   have hsm := hsl m
   obtain ⟨S, hS⟩ : ∃ S, (n.writes.take m).foldl (stayStep far) n.blur = S := ⟨_, rfl⟩
   rw [hS] at hs hsm ⊢
   simp only [List.foldl_cons, List.foldl_nil, stayStep] at hs
   refine g ?_
   repeat' (first | refine st_ rfl (g ?_) | refine cond_ (fun h => g ?_) (fun h => g ?_) | refine ix_ (by omega) (g ?_) | refine call_ (vhas_call far n.writes[m].stamp) rfl (g ?_))
   ·obtain ⟨o, ho⟩ : ∃ o, n.writes[m].object = o := ⟨_, rfl⟩
    rw [ho] at hs ⊢
    have o3 : I64 o := by rw [← ho]; exact o3
    refine bd1 (by omega) rfl rfl rfl ⟨o3, trivial⟩ ?_
    refine g ?_
    repeat' refine call_ (sof_D [o]) rfl (g ?_)
    obtain ⟨T, hT⟩ : ∃ T, tidyS (dots [o]) = T := ⟨_, rfl⟩
    have hTl : T.length ≤ 128 := by rw [← hT]; exact ofSet_len _
    rw [hT] at hs ⊢
    refine bd2 (by omega) rfl rfl rfl ⟨trivial, trivial⟩ rfl rfl rfl ⟨trivial, trivial⟩ ?_
    refine g ?_
    repeat' (first | refine st_ rfl (g ?_) | refine call_ (sjoinD [S, T] (by simp [sumSpan]; omega)) rfl (g ?_))
    refine ⟨⟨m + 1, hlt⟩, id, ⟨⟨rfl, rfl, rfl, rfl, rfl, ?_, rfl, rfl, rfl, trivial⟩, ⟨rfl, rfl, rfl, trivial⟩, by simp [idsOf, BA.id]⟩, by show n.writes.length - (m + 1) < n.writes.length - m; omega⟩
    show _ = AV.iv (spI _)
    rw [hs, if_neg (by simpa using h)]
    simp
    rfl
   ·refine ⟨⟨m + 1, hlt⟩, id, ⟨⟨rfl, rfl, rfl, rfl, rfl, ?_, rfl, rfl, rfl, trivial⟩, ⟨rfl, rfl, rfl, trivial⟩, by simp [idsOf, BA.id]⟩, by show n.writes.length - (m + 1) < n.writes.length - m; omega⟩
    show _ = AV.iv (spI _)
    rw [hs, if_pos (by simpa using h)]
    rfl
  ·obtain rfl : m = n.writes.length := by have := of_decide_eq_false h; omega
   refine AW.exit ?_
   simp only [reduceIte]
   rw [← hst]
   have hp1 := put_call (meetS2 [x.span] (staysS n (farS x.vec n))) x.vec now (takeL n now pre) (ofSet_len _) (by omega)
   obtain ⟨Z1, hZ1⟩ : ∃ Z1, takeL n now pre ++ cutZ now (meetS2 [x.span] (staysS n (farS x.vec n))) x.vec = Z1 := ⟨_, rfl⟩
   have hZl : Z1.length ≤ 256 * pre.length + 128 := by
    rw [← hZ1, List.length_append]
    have h1 := cutZ_len now (meetS2 [x.span] (staysS n (farS x.vec n))) x.vec
    have h2 : (meetS2 [x.span] (staysS n (farS x.vec n))).length ≤ 128 := ofSet_len _
    omega
   rw [hZ1] at hp1
   have hp2 := put_call (lessS2 [x.span] (staysS n (farS x.vec n))) far now Z1 (ofSet_len _) (by omega)
   have hend : Z1 ++ cutZ now (lessS2 [x.span] (staysS n (farS x.vec n))) far = takeL n now (pre ++ [x]) := by
    rw [hsn, ← hZ1, List.append_assoc, ← hfar]
    rfl
   rw [hend] at hp2
   generalize staysS n (farS x.vec n) = stays at hp1 hp2 ⊢
   refine AW.seq ?_
   refine AW.drawn (ds := [74, 75, 76, 77, 78, 79, 80]) (fin := [2, 3, 4]) (bs := [3, 3, 3, 3, 3, 3, 3]) [⟨[], [], [0, 1, 2], [], 0⟩, ⟨[], [], [], [], 0⟩, ⟨[], [], [], [], 0⟩, ⟨[(75, 1), (76, 2)], [], [0, 1, 2], [], 0⟩, ⟨[], [], [], [], 0⟩, ⟨[(78, 4)], [], [0, 1, 2], [], 0⟩, ⟨[(74, 0), (77, 3), (79, 5)], [], [2], [0, 1], 2⟩] (by kernel_rfl) rfl (by kernel_rfl) rfl rfl rfl fun KD hKD => ?_
   refine g ?_
   repeat' refine call_ (smeet_D _ _) rfl (g ?_)
   refine call_t [] [.box 1200 [.fn 154 [.ip [stI now], .bp 1100 0]]] (fun b => if b = 0 then 1100 else 9900) hp1 rfl rfl rfl (g ?_)
   refine g ?_
   repeat' (refine hKD _ _ ⟨rfl, g ?_⟩; clear hKD KD)
   refine AW.drawn (ds := [81, 82, 83, 84, 85, 86]) (fin := [0, 3, 4]) (bs := [3, 3, 3, 3, 3, 3]) [⟨[], [], [0, 1, 2], [], 0⟩, ⟨[], [], [], [], 0⟩, ⟨[], [], [], [], 0⟩, ⟨[(82, 1), (83, 2)], [], [0, 1, 2], [], 0⟩, ⟨[], [], [], [], 0⟩, ⟨[(81, 0), (84, 3), (85, 4)], [], [0], [1, 2], 2⟩] (by kernel_rfl) rfl (by kernel_rfl) rfl rfl rfl fun KD hKD => ?_
   refine g ?_
   repeat' refine call_ (sless_D _ _) rfl (g ?_)
   refine call_t [] [.box 1200 [.fn 154 [.ip [stI now], .bp 1100 0]]] (fun b => if b = 0 then 1100 else 8102) hp2 rfl rfl rfl (g ?_)
   refine g ?_
   repeat' (refine hKD _ _ ⟨rfl, g ?_⟩; clear hKD KD)
   exact ⟨trivial, fun b => if b = 9900 then 8702 else b, ⟨rfl, rfl, trivial⟩, ⟨rfl, rfl, rfl, trivial⟩, by simp [idsOf, BA.id]⟩
 ·subst hS
  obtain ⟨s, hs⟩ : ∃ s, (takeL n now (piecesZ z known)).mergeSort (fun a b => decide (a.span.lo ≤ b.span.lo)) = s := ⟨_, rfl⟩
  have hp : s.Perm (takeL n now (piecesZ z known)) := by rw [← hs]; exact List.mergeSort_perm _ _
  have hle : s.Pairwise fun a b => a.span.lo ≤ b.span.lo := by
   have h1 := List.pairwise_mergeSort (le := fun a b : Zone => decide (a.span.lo ≤ b.span.lo)) (fun a b c h1 h2 => by simp at *; omega) (fun a b => by simp; omega) (takeL n now (piecesZ z known))
   rw [hs] at h1
   exact h1.imp fun h => by simpa using h
  have hpf := pieces_formed hz hk
  have hA : Apart s := sorted_apart hp hle (takeL_off hpf.2 hpf.1) fun x hx => takeL_mem hpf.1 hx
  have hT := take_same (z := z) (known := known) (n := n) (by simp [takeOk, hz, hk, hn]) (by rw [hkt]; exact hp) hle
  have hsl : s.length ≤ 1000000 := by
   have h1 := takeL_len n now (piecesZ z known)
   have h2 := pieces_len z known
   rw [hp.length_eq]
   omega
  have hj := joined_call hp hA hsl
  rw [hT, hZ] at hj
  refine g ?_
  refine AW.seq ?_
  refine AW.drawn (ds := [87, 88, 89, 6, 7, 8]) (fin := [1, 2, 3]) (bs := [3, 3, 4, 4, 4, 4]) [⟨[], [], [0, 1, 2], [], 0⟩, ⟨[(87, 0)], [], [1, 2], [0], 1⟩, ⟨[], [], [1, 2], [], 0⟩, ⟨[(88, 1)], [], [], [], 0⟩, ⟨[(89, 2)], [], [], [], 0⟩, ⟨[], [], [], [], 0⟩] (by kernel_rfl) rfl (by kernel_rfl) rfl rfl rfl fun KD hKD => ?_
  refine g ?_
  refine call_t [] [.box 1100 [.own 9900], .box 1200 [.fn 154 [.ip [stI now], .bp 1100 0]]] (fun _ => 9900) hj rfl rfl rfl (g ?_)
  refine g ?_
  repeat' (refine hKD _ _ ⟨rfl, g ?_⟩; clear hKD KD)
  refine AW.freeze 8900 _ rfl trivial ?_
  simp only [go_sem, reduceIte, Nat.reduceEqDiff]
  refine g ?_
  repeat' refine st_ rfl (g ?_)
  exact Sub1.rfl_ _
end Go.Proofs.YtkphfdmelfhnoaaGreatDoor
