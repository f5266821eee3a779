/- The law ViewTakes: any note is taken by any view as the reference says, or refused, and what comes of it is formed. The card (second form: of bulk at most 1048576). -/
import Derived.Test.YtkphfdmelfhnoaaGreatDoorPRefMrg
import Derived.Test.YtkphfdmelfhnoaaGreatDoorPViewEnc
import Derived.OpenShut
import Derived.Test.YtkphfdmelfhnoaaGreatDoorPTouch
import Derived.Test.YtkphfdmelfhnoaaGreatDoorPStretch
import Derived.Test.YtkphfdmelfhnoaaGreatDoorPTake
import Derived.Test.YtkphfdmelfhnoaaGreatDoorPViewLaw
import Derived.Test.YtkphfdmelfhnoaaGreatDoorPPutShelf
import Derived.Test.YtkphfdmelfhnoaaGreatDoorPCache
import Derived.Test.YtkphfdmelfhnoaaGreatDoorPShelf
import Derived.Test.YtkphfdmelfhnoaaGreatDoorPPlace
import Derived.Test.YtkphfdmelfhnoaaGreatDoorPShelfAll
import Derived.Test.YtkphfdmelfhnoaaGreatDoorPTakeLaw
import Derived.Test.YtkphfdmelfhnoaaGreatDoorPViewTake
import Derived.Test.YtkphfdmelfhnoaaGreatDoorPAbsFrz
import Derived.Test.YtkphfdmelfhnoaaGreatDoorPRow
import Derived.Test.YtkphfdmelfhnoaaGreatDoorPRead
import Derived.Test.YtkphfdmelfhnoaaGreatDoorCards
import Derived.Test.YtkphfdmelfhnoaaGreatDoorTie
import Derived.Lib.LaidTab
import Derived.Deep.DeepWitnessRowRef
import Derived.Lib.SmallJoins
set_option linter.all false
set_option linter.unnecessarySimpa false
set_option linter.unusedSimpArgs false
set_option linter.unusedVariables false
namespace Go.Proofs.YtkphfdmelfhnoaaGreatDoor
open Go.ChangeShapes Go.WideShapes Go.ChangeAt Go.RowKit
def ZoneR (w : World) (B : Nat) (cs : List Value) (z : Zone) : Prop := ∃ v, cs = [.int .i64 z.span.lo, .int .i64 z.span.hi, v] ∧ I64 z.span.lo ∧ I64 z.span.hi ∧ Stamps w B v z.vec
theorem opens_zone {w : World} : Opens Tryz.prog w 147 3 (ZoneR w w.heap.size) := by
 intro H enc fuel cs x h
 obtain ⟨hl, n, hf⟩ := struct_pieces Tryz.underlying147 h
 have hk : Tryz.prog.cellsOf 147 = 3 := by kernel_rfl
 have hs : Tryz.prog.cellsOf 78 = 2 := by kernel_rfl
 have hv : Tryz.prog.cellsOf 22 = 1 := by kernel_rfl
 rw [hk] at hl
 refine ⟨hl, ?_⟩
 match cs, hl with
 | [v0, v1, v2], _ =>
  obtain ⟨y0, h0⟩ := hf 0 78 0 2 rfl hs
  obtain ⟨y1, h1⟩ := hf 1 22 2 1 rfl hv
  obtain ⟨_, a, e0, i0, i1⟩ := opens_span (w := w) H enc n _ _ h0
  obtain ⟨_, b, _, e1, s1⟩ := opens_stamps (w := w) H enc n _ _ h1
  simp at e0 e1
  obtain ⟨rfl, rfl⟩ := e0
  subst e1
  exact ⟨⟨a, b⟩, _, rfl, i0, i1, s1⟩
abbrev Zones (w : World) (B : Nat) (v : Value) (l : List Zone) : Prop := Sl (ZoneR w B) 3 w B v l
theorem opens_zones {w : World} : Opens Tryz.prog w 23 1 (fun cs l => ∃ v, cs = [v] ∧ Zones w w.heap.size v l) :=
 opens_slice Tryz.underlying23 (by kernel_rfl) (by omega) opens_zone
abbrev Bodies (w : World) (B : Nat) (v : Value) (l : List Body) : Prop := Sl (BodyR w B) 4 w B v l
theorem opens_bodies {w : World} : Opens Tryz.prog w 25 1 (fun cs l => ∃ v, cs = [v] ∧ Bodies w w.heap.size v l) :=
 opens_slice Tryz.underlying25 (by kernel_rfl) (by omega) opens_body
def ViewR (w : World) (B : Nat) (cs : List Value) (x : View) : Prop := ∃ v0 v1 v2 v3, cs = [v0, v1, v2, v3, .int .i64 x.room] ∧ Stamps w B v0 x.known ∧ Zones w B v1 x.zones ∧ Writes w B v2 x.held ∧ Bodies w B v3 x.bodies ∧ I64 x.room
theorem opens_view {w : World} : Opens Tryz.prog w 27 5 (ViewR w w.heap.size) := by
 intro H enc fuel cs x h
 obtain ⟨hl, n, hf⟩ := struct_pieces Tryz.underlying27 h
 have hk : Tryz.prog.cellsOf 27 = 5 := by kernel_rfl
 have q0 : Tryz.prog.cellsOf 22 = 1 := by kernel_rfl
 have q1 : Tryz.prog.cellsOf 23 = 1 := by kernel_rfl
 have q2 : Tryz.prog.cellsOf 24 = 1 := by kernel_rfl
 have q3 : Tryz.prog.cellsOf 25 = 1 := by kernel_rfl
 have q4 : Tryz.prog.cellsOf 3 = 1 := by kernel_rfl
 rw [hk] at hl
 refine ⟨hl, ?_⟩
 match cs, hl with
 | [v0, v1, v2, v3, v4], _ =>
  obtain ⟨y0, h0⟩ := hf 0 22 0 1 rfl q0
  obtain ⟨y1, h1⟩ := hf 1 23 1 1 rfl q1
  obtain ⟨y2, h2⟩ := hf 2 24 2 1 rfl q2
  obtain ⟨y3, h3⟩ := hf 3 25 3 1 rfl q3
  obtain ⟨y4, h4⟩ := hf 4 3 4 1 rfl q4
  obtain ⟨_, a, _, e0, s0⟩ := opens_stamps (w := w) H enc n _ _ h0
  obtain ⟨_, b, _, e1, s1⟩ := opens_zones (w := w) H enc n _ _ h1
  obtain ⟨_, c, _, e2, s2⟩ := opens_writes (w := w) H enc n _ _ h2
  obtain ⟨_, d, _, e3, s3⟩ := opens_bodies (w := w) H enc n _ _ h3
  obtain ⟨_, r, e4, i4⟩ := opens_int (w := w) Tryz.underlying3 H enc n _ _ h4
  simp at e0 e1 e2 e3 e4
  subst e0 e1 e2 e3 e4
  exact ⟨⟨a, b, c, d, r⟩, _, _, _, _, rfl, s0, s1, s2, s3, i4⟩
theorem z_rep {X : World} {cs : List Value} {x : Zone} (h : ZoneR X X.heap.size cs x) : RepVs X cs (enZ x) := by
 obtain ⟨v0, rfl, h1, h2, h⟩ := h
 exact ⟨.val h1, .val h2, stamps_rep h (Nat.le_refl _), trivial⟩
theorem zones_rep {X : World} {v : Value} {l : List Zone} (h : Zones X X.heap.size v l) : RepV X v (znI l) := RepV.of_typed (fun _ _ h => z_rep h) h (Nat.le_refl _)
theorem bytes_rep {X : World} {v : Value} {l : List Nat} (h : Bytes X X.heap.size v l) : RepV X v (byI l) := RepV.of_typed (enc := fun (b : Nat) => [.val (.int .u8 b)]) (fun cs x h => by
 obtain ⟨rfl, h1⟩ := h
 refine ⟨.val ?_, trivial⟩
 simp [okV, Lit.wf, IntKind.max, IntKind.min, IntKind.signed, IntKind.bits]
 omega) h (Nat.le_refl _)
theorem b_rep {X : World} {cs : List Value} {x : Body} (h : BodyR X X.heap.size cs x) : RepVs X cs (enB x) := by
 obtain ⟨v0, rfl, h1, h2, h3, h⟩ := h
 exact ⟨.val h1, .val h2, .val h3, bytes_rep h, trivial⟩
theorem bodies_rep {X : World} {v : Value} {l : List Body} (h : Bodies X X.heap.size v l) : RepV X v (boI l) := RepV.of_typed (fun _ _ h => b_rep h) h (Nat.le_refl _)
theorem view_rep {E : Env} {X : World} {v0 v1 v2 v3 : Value} {x : View} (h0 : Stamps X X.heap.size v0 x.known) (h1 : Zones X X.heap.size v1 x.zones) (h2 : Writes X X.heap.size v2 x.held) (h3 : Bodies X X.heap.size v3 x.bodies) : RepA E X (.agg #[v0, v1, v2, v3, .int .i64 x.room]) (vwA x) :=
 .agg rfl fun j v c a b => by
  match j, a, b with
  | 0, a, b => simp at a b; subst a b; exact .iv (stamps_rep h0 (Nat.le_refl _))
  | 1, a, b => simp at a b; subst a b; exact .iv (zones_rep h1)
  | 2, a, b => simp at a b; subst a b; exact .iv (writes_rep h2 (Nat.le_refl _))
  | 3, a, b => simp at a b; subst a b; exact .iv (bodies_rep h3)
  | 4, a, b => simp at a b; subst a b; exact .val
  | j + 5, a, b => simp at a
attribute [local irreducible] AW AWY vops vopsY vop vopL vdraw callW qop binQ lenQ storeQ appendQ callQ ACalls AIter setI c64I
attribute [local go_sem] wrI_eq wA_eq noteA_eq storeQ_val storeQ_iv storeQ_own storeQ_agg
set_option maxRecDepth 100000 in
set_option maxHeartbeats 1600000 in
theorem rstretched_call (v : List Stamp) (n : Note) (o : Int) : ACalls Tryz.prog TzTab 167 [.iv (stI v), noteA n, .val (.int .i64 o)] (.iv (stI (stretchS v n o))) [] := by
 refine ACalls.ofS (n := 61) (rs := [.tmp 6]) Tryz.func167 rfl (by kernel_rfl) Tryz.ntmps167 (by kernel_rfl) (by simp) (fun _ _ => TzTab.later) ?_
 intro hok V w0
 have hIs : ∀ (l : List Stamp), (∀ s ∈ l, I64 s.count) → ∀ k : Int, I64 (countOf l k) := fun l h k => countOf_i64 h k
 have hV : ∀ k : Int, I64 (countOf v k) := hIs v fun s hs => by
  obtain ⟨-, h2, -⟩ := okR_mem (by simpa [stI] using hok.1.2) (enSt s) (List.mem_map_of_mem hs)
  exact h2
 have hE : ∀ k : Int, I64 (countOf n.end_ k) := hIs n.end_ fun s hs => by
  obtain ⟨-, h2, -⟩ := okR_mem hok.2.1.2.1.2 (enSt s) (List.mem_map_of_mem hs)
  exact h2
 have hS : ∀ j : Nat, I64 (stretchC v n j) := fun j => by
  unfold stretchC
  split
  ·rw [Int.max_def]
   split
   ·exact hE _
   ·exact hV _
  ·exact hV _
 refine g ?_
 refine AW.seq ?_
 refine AW.reg rfl fun KK hKK => ?_
 refine g ?_
 repeat' (refine hKK _ (g ?_); clear hKK KK)
 refine AW.freeze 500 _ rfl ⟨trivial, trivial, trivial, trivial, trivial⟩ ?_
 simp only [go_sem, reduceIte, Nat.reduceEqDiff]
 refine g ?_
 repeat' refine st_ rfl (g ?_)
 refine AW.drawn (ds := [14, 15, 16, 17, 18, 19, 20, 21, 7, 8, 9]) (fin := [3, 4, 5]) (bs := [0, 0, 0, 0, 0, 0, 0, 0, 0, 1, 2, 3, 4, 5]) [⟨[], [], [], [], 0⟩, ⟨[(14, 0)], [], [], [], 0⟩, ⟨[], [], [], [], 0⟩, ⟨[(16, 2)], [], [], [], 0⟩, ⟨[(17, 3)], [], [], [], 0⟩, ⟨[], [], [], [], 0⟩, ⟨[(19, 5)], [], [], [], 0⟩, ⟨[(20, 6)], [], [], [], 0⟩, ⟨[], [], [], [], 1⟩, ⟨[], [], [], [], 1⟩, ⟨[], [], [], [], 1⟩, ⟨[(7, 8), (15, 1)], [], [], [0], 1⟩, ⟨[(8, 9), (18, 4)], [], [], [1], 1⟩, ⟨[(9, 10), (21, 7)], [], [], [2], 1⟩] (by kernel_rfl) rfl (by kernel_rfl) rfl rfl rfl fun KD hKD => ?_
 refine g ?_
 repeat' refine call_ (rcounts_call _) rfl (g ?_)
 refine store_ar (q := 2) (s := 64) (by kernel_rfl) (c64I_len _) rfl (by simp [rep]) ?_
 refine g ?_
 refine store_ar (q := 2) (s := 64) (by kernel_rfl) (c64I_len _) rfl (by simp [rep]) ?_
 refine g ?_
 refine store_ar (q := 2) (s := 64) (by kernel_rfl) (c64I_len _) rfl (by simp [rep]) ?_
 refine g ?_
 repeat' (first | refine st_ rfl (g ?_) | (refine hKD _ _ ⟨rfl, g ?_⟩; clear hKD KD))
 refine AW.freeze 900 _ rfl trivial ?_
 simp only [go_sem, reduceIte, Nat.reduceEqDiff]
 refine AW.freeze 1000 _ rfl trivial ?_
 simp only [go_sem, reduceIte, Nat.reduceEqDiff]
 refine AW.loop (fun k : {k : Nat // k ≤ 64} => ⟨[(0, .iv (stI v)), (2, .val (.int .i64 o)), (4, .ip [stI n.start, stI n.end_, spI n.blur, wrI n.writes]), (7, .bp 800 0), (8, .ip (c64I fun k => countOf n.start k)), (9, .ip (c64I fun k => countOf n.end_ k)), (10, .val (.int .i64 (k.1 : Nat)))], [.arr 800 (c64I fun j => if j < k.1 then stretchC v n j else countOf v j)]⟩) (fun k => 64 - k.1) ⟨0, Nat.zero_le _⟩ id ⟨⟨rfl, rfl, rfl, rfl, rfl, rfl, rfl, trivial⟩, ⟨?_, trivial⟩, by simp [idsOf, BA.id]⟩ fun ⟨k, hk⟩ => ?_
 ·exact congrArg (fun C => some (BA.arr 800 C)) (c64I_congr fun o _ => by simp)
 refine g ?_
 repeat' (first | refine st_ rfl (g ?_) | refine cond_d (fun h => g ?_) (fun h => g ?_))
 ·have hk' : k < 64 := by omega
  refine AW.drawn (ds := [26, 27, 28, 29, 30, 31, 32]) (fin := [0]) (bs := [1, 1, 1, 1, 1, 1, 1]) [⟨[], [], [], [], 0⟩, ⟨[(26, 0)], [], [0], [], 0⟩, ⟨[(27, 1)], [], [0], [], 0⟩, ⟨[], [], [], [], 0⟩, ⟨[(29, 3)], [], [0], [], 0⟩, ⟨[(30, 4)], [], [0], [], 0⟩, ⟨[(28, 2), (31, 5)], [], [], [], 0⟩] (by kernel_rfl) rfl (by kernel_rfl) rfl rfl rfl fun KD hKD => ?_
  refine g ?_
  refine ⟨by omega, by omega, ?_⟩
  rw [Nat.mul_one]
  refine g ?_
  repeat' refine hold_ (g ?_)
  refine ⟨_, (congrArg _ (Nat.zero_add k)).trans (c64I_at hk'), ?_⟩
  rw [if_neg (Nat.lt_irrefl _)]
  refine g ?_
  repeat' refine hold_ (g ?_)
  refine ⟨by omega, by omega, ?_⟩
  rw [Nat.mul_one]
  refine g ?_
  repeat' refine hold_ (g ?_)
  refine rdI_drop (c64I_at hk') ?_
  refine g ?_
  repeat' (refine hKD _ _ ⟨rfl, g ?_⟩; clear hKD KD)
  refine g ?_
  repeat' (first | refine st_ rfl (g ?_) | refine cond_d (fun h => g ?_) (fun h => g ?_))
  ·refine AW.drawn (ds := [33, 34, 35, 36, 37, 38, 39, 40, 41]) (fin := [1]) (bs := [1, 1, 1, 1, 1, 1, 1, 1, 1, 1]) [⟨[], [], [], [], 0⟩, ⟨[], [], [], [], 0⟩, ⟨[(34, 1)], [], [0], [], 0⟩, ⟨[(35, 2)], [], [0], [], 0⟩, ⟨[], [], [], [], 0⟩, ⟨[(37, 4)], [], [0], [], 0⟩, ⟨[(38, 5)], [], [0], [], 0⟩, ⟨[(36, 3), (39, 6)], [], [], [], 0⟩, ⟨[(33, 0)], [], [0], [], 0⟩, ⟨[(41, 8), (40, 7)], [], [], [0], 1⟩] (by kernel_rfl) rfl (by kernel_rfl) rfl rfl rfl fun KD hKD => ?_
   refine g ?_
   refine ⟨by omega, by omega, ?_⟩
   rw [Nat.mul_one]
   refine g ?_
   repeat' refine hold_ (g ?_)
   refine ⟨_, (congrArg _ (Nat.zero_add k)).trans (c64I_at hk'), ?_⟩
   rw [if_neg (Nat.lt_irrefl _)]
   refine g ?_
   repeat' refine hold_ (g ?_)
   refine ⟨by omega, by omega, ?_⟩
   rw [Nat.mul_one]
   refine g ?_
   repeat' refine hold_ (g ?_)
   refine rdI_drop (c64I_at hk') ?_
   refine g ?_
   refine ⟨_, rfl, ?_⟩
   refine g ?_
   repeat' refine hold_ (g ?_)
   refine ⟨by omega, by omega, ?_⟩
   rw [Nat.mul_one, Nat.zero_add]
   refine g ?_
   repeat' refine hold_ (g ?_)
   have im : I64 (max (countOf v (k : Nat)) (countOf n.end_ (k : Nat))) := by
    have := hS k
    rwa [stretchC, if_pos h] at this
   refine ⟨_, rfl, ⟨im, trivial⟩, by rw [c64I_len]; omega, ?_⟩
   refine g ?_
   repeat' (first | refine hold_ (g ?_) | (refine hKD _ _ ⟨rfl, g ?_⟩; clear hKD KD))
   refine g ?_
   repeat' refine st_ rfl (g ?_)
   refine ⟨⟨k + 1, hk'⟩, id, ⟨⟨rfl, rfl, rfl, rfl, rfl, rfl, rfl, trivial⟩, ⟨?_, trivial⟩, by simp [idsOf, BA.id]⟩, by show 64 - (k + 1) < 64 - k; omega⟩
   refine congrArg (fun C => some (BA.arr 800 C)) ((congrArg (fun k => List.set _ k _) (Nat.zero_add k)).trans ((c64I_put hk').trans (c64I_congr fun o _ => ?_)))
   by_cases ho : o = k
   ·subst ho
    rw [if_pos rfl, if_pos (Nat.lt_succ_self _), stretchC, if_pos h]
   ·rw [if_neg ho]
    by_cases h1 : o < k
    ·rw [if_pos h1, if_pos (show o < k + 1 by omega)]
    ·rw [if_neg h1, if_neg (show ¬ o < k + 1 by omega)]
  ·refine ⟨⟨k + 1, hk'⟩, id, ⟨⟨rfl, rfl, rfl, rfl, rfl, rfl, rfl, trivial⟩, ⟨?_, trivial⟩, by simp [idsOf, BA.id]⟩, by show 64 - (k + 1) < 64 - k; omega⟩
   refine congrArg (fun C => some (BA.arr 800 C)) (c64I_congr fun o _ => ?_)
   by_cases ho : o = k
   ·subst ho
    rw [if_neg (Nat.lt_irrefl _), if_pos (Nat.lt_succ_self _), stretchC, if_neg h]
   ·by_cases h1 : o < k
    ·rw [if_pos h1, if_pos (show o < k + 1 by omega)]
    ·rw [if_neg h1, if_neg (show ¬ o < k + 1 by omega)]
 ·refine ⟨(c64I_len _).symm, ?_⟩
  obtain rfl : k = 64 := by omega
  have hcc : (c64I fun j => if j < 64 then stretchC v n j else countOf v j) = c64I (stretchC v n) := c64I_congr fun o ho => if_pos ho
  rw [hcc]
  have hfar := rvofD (stretchC v n) fun j _ => hS j
  have hat := rat_call n.writes o
  obtain ⟨R, hR⟩ : ∃ R, stretchS v n o = R := ⟨_, rfl⟩
  rw [hR]
  unfold stretchS farS at hR
  refine call_ hfar rfl (g ?_)
  refine g ?_
  cases hg : getW n.writes o with
  | none =>
   rw [hg] at hat hR
   simp only [Option.getD_none, Option.isSome_none] at hat hR
   refine g ?_
   repeat' (first | refine st_ rfl (g ?_) | refine call_ (hat) rfl (g ?_))
   subst hR
   exact Sub1.rfl_ _
  | some w =>
   rw [hg] at hat hR
   simp only [Option.getD_some, Option.isSome_some] at hat hR
   refine g ?_
   repeat' (first | refine st_ rfl (g ?_) | refine cond_ (fun h => g ?_) (fun h => g ?_) | refine call_ (hat) rfl (g ?_) | refine call_ (rvhas_call _ w.stamp) rfl (g ?_))
   ·rw [if_neg (by simpa using h)] at hR
    subst hR
    exact Sub1.rfl_ _
   ·rw [if_pos (by simpa using h)] at hR
    subst hR
    exact Sub1.rfl_ _
end Go.Proofs.YtkphfdmelfhnoaaGreatDoor
namespace Go.Proofs.YtkphfdmelfhnoaaGreatDoor
open Go.ChangeShapes Go.WideShapes Go.ChangeAt Go.RowKit
theorem joinStep_len (out : List Zone) (x : Zone) : (joinStep out x).length ≤ out.length + 1 := by
 unfold joinStep
 split
 ·split
  ·simp; try omega
  ·simp
 ·simp
theorem joinZ_len (l : List Zone) : (joinZ l).length ≤ l.length := by
 have key : ∀ (l out : List Zone), (l.foldl joinStep out).length ≤ out.length + l.length := by
  intro l
  induction l with
  | nil => intro out; simp
  | cons x l ih =>
   intro out
   have h1 := ih (joinStep out x)
   have h2 := joinStep_len out x
   simp only [List.foldl_cons, List.length_cons]
   omega
 have := key l []
 simpa [joinZ] using this
theorem dotsZ_len (f : Nat → Option (List Stamp)) : ∀ n, (dotsZ f n).length ≤ n
 | 0 => Nat.le_refl _
 | n + 1 => by
  have := dotsZ_len f n
  rw [dotsZ, List.length_append]
  split <;> simp <;> omega
attribute [local irreducible] AW AWY vops vopsY vop vopL vdraw callW qop binQ lenQ storeQ appendQ callQ ACalls AIter setI c64I
attribute [local go_sem] wrI_eq enZ_eq znI_eq noteA_eq storeQ_val storeQ_iv storeQ_own storeQ_agg storeQ_rp
set_option maxRecDepth 100000 in
set_option maxHeartbeats 3200000 in
theorem rztake_call (z : List Zone) (known : List Stamp) (n : Note) : ACalls Tryz.prog TzTab 80 [.iv (znI z), .iv (stI known), noteA n] (.tup [.iv (znI (takeZ z known n).1), .iv (stI (takeZ z known n).2.1), .val (.int .i64 (takeZ z known n).2.2)]) [] := by
 refine ACalls.ofS (n := 110) (rs := [.tmp 6, .tmp 7, .tmp 8]) Tryz.func80 rfl (by kernel_rfl) Tryz.ntmps80 (by kernel_rfl) (by simp) (fun _ _ => TzTab.later) ?_
 intro hok V w0
 obtain ⟨R, hR⟩ : ∃ R, takeZ z known n = R := ⟨_, rfl⟩
 rw [hR]
 unfold takeZ takeOk at hR
 refine g ?_
 refine AW.seq ?_
 refine AW.reg rfl fun KK hKK => ?_
 refine g ?_
 repeat' (refine hKK _ (g ?_); clear hKK KK)
 refine AW.freeze 600 _ rfl ⟨trivial, trivial, trivial, trivial, trivial⟩ ?_
 simp only [go_sem, reduceIte, Nat.reduceEqDiff]
 refine g ?_
 repeat' (first | refine st_ rfl (g ?_) | refine cond_ (fun h => g ?_) (fun h => g ?_) | (refine vops_if rfl rfl (fun h => ?_) (fun h => ?_) <;> simp only [h] <;> refine g ?_) | refine call_ (rzformed_call _) rfl (g ?_) | refine call_ (rvformed_call _) rfl (g ?_) | refine call_ (rnformed_call _) rfl (g ?_) | refine call_ (rnfits_call _ _) rfl (g ?_) | refine call_ (rvtwoE _ _) rfl (g ?_))
 ·rw [if_neg (by simp at h; simp [h])] at hR
  exact take_no hR.symm
 ·rw [if_neg (by simp at h; simp [h])] at hR
  exact take_no hR.symm
 ·rw [if_neg (by simp at h; simp [h])] at hR
  exact take_no hR.symm
 ·rename_i h1 h2 h3
  rw [if_pos (by simp at *; simp [*]), if_neg (by simp at h; simp [h])] at hR
  exact take_no hR.symm
 rename_i h1 h2 h3
 rw [if_pos (by simp at *; simp [*]), if_pos (by simpa using h)] at hR
 refine call_ (rset_call n.blur) rfl ?_
 refine g ?_
 refine store_ar (q := 2) (s := 256) (by kernel_rfl) (setI_len _) rfl (by simp [rep]) ?_
 refine g ?_
 repeat' refine st_ rfl (g ?_)
 refine AW.freeze 1100 _ rfl trivial ?_
 simp only [go_sem, reduceIte, Nat.reduceEqDiff]
 refine AW.adopt 11 9900 147 3 rfl rfl ?_
 obtain ⟨F, hFz⟩ : ∃ F, zonesThen z known n = F := ⟨_, rfl⟩
 rw [hFz] at hR
 obtain ⟨now, hnow⟩ : ∃ now, joinS [known, n.end_] = now := ⟨_, rfl⟩
 have hkt : knownThen known n = now := hnow
 rw [hnow]
 rw [hkt] at hR
 refine AW.loop (fun m : {m : Nat // m ≤ 256} => ⟨[(0, .iv (znI z)), (1, .iv (stI known)), (5, .ip [stI n.start, stI n.end_, spI n.blur, wrI n.writes]), (9, .iv (stI now)), (10, .ip (setI fun o => memB n.blur o)), (11, .own 9900), (12, .val (.int .i64 (m.1 : Nat)))], [.row 9900 147 3 ((joinZ (dotsZ F m.1)).map enZ)]⟩) (fun m => 256 - m.1) ⟨0, Nat.zero_le _⟩ id ⟨⟨rfl, rfl, rfl, rfl, rfl, rfl, rfl, trivial⟩, ⟨rfl, trivial⟩, by simp [idsOf, BA.id]⟩ fun ⟨m, hm⟩ => ?_
 simp only
 repeat (refine AW.seq ?_)
 refine AW.reg rfl fun KK hKK => ?_
 refine g ?_
 repeat' (refine hKK _ (g ?_); clear hKK KK)
 repeat (refine AW.seq ?_)
 refine st_ rfl ?_
 refine g ?_
 refine cond_ (fun h => ?_) (fun h => ?_)
 ·have hm' : m < 256 := by have := of_decide_eq_true h; omega
  refine st_ rfl (g ?_)
  have hJl : (joinZ (dotsZ F m)).length ≤ m := Nat.le_trans (joinZ_len _) (dotsZ_len _ _)
  have im : I64 (m : Nat) := I64.of (by omega) (by omega)
  obtain ⟨J, hJ⟩ : ∃ J, joinZ (dotsZ F m) = J := ⟨_, rfl⟩
  rw [hJ] at hJl ⊢
  refine g ?_
  repeat' (first | refine st_ rfl (g ?_) | refine cond_d (fun h => g ?_) (fun h => g ?_) | refine call_ (rzat_call _ _) rfl (g ?_))
  ·have hz := h
   obtain ⟨hl, hza⟩ := zoneAt_ix hz
   obtain ⟨x, hx⟩ : ∃ x, z[(zoneIx z m).toNat] = x := ⟨_, rfl⟩
   have hV : reachOf z known m = x.vec := by rw [reachOf, hza, hx]
   have hgx := get_map (f := enZ) (List.getElem?_eq_getElem hl)
   rw [hx] at hgx
   refine ⟨hz, _, hgx, ?_⟩
   refine g ?_
   repeat' (first | refine st_ rfl (g ?_) | refine hold_ (g ?_))
   refine ⟨by omega, by omega, ?_⟩
   rw [Nat.mul_one]
   refine g ?_
   repeat' refine hold_ (g ?_)
   refine rdI_drop (setI_at hm') ?_
   cases hb : memB n.blur m
   ·refine g ?_
    repeat' refine st_ rfl (g ?_)
    refine call_ (rstretched_call _ n _) rfl (g ?_)
    refine g ?_
    obtain ⟨V, hVV⟩ : ∃ V, stretchS x.vec n m = V := ⟨_, rfl⟩
    have hFm : F m = if coversB V now = true then none else some V := by
     rw [← hFz, zonesThen, reachThen, hkt, hb, hV, ← hVV]
     rfl
    have hcv := rvcovers_call V now
    obtain ⟨c, hc⟩ : ∃ c, coversB V now = c := ⟨_, rfl⟩
    rw [hc] at hcv hFm
    rw [hVV]
    cases c with
    | true =>
     have hd : joinZ (dotsZ F (m + 1)) = J := by rw [dotsZ, hFm, if_pos rfl, List.append_nil, hJ]
     refine g ?_
     repeat' (first | refine st_ rfl (g ?_) | refine call_ (hcv) rfl (g ?_))
     refine ⟨⟨m + 1, hm'⟩, id, ⟨⟨rfl, rfl, rfl, rfl, rfl, rfl, rfl, trivial⟩, ⟨?_, trivial⟩, by simp [idsOf, BA.id]⟩, by show 256 - (m + 1) < 256 - m; omega⟩
     rw [hd]
     rfl
    | false =>
     have hs : joinZ (dotsZ F (m + 1)) = joinStep J ⟨⟨m, m⟩, V⟩ := by
      rw [dotsZ, hFm, if_neg (by simp)]
      simp only
      rw [joinZ_snoc, hJ]
     cases hy : J.getLast? with
     | none =>
      have hJ0 : J = [] := List.getLast?_eq_none_iff.1 hy
      subst hJ0
      simp only [joinStep, List.getLast?_nil] at hs
      refine g ?_
      repeat' (first | refine st_ rfl (g ?_) | refine call_ (hcv) rfl (g ?_) | refine call_ (rvcopyD _) rfl (g ?_))
      refine bs1 (by omega) rfl rfl rfl ⟨im, im, trivial, trivial⟩ ?_
      refine g ?_
      refine append_own rfl (by kernel_rfl) (by omega) (by kernel_rfl) rfl (by simp; try omega) ?_
      refine g ?_
      repeat' refine st_ rfl (g ?_)
      refine ⟨⟨m + 1, hm'⟩, fun b => if b = 9900 then 10800 else b, ⟨⟨rfl, rfl, rfl, rfl, rfl, rfl, rfl, trivial⟩, ⟨?_, trivial⟩, by simp [idsOf, BA.id]⟩, by show 256 - (m + 1) < 256 - m; omega⟩
      show some (BA.row _ _ _ _) = some (BA.row _ _ _ ((joinZ (dotsZ F (m + 1))).map enZ))
      rw [hs]
      rfl
     | some y =>
      obtain ⟨D, hD⟩ : ∃ D, J.dropLast = D := ⟨_, rfl⟩
      have hl2 := list_last hy
      rw [hD] at hl2
      simp only [joinStep, hy, hD] at hs
      have hlen : J.length = D.length + 1 := by rw [← hl2]; simp
      have hJget : J[D.length]? = some y := by rw [← hl2]; simp
      have hget2 := get_map (f := enZ) hJget
      have hcast : ((J.length : Nat) : Int) - 1 = (D.length : Nat) := by omega
      have hi : ((J.length : Int) - 1).toNat = D.length := by omega
      refine g ?_
      repeat' (first | refine st_ rfl (g ?_) | (refine vops_ifd rfl rfl (fun h e => ?_) (fun h e => ?_) <;> simp only [e] <;> clear e <;> refine g ?_) | refine call_ (hcv) rfl (g ?_))
      ·refine ⟨by omega, by omega, ?_⟩
       rw [hi]
       refine g ?_
       repeat' refine hold_ (g ?_)
       refine ⟨_, hget2, ?_⟩
       refine g ?_
       repeat' (first | refine st_ rfl (g ?_) | refine hold_ (g ?_) | (refine vops_ifd rfl rfl (fun h e => ?_) (fun h e => ?_) <;> simp only [e] <;> clear e <;> refine g ?_))
       ·refine ⟨by omega, by omega, ?_⟩
        rw [hi]
        refine g ?_
        repeat' refine hold_ (g ?_)
        refine ⟨_, hget2, ?_⟩
        refine g ?_
        repeat' (first | refine st_ rfl (g ?_) | refine hold_ (g ?_) | refine cond_d (fun h => g ?_) (fun h => g ?_) | refine call_ (rvsame_call y.vec V) rfl (g ?_))
        ·refine ⟨by omega, by omega, ?_⟩
         rw [hi]
         refine g ?_
         repeat' refine hold_ (g ?_)
         refine ⟨_, _, rfl, ⟨im, trivial⟩, hget2, ?_⟩
         refine g ?_
         repeat' (first | refine st_ rfl (g ?_) | refine hold_ (g ?_))
         refine ⟨⟨m + 1, hm'⟩, id, ⟨⟨rfl, rfl, rfl, rfl, rfl, rfl, rfl, trivial⟩, ⟨?_, trivial⟩, by simp [idsOf, BA.id]⟩, by show 256 - (m + 1) < 256 - m; omega⟩
         show some (BA.row _ _ _ _) = some (BA.row _ _ _ ((joinZ (dotsZ F (m + 1))).map enZ))
         rw [hs, if_pos ⟨by omega, h⟩, ← hl2, List.map_append, List.map_append, List.set_append_right _ _ (by simp)]
         simp
         rfl
        ·refine g ?_
         repeat' refine call_ (rvcopyD _) rfl (g ?_)
         refine bs1 (by omega) rfl rfl rfl ⟨im, im, trivial, trivial⟩ ?_
         refine g ?_
         refine append_own rfl (by kernel_rfl) (by omega) (by kernel_rfl) rfl (by simp; try omega) ?_
         refine g ?_
         repeat' refine st_ rfl (g ?_)
         refine ⟨⟨m + 1, hm'⟩, fun b => if b = 9900 then 10800 else b, ⟨⟨rfl, rfl, rfl, rfl, rfl, rfl, rfl, trivial⟩, ⟨?_, trivial⟩, by simp [idsOf, BA.id]⟩, by show 256 - (m + 1) < 256 - m; omega⟩
         show some (BA.row _ _ _ _) = some (BA.row _ _ _ ((joinZ (dotsZ F (m + 1))).map enZ))
         rw [hs, if_neg (fun q => h q.2), List.map_append]
         rfl
       ·refine g ?_
        repeat' refine call_ (rvcopyD _) rfl (g ?_)
        refine bs1 (by omega) rfl rfl rfl ⟨im, im, trivial, trivial⟩ ?_
        refine g ?_
        refine append_own rfl (by kernel_rfl) (by omega) (by kernel_rfl) rfl (by simp; try omega) ?_
        refine g ?_
        repeat' refine st_ rfl (g ?_)
        refine ⟨⟨m + 1, hm'⟩, fun b => if b = 9900 then 10800 else b, ⟨⟨rfl, rfl, rfl, rfl, rfl, rfl, rfl, trivial⟩, ⟨?_, trivial⟩, by simp [idsOf, BA.id]⟩, by show 256 - (m + 1) < 256 - m; omega⟩
        show some (BA.row _ _ _ _) = some (BA.row _ _ _ ((joinZ (dotsZ F (m + 1))).map enZ))
        rw [hs, if_neg (fun q => h (by omega)), List.map_append]
        rfl
      ·omega
   ·refine g ?_
    repeat' refine st_ rfl (g ?_)
    obtain ⟨V, hVV⟩ : ∃ V, x.vec = V := ⟨_, rfl⟩
    have hFm : F m = if coversB V now = true then none else some V := by
     rw [← hFz, zonesThen, reachThen, hkt, hb, hV, ← hVV]
     rfl
    have hcv := rvcovers_call V now
    obtain ⟨c, hc⟩ : ∃ c, coversB V now = c := ⟨_, rfl⟩
    rw [hc] at hcv hFm
    rw [hVV]
    cases c with
    | true =>
     have hd : joinZ (dotsZ F (m + 1)) = J := by rw [dotsZ, hFm, if_pos rfl, List.append_nil, hJ]
     refine g ?_
     repeat' (first | refine st_ rfl (g ?_) | refine call_ (hcv) rfl (g ?_))
     refine ⟨⟨m + 1, hm'⟩, id, ⟨⟨rfl, rfl, rfl, rfl, rfl, rfl, rfl, trivial⟩, ⟨?_, trivial⟩, by simp [idsOf, BA.id]⟩, by show 256 - (m + 1) < 256 - m; omega⟩
     rw [hd]
     rfl
    | false =>
     have hs : joinZ (dotsZ F (m + 1)) = joinStep J ⟨⟨m, m⟩, V⟩ := by
      rw [dotsZ, hFm, if_neg (by simp)]
      simp only
      rw [joinZ_snoc, hJ]
     cases hy : J.getLast? with
     | none =>
      have hJ0 : J = [] := List.getLast?_eq_none_iff.1 hy
      subst hJ0
      simp only [joinStep, List.getLast?_nil] at hs
      refine g ?_
      repeat' (first | refine st_ rfl (g ?_) | refine call_ (hcv) rfl (g ?_) | refine call_ (rvcopyD _) rfl (g ?_))
      refine bs1 (by omega) rfl rfl rfl ⟨im, im, trivial, trivial⟩ ?_
      refine g ?_
      refine append_own rfl (by kernel_rfl) (by omega) (by kernel_rfl) rfl (by simp; try omega) ?_
      refine g ?_
      repeat' refine st_ rfl (g ?_)
      refine ⟨⟨m + 1, hm'⟩, fun b => if b = 9900 then 10800 else b, ⟨⟨rfl, rfl, rfl, rfl, rfl, rfl, rfl, trivial⟩, ⟨?_, trivial⟩, by simp [idsOf, BA.id]⟩, by show 256 - (m + 1) < 256 - m; omega⟩
      show some (BA.row _ _ _ _) = some (BA.row _ _ _ ((joinZ (dotsZ F (m + 1))).map enZ))
      rw [hs]
      rfl
     | some y =>
      obtain ⟨D, hD⟩ : ∃ D, J.dropLast = D := ⟨_, rfl⟩
      have hl2 := list_last hy
      rw [hD] at hl2
      simp only [joinStep, hy, hD] at hs
      have hlen : J.length = D.length + 1 := by rw [← hl2]; simp
      have hJget : J[D.length]? = some y := by rw [← hl2]; simp
      have hget2 := get_map (f := enZ) hJget
      have hcast : ((J.length : Nat) : Int) - 1 = (D.length : Nat) := by omega
      have hi : ((J.length : Int) - 1).toNat = D.length := by omega
      refine g ?_
      repeat' (first | refine st_ rfl (g ?_) | (refine vops_ifd rfl rfl (fun h e => ?_) (fun h e => ?_) <;> simp only [e] <;> clear e <;> refine g ?_) | refine call_ (hcv) rfl (g ?_))
      ·refine ⟨by omega, by omega, ?_⟩
       rw [hi]
       refine g ?_
       repeat' refine hold_ (g ?_)
       refine ⟨_, hget2, ?_⟩
       refine g ?_
       repeat' (first | refine st_ rfl (g ?_) | refine hold_ (g ?_) | (refine vops_ifd rfl rfl (fun h e => ?_) (fun h e => ?_) <;> simp only [e] <;> clear e <;> refine g ?_))
       ·refine ⟨by omega, by omega, ?_⟩
        rw [hi]
        refine g ?_
        repeat' refine hold_ (g ?_)
        refine ⟨_, hget2, ?_⟩
        refine g ?_
        repeat' (first | refine st_ rfl (g ?_) | refine hold_ (g ?_) | refine cond_d (fun h => g ?_) (fun h => g ?_) | refine call_ (rvsame_call y.vec V) rfl (g ?_))
        ·refine ⟨by omega, by omega, ?_⟩
         rw [hi]
         refine g ?_
         repeat' refine hold_ (g ?_)
         refine ⟨_, _, rfl, ⟨im, trivial⟩, hget2, ?_⟩
         refine g ?_
         repeat' (first | refine st_ rfl (g ?_) | refine hold_ (g ?_))
         refine ⟨⟨m + 1, hm'⟩, id, ⟨⟨rfl, rfl, rfl, rfl, rfl, rfl, rfl, trivial⟩, ⟨?_, trivial⟩, by simp [idsOf, BA.id]⟩, by show 256 - (m + 1) < 256 - m; omega⟩
         show some (BA.row _ _ _ _) = some (BA.row _ _ _ ((joinZ (dotsZ F (m + 1))).map enZ))
         rw [hs, if_pos ⟨by omega, h⟩, ← hl2, List.map_append, List.map_append, List.set_append_right _ _ (by simp)]
         simp
         rfl
        ·refine g ?_
         repeat' refine call_ (rvcopyD _) rfl (g ?_)
         refine bs1 (by omega) rfl rfl rfl ⟨im, im, trivial, trivial⟩ ?_
         refine g ?_
         refine append_own rfl (by kernel_rfl) (by omega) (by kernel_rfl) rfl (by simp; try omega) ?_
         refine g ?_
         repeat' refine st_ rfl (g ?_)
         refine ⟨⟨m + 1, hm'⟩, fun b => if b = 9900 then 10800 else b, ⟨⟨rfl, rfl, rfl, rfl, rfl, rfl, rfl, trivial⟩, ⟨?_, trivial⟩, by simp [idsOf, BA.id]⟩, by show 256 - (m + 1) < 256 - m; omega⟩
         show some (BA.row _ _ _ _) = some (BA.row _ _ _ ((joinZ (dotsZ F (m + 1))).map enZ))
         rw [hs, if_neg (fun q => h q.2), List.map_append]
         rfl
       ·refine g ?_
        repeat' refine call_ (rvcopyD _) rfl (g ?_)
        refine bs1 (by omega) rfl rfl rfl ⟨im, im, trivial, trivial⟩ ?_
        refine g ?_
        refine append_own rfl (by kernel_rfl) (by omega) (by kernel_rfl) rfl (by simp; try omega) ?_
        refine g ?_
        repeat' refine st_ rfl (g ?_)
        refine ⟨⟨m + 1, hm'⟩, fun b => if b = 9900 then 10800 else b, ⟨⟨rfl, rfl, rfl, rfl, rfl, rfl, rfl, trivial⟩, ⟨?_, trivial⟩, by simp [idsOf, BA.id]⟩, by show 256 - (m + 1) < 256 - m; omega⟩
        show some (BA.row _ _ _ _) = some (BA.row _ _ _ ((joinZ (dotsZ F (m + 1))).map enZ))
        rw [hs, if_neg (fun q => h (by omega)), List.map_append]
        rfl
      ·omega
  ·have hz := h
   have hV : reachOf z known m = known := by rw [reachOf, zoneAt_no hz]
   refine ⟨by omega, by omega, ?_⟩
   rw [Nat.mul_one]
   refine g ?_
   repeat' refine hold_ (g ?_)
   refine rdI_drop (setI_at hm') ?_
   cases hb : memB n.blur m
   ·refine g ?_
    repeat' refine st_ rfl (g ?_)
    refine call_ (rstretched_call _ n _) rfl (g ?_)
    refine g ?_
    obtain ⟨V, hVV⟩ : ∃ V, stretchS known n m = V := ⟨_, rfl⟩
    have hFm : F m = if coversB V now = true then none else some V := by
     rw [← hFz, zonesThen, reachThen, hkt, hb, hV, ← hVV]
     rfl
    have hcv := rvcovers_call V now
    obtain ⟨c, hc⟩ : ∃ c, coversB V now = c := ⟨_, rfl⟩
    rw [hc] at hcv hFm
    rw [hVV]
    cases c with
    | true =>
     have hd : joinZ (dotsZ F (m + 1)) = J := by rw [dotsZ, hFm, if_pos rfl, List.append_nil, hJ]
     refine g ?_
     repeat' (first | refine st_ rfl (g ?_) | refine call_ (hcv) rfl (g ?_))
     refine ⟨⟨m + 1, hm'⟩, id, ⟨⟨rfl, rfl, rfl, rfl, rfl, rfl, rfl, trivial⟩, ⟨?_, trivial⟩, by simp [idsOf, BA.id]⟩, by show 256 - (m + 1) < 256 - m; omega⟩
     rw [hd]
     rfl
    | false =>
     have hs : joinZ (dotsZ F (m + 1)) = joinStep J ⟨⟨m, m⟩, V⟩ := by
      rw [dotsZ, hFm, if_neg (by simp)]
      simp only
      rw [joinZ_snoc, hJ]
     cases hy : J.getLast? with
     | none =>
      have hJ0 : J = [] := List.getLast?_eq_none_iff.1 hy
      subst hJ0
      simp only [joinStep, List.getLast?_nil] at hs
      refine g ?_
      repeat' (first | refine st_ rfl (g ?_) | refine call_ (hcv) rfl (g ?_) | refine call_ (rvcopyD _) rfl (g ?_))
      refine bs1 (by omega) rfl rfl rfl ⟨im, im, trivial, trivial⟩ ?_
      refine g ?_
      refine append_own rfl (by kernel_rfl) (by omega) (by kernel_rfl) rfl (by simp; try omega) ?_
      refine g ?_
      repeat' refine st_ rfl (g ?_)
      refine ⟨⟨m + 1, hm'⟩, fun b => if b = 9900 then 10800 else b, ⟨⟨rfl, rfl, rfl, rfl, rfl, rfl, rfl, trivial⟩, ⟨?_, trivial⟩, by simp [idsOf, BA.id]⟩, by show 256 - (m + 1) < 256 - m; omega⟩
      show some (BA.row _ _ _ _) = some (BA.row _ _ _ ((joinZ (dotsZ F (m + 1))).map enZ))
      rw [hs]
      rfl
     | some y =>
      obtain ⟨D, hD⟩ : ∃ D, J.dropLast = D := ⟨_, rfl⟩
      have hl2 := list_last hy
      rw [hD] at hl2
      simp only [joinStep, hy, hD] at hs
      have hlen : J.length = D.length + 1 := by rw [← hl2]; simp
      have hJget : J[D.length]? = some y := by rw [← hl2]; simp
      have hget2 := get_map (f := enZ) hJget
      have hcast : ((J.length : Nat) : Int) - 1 = (D.length : Nat) := by omega
      have hi : ((J.length : Int) - 1).toNat = D.length := by omega
      refine g ?_
      repeat' (first | refine st_ rfl (g ?_) | (refine vops_ifd rfl rfl (fun h e => ?_) (fun h e => ?_) <;> simp only [e] <;> clear e <;> refine g ?_) | refine call_ (hcv) rfl (g ?_))
      ·refine ⟨by omega, by omega, ?_⟩
       rw [hi]
       refine g ?_
       repeat' refine hold_ (g ?_)
       refine ⟨_, hget2, ?_⟩
       refine g ?_
       repeat' (first | refine st_ rfl (g ?_) | refine hold_ (g ?_) | (refine vops_ifd rfl rfl (fun h e => ?_) (fun h e => ?_) <;> simp only [e] <;> clear e <;> refine g ?_))
       ·refine ⟨by omega, by omega, ?_⟩
        rw [hi]
        refine g ?_
        repeat' refine hold_ (g ?_)
        refine ⟨_, hget2, ?_⟩
        refine g ?_
        repeat' (first | refine st_ rfl (g ?_) | refine hold_ (g ?_) | refine cond_d (fun h => g ?_) (fun h => g ?_) | refine call_ (rvsame_call y.vec V) rfl (g ?_))
        ·refine ⟨by omega, by omega, ?_⟩
         rw [hi]
         refine g ?_
         repeat' refine hold_ (g ?_)
         refine ⟨_, _, rfl, ⟨im, trivial⟩, hget2, ?_⟩
         refine g ?_
         repeat' (first | refine st_ rfl (g ?_) | refine hold_ (g ?_))
         refine ⟨⟨m + 1, hm'⟩, id, ⟨⟨rfl, rfl, rfl, rfl, rfl, rfl, rfl, trivial⟩, ⟨?_, trivial⟩, by simp [idsOf, BA.id]⟩, by show 256 - (m + 1) < 256 - m; omega⟩
         show some (BA.row _ _ _ _) = some (BA.row _ _ _ ((joinZ (dotsZ F (m + 1))).map enZ))
         rw [hs, if_pos ⟨by omega, h⟩, ← hl2, List.map_append, List.map_append, List.set_append_right _ _ (by simp)]
         simp
         rfl
        ·refine g ?_
         repeat' refine call_ (rvcopyD _) rfl (g ?_)
         refine bs1 (by omega) rfl rfl rfl ⟨im, im, trivial, trivial⟩ ?_
         refine g ?_
         refine append_own rfl (by kernel_rfl) (by omega) (by kernel_rfl) rfl (by simp; try omega) ?_
         refine g ?_
         repeat' refine st_ rfl (g ?_)
         refine ⟨⟨m + 1, hm'⟩, fun b => if b = 9900 then 10800 else b, ⟨⟨rfl, rfl, rfl, rfl, rfl, rfl, rfl, trivial⟩, ⟨?_, trivial⟩, by simp [idsOf, BA.id]⟩, by show 256 - (m + 1) < 256 - m; omega⟩
         show some (BA.row _ _ _ _) = some (BA.row _ _ _ ((joinZ (dotsZ F (m + 1))).map enZ))
         rw [hs, if_neg (fun q => h q.2), List.map_append]
         rfl
       ·refine g ?_
        repeat' refine call_ (rvcopyD _) rfl (g ?_)
        refine bs1 (by omega) rfl rfl rfl ⟨im, im, trivial, trivial⟩ ?_
        refine g ?_
        refine append_own rfl (by kernel_rfl) (by omega) (by kernel_rfl) rfl (by simp; try omega) ?_
        refine g ?_
        repeat' refine st_ rfl (g ?_)
        refine ⟨⟨m + 1, hm'⟩, fun b => if b = 9900 then 10800 else b, ⟨⟨rfl, rfl, rfl, rfl, rfl, rfl, rfl, trivial⟩, ⟨?_, trivial⟩, by simp [idsOf, BA.id]⟩, by show 256 - (m + 1) < 256 - m; omega⟩
        show some (BA.row _ _ _ _) = some (BA.row _ _ _ ((joinZ (dotsZ F (m + 1))).map enZ))
        rw [hs, if_neg (fun q => h (by omega)), List.map_append]
        rfl
      ·omega
   ·refine g ?_
    repeat' refine st_ rfl (g ?_)
    obtain ⟨V, hVV⟩ : ∃ V, known = V := ⟨_, rfl⟩
    have hFm : F m = if coversB V now = true then none else some V := by
     rw [← hFz, zonesThen, reachThen, hkt, hb, hV, ← hVV]
     rfl
    have hcv := rvcovers_call V now
    obtain ⟨c, hc⟩ : ∃ c, coversB V now = c := ⟨_, rfl⟩
    rw [hc] at hcv hFm
    rw [hVV]
    cases c with
    | true =>
     have hd : joinZ (dotsZ F (m + 1)) = J := by rw [dotsZ, hFm, if_pos rfl, List.append_nil, hJ]
     refine g ?_
     repeat' (first | refine st_ rfl (g ?_) | refine call_ (hcv) rfl (g ?_))
     refine ⟨⟨m + 1, hm'⟩, id, ⟨⟨rfl, rfl, rfl, rfl, rfl, rfl, rfl, trivial⟩, ⟨?_, trivial⟩, by simp [idsOf, BA.id]⟩, by show 256 - (m + 1) < 256 - m; omega⟩
     rw [hd]
     rfl
    | false =>
     have hs : joinZ (dotsZ F (m + 1)) = joinStep J ⟨⟨m, m⟩, V⟩ := by
      rw [dotsZ, hFm, if_neg (by simp)]
      simp only
      rw [joinZ_snoc, hJ]
     cases hy : J.getLast? with
     | none =>
      have hJ0 : J = [] := List.getLast?_eq_none_iff.1 hy
      subst hJ0
      simp only [joinStep, List.getLast?_nil] at hs
      refine g ?_
      repeat' (first | refine st_ rfl (g ?_) | refine call_ (hcv) rfl (g ?_) | refine call_ (rvcopyD _) rfl (g ?_))
      refine bs1 (by omega) rfl rfl rfl ⟨im, im, trivial, trivial⟩ ?_
      refine g ?_
      refine append_own rfl (by kernel_rfl) (by omega) (by kernel_rfl) rfl (by simp; try omega) ?_
      refine g ?_
      repeat' refine st_ rfl (g ?_)
      refine ⟨⟨m + 1, hm'⟩, fun b => if b = 9900 then 10800 else b, ⟨⟨rfl, rfl, rfl, rfl, rfl, rfl, rfl, trivial⟩, ⟨?_, trivial⟩, by simp [idsOf, BA.id]⟩, by show 256 - (m + 1) < 256 - m; omega⟩
      show some (BA.row _ _ _ _) = some (BA.row _ _ _ ((joinZ (dotsZ F (m + 1))).map enZ))
      rw [hs]
      rfl
     | some y =>
      obtain ⟨D, hD⟩ : ∃ D, J.dropLast = D := ⟨_, rfl⟩
      have hl2 := list_last hy
      rw [hD] at hl2
      simp only [joinStep, hy, hD] at hs
      have hlen : J.length = D.length + 1 := by rw [← hl2]; simp
      have hJget : J[D.length]? = some y := by rw [← hl2]; simp
      have hget2 := get_map (f := enZ) hJget
      have hcast : ((J.length : Nat) : Int) - 1 = (D.length : Nat) := by omega
      have hi : ((J.length : Int) - 1).toNat = D.length := by omega
      refine g ?_
      repeat' (first | refine st_ rfl (g ?_) | (refine vops_ifd rfl rfl (fun h e => ?_) (fun h e => ?_) <;> simp only [e] <;> clear e <;> refine g ?_) | refine call_ (hcv) rfl (g ?_))
      ·refine ⟨by omega, by omega, ?_⟩
       rw [hi]
       refine g ?_
       repeat' refine hold_ (g ?_)
       refine ⟨_, hget2, ?_⟩
       refine g ?_
       repeat' (first | refine st_ rfl (g ?_) | refine hold_ (g ?_) | (refine vops_ifd rfl rfl (fun h e => ?_) (fun h e => ?_) <;> simp only [e] <;> clear e <;> refine g ?_))
       ·refine ⟨by omega, by omega, ?_⟩
        rw [hi]
        refine g ?_
        repeat' refine hold_ (g ?_)
        refine ⟨_, hget2, ?_⟩
        refine g ?_
        repeat' (first | refine st_ rfl (g ?_) | refine hold_ (g ?_) | refine cond_d (fun h => g ?_) (fun h => g ?_) | refine call_ (rvsame_call y.vec V) rfl (g ?_))
        ·refine ⟨by omega, by omega, ?_⟩
         rw [hi]
         refine g ?_
         repeat' refine hold_ (g ?_)
         refine ⟨_, _, rfl, ⟨im, trivial⟩, hget2, ?_⟩
         refine g ?_
         repeat' (first | refine st_ rfl (g ?_) | refine hold_ (g ?_))
         refine ⟨⟨m + 1, hm'⟩, id, ⟨⟨rfl, rfl, rfl, rfl, rfl, rfl, rfl, trivial⟩, ⟨?_, trivial⟩, by simp [idsOf, BA.id]⟩, by show 256 - (m + 1) < 256 - m; omega⟩
         show some (BA.row _ _ _ _) = some (BA.row _ _ _ ((joinZ (dotsZ F (m + 1))).map enZ))
         rw [hs, if_pos ⟨by omega, h⟩, ← hl2, List.map_append, List.map_append, List.set_append_right _ _ (by simp)]
         simp
         rfl
        ·refine g ?_
         repeat' refine call_ (rvcopyD _) rfl (g ?_)
         refine bs1 (by omega) rfl rfl rfl ⟨im, im, trivial, trivial⟩ ?_
         refine g ?_
         refine append_own rfl (by kernel_rfl) (by omega) (by kernel_rfl) rfl (by simp; try omega) ?_
         refine g ?_
         repeat' refine st_ rfl (g ?_)
         refine ⟨⟨m + 1, hm'⟩, fun b => if b = 9900 then 10800 else b, ⟨⟨rfl, rfl, rfl, rfl, rfl, rfl, rfl, trivial⟩, ⟨?_, trivial⟩, by simp [idsOf, BA.id]⟩, by show 256 - (m + 1) < 256 - m; omega⟩
         show some (BA.row _ _ _ _) = some (BA.row _ _ _ ((joinZ (dotsZ F (m + 1))).map enZ))
         rw [hs, if_neg (fun q => h q.2), List.map_append]
         rfl
       ·refine g ?_
        repeat' refine call_ (rvcopyD _) rfl (g ?_)
        refine bs1 (by omega) rfl rfl rfl ⟨im, im, trivial, trivial⟩ ?_
        refine g ?_
        refine append_own rfl (by kernel_rfl) (by omega) (by kernel_rfl) rfl (by simp; try omega) ?_
        refine g ?_
        repeat' refine st_ rfl (g ?_)
        refine ⟨⟨m + 1, hm'⟩, fun b => if b = 9900 then 10800 else b, ⟨⟨rfl, rfl, rfl, rfl, rfl, rfl, rfl, trivial⟩, ⟨?_, trivial⟩, by simp [idsOf, BA.id]⟩, by show 256 - (m + 1) < 256 - m; omega⟩
        show some (BA.row _ _ _ _) = some (BA.row _ _ _ ((joinZ (dotsZ F (m + 1))).map enZ))
        rw [hs, if_neg (fun q => h (by omega)), List.map_append]
        rfl
      ·omega
 ·obtain rfl : m = 256 := by have := of_decide_eq_false h; omega
  obtain ⟨Z, hZ⟩ : ∃ Z, zonesOf F = Z := ⟨_, rfl⟩
  have hZ2 : joinZ (dotsZ F 256) = Z := hZ
  rw [hZ2]
  rw [hZ] at hR
  subst hR
  refine AW.freeze 9900 _ rfl trivial ?_
  simp only [go_sem, reduceIte, Nat.reduceEqDiff]
  refine g ?_
  repeat' refine st_ rfl (g ?_)
  exact Sub1.rfl_ _
end Go.Proofs.YtkphfdmelfhnoaaGreatDoor
namespace Go.Proofs.YtkphfdmelfhnoaaGreatDoor
theorem put_once {l : List Body} {x : Body} (h : onceB l = true) (hx : rightBody x = true) : onceB (forgetB l x.object ++ [x]) = true := by
 simp only [onceB, Bool.and_eq_true, decide_eq_true_eq, List.all_eq_true] at h ⊢
 refine ⟨fun y hy => ?_, ?_⟩
 ·rcases List.mem_append.1 hy with hy | hy
  ·exact h.1 y (List.mem_filter.1 hy).1
  ·rw [List.mem_singleton.1 hy]; exact hx
 ·rw [List.map_append, List.nodup_append]
  refine ⟨h.2.sublist (List.filter_sublist.map _), by simp, fun a ha b hb e => ?_⟩
  obtain ⟨y, hy, rfl⟩ := List.mem_map.1 ha
  have h1 := (List.mem_filter.1 hy).2
  simp only [List.map_cons, List.map_nil, List.mem_singleton] at hb
  simp [e, hb] at h1
theorem once_sub {l m : List Body} (h : onceB l = true) (hs : List.Sublist m l) : onceB m = true := by
 simp only [onceB, Bool.and_eq_true, decide_eq_true_eq, List.all_eq_true] at h ⊢
 exact ⟨fun y hy => h.1 y (hs.subset hy), h.2.sublist (hs.map _)⟩
theorem cmp_before {a b : List Stamp} : cmpV a b = 1 ↔ coversB a b = false ∧ coversB b a = true := by
 unfold cmpV
 cases coversB a b <;> cases coversB b a <;> simp
theorem covers_refl (a : List Stamp) : coversB a a = true := coversB_iff.2 fun _ _ => Int.le_refl _
theorem covers_trans {a b c : List Stamp} (h1 : coversB a b = true) (h2 : coversB b c = true) : coversB a c = true := coversB_iff.2 fun n hn => Int.le_trans (coversB_iff.1 h2 n hn) (coversB_iff.1 h1 n hn)
theorem reach_zonesOf {f : Nat → Option (List Stamp)} (hf : ∀ o v, f o = some v → vecFormed v = true) (known : List Stamp) {o : Nat} (ho : o < 256) : reachOf (zonesOf f) known o = (f o).getD known := by
 obtain ⟨h1, h2⟩ := zonesOf_in hf
 unfold reachOf
 cases hz : zoneAt (zonesOf f) o with
 | none =>
  cases hfo : f o with
  | none => rfl
  | some v =>
   obtain ⟨x, hx, a, b, _⟩ := (h2 o v).2 ⟨o, ho, rfl, hfo⟩
   have := List.find?_eq_none.1 hz x hx
   simp [Zone.has, a, b] at this
 | some x =>
  have hx := List.mem_of_find?_eq_some hz
  have hh := List.find?_some hz
  simp only [Zone.has, Bool.and_eq_true, decide_eq_true_eq] at hh
  obtain ⟨k, hk, e, hfk⟩ := (h2 o x.vec).1 ⟨x, hx, hh.1, hh.2, rfl⟩
  obtain rfl : o = k := by omega
  rw [hfk]
  rfl
theorem zonesOf_mem {f : Nat → Option (List Stamp)} (hf : ∀ o v, f o = some v → vecFormed v = true) {x : Zone} (hx : x ∈ zonesOf f) : ∃ k : Nat, k < 256 ∧ f k = some x.vec := by
 obtain ⟨h1, h2⟩ := zonesOf_in hf
 have hok := zonesFrom_mem h1 x hx
 simp only [zoneOk, Bool.and_eq_true, decide_eq_true_eq] at hok
 obtain ⟨k, hk, _, e⟩ := (h2 x.span.lo x.vec).1 ⟨x, hx, Int.le_refl _, hok.1.1, rfl⟩
 exact ⟨k, hk, e⟩
theorem count_stretch (v : List Stamp) (n : Note) {k : Nat} (hk : k < 64) : countOf (farS v n) k = stretchC v n k := by
 refine countOf_vecOf _ hk ?_
 have := countOf_nonneg v k
 unfold stretchC
 split <;> omega
theorem far_ge (v : List Stamp) (n : Note) : coversB (farS v n) v = true := coversB_iff.2 fun k hk => by
 rw [count_stretch v n hk, stretchC]
 split <;> omega
theorem stretch_ge (v : List Stamp) (n : Note) (o : Int) : coversB (stretchS v n o) v = true := by
 unfold stretchS
 split
 ·split
  ·exact far_ge v n
  ·exact covers_refl v
 ·exact far_ge v n
theorem reachThen_ge (z : List Zone) (known : List Stamp) (n : Note) (o : Nat) : coversB (reachThen z known n o) (reachOf z known o) = true := by
 unfold reachThen
 split
 ·exact covers_refl _
 ·exact stretch_ge _ n o
theorem known_then {known : List Stamp} {n : Note} {k : Nat} (hk : k < 64) : countOf (knownThen known n) k = max (countOf known k) (countOf n.end_ k) := by
 unfold knownThen
 rw [countOf_joinS _ hk, joinC_two]
theorem now_known (known : List Stamp) (n : Note) : coversB (knownThen known n) known = true := coversB_iff.2 fun k hk => by rw [known_then hk]; omega
theorem far_le {v known : List Stamp} {n : Note} (h : coversB known v = true) : coversB (knownThen known n) (farS v n) = true := coversB_iff.2 fun k hk => by
 have := coversB_iff.1 h k hk
 rw [known_then hk, count_stretch v n hk, stretchC]
 split <;> omega
theorem reachThen_le {z : List Zone} {known : List Stamp} {n : Note} {o : Nat} (h : coversB known (reachOf z known o) = true) : coversB (knownThen known n) (reachThen z known n o) = true := by
 unfold reachThen
 split
 ·exact covers_trans (now_known known n) h
 ·unfold stretchS
  split
  ·split
   ·exact far_le h
   ·exact covers_trans (now_known known n) h
  ·exact far_le h
theorem has_mono {a b : List Stamp} {s : Stamp} (h : coversB a b = true) (hs : vecHas b s = true) : vecHas a s = true := by
 simp only [vecHas, Bool.and_eq_true, decide_eq_true_eq] at hs ⊢
 refine ⟨hs.1, ?_⟩
 have h1 := hs.1
 simp only [rightB, decide_eq_true_eq] at h1
 have := coversB_iff.1 h s.node.toNat (by omega)
 rw [show ((s.node.toNat : Nat) : Int) = s.node by omega] at this
 omega
structure VF (v : View) : Prop where
 known : vecFormed v.known = true
 zones : zonesFormed v.zones = true
 held : Shelf v.held
 cache : cacheFormed v.bodies v.room = true
 below : ∀ x ∈ v.zones, coversB x.vec v.known = false ∧ coversB v.known x.vec = true
 reached : ∀ w ∈ v.held, vecHas (reachOf v.zones v.known w.object) w.stamp = true
 wanted : ∀ x ∈ v.bodies, wantedB v.held x = true
theorem reached_iff {z : List Zone} {k : List Stamp} (hz : zonesFormed z = true) (hk : vecFormed k = true) {w : Write} : reachedB z k w = true ↔ (0 ≤ w.object ∧ w.object ≤ 255) ∧ vecHas (reachOf z k w.object) w.stamp = true := by
 unfold reachedB reachS
 by_cases h : 0 ≤ w.object ∧ w.object ≤ 255
 ·rw [if_pos ⟨hz, hk, h⟩]
  exact ⟨fun hh => ⟨h, hh⟩, fun hh => hh.2⟩
 ·rw [if_neg fun hh => h hh.2.2]
  refine ⟨fun hh => ?_, fun hh => absurd hh.1 h⟩
  exfalso
  simp only [vecHas, Bool.and_eq_true, decide_eq_true_eq] at hh
  have h1 := hh.1
  have h2 := hh.2
  simp only [countOf, rightB, decide_eq_true_eq] at h1 h2
  omega
theorem view_iff {v : View} : viewFormed v = true ↔ VF v := by
 simp only [viewFormed, partsB, Bool.and_eq_true, List.all_eq_true, decide_eq_true_eq]
 constructor
 ·rintro ⟨⟨⟨⟨⟨⟨h1, h2⟩, h3⟩, h4⟩, h5⟩, h6⟩, h7⟩
  exact ⟨h1, h2, shelf_iff.1 h3, h4, fun x hx => cmp_before.1 (h5 x hx), fun w hw => ((reached_iff h2 h1).1 (h6 w hw)).2, h7⟩
 ·rintro ⟨h1, h2, h3, h4, h5, h6, h7⟩
  exact ⟨⟨⟨⟨⟨⟨h1, h2⟩, shelf_iff.2 h3⟩, h4⟩, fun x hx => cmp_before.2 (h5 x hx)⟩, fun w hw => (reached_iff h2 h1).2 ⟨rightW_in (h3.2 w hw), h6 w hw⟩⟩, h7⟩
theorem VF.reach_le {v : View} (h : VF v) (o : Int) : coversB v.known (reachOf v.zones v.known o) = true := by
 unfold reachOf
 split
 ·rename_i x hx
  exact (h.below x (List.mem_of_find?_eq_some hx)).2
 ·exact covers_refl _
def tookZ (v : View) (n : Note) : List Zone := zonesOf (zonesThen v.zones v.known n)
theorem takeV_ok {v : View} {n : Note} (h : (takeV v n).2 = 0) : VF v ∧ noteFormed n = true ∧ coversB v.known n.start = true ∧
  (takeV v n).1 = ⟨knownThen v.known n, tookZ v n, putL v.held (toldW (tookZ v n) (knownThen v.known n) n), v.bodies.filter (fun x => wantedB (putL v.held (toldW (tookZ v n) (knownThen v.known n) n)) x), v.room⟩ := by
 by_cases hv : viewFormed v = true
 ·have hvf := view_iff.1 hv
  by_cases hn : noteFormed n = true
  ·have ht : takeOk v.zones v.known n = true := by simp [takeOk, hvf.zones, hvf.known, hn]
   by_cases hc : coversB v.known n.start = true
   ·have e : takeZ v.zones v.known n = (tookZ v n, knownThen v.known n, 0) := by rw [takeZ, if_pos ht, if_pos hc]; rfl
    refine ⟨hvf, hn, hc, ?_⟩
    rw [takeV, if_pos hv, e, if_pos rfl]
   ·have e : takeZ v.zones v.known n = ([], [], 3) := by rw [takeZ, if_pos ht, if_neg hc]
    rw [takeV, if_pos hv, e] at h
    simp at h
  ·have e : takeZ v.zones v.known n = ([], [], 1) := by rw [takeZ, if_neg]; simp [takeOk, hn]
   rw [takeV, if_pos hv, e] at h
   simp at h
 ·rw [takeV, if_neg hv] at h
  simp at h
theorem took_formed {v : View} (h : VF v) (n : Note) : zonesFormed (tookZ v n) = true := (zonesOf_in (zonesThen_formed h.zones h.known n)).1
theorem took_reach {v : View} (h : VF v) (n : Note) {o : Nat} (ho : o < 256) : reachOf (tookZ v n) (knownThen v.known n) o = (if coversB (reachThen v.zones v.known n o) (knownThen v.known n) = true then knownThen v.known n else reachThen v.zones v.known n o) := by
 rw [tookZ, reach_zonesOf (zonesThen_formed h.zones h.known n) _ ho, zonesThen]
 split <;> rfl
theorem covers_anti {a b : List Stamp} (ha : vecFormed a = true) (hb : vecFormed b = true) (h1 : coversB a b = true) (h2 : coversB b a = true) : a = b :=
 vec_unique (e := -1) (by omega) ha hb fun n hn => by
  have := coversB_iff.1 h1 n hn
  have := coversB_iff.1 h2 n hn
  omega
theorem took_reach' {v : View} (h : VF v) (n : Note) {o : Nat} (ho : o < 256) : reachOf (tookZ v n) (knownThen v.known n) o = reachThen v.zones v.known n o := by
 rw [took_reach h n ho]
 split
 ·rename_i hc
  exact covers_anti (vecOf_formed _) (reachThen_formed h.zones h.known n o) (reachThen_le (h.reach_le o)) hc
 ·rfl
theorem putL_mem : ∀ {list l : List Write}, Shelf l → (∀ w ∈ list, rightW w = true) → ∀ w ∈ putL l list, w ∈ l ∨ w ∈ list
 | [], _, _, _, _, hw => .inl hw
 | u :: list, l, h, hr, w, hw => by
  obtain ⟨h1, h2⟩ := put_shelf h (hr u (by simp))
  rcases putL_mem (l := putStep l u) h1 (fun x hx => hr x (by simp [hx])) w hw with h3 | h3
  ·rcases (h2 w).1 h3 with h4 | h4
   ·exact .inl h4.1
   ·unfold putW at h4
    split at h4
    ·exact .inr (by simp [h4])
    ·rename_i y hy
     split at h4
     ·exact .inr (by simp [h4])
     ·subst h4; exact .inl ((getW_mem h).1 hy).1
  ·exact .inr (by simp [h3])
theorem used_sub {l m : List Body} (h : List.Sublist m l) : usedS m ≤ usedS l := by
 induction h with
 | slnil => exact Nat.le_refl _
 | cons a _ ih => simp only [usedS, List.map_cons, List.sum_cons] at ih ⊢; omega
 | cons_cons a _ ih => simp only [usedS, List.map_cons, List.sum_cons] at ih ⊢; omega
theorem cache_sub {l m : List Body} {room : Int} (h : cacheFormed l room = true) (hs : List.Sublist m l) : cacheFormed m room = true := by
 simp only [cacheFormed, Bool.and_eq_true, decide_eq_true_eq] at h ⊢
 have := hs.length_le
 have := used_sub hs
 exact ⟨⟨⟨h.1.1.1, by omega⟩, once_sub h.1.2 hs⟩, by omega⟩
attribute [local irreducible] zonesOf tookZ in
theorem takeV_vf {v : View} {n : Note} (h : (takeV v n).2 = 0) : VF (takeV v n).1 := by
 obtain ⟨hv, hn, hc, e⟩ := takeV_ok h
 rw [e]
 have hz := took_formed hv n
 have hk : vecFormed (knownThen v.known n) = true := vecOf_formed _
 have hS := putL_shelf (list := toldW (tookZ v n) (knownThen v.known n) n) hv.held told_right
 refine ⟨hk, hz, hS, cache_sub hv.cache List.filter_sublist, fun x hx => ?_, fun w hw => ?_, fun x hx => (List.mem_filter.1 hx).2⟩
 ·obtain ⟨k, hk, e⟩ := zonesOf_mem (f := zonesThen v.zones v.known n) (zonesThen_formed hv.zones hv.known n) (x := x) (by have h9 : x ∈ tookZ v n := hx; unfold tookZ at h9; exact h9)
  unfold zonesThen at e
  split at e
  ·cases e
  ·rename_i hcc
   rw [← Option.some.inj e]
   exact ⟨by simpa using hcc, reachThen_le (hv.reach_le k)⟩
 ·rcases putL_mem hv.held told_right w hw with h1 | h1
  ·have hr := rightW_in (hv.held.2 w h1)
   have h2 := hv.reached w h1
   obtain ⟨k, hk⟩ : ∃ k : Nat, w.object = k := ⟨w.object.toNat, by omega⟩
   simp only
   rw [hk] at h2 ⊢
   rw [took_reach' hv n (by omega)]
   exact has_mono (reachThen_ge _ _ n k) h2
  ·exact ((reached_iff hz hk).1 (List.mem_filter.1 h1).2).2
theorem takeV_formed {v : View} {n : Note} (h : (takeV v n).2 = 0) : viewFormed (takeV v n).1 = true := view_iff.2 (takeV_vf h)
end Go.Proofs.YtkphfdmelfhnoaaGreatDoor
namespace Go.Proofs.YtkphfdmelfhnoaaGreatDoor
open Go.ChangeShapes Go.WideShapes Go.ChangeAt Go.RowKit
theorem rscmp_call (a b : Stamp) : ACalls Tryz.prog TzTab 29 [.agg [.val (.int .i64 a.count), .val (.int .i64 a.node)], .agg [.val (.int .i64 b.count), .val (.int .i64 b.node)]] (.val (.int .i64 (cmpS a.count a.node b.count b.node))) [] :=
 bridge_val Tryz.func29 rfl (by kernel_rfl) fun V w E vs hV hG hr => by
  obtain ⟨v0, v1, rfl, h0, h1⟩ := args2 hr
  obtain rfl := agg_two h0
  obtain rfl := agg_two h1
  exact refCompare _ _ _ _ w
def cellsW (f : Nat → Write) : Nat → List IV
 | 0 => []
 | n + 1 => cellsW f n ++ enW (f n)
theorem enW_len (w : Write) : (enW w).length = 4 := rfl
theorem cellsW_len (f : Nat → Write) : ∀ n, (cellsW f n).length = n * 4
 | 0 => rfl
 | n + 1 => by rw [cellsW, List.length_append, cellsW_len f n, enW_len]; omega
theorem cellsW_at {f : Nat → Write} {o : Nat} : ∀ {n : Nat}, o < n → ((cellsW f n).drop (o * 4)).take 4 = enW (f o)
 | n + 1, h => by
  have hl := cellsW_len f n
  rw [cellsW]
  rcases Nat.lt_or_ge o n with h1 | h1
  ·rw [List.drop_append_of_le_length (by omega), List.take_append_of_le_length (by rw [List.length_drop]; omega)]
   exact cellsW_at h1
  ·obtain rfl : o = n := by omega
   rw [← hl, List.drop_left]
   rfl
theorem cellsW_congr {f g : Nat → Write} : ∀ {n : Nat}, (∀ o, o < n → f o = g o) → cellsW f n = cellsW g n
 | 0, _ => rfl
 | n + 1, h => by rw [cellsW, cellsW, cellsW_congr fun o ho => h o (by omega), h n (by omega)]
theorem setsL_append {α : Type} : ∀ (ds cs es : List α) (o : Nat), o + ds.length ≤ cs.length → setsL (cs ++ es) o ds = setsL cs o ds ++ es
 | [], _, _, _, _ => rfl
 | d :: ds, cs, es, o, h => by
  simp only [List.length_cons] at h
  rw [setsL, setsL, List.set_append_left _ _ (by omega)]
  exact setsL_append ds _ es _ (by rw [List.length_set]; omega)
theorem setsL_after {α : Type} : ∀ (ds cs es : List α) (o : Nat), setsL (cs ++ es) (cs.length + o) ds = cs ++ setsL es o ds
 | [], _, _, _ => rfl
 | d :: ds, cs, es, o => by
  rw [setsL, setsL, List.set_append_right _ _ (by omega), show cs.length + o - cs.length = o by omega]
  exact setsL_after ds cs _ (o + 1)
theorem cellsW_put {f : Nat → Write} {o : Nat} {w : Write} : ∀ {n : Nat}, o < n → setsL (cellsW f n) (o * 4) (enW w) = cellsW (fun p => if p = o then w else f p) n
 | n + 1, h => by
  have hl := cellsW_len f n
  rw [cellsW, cellsW]
  rcases Nat.lt_or_ge o n with h1 | h1
  ·rw [setsL_append _ _ _ _ (by rw [enW_len]; omega), cellsW_put h1, if_neg (by omega)]
  ·obtain rfl : o = n := by omega
   have := setsL_after (enW w) (cellsW f o) (enW (f o)) 0
   rw [hl, Nat.add_zero] at this
   rw [this, if_pos rfl, cellsW_congr (f := fun p => if p = o then w else f p) (g := f) fun p hp => if_neg (by omega)]
   rfl
def zeroW : Nat → List Value
 | 0 => []
 | n + 1 => zeroW n ++ [.int .i64 0, .int .i64 0, .int .i64 0, .bool false]
theorem zeroW_ok : ∀ n, ∀ v ∈ zeroW n, okV v
 | 0, v, h => by cases h
 | n + 1, v, h => by
  rw [zeroW, List.mem_append] at h
  rcases h with h | h
  ·exact zeroW_ok n v h
  ·simp only [List.mem_cons, List.not_mem_nil, or_false] at h
   rcases h with rfl | rfl | rfl | rfl
   ·exact rfl
   ·exact rfl
   ·exact rfl
   ·trivial
theorem zeroW_cells : ∀ n, (zeroW n).map IV.val = cellsW (fun _ => noW) n
 | 0 => rfl
 | n + 1 => by rw [zeroW, List.map_append, zeroW_cells n]; rfl
theorem tyZ_wr : tyZ Tryz.prog 208 = some (2, zeroW 256) := by kernel_rfl
theorem getW_take {l : List Write} (h : Shelf l) {m : Nat} (hm : m < l.length) (o : Int) : getW (l.take (m + 1)) o = if o = l[m].object then some l[m] else getW (l.take m) o := by
 have h1 : Shelf (l.take (m + 1)) := ⟨h.1.sublist (List.take_sublist _ _), fun w hw => h.2 w (List.mem_of_mem_take hw)⟩
 have hs := List.take_succ_eq_append_getElem hm
 split
 ·rename_i e
  exact (getW_mem h1).2 ⟨by rw [hs]; exact List.mem_append_right _ (List.mem_singleton.2 rfl), e.symm⟩
 ·rename_i e
  rw [hs]
  unfold getW
  rw [List.find?_append]
  simp [show ¬ l[m].object = o from fun e2 => e e2.symm]
attribute [local irreducible] AW AWY vops vopsY vop vopL vdraw callW qop binQ lenQ storeQ appendQ callQ ACalls AIter setI cellsW zeroW
attribute [local go_sem] wrI_eq enW_eq wA_eq storeQ_val storeQ_iv storeQ_own storeQ_agg tyZ_wr
theorem cellsW_stamp {f : Nat → Write} {o n : Nat} (h : o < n) : ((cellsW f n).drop (o * 4)).take 2 = [.val (.int .i64 (f o).stamp.count), .val (.int .i64 (f o).stamp.node)] := by
 have := congrArg (List.take 2) (cellsW_at (f := f) h)
 rw [List.take_take] at this
 exact this
def hasL (L : List Write) (o : Nat) : Bool := (getW L o).isSome
def atL (L : List Write) (o : Nat) : Write := (getW L o).getD noW
theorem hasL_put {L L' : List Write} {k : Nat} {y : Write} (hk : k < 256) (h : ∀ o : Int, getW L' o = if o = (k : Int) then some y else getW L o) : (setI (hasL L)).set k (.val (.bool true)) = setI (hasL L') := by
 rw [setI_put hk]
 refine setI_congr fun o _ => ?_
 unfold hasL
 rw [h]
 by_cases e : o = k
 ·rw [if_pos e, if_pos (by omega)]; rfl
 ·rw [if_neg e, if_neg (by omega)]
theorem atL_put {L L' : List Write} {k : Nat} {y : Write} (hk : k < 256) (h : ∀ o : Int, getW L' o = if o = (k : Int) then some y else getW L o) : setsL (cellsW (atL L) 256) (k * 4) (enW y) = cellsW (atL L') 256 := by
 rw [cellsW_put hk]
 refine cellsW_congr fun o _ => ?_
 unfold atL
 rw [h]
 by_cases e : o = k
 ·rw [if_pos e, if_pos (by omega)]; rfl
 ·rw [if_neg e, if_neg (by omega)]
theorem hasL_same {L L' : List Write} (h : ∀ o : Int, getW L' o = getW L o) : hasL L' = hasL L ∧ atL L' = atL L := by
 refine ⟨funext fun o => ?_, funext fun o => ?_⟩
 ·unfold hasL; rw [h]
 ·unfold atL; rw [h]
set_option maxRecDepth 100000 in
set_option maxHeartbeats 3200000 in
theorem rshput_call (l list : List Write) : ACalls Tryz.prog TzTab 82 [.iv (wrI l), .iv (wrI list)] (.tup [.iv (wrI (putS l list).1), .val (.int .i64 (putS l list).2)]) [] := by
 refine ACalls.ofS (n := 94) (rs := [.tmp 4, .tmp 5]) Tryz.func82 rfl (by kernel_rfl) Tryz.ntmps82 (by kernel_rfl) (by simp) (fun _ _ => TzTab.later) ?_
 intro hok V w0
 obtain ⟨R, hR⟩ : ∃ R, putS l list = R := ⟨_, rfl⟩
 rw [hR]
 unfold putS at hR
 have hlen : l.length ≤ 1073741824 := by simpa [wrI] using hok.1.1
 have hlen2 : list.length ≤ 1073741824 := by simpa [wrI] using hok.2.1.1
 have hI : ∀ x ∈ l, I64 x.stamp.count ∧ I64 x.stamp.node ∧ I64 x.object := fun x hx => by
  obtain ⟨-, o1, o2, o3, -⟩ := okR_mem (by simpa [wrI] using hok.1.2) (enW x) (List.mem_map_of_mem hx)
  exact ⟨o1, o2, o3⟩
 have hI2 : ∀ x ∈ list, I64 x.stamp.count ∧ I64 x.stamp.node ∧ I64 x.object := fun x hx => by
  obtain ⟨-, o1, o2, o3, -⟩ := okR_mem (by simpa [wrI] using hok.2.1.2) (enW x) (List.mem_map_of_mem hx)
  exact ⟨o1, o2, o3⟩
 refine g ?_
 repeat' (first | refine st_ rfl (g ?_) | refine cond_ (fun h => g ?_) (fun h => g ?_) | refine call_ (rshformed_call _) rfl (g ?_))
 ·rw [if_neg fun q => by rw [q.1] at h; cases h] at hR
  subst hR
  refine tup_sub rfl fun p hp => ?_
  simp only [List.zip_cons_cons, List.zip_nil_right, List.mem_cons, List.not_mem_nil, or_false] at hp
  rcases hp with rfl | rfl
  ·exact nil_sub 4
  ·exact Sub1.rfl_ _
 have hF : shelfFormed l = true := by simpa using h
 have hS := shelf_iff.1 hF
 refine ⟨zeroW_ok 256, ?_⟩
 refine g ?_
 repeat' refine st_ rfl (g ?_)
 refine AW.loop (fun i : {i : Nat // i ≤ l.length} => ⟨[(0, .iv (wrI l)), (1, .iv (wrI list)), (6, .bp 700 0), (7, .bp 800 0), (8, .val (.int .i64 (i.1 : Nat)))], [.arr 800 (cellsW (atL (l.take i.1)) 256), .arr 700 (setI (hasL (l.take i.1)))]⟩) (fun i => l.length - i.1) ⟨0, Nat.zero_le _⟩ id ⟨⟨rfl, rfl, rfl, rfl, rfl, trivial⟩, ⟨?_, ?_, trivial⟩, by simp [idsOf, BA.id]⟩ fun ⟨i, hi⟩ => ?_
 ·exact congrArg (fun C => some (BA.arr 800 C)) (zeroW_cells 256)
 ·exact congrArg (fun C => some (BA.arr 700 C)) (rep_set.trans (setI_congr fun o ho => rfl))
 simp only
 repeat (refine AW.seq ?_)
 refine AW.reg rfl fun KK hKK => ?_
 refine g ?_
 repeat' (refine hKK _ (g ?_); clear hKK KK)
 repeat (refine AW.seq ?_)
 refine st_ rfl ?_
 refine g ?_
 refine cond_d (fun h => ?_) (fun h => ?_)
 ·have hlt : i < l.length := by omega
  obtain ⟨x, hx⟩ : ∃ x, l[i] = x := ⟨_, rfl⟩
  obtain ⟨o1, o2, o3⟩ := hI _ (List.getElem_mem hlt)
  have hr := rightW_in (hS.2 _ (List.getElem_mem hlt))
  have hg := getW_take hS hlt
  have hget := get_map (f := enW) (List.getElem?_eq_getElem hlt)
  rw [hx] at o1 o2 o3 hr hg hget
  obtain ⟨k, hk⟩ : ∃ k : Nat, x.object = k := ⟨x.object.toNat, by omega⟩
  have hkt : x.object.toNat = k := by omega
  have hk2 : k < 256 := by omega
  refine g ?_
  repeat' (first | refine st_ rfl (g ?_) | refine ix_ (by omega) (g ?_))
  rw [hx]
  refine ⟨by omega, by omega, ?_⟩
  rw [hkt, Nat.mul_one, Nat.zero_add]
  refine g ?_
  repeat' refine hold_ (g ?_)
  refine ⟨_, rfl, ⟨trivial, trivial⟩, by rw [setI_len]; omega, ?_⟩
  refine g ?_
  repeat' refine hold_ (g ?_)
  refine AW.drawn (ds := [28, 29, 30, 31, 32, 33, 34, 35, 36, 37]) (fin := [1, 2]) (bs := [2, 2, 2, 2, 2, 2, 2, 2, 2, 2, 2]) [⟨[], [], [], [], 0⟩, ⟨[], [], [], [], 0⟩, ⟨[(28, 0), (29, 1)], [], [0, 1], [], 0⟩, ⟨[(30, 2)], [], [], [], 0⟩, ⟨[(31, 3)], [], [0, 1], [], 0⟩, ⟨[], [], [], [], 0⟩, ⟨[], [], [], [], 0⟩, ⟨[(33, 5), (34, 6)], [], [0, 1], [], 0⟩, ⟨[(35, 7)], [], [0, 1], [], 0⟩, ⟨[(32, 4)], [], [0, 1], [], 0⟩, ⟨[(37, 9), (36, 8)], [], [], [0], 1⟩] (by kernel_rfl) rfl (by kernel_rfl) rfl rfl rfl fun KD hKD => ?_
  refine g ?_
  repeat' refine ix_ (by omega) (g ?_)
  rw [hx]
  refine ⟨by omega, by omega, ?_⟩
  rw [hkt]
  refine g ?_
  repeat' refine hold_ (g ?_)
  refine ⟨_, rfl, ⟨o1, o2, o3, trivial, trivial⟩, by rw [cellsW_len]; omega, ?_⟩
  rw [Nat.zero_add]
  refine g ?_
  repeat' (first | refine st_ rfl (g ?_) | refine hold_ (g ?_) | (refine hKD _ _ ⟨rfl, g ?_⟩; clear hKD KD))
  refine ⟨⟨i + 1, hlt⟩, id, ⟨⟨rfl, rfl, rfl, rfl, rfl, trivial⟩, ⟨congrArg (fun C => some (BA.arr 800 C)) ?_, congrArg (fun C => some (BA.arr 700 C)) ?_, trivial⟩, by simp [idsOf, BA.id]⟩, by show l.length - (i + 1) < l.length - i; omega⟩
  ·exact atL_put hk2 fun o => by rw [hg, hk]
  ·exact hasL_put hk2 fun o => by rw [hg, hk]
 obtain rfl : i = l.length := by omega
 clear h hi
 rw [List.take_length]
 refine AW.exit ?_
 simp only [reduceIte]
 refine g ?_
 repeat' refine st_ rfl (g ?_)
 refine AW.loop (fun i : {i : Nat // i ≤ list.length ∧ (list.take i).all rightW = true} => ⟨[(1, .iv (wrI list)), (6, .bp 700 0), (7, .bp 800 0), (9, .val (.int .i64 (i.1 : Nat)))], [.arr 800 (cellsW (atL (putL l (list.take i.1))) 256), .arr 700 (setI (hasL (putL l (list.take i.1))))]⟩) (fun i => list.length - i.1) ⟨0, Nat.zero_le _, rfl⟩ id ⟨⟨rfl, rfl, rfl, rfl, trivial⟩, ⟨rfl, rfl, trivial⟩, by simp [idsOf, BA.id]⟩ fun ⟨i, hi, hall⟩ => ?_
 simp only
 repeat (refine AW.seq ?_)
 refine AW.reg rfl fun KK hKK => ?_
 refine g ?_
 repeat' (refine hKK _ (g ?_); clear hKK KK)
 repeat (refine AW.seq ?_)
 refine st_ rfl ?_
 refine g ?_
 refine cond_d (fun h => ?_) (fun h => ?_)
 ·have hlt : i < list.length := by omega
  have hst := List.take_succ_eq_append_getElem hlt
  obtain ⟨o1, o2, o3⟩ := hI2 _ (List.getElem_mem hlt)
  have hget := get_map (f := enW) (List.getElem?_eq_getElem hlt)
  have hrt : ∀ w ∈ list.take i, rightW w = true := by simpa using hall
  have hL := putL_shelf hS hrt
  have hsn := putL_snoc l (list.take i) list[i]
  obtain ⟨L, hLe⟩ : ∃ L, putL l (list.take i) = L := ⟨_, rfl⟩
  obtain ⟨x, hx⟩ : ∃ x, list[i] = x := ⟨_, rfl⟩
  rw [hx] at hst hsn hget o1 o2 o3
  rw [hLe] at hL hsn ⊢
  have hcall := rwright_call x
  refine g ?_
  repeat' (first | refine st_ rfl (g ?_) | refine ix_ (by omega) (g ?_))
  rw [hx]
  refine g ?_
  repeat' (first | refine st_ rfl (g ?_) | refine cond_ (fun h => g ?_) (fun h => g ?_) | refine ix_ (by omega) (g ?_) | refine call_ (hcall) rfl (g ?_))
  ·have hn : ¬ (list.all rightW = true) := fun q => by
    have := List.all_eq_true.1 q list[i] (List.getElem_mem hlt)
    rw [hx] at this
    rw [this] at h
    cases h
   rw [if_neg fun q => hn q.2] at hR
   subst hR
   refine tup_sub rfl fun p hp => ?_
   simp only [List.zip_cons_cons, List.zip_nil_right, List.mem_cons, List.not_mem_nil, or_false] at hp
   rcases hp with rfl | rfl
   ·exact nil_sub 4
   ·exact Sub1.rfl_ _
  have hxr : rightW x = true := by simpa using h
  have hr := rightW_in hxr
  obtain ⟨k, hk⟩ : ∃ k : Nat, x.object = k := ⟨x.object.toNat, by omega⟩
  have hkt : x.object.toNat = k := by omega
  have hk2 : k < 256 := by omega
  have hpg := put_get hL hxr
  rw [hx]
  refine g ?_
  refine AW.drawn (ds := [55, 56, 57, 58, 59, 60, 61, 62, 63, 64, 65, 66, 67, 68, 69, 70, 71]) (fin := [0, 1]) (bs := [2, 2, 2, 2, 2, 2, 2, 2, 2, 2, 2, 2, 2, 2, 2, 2, 2]) [⟨[], [], [], [], 0⟩, ⟨[(55, 0)], [], [0, 1], [], 0⟩, ⟨[(56, 1)], [], [0, 1], [], 0⟩, ⟨[(57, 2)], [], [], [], 0⟩, ⟨[(58, 3)], [], [], [], 0⟩, ⟨[], [], [], [], 0⟩, ⟨[(60, 5)], [], [0, 1], [], 0⟩, ⟨[(61, 6)], [], [], [], 0⟩, ⟨[(62, 7)], [], [0, 1], [], 0⟩, ⟨[], [], [], [], 0⟩, ⟨[], [], [], [], 0⟩, ⟨[(64, 9), (65, 10)], [], [0, 1], [], 0⟩, ⟨[(66, 11)], [], [], [], 0⟩, ⟨[(67, 12)], [], [0, 1], [], 0⟩, ⟨[(63, 8), (68, 13)], [], [0, 1], [], 0⟩, ⟨[(69, 14)], [], [], [], 0⟩, ⟨[(59, 4), (70, 15)], [], [], [], 0⟩] (by kernel_rfl) rfl (by kernel_rfl) rfl rfl rfl fun KD hKD => ?_
  refine g ?_
  refine ⟨by omega, by omega, ?_⟩
  rw [hkt, Nat.mul_one, Nat.zero_add]
  refine g ?_
  repeat' refine hold_ (g ?_)
  refine ⟨_, setI_at hk2, ?_⟩
  cases hb : hasL L k with
  | false =>
   have hgn : getW L k = none := by
    cases hg : getW L k with
    | none => rfl
    | some u => unfold hasL at hb; rw [hg] at hb; cases hb
   have hstep : ∀ o : Int, getW (putStep L x) o = if o = (k : Int) then some x else getW L o := fun o => by
    rw [hpg, hk, hgn]
    rfl
   refine g ?_
   repeat' (first | refine st_ rfl (g ?_) | refine hold_ (g ?_) | (refine hKD _ _ ⟨rfl, g ?_⟩; clear hKD KD))
   refine ⟨by omega, by omega, ?_⟩
   rw [hkt, Nat.mul_one, Nat.zero_add]
   refine g ?_
   repeat' refine hold_ (g ?_)
   refine ⟨_, rfl, ⟨trivial, trivial⟩, by rw [setI_len]; omega, ?_⟩
   refine g ?_
   repeat' (first | refine st_ rfl (g ?_) | refine hold_ (g ?_) | refine ix_ (by omega) (g ?_))
   rw [hx]
   refine ⟨by omega, by omega, ?_⟩
   rw [hkt]
   refine g ?_
   repeat' refine hold_ (g ?_)
   refine ⟨_, rfl, ⟨o1, o2, o3, trivial, trivial⟩, by rw [cellsW_len]; omega, ?_⟩
   rw [Nat.zero_add]
   refine g ?_
   repeat' (first | refine st_ rfl (g ?_) | refine hold_ (g ?_))
   refine ⟨⟨i + 1, hlt, by rw [hst, List.all_append, hall]; simp [hxr]⟩, id, ⟨⟨rfl, rfl, rfl, rfl, trivial⟩, ⟨congrArg (fun C => some (BA.arr 800 C)) ?_, congrArg (fun C => some (BA.arr 700 C)) ?_, trivial⟩, by simp [idsOf, BA.id]⟩, by show list.length - (i + 1) < list.length - i; omega⟩
   ·rw [hst, hsn]
    exact atL_put hk2 hstep
   ·rw [hst, hsn]
    exact hasL_put hk2 hstep
  | true =>
   obtain ⟨u, hg⟩ : ∃ u, getW L k = some u := by
    cases hg : getW L k with
    | none => unfold hasL at hb; rw [hg] at hb; cases hb
    | some u => exact ⟨u, rfl⟩
   have hat : atL L k = u := by unfold atL; rw [hg]; rfl
   have hds := cellsW_stamp (f := atL L) hk2
   rw [hat] at hds
   have hcm := rscmp_call u.stamp x.stamp
   refine g ?_
   repeat' refine hold_ (g ?_)
   refine ⟨by omega, by omega, ?_⟩
   rw [hkt, Nat.zero_add]
   refine g ?_
   repeat' refine hold_ (g ?_)
   refine ⟨_, hds, rfl, ?_⟩
   refine g ?_
   repeat' (first | refine hold_ (g ?_) | refine ix_ (by omega) (g ?_))
   rw [hx]
   refine g ?_
   repeat' (first | refine st_ rfl (g ?_) | refine cond_d (fun h => g ?_) (fun h => g ?_) | (refine hKD _ _ ⟨rfl, g ?_⟩; clear hKD KD) | refine call_ (hcm) rfl (g ?_))
   ·have hnw : newerB u x = true := by unfold newerB; simpa using h
    have hstep : ∀ o : Int, getW (putStep L x) o = if o = (k : Int) then some x else getW L o := fun o => by
     rw [hpg, hk, hg]
     simp only [putW, if_pos hnw]
    refine ⟨by omega, by omega, ?_⟩
    rw [hkt, Nat.mul_one, Nat.zero_add]
    refine g ?_
    repeat' refine hold_ (g ?_)
    refine ⟨_, rfl, ⟨trivial, trivial⟩, by rw [setI_len]; omega, ?_⟩
    refine g ?_
    repeat' (first | refine st_ rfl (g ?_) | refine hold_ (g ?_) | refine ix_ (by omega) (g ?_))
    rw [hx]
    refine ⟨by omega, by omega, ?_⟩
    rw [hkt]
    refine g ?_
    repeat' refine hold_ (g ?_)
    refine ⟨_, rfl, ⟨o1, o2, o3, trivial, trivial⟩, by rw [cellsW_len]; omega, ?_⟩
    rw [Nat.zero_add]
    refine g ?_
    repeat' (first | refine st_ rfl (g ?_) | refine hold_ (g ?_))
    refine ⟨⟨i + 1, hlt, by rw [hst, List.all_append, hall]; simp [hxr]⟩, id, ⟨⟨rfl, rfl, rfl, rfl, trivial⟩, ⟨congrArg (fun C => some (BA.arr 800 C)) ?_, congrArg (fun C => some (BA.arr 700 C)) ?_, trivial⟩, by simp [idsOf, BA.id]⟩, by show list.length - (i + 1) < list.length - i; omega⟩
    ·rw [hst, hsn]
     exact atL_put hk2 hstep
    ·rw [hst, hsn]
     exact hasL_put hk2 hstep
   ·have hnw : ¬ newerB u x = true := by unfold newerB; simpa using h
    have hstep := hasL_same (L := L) (L' := putStep L x) fun o => by
     rw [hpg, hk, hg]
     simp only [putW, if_neg hnw]
     split
     ·rename_i e; rw [e, hg]
     ·rfl
    refine ⟨⟨i + 1, hlt, by rw [hst, List.all_append, hall]; simp [hxr]⟩, id, ⟨⟨rfl, rfl, rfl, rfl, trivial⟩, ⟨congrArg (fun C => some (BA.arr 800 C)) ?_, congrArg (fun C => some (BA.arr 700 C)) ?_, trivial⟩, by simp [idsOf, BA.id]⟩, by show list.length - (i + 1) < list.length - i; omega⟩
    ·rw [hst, hsn]
     rw [hstep.2]
    ·rw [hst, hsn]
     rw [hstep.1]
 obtain rfl : i = list.length := by omega
 clear h hi
 rw [List.take_length] at hall ⊢
 rw [if_pos ⟨hF, hall⟩] at hR
 have hLL := putL_shelf (list := list) hS (by simpa using hall)
 have hLI : ∀ u ∈ putL l list, I64 u.stamp.count ∧ I64 u.stamp.node ∧ I64 u.object := fun u hu => (putL_mem hS (by simpa using hall) u hu).elim (hI u) (hI2 u)
 obtain ⟨L, hLe⟩ : ∃ L, putL l list = L := ⟨_, rfl⟩
 rw [hLe] at hLL hR hLI ⊢
 refine AW.exit ?_
 simp only [reduceIte]
 refine g ?_
 repeat' refine st_ rfl (g ?_)
 refine AW.adopt 11 9900 55 4 rfl rfl ?_
 refine AW.loop (fun m : {m : Nat // m ≤ 256} => ⟨[(6, .bp 700 0), (7, .bp 800 0), (11, .own 9900), (12, .val (.int .i64 (m.1 : Nat)))], [.row 9900 55 4 ((shelfOf (fun k => getW L k) m.1).map enW), .arr 800 (cellsW (atL L) 256), .arr 700 (setI (hasL L))]⟩) (fun m => 256 - m.1) ⟨0, Nat.zero_le _⟩ id ⟨⟨rfl, rfl, rfl, rfl, trivial⟩, ⟨rfl, rfl, rfl, trivial⟩, by simp [idsOf, BA.id]⟩ fun ⟨m, hm⟩ => ?_
 simp only
 repeat (refine AW.seq ?_)
 refine AW.reg rfl fun KK hKK => ?_
 refine g ?_
 repeat' (refine hKK _ (g ?_); clear hKK KK)
 repeat (refine AW.seq ?_)
 refine st_ rfl ?_
 refine g ?_
 refine cond_d (fun h => ?_) (fun h => ?_)
 ·have hm' : m < 256 := by omega
  have hol := shelfOf_len (fun k => getW L k) m
  have hsn : shelfOf (fun k => getW L k) (m + 1) = shelfOf (fun k => getW L k) m ++ (getW L m).toList := rfl
  obtain ⟨O, hO⟩ : ∃ O, shelfOf (fun k => getW L k) m = O := ⟨_, rfl⟩
  rw [hO] at hol hsn ⊢
  refine g ?_
  repeat' refine st_ rfl (g ?_)
  refine ⟨by omega, by omega, ?_⟩
  rw [Nat.mul_one, Nat.zero_add]
  refine g ?_
  repeat' refine hold_ (g ?_)
  refine ⟨_, setI_at hm', ?_⟩
  cases hb : hasL L m with
  | false =>
   have hgn : getW L m = none := by
    cases hg : getW L m with
    | none => rfl
    | some u => unfold hasL at hb; rw [hg] at hb; cases hb
   rw [hgn, Option.toList_none, List.append_nil] at hsn
   refine g ?_
   repeat' (first | refine st_ rfl (g ?_) | refine hold_ (g ?_))
   refine ⟨⟨m + 1, hm'⟩, id, ⟨⟨rfl, rfl, rfl, rfl, trivial⟩, ⟨?_, rfl, rfl, trivial⟩, by simp [idsOf, BA.id]⟩, by show 256 - (m + 1) < 256 - m; omega⟩
   rw [hsn]
   rfl
  | true =>
   obtain ⟨u, hg⟩ : ∃ u, getW L m = some u := by
    cases hg : getW L m with
    | none => unfold hasL at hb; rw [hg] at hb; cases hb
    | some u => exact ⟨u, rfl⟩
   rw [hg, Option.toList_some] at hsn
   have hat : atL L m = u := by unfold atL; rw [hg]; rfl
   have hds := cellsW_at (f := atL L) hm'
   rw [hat] at hds
   obtain ⟨q1, q2, q3⟩ := hLI u ((getW_mem hLL).1 hg).1
   refine g ?_
   repeat' (first | refine st_ rfl (g ?_) | refine hold_ (g ?_))
   refine ⟨by omega, by omega, ?_⟩
   rw [Nat.zero_add, Int.toNat_natCast]
   refine g ?_
   repeat' refine hold_ (g ?_)
   refine ⟨_, hds, rfl, ?_⟩
   refine g ?_
   repeat' refine hold_ (g ?_)
   refine bs1 (by omega) rfl rfl rfl ⟨q1, q2, q3, trivial, trivial⟩ ?_
   refine g ?_
   refine append_own rfl (by kernel_rfl) (by omega) (by kernel_rfl) rfl (by simp; omega) ?_
   refine g ?_
   repeat' refine st_ rfl (g ?_)
   refine ⟨⟨m + 1, hm'⟩, fun b => if b = 9900 then 9300 else b, ⟨⟨rfl, rfl, rfl, rfl, trivial⟩, ⟨?_, rfl, rfl, trivial⟩, by simp [idsOf, BA.id]⟩, by show 256 - (m + 1) < 256 - m; omega⟩
   show some (BA.row _ _ _ _) = some (BA.row _ _ _ ((shelfOf (fun k => getW L k) (m + 1)).map enW))
   rw [hsn, List.map_append]
   rfl
 ·obtain rfl : m = 256 := by omega
  rw [shelfOf_get hLL]
  refine AW.exit ?_
  simp only [reduceIte]
  refine AW.freeze 9900 _ rfl trivial ?_
  simp only [go_sem, reduceIte, Nat.reduceEqDiff]
  refine g ?_
  repeat' refine st_ rfl (g ?_)
  subst hR
  exact Sub1.rfl_ _
end Go.Proofs.YtkphfdmelfhnoaaGreatDoor
namespace Go.Proofs.YtkphfdmelfhnoaaGreatDoor
open Go.ChangeShapes Go.WideShapes Go.ChangeAt Go.RowKit
theorem str_eq {t : TypeId} {x y : Operand} {a b : ByteArray} {K : AV → Prop} (h : K (.val (.bool (decide (a = b))))) : binQ Tryz.prog .eql t x y (.val (.string a)) (.val (.string b)) K := ⟨_, fun w => by
 go_simp
 rw [ByteArray.toList_eq, ByteArray.toList_eq]
 by_cases e : a = b
 ·simp [e]
 ·rw [decide_eq_false e, beq_eq_false_iff_ne]
  exact fun h => e (bytes_inj h), h⟩
theorem strOf_inj : ∀ {a b : List Nat}, (∀ x ∈ a, x < 256) → (∀ x ∈ b, x < 256) → (strOf a = strOf b ↔ a = b) := fun {a b} ha hb => by
 refine ⟨fun h => ?_, fun h => h ▸ rfl⟩
 unfold strOf strOfNums at h
 injection h with h
 have h := congrArg Array.toList h
 simp only [List.map_map] at h
 have key : ∀ {a b : List Nat}, (∀ x ∈ a, x < 256) → (∀ x ∈ b, x < 256) → a.map (fun n => UInt8.ofNat n) = b.map (fun n => UInt8.ofNat n) → a = b := by
  intro a
  induction a with
  | nil => intro b _ _ h; cases b with
   | nil => rfl
   | cons _ _ => cases h
  | cons x a ih => intro b ha hb h; cases b with
   | nil => cases h
   | cons y b =>
    injection h with h1 h2
    have e := congrArg UInt8.toNat h1
    have p := ha x (by simp)
    have q := hb y (by simp)
    simp only [UInt8.toNat_ofNat'] at e
    rw [ih (fun z hz => ha z (by simp [hz])) (fun z hz => hb z (by simp [hz])) h2]
    congr 1
    omega
 exact key ha hb (by simpa [Function.comp_def] using h)
attribute [local irreducible] AW AWY vops vopsY vop vopL vdraw callW qop binQ lenQ storeQ appendQ callQ ACalls AIter setI
attribute [local go_sem] boA_eq byI_eq storeQ_bp storeQ_rp
theorem by_lt {a : List Nat} (h : AV.okd (.iv (byI a))) : ∀ x ∈ a, x < 256 := fun x hx => by
 have h2 := okR_mem (by simpa [byI] using h.2) [IV.val (.int .u8 x)] (List.mem_map_of_mem (f := fun (b : Nat) => [IV.val (.int .u8 (b : Int))]) hx)
 have h3 : (Lit.int .u8 (x : Int)).wf = true := h2.2.1
 simp [Lit.wf, IntKind.max, IntKind.min, IntKind.signed, IntKind.bits] at h3
 omega
set_option maxRecDepth 100000 in
theorem rbysame_call (a b : List Nat) : ACalls Tryz.prog TzTab 65 [.iv (byI a), .iv (byI b)] (.val (.bool (decide (a = b)))) [] := by
 refine ACalls.of (n := 10) (rs := [.tmp 4]) Tryz.func65 rfl (by kernel_rfl) Tryz.ntmps65 (by kernel_rfl) (by simp) (fun _ _ => TzTab.later) ?_
 intro hok V w0
 obtain ⟨B, hB⟩ : ∃ B, decide (a = b) = B := ⟨_, rfl⟩
 rw [hB]
 refine g ?_
 repeat' refine st_ rfl (g ?_)
 refine ⟨a, rfl, hold_ ?_⟩
 refine g ?_
 refine ⟨b, rfl, hold_ ?_⟩
 refine g ?_
 refine str_eq ?_
 refine g ?_
 repeat' refine st_ rfl (g ?_)
 rw [← hB]
 exact decide_eq_decide.2 (strOf_inj (by_lt hok.1) (by_lt hok.2.1))
set_option maxRecDepth 100000 in
theorem rbosame_call (x y : Body) : ACalls Tryz.prog TzTab 30 [boA x, boA y] (.val (.bool (decide (x = y)))) [] := by
 refine ACalls.of (n := 24) (rs := [.tmp 4]) Tryz.func30 rfl (by kernel_rfl) Tryz.ntmps30 (by kernel_rfl) (by simp) (fun _ _ => TzTab.later) ?_
 intro hok V w0
 obtain ⟨B, hB⟩ : ∃ B, decide (x = y) = B := ⟨_, rfl⟩
 rw [hB]
 obtain ⟨xo, ⟨xc, xn⟩, xv⟩ := x
 obtain ⟨yo, ⟨yc, yn⟩, yv⟩ := y
 refine g ?_
 repeat' (first | refine st_ rfl (g ?_) | (refine vops_ifd rfl rfl (fun h e => ?_) (fun h e => ?_) <;> simp only [e] <;> clear e <;> refine g ?_))
 ·refine ⟨_, fun u => stamp_eq _ _ _ _ _ _ u, ?_⟩
  refine g ?_
  repeat' (first | refine st_ rfl (g ?_) | refine hold_ (g ?_) | (refine vops_if rfl rfl (fun h => ?_) (fun h => ?_) <;> simp only [h] <;> refine g ?_) | refine call_ (rbysame_call _ _) rfl (g ?_))
  ·rw [← hB]
   have h3 : xc = yc ∧ xn = yn := by simpa using h
   rename_i h1
   rw [h1, h3.1, h3.2]
   simp
  ·rw [← hB]
   refine (decide_eq_false ?_).symm
   intro e
   injection e with e1 e2 e3
   injection e2 with e4 e5
   simp [e4, e5] at h
 ·rw [← hB]
  refine (decide_eq_false ?_).symm
  intro e
  injection e with e1
  exact h e1
end Go.Proofs.YtkphfdmelfhnoaaGreatDoor
namespace Go.Proofs.YtkphfdmelfhnoaaGreatDoor
def nextS (c n s : Int) : Stamp × Int :=
 if c < 0 ∨ n < 0 ∨ 64 ≤ n ∨ s < 0 then (⟨0, 0⟩, 1)
 else if 9223372036854775807 - c ≤ s then (⟨0, 0⟩, 2)
 else (⟨c + s + 1, n⟩, 0)
def greatS (l : List Stamp) : Int := (nodesOf (maskOf l) 64).foldl (fun m k => max m (countOf l (k : Nat))) 0
def ofN (known : List Stamp) (w : Write) : Note × Int :=
 if vecFormed known = true ∧ rightB w.stamp.count w.stamp.node = true ∧ rightO w.object = true ∧ vecHas known w.stamp = false then (⟨known, joinS [known, [w.stamp]], [], [w]⟩, 0) else (noNote, 1)
structure Told where
 view : View
 note : Note
 err : Int
def noTold (e : Int) : Told := ⟨noView, noNote, e⟩
def writeV (v : View) (me object skip : Int) (value : List Nat) (gone : Bool) : Told :=
  if viewFormed v = true ∧ rightO object = true ∧ value.length ≤ 256 ∧ (gone && decide (0 < value.length)) = false then
    (if (nextS (greatS v.known) me skip).2 = 0 then
      (if (ofN v.known ⟨(nextS (greatS v.known) me skip).1, object, gone⟩).2 = 0 then
        (if (takeV v (ofN v.known ⟨(nextS (greatS v.known) me skip).1, object, gone⟩).1).2 = 0 then
          (if gone = true then ⟨(takeV v (ofN v.known ⟨(nextS (greatS v.known) me skip).1, object, gone⟩).1).1, (ofN v.known ⟨(nextS (greatS v.known) me skip).1, object, gone⟩).1, 0⟩
           else (if (bodyV (takeV v (ofN v.known ⟨(nextS (greatS v.known) me skip).1, object, gone⟩).1).1 ⟨object, (nextS (greatS v.known) me skip).1, value⟩).2 = 0 then
              ⟨(bodyV (takeV v (ofN v.known ⟨(nextS (greatS v.known) me skip).1, object, gone⟩).1).1 ⟨object, (nextS (greatS v.known) me skip).1, value⟩).1, (ofN v.known ⟨(nextS (greatS v.known) me skip).1, object, gone⟩).1, 0⟩
            else noTold (bodyV (takeV v (ofN v.known ⟨(nextS (greatS v.known) me skip).1, object, gone⟩).1).1 ⟨object, (nextS (greatS v.known) me skip).1, value⟩).2))
         else noTold (takeV v (ofN v.known ⟨(nextS (greatS v.known) me skip).1, object, gone⟩).1).2)
       else noTold (ofN v.known ⟨(nextS (greatS v.known) me skip).1, object, gone⟩).2)
     else noTold (nextS (greatS v.known) me skip).2)
  else noTold 1
end Go.Proofs.YtkphfdmelfhnoaaGreatDoor
namespace Go.Proofs.YtkphfdmelfhnoaaGreatDoor
open Go.ChangeShapes Go.WideShapes Go.ChangeAt Go.RowKit
attribute [local irreducible] AW AWY vops vopsY vop vopL vdraw callW qop binQ lenQ storeQ appendQ callQ ACalls AIter
attribute [local go_sem] enB_eq boI_eq boA_eq byI_eq enW_eq wrI_eq wA_eq enZ_eq znI_eq vwA_eq noteA_eq storeQ_bp storeQ_rp
theorem new_sub (room : Int) : Sub1 (.tup [.agg [.val (.slice none 0 0), .val (.slice none 0 0), .val (.slice none 0 0), .val (.slice none 0 0), .val (.int .i64 room)], .val (.int .i64 0)]) (.tup [vwA ⟨[], [], [], [], room⟩, .val (.int .i64 0)]) := by
 refine tup_sub rfl fun p hp => ?_
 simp only [List.zip_cons_cons, List.zip_nil_right, List.mem_cons, List.not_mem_nil, or_false] at hp
 rcases hp with rfl | rfl
 ·refine agg_sub rfl fun p hp => ?_
  simp only [List.zip_cons_cons, List.zip_nil_right, List.mem_cons, List.not_mem_nil, or_false] at hp
  rcases hp with rfl | rfl | rfl | rfl | rfl
  ·exact nil_sub 2
  ·exact nil_sub 3
  ·exact nil_sub 4
  ·exact nil_sub 4
  ·exact Sub1.rfl_ _
 ·exact Sub1.rfl_ _
theorem new_call (room : Int) (iR : I64 room) : ACalls Tryz.prog TzTab 23 [.val (.int .i64 room)] (.tup [vwA (newS room).1, .val (.int .i64 (newS room).2)]) [] := by
 refine ACalls.ofS (n := 10) (rs := [.cell 2 27, .tmp 3]) Tryz.func23 rfl (by kernel_rfl) Tryz.ntmps23 (by kernel_rfl) (by simp) (fun _ _ => TzTab.later) ?_
 intro hok V w0
 obtain ⟨R, hR⟩ : ∃ R, newS room = R := ⟨_, rfl⟩
 rw [hR]
 unfold newS at hR
 have hc := cformed_call [] room iR
 have e : cacheFormed [] room = roomB room := by
  simp only [cacheFormed, onceB, usedS]
  cases h : roomB room with
  | false => simp
  | true =>
   simp only [roomB, Bool.and_eq_true, decide_eq_true_eq] at h
   simp [h.1]
 rw [e] at hc
 refine g ?_
 repeat' refine st_ rfl (g ?_)
 refine call_s hc (by exact Sbs.of_ (nil_sub 4) (Sbs.rfl_ _)) rfl (g ?_)
 refine g ?_
 repeat' (first | refine st_ rfl (g ?_) | refine cond_ (fun h => g ?_) (fun h => g ?_))
 ·rw [if_neg (by simpa using h)] at hR
  exact view_no hR.symm
 ·rw [if_pos (by simpa using h)] at hR
  subst hR
  exact new_sub room
theorem next_call (c n s : Int) (ic : c ≤ 9223372036854775807) (is : s ≤ 9223372036854775807) : ACalls Tryz.prog TzTab 102 [.val (.int .i64 c), .val (.int .i64 n), .val (.int .i64 s)] (.tup [.agg [.val (.int .i64 (nextS c n s).1.count), .val (.int .i64 (nextS c n s).1.node)], .val (.int .i64 (nextS c n s).2)]) [] := by
 refine ACalls.of (n := 36) (rs := [.cell 6 49, .tmp 7]) Tryz.func102 rfl (by kernel_rfl) Tryz.ntmps102 (by kernel_rfl) (by simp) (fun _ _ => TzTab.later) ?_
 intro hok V w0
 obtain ⟨R, hR⟩ : ∃ R, nextS c n s = R := ⟨_, rfl⟩
 rw [hR]
 unfold nextS at hR
 refine g ?_
 repeat' (first | refine st_ rfl (g ?_) | refine cond_d (fun h => g ?_) (fun h => g ?_) | (refine vops_ifd rfl rfl (fun h e => ?_) (fun h e => ?_) <;> simp only [e] <;> clear e <;> refine g ?_))
 all_goals first
  | (rw [if_pos (by omega)] at hR; subst hR; rfl)
  | (rw [if_neg (by omega), if_pos (by omega)] at hR; subst hR; rfl)
  | (rw [if_neg (by omega), if_neg (by omega)] at hR; subst hR; rfl)
theorem greatS_in (l : List Stamp) (hI : ∀ k : Int, I64 (countOf l k)) : I64 (greatS l) := by
 unfold greatS
 suffices H : ∀ (ks : List Nat) (m : Int), I64 m → I64 (ks.foldl (fun m k => max m (countOf l (k : Nat))) m) from H _ 0 (I64.of (by decide) (by decide))
 intro ks
 induction ks with
 | nil => exact fun m h => h
 | cons k ks ih =>
  intro m h
  refine ih _ ?_
  show I64 (max m (countOf l (k : Nat)))
  rw [Int.max_def]
  split
  ·exact hI _
  ·exact h
set_option maxRecDepth 100000 in
theorem great_call (l : List Stamp) : ACalls Tryz.prog TzTab 103 [.iv (stI l)] (.val (.int .i64 (greatS l))) [] := by
 refine ACalls.ofS (n := 14) (rs := [.tmp 2]) Tryz.func103 rfl (by kernel_rfl) Tryz.ntmps103 (by kernel_rfl) (by simp) (fun _ _ => TzTab.later) ?_
 intro hok V w0
 have hI : ∀ k : Int, I64 (countOf l k) := fun k => by
  refine countOf_i64 (fun s hs => ?_) k
  obtain ⟨-, h2, -⟩ := okR_mem (by simpa [stI] using hok.1.2) (enSt s) (List.mem_map_of_mem hs)
  exact h2
 refine g ?_
 repeat' (first | refine st_ rfl (g ?_) | refine call_ (all_call _) rfl (g ?_))
 refine AW.le (S := ⟨[(3, .bp 400 0), (7, .fn 248 [.ip [.pt (cntI (fun k => countOf l k) (maskOf l))]])], [.box 400 [.val (.int .i64 0)]]⟩) (ρ := id) ⟨⟨rfl, rfl, trivial⟩, ⟨rfl, trivial⟩, by simp [idsOf, BA.id]⟩ ?_
 refine AW.range (each_iter (fun k => countOf l k) (maskOf l) (maskOf_lt _)) [(3, .bp 400 0)] [(7, .fn 248 [.ip [.pt (cntI (fun k => countOf l k) (maskOf l))]])] (fun pre => [.box 400 [.val (.int .i64 ((pre.map (·.1)).foldl (fun m k => max m (countOf l (k : Nat))) 0))]]) (fun _ => True) rfl trivial rfl rfl rfl rfl (fun x => ⟨rfl, rfl⟩) (fun c pre x hsp _ => ?_) (fun xs hS _ => ?_)
 ·simp only [parF, enE, List.cons_append, List.nil_append]
  refine g ?_
  refine g ?_
  repeat' refine st_ rfl (g ?_)
  refine ⟨_, rfl, ?_⟩
  refine g ?_
  repeat' refine hold_ (g ?_)
  exact ⟨trivial, id, ⟨rfl, trivial⟩, ⟨by rw [List.map_append, List.foldl_append]; rfl, trivial⟩, by simp [idsOf, BA.id]⟩
 ·refine g ?_
  refine g ?_
  repeat' refine st_ rfl (g ?_)
  rw [hS]
  exact Sub1.rfl_ _
theorem nobj_call (o : Int) : ACalls Tryz.prog TzTab 124 [.val (.int .i64 o)] (.val (.bool (rightO o))) [] := by
 refine ACalls.of (n := 9) (rs := [.tmp 2]) Tryz.func124 rfl (by kernel_rfl) Tryz.ntmps124 (by kernel_rfl) (by simp) (fun _ _ => TzTab.later) ?_
 intro hok V w0
 obtain ⟨B, hB⟩ : ∃ B, rightO o = B := ⟨_, rfl⟩
 rw [hB]
 unfold rightO at hB
 refine g ?_
 repeat' (first | refine st_ rfl (g ?_) | (refine vops_ifd rfl rfl (fun h e => ?_) (fun h e => ?_) <;> simp only [e] <;> clear e <;> refine g ?_))
 all_goals (rw [← hB, Bool.eq_iff_iff]; simp [*]; try omega)
theorem note_no {q : Note × Int} {e : Int} (h : q = (noNote, e)) : Sub1 (.tup [.agg [.val (.slice none 0 0), .val (.slice none 0 0), .val (.slice none 0 0), .val (.slice none 0 0)], .val (.int .i64 e)]) (.tup [noteA q.1, .val (.int .i64 q.2)]) := by
 subst h
 refine tup_sub rfl fun p hp => ?_
 simp only [List.zip_cons_cons, List.zip_nil_right, List.mem_cons, List.not_mem_nil, or_false] at hp
 rcases hp with rfl | rfl
 ·refine agg_sub rfl fun p hp => ?_
  simp only [List.zip_cons_cons, List.zip_nil_right, List.mem_cons, List.not_mem_nil, or_false] at hp
  rcases hp with rfl | rfl | rfl | rfl
  ·exact nil_sub 2
  ·exact nil_sub 2
  ·exact nil_sub 2
  ·exact nil_sub 4
 ·exact Sub1.rfl_ _
set_option maxRecDepth 100000 in
theorem nof_call (known : List Stamp) (w : Write) (i1 : I64 w.stamp.count) (i2 : I64 w.stamp.node) (i3 : I64 w.object) : ACalls Tryz.prog TzTab 104 [.iv (stI known), wA w] (.tup [noteA (ofN known w).1, .val (.int .i64 (ofN known w).2)]) [] := by
 refine ACalls.ofS (n := 37) (rs := [.cell 4 30, .tmp 5]) Tryz.func104 rfl (by kernel_rfl) Tryz.ntmps104 (by kernel_rfl) (by simp) (fun _ _ => TzTab.later) ?_
 intro hok V w0
 obtain ⟨R, hR⟩ : ∃ R, ofN known w = R := ⟨_, rfl⟩
 rw [hR]
 unfold ofN at hR
 refine g ?_
 refine AW.seq ?_
 refine AW.reg rfl fun KK hKK => ?_
 refine g ?_
 repeat' (refine hKK _ (g ?_); clear hKK KK)
 refine AW.freeze 400 _ rfl ⟨i1, i2, i3, trivial, trivial⟩ ?_
 simp only [go_sem, reduceIte, Nat.reduceEqDiff]
 refine g ?_
 repeat' (first | refine st_ rfl (g ?_) | refine cond_ (fun h => g ?_) (fun h => g ?_) | (refine vops_if rfl rfl (fun h => ?_) (fun h => ?_) <;> simp only [h] <;> refine g ?_) | refine call_ (vformed_call _) rfl (g ?_) | refine call_ (right_call _ _) rfl (g ?_) | refine call_ (nobj_call _) rfl (g ?_) | refine call_ (vhas_call _ w.stamp) rfl (g ?_))
 ·rw [if_neg (by rintro ⟨a, _⟩; simp [a] at h)] at hR
  exact note_no hR.symm
 ·rw [if_neg (by rintro ⟨_, a, _⟩; simp [a] at h)] at hR
  exact note_no hR.symm
 ·rw [if_neg (by rintro ⟨_, _, a, _⟩; simp [a] at h)] at hR
  exact note_no hR.symm
 ·rw [if_neg (by rintro ⟨_, _, _, a⟩; simp [a] at h)] at hR
  exact note_no hR.symm
 rename_i h1 h2 h3
 rw [if_pos (by simp at *; simp [*])] at hR
 subst hR
 refine AW.drawn (ds := [28, 29, 30, 31, 32, 33, 34, 35, 36, 5]) (fin := [1, 2]) (bs := [1, 1, 1, 1, 1, 1, 1, 1, 2, 2, 3]) [⟨[], [], [], [], 0⟩, ⟨[(28, 0)], [], [0], [], 0⟩, ⟨[], [], [], [], 0⟩, ⟨[], [], [], [], 0⟩, ⟨[(31, 3)], [], [0], [], 0⟩, ⟨[(30, 2), (32, 4)], [], [0], [], 0⟩, ⟨[], [], [0], [], 0⟩, ⟨[(34, 6)], [], [], [], 1⟩, ⟨[(29, 1), (33, 5), (35, 7)], [], [], [], 0⟩, ⟨[(36, 8)], [], [], [0], 1⟩, ⟨[], [], [], [], 0⟩] (by kernel_rfl) rfl (by kernel_rfl) rfl rfl rfl fun KD hKD => ?_
 refine g ?_
 repeat' (first | refine call_ (clonestD _) rfl (g ?_) | refine call_ (vwithD known w.stamp i1 i2) rfl (g ?_))
 refine bs1 (by omega) rfl rfl rfl ⟨i1, i2, i3, trivial, trivial⟩ ?_
 refine g ?_
 repeat' (refine hKD _ _ ⟨rfl, g ?_⟩; clear hKD KD)
 refine AW.freeze 3600 _ rfl trivial ?_
 simp only [go_sem, reduceIte, Nat.reduceEqDiff]
 refine g ?_
 repeat' refine st_ rfl (g ?_)
 refine tup_sub rfl fun p hp => ?_
 simp only [List.zip_cons_cons, List.zip_nil_right, List.mem_cons, List.not_mem_nil, or_false] at hp
 rcases hp with rfl | rfl
 ·refine agg_sub rfl fun p hp => ?_
  simp only [List.zip_cons_cons, List.zip_nil_right, List.mem_cons, List.not_mem_nil, or_false] at hp
  rcases hp with rfl | rfl | rfl | rfl
  ·exact Sub1.rfl_ _
  ·exact Sub1.rfl_ _
  ·exact nil_sub 2
  ·exact Sub1.rfl_ _
 ·exact Sub1.rfl_ _
end Go.Proofs.YtkphfdmelfhnoaaGreatDoor
namespace Go.Proofs.YtkphfdmelfhnoaaGreatDoor
open Go.ChangeShapes Go.WideShapes Go.ChangeAt Go.RowKit
attribute [local irreducible] AW AWY vops vopsY vop vopL vdraw callW qop binQ lenQ storeQ appendQ callQ ACalls AIter
attribute [local go_sem] enB_eq boI_eq boA_eq enW_eq wrI_eq wA_eq enZ_eq znI_eq vwA_eq noteA_eq storeQ_bp storeQ_rp
set_option maxRecDepth 100000 in
set_option maxHeartbeats 3200000 in
theorem vbody_call (v : View) (x : Body) (iR : I64 v.room) (i0 : I64 x.object) (i1 : I64 x.stamp.count) (i2 : I64 x.stamp.node) : ACalls Tryz.prog TzTab 27 [vwA v, boA x] (.tup [vwA (bodyV v x).1, .val (.int .i64 (bodyV v x).2)]) [] := by
 refine ACalls.ofS (n := 64) (rs := [.cell 4 27, .tmp 5]) Tryz.func27 rfl (by kernel_rfl) Tryz.ntmps27 (by kernel_rfl) (by simp) (fun _ _ => TzTab.later) ?_
 intro hok V w0
 obtain ⟨R, hR⟩ : ∃ R, bodyV v x = R := ⟨_, rfl⟩
 rw [hR]
 unfold bodyV at hR
 refine g ?_
 refine AW.seq ?_
 refine AW.reg rfl fun KK hKK => ?_
 refine g ?_
 repeat' (refine hKK _ (g ?_); clear hKK KK)
 refine AW.freeze 300 _ rfl ⟨trivial, trivial, trivial, trivial, iR, trivial⟩ ?_
 simp only [go_sem, reduceIte, Nat.reduceEqDiff]
 refine AW.freeze 400 _ rfl ⟨i0, i1, i2, trivial, trivial⟩ ?_
 simp only [go_sem, reduceIte, Nat.reduceEqDiff]
 refine g ?_
 repeat' (first | refine st_ rfl (g ?_) | refine cond_ (fun h => g ?_) (fun h => g ?_) | refine call_ (vform_call v iR) rfl (g ?_))
 ·rw [if_neg (by rintro ⟨a, _⟩; simp [a] at h)] at hR
  exact view_no hR.symm
 have hF : viewFormed v = true := by simpa using h
 have hcf : cacheFormed v.bodies v.room = true := by
  simp only [viewFormed, partsB, Bool.and_eq_true] at hF
  exact hF.1.1.1.2
 have hhf : shelfFormed v.held = true := by
  simp only [viewFormed, partsB, Bool.and_eq_true] at hF
  exact hF.1.1.1.1.2
 have hput := cput_call v.bodies v.room x iR i0 i1 i2
 unfold putB at hput
 cases hr : rightBody x with
 | false =>
  rw [if_neg (by simp [hr])] at hput
  rw [if_neg (by simp [hr])] at hR
  refine g ?_
  repeat' (first | refine st_ rfl (g ?_) | refine call_ (hput) rfl (g ?_))
  exact view_no hR.symm
 | true =>
 rw [if_pos ⟨hcf, hr⟩] at hput
 rw [if_pos ⟨hF, hr⟩] at hR
 obtain ⟨B, hB⟩ : ∃ B, fitB v.room (forgetB v.bodies x.object ++ [x]) = B := ⟨_, rfl⟩
 rw [hB] at hput hR
 simp only at hput
 refine g ?_
 repeat' (first | refine st_ rfl (g ?_) | refine cond_ (fun h => g ?_) (fun h => g ?_) | refine call_ (hput) rfl (g ?_) | refine call_ (wanted_call v.held x hhf) rfl (g ?_))
 ·rw [if_neg (by simpa using h)] at hR
  exact view_no hR.symm
 rw [if_pos (by simpa using h)] at hR
 subst hR
 refine AW.drawn (ds := [34, 35, 36, 37, 38, 39, 40, 41, 42, 43, 8]) (fin := [0, 2]) (bs := [1, 1, 1, 1, 1, 1, 1, 1, 1, 1, 1, 2]) [⟨[], [], [], [], 0⟩, ⟨[(34, 0)], [], [0], [], 0⟩, ⟨[(35, 1)], [], [0], [], 0⟩, ⟨[], [], [], [], 0⟩, ⟨[(37, 3)], [], [0], [], 0⟩, ⟨[(38, 4)], [], [0], [], 0⟩, ⟨[], [], [], [], 0⟩, ⟨[], [], [], [], 0⟩, ⟨[(41, 7)], [], [0], [], 0⟩, ⟨[(36, 2), (39, 5), (40, 6), (42, 8)], [], [], [], 0⟩, ⟨[], [], [], [], 1⟩, ⟨[(8, 10), (43, 9)], [], [], [1], 1⟩] (by kernel_rfl) rfl (by kernel_rfl) rfl rfl rfl fun KD hKD => ?_
 refine g ?_
 repeat' (first | refine st_ rfl (g ?_) | (refine hKD _ _ ⟨rfl, g ?_⟩; clear hKD KD) | refine call_ (clonestD _) rfl (g ?_) | refine call_ (clonewD _) rfl (g ?_))
 have hzl : v.zones.length ≤ 256 := view_zones hF
 refine AW.adoptC 900 1 9900 147 3 rfl rfl rfl ?_
 refine AW.loop (fun m : {m : Nat // m ≤ v.zones.length} => ⟨[(2, .ip [stI v.known, znI v.zones, wrI v.held, boI v.bodies, .val (.int .i64 v.room)]), (4, .bp 500 0), (8, .bp 900 0), (45, .iv (znI v.zones)), (46, .val (.int .i64 (v.zones.length : Nat))), (47, .val (.int .i64 (m.1 : Nat)))], [.row 9900 147 3 ((v.zones.take m.1).map enZ), .box 900 [.iv (stI v.known), .own 9900, .iv (wrI v.held), .iv (boI B), .val (.int .i64 v.room)], .box 500 [.val (.slice none 0 0), .val (.slice none 0 0), .val (.slice none 0 0), .val (.slice none 0 0), .val (.int .i64 0)]]⟩) (fun m => v.zones.length - m.1) ⟨0, Nat.zero_le _⟩ id ⟨⟨rfl, rfl, rfl, rfl, ?_, rfl, trivial⟩, ⟨rfl, rfl, rfl, trivial⟩, by simp [idsOf, BA.id]⟩ fun ⟨m, hm⟩ => ?_
 ·simp [AV.ren, look]
 simp only
 repeat (refine AW.seq ?_)
 refine AW.reg rfl fun KK hKK => ?_
 refine g ?_
 repeat' (refine hKK _ (g ?_); clear hKK KK)
 repeat (refine AW.seq ?_)
 refine st_ rfl ?_
 refine g ?_
 refine cond_ (fun h => ?_) (fun h => ?_)
 ·have hlt : m < v.zones.length := by have := of_decide_eq_true h; omega
  have hget := get_map (f := enZ) (List.getElem?_eq_getElem hlt)
  obtain ⟨-, o1, o2, -⟩ := okR_mem (by simpa [znI] using hok.1.2.1.2) (enZ v.zones[m]) (List.mem_map_of_mem (List.getElem_mem hlt))
  obtain ⟨z, hz⟩ : ∃ z, v.zones[m] = z := ⟨_, rfl⟩
  have htk := List.take_succ_eq_append_getElem hlt
  rw [hz] at hget o1 o2 htk
  refine st_ rfl (g ?_)
  refine AW.seq ?_
  refine AW.block ?_
  repeat (refine AW.seq ?_)
  refine AW.reg rfl fun KK hKK => ?_
  refine g ?_
  refine ⟨by omega, _, hget, ?_⟩
  refine g ?_
  repeat' (first | refine hold_ (g ?_) | (refine hKK _ (g ?_); clear hKK KK))
  refine AW.freeze 1100 _ rfl ⟨o1, o2, trivial, trivial⟩ ?_
  simp only [go_sem, reduceIte, Nat.reduceEqDiff]
  refine AW.drawn (ds := [51, 52, 53, 54, 55, 56, 57, 58, 59, 60, 61]) (fin := [2, 3, 4, 5]) (bs := [3, 3, 3, 3, 3, 3, 3, 3, 3, 4, 5, 5]) [⟨[], [], [], [], 0⟩, ⟨[(51, 0)], [], [0, 1, 2], [], 0⟩, ⟨[], [], [], [], 0⟩, ⟨[(53, 2)], [], [0, 1, 2], [], 0⟩, ⟨[], [], [], [], 0⟩, ⟨[(55, 4)], [], [0, 1, 2], [], 0⟩, ⟨[(56, 5)], [], [0, 1, 2], [], 0⟩, ⟨[(54, 3), (57, 6)], [], [], [], 0⟩, ⟨[(58, 7)], [], [], [], 1⟩, ⟨[(52, 1), (59, 8)], [], [1, 2, 3], [0], 1⟩, ⟨[], [], [], [], 0⟩, ⟨[(61, 10), (60, 9)], [], [], [1], 1⟩] (by kernel_rfl) rfl (by kernel_rfl) rfl rfl rfl fun KD hKD => ?_
  refine g ?_
  repeat' refine call_ (clonestD _) rfl (g ?_)
  refine bs1 (by omega) rfl rfl rfl ⟨o1, o2, trivial, trivial⟩ ?_
  refine g ?_
  refine append_own rfl (by kernel_rfl) (by omega) (by kernel_rfl) rfl (by simp; omega) ?_
  refine g ?_
  repeat' (first | refine st_ rfl (g ?_) | (refine hKD _ _ ⟨rfl, g ?_⟩; clear hKD KD))
  refine ⟨⟨m + 1, hlt⟩, fun b => if b = 9900 then 6100 else b, ⟨⟨rfl, rfl, rfl, rfl, rfl, rfl, trivial⟩, ⟨?_, rfl, rfl, trivial⟩, by simp [idsOf, BA.id]⟩, by show v.zones.length - (m + 1) < v.zones.length - m; omega⟩
  rw [htk, List.map_append]
  rfl
 ·obtain rfl : m = v.zones.length := by have := of_decide_eq_false h; omega
  rw [List.take_length]
  refine AW.exit ?_
  simp only [reduceIte]
  refine AW.freeze 9900 _ rfl trivial ?_
  simp only [go_sem, reduceIte, Nat.reduceEqDiff]
  refine g ?_
  repeat' refine st_ rfl (g ?_)
  exact Sub1.rfl_ _
end Go.Proofs.YtkphfdmelfhnoaaGreatDoor
namespace Go.Proofs.YtkphfdmelfhnoaaGreatDoor
open Go.ChangeShapes Go.WideShapes Go.ChangeAt Go.RowKit
attribute [local irreducible] AW AWY vops vopsY vop vopL vdraw callW qop binQ lenQ storeQ appendQ callQ ACalls AIter
attribute [local go_sem] enB_eq boI_eq boA_eq enW_eq wrI_eq wA_eq enZ_eq znI_eq vwA_eq noteA_eq storeQ_bp storeQ_rp
theorem read_no {q : List Nat × Write × Int} {e : Int} (h : q = ([], noW, e)) : Sub1 (.tup [.val (.slice none 0 0), .agg [.val (.int .i64 0), .val (.int .i64 0), .val (.int .i64 0), .val (.bool false)], .val (.int .i64 e)]) (.tup [.iv (byI q.1), wA q.2.1, .val (.int .i64 q.2.2)]) := by
 subst h
 refine tup_sub rfl fun p hp => ?_
 simp only [List.zip_cons_cons, List.zip_nil_right, List.mem_cons, List.not_mem_nil, or_false] at hp
 rcases hp with rfl | rfl | rfl
 ·exact nil_sub 1
 ·exact Sub1.rfl_ _
 ·exact Sub1.rfl_ _
theorem get_in {l : List Write} {o : Int} {w : Write} (h : getW l o = some w) (hI : ∀ x ∈ l, I64 x.stamp.count ∧ I64 x.stamp.node ∧ I64 x.object) : I64 w.stamp.count ∧ I64 w.stamp.node ∧ I64 w.object := hI w (List.mem_of_find?_eq_some h)
set_option maxRecDepth 100000 in
set_option maxHeartbeats 3200000 in
theorem vread_call (v : View) (o : Int) (iR : I64 v.room) (iO : I64 o) : ACalls Tryz.prog TzTab 28 [vwA v, .val (.int .i64 o)] (.tup [.iv (byI (readV v o).1), wA (readV v o).2.1, .val (.int .i64 (readV v o).2.2)]) [] := by
 refine ACalls.ofS (n := 55) (rs := [.tmp 4, .cell 5 55, .tmp 6]) Tryz.func28 rfl (by kernel_rfl) Tryz.ntmps28 (by kernel_rfl) (by simp) (fun _ _ => TzTab.later) ?_
 intro hok V w0
 obtain ⟨R, hR⟩ : ∃ R, readV v o = R := ⟨_, rfl⟩
 rw [hR]
 unfold readV at hR
 have hI : ∀ x ∈ v.held, I64 x.stamp.count ∧ I64 x.stamp.node ∧ I64 x.object := fun x hx => by
  obtain ⟨-, o1, o2, o3, -⟩ := okR_mem (by simpa [wrI] using hok.1.2.2.1.2) (enW x) (List.mem_map_of_mem hx)
  exact ⟨o1, o2, o3⟩
 refine g ?_
 refine AW.seq ?_
 refine AW.reg rfl fun KK hKK => ?_
 refine g ?_
 repeat' (refine hKK _ (g ?_); clear hKK KK)
 refine AW.freeze 300 _ rfl ⟨trivial, trivial, trivial, trivial, iR, trivial⟩ ?_
 simp only [go_sem, reduceIte, Nat.reduceEqDiff]
 refine g ?_
 repeat' (first | refine st_ rfl (g ?_) | refine cond_d (fun h => g ?_) (fun h => g ?_) | refine cond_ (fun h => g ?_) (fun h => g ?_) | (refine vops_ifd rfl rfl (fun h e => ?_) (fun h e => ?_) <;> simp only [e] <;> clear e <;> refine g ?_) | (refine vops_if rfl rfl (fun h => ?_) (fun h => ?_) <;> simp only [h] <;> refine g ?_) | refine call_ (vform_call v iR) rfl (g ?_) | refine call_ (zblur_call _) rfl (g ?_) | refine call_ (shas_call _ _) rfl (g ?_))
 ·rw [if_neg (by rintro ⟨a, _⟩; simp [a] at h)] at hR
  exact read_no hR.symm
 ·rw [if_neg (by rintro ⟨_, a⟩; simp [rightO] at a; omega)] at hR
  exact read_no hR.symm
 ·rw [if_neg (by rintro ⟨_, a⟩; simp [rightO] at a; omega)] at hR
  exact read_no hR.symm
 ·rw [if_pos ⟨by simpa using (by assumption : (!viewFormed v) = false), by simp [rightO]; omega⟩, if_pos h] at hR
  exact read_no hR.symm
 rename_i h1 h2 h3
 have hF : viewFormed v = true := by simpa using h1
 have hO : rightO o = true := by simp [rightO]; omega
 rw [if_pos ⟨hF, hO⟩, if_neg (by simp [h])] at hR
 have hhf : shelfFormed v.held = true := by
  simp only [viewFormed, partsB, Bool.and_eq_true] at hF
  exact hF.1.1.1.1.2
 have hget := shget_call v.held o
 unfold getS at hget
 rw [if_pos hhf] at hget
 cases hg : getW v.held o with
 | none =>
  rw [hg] at hget hR
  simp only at hget hR
  refine call_ hget rfl (g ?_)
  refine g ?_
  refine AW.freeze 800 _ rfl ⟨rfl, rfl, rfl, trivial, trivial⟩ ?_
  simp only [go_sem, reduceIte, Nat.reduceEqDiff]
  refine g ?_
  repeat' refine st_ rfl (g ?_)
  refine AW.drawn (ds := [41, 42, 4, 6]) (fin := [1]) (bs := [1, 1, 1, 1, 2]) [⟨[], [], [0], [], 0⟩, ⟨[], [], [], [], 0⟩, ⟨[], [], [], [], 0⟩, ⟨[(41, 0)], [], [], [0], 1⟩, ⟨[(42, 1)], [], [], [], 0⟩] (by kernel_rfl) rfl (by kernel_rfl) rfl rfl rfl fun KD hKD => ?_
  refine g ?_
  repeat' (first | refine st_ rfl (g ?_) | (refine hKD _ _ ⟨rfl, g ?_⟩; clear hKD KD))
  exact read_no hR.symm
 | some w =>
  rw [hg] at hget hR
  simp only at hget hR
  obtain ⟨w1, w2, w3⟩ := get_in hg hI
  refine call_ hget rfl (g ?_)
  refine g ?_
  refine AW.freeze 800 _ rfl ⟨w1, w2, w3, trivial, trivial⟩ ?_
  simp only [go_sem, reduceIte, Nat.reduceEqDiff]
  refine g ?_
  repeat' (first | refine st_ rfl (g ?_) | refine cond_ (fun h => g ?_) (fun h => g ?_) | refine call_ (cget_call v.bodies o w.stamp iO w1 w2) rfl (g ?_))
  ·rw [if_pos h] at hR
   subst hR
   refine AW.drawn (ds := [41, 42, 4, 6]) (fin := [1]) (bs := [1, 1, 1, 1, 2]) [⟨[], [], [0], [], 0⟩, ⟨[], [], [], [], 0⟩, ⟨[], [], [], [], 0⟩, ⟨[(41, 0)], [], [], [0], 1⟩, ⟨[(42, 1)], [], [], [], 0⟩] (by kernel_rfl) rfl (by kernel_rfl) rfl rfl rfl fun KD hKD => ?_
   refine g ?_
   repeat' (first | refine st_ rfl (g ?_) | (refine hKD _ _ ⟨rfl, g ?_⟩; clear hKD KD))
   refine tup_sub rfl fun p hp => ?_
   simp only [List.zip_cons_cons, List.zip_nil_right, List.mem_cons, List.not_mem_nil, or_false] at hp
   rcases hp with rfl | rfl | rfl
   ·exact nil_sub 1
   ·exact Sub1.rfl_ _
   ·exact Sub1.rfl_ _
  ·rw [if_neg (by simp [h])] at hR
   subst hR
   refine AW.drawn (ds := [52, 53, 54, 4, 6]) (fin := [1]) (bs := [1, 1, 1, 1, 1, 2]) [⟨[], [], [], [], 0⟩, ⟨[], [], [0], [], 0⟩, ⟨[], [], [], [], 0⟩, ⟨[(52, 0)], [], [], [], 0⟩, ⟨[(53, 1)], [], [], [0], 1⟩, ⟨[(54, 2)], [], [], [], 0⟩] (by kernel_rfl) rfl (by kernel_rfl) rfl rfl rfl fun KD hKD => ?_
   refine g ?_
   repeat' (first | refine st_ rfl (g ?_) | (refine hKD _ _ ⟨rfl, g ?_⟩; clear hKD KD))
   exact Sub1.rfl_ _
end Go.Proofs.YtkphfdmelfhnoaaGreatDoor
namespace Go.Proofs.YtkphfdmelfhnoaaGreatDoor
open Go.ChangeShapes Go.WideShapes Go.ChangeAt Go.RowKit
attribute [local irreducible] AW AWY vops vopsY vop vopL vdraw callW qop binQ lenQ storeQ appendQ callQ ACalls AIter
attribute [local go_sem] byI_eq enB_eq boI_eq boA_eq enW_eq wrI_eq wA_eq enZ_eq znI_eq vwA_eq noteA_eq storeQ_bp storeQ_rp
def toldA (q : Told) : AV := .tup [vwA q.view, noteA q.note, .val (.int .i64 q.err)]
theorem write_no {q : Told} {e : Int} (h : q = noTold e) : Sub1 (.tup [.agg [.val (.slice none 0 0), .val (.slice none 0 0), .val (.slice none 0 0), .val (.slice none 0 0), .val (.int .i64 0)], .agg [.val (.slice none 0 0), .val (.slice none 0 0), .val (.slice none 0 0), .val (.slice none 0 0)], .val (.int .i64 e)]) (.tup [vwA q.view, noteA q.note, .val (.int .i64 q.err)]) := by
 subst h
 refine tup_sub rfl fun p hp => ?_
 simp only [List.zip_cons_cons, List.zip_nil_right, List.mem_cons, List.not_mem_nil, or_false] at hp
 rcases hp with rfl | rfl | rfl
 ·refine agg_sub rfl fun p hp => ?_
  simp only [List.zip_cons_cons, List.zip_nil_right, List.mem_cons, List.not_mem_nil, or_false] at hp
  rcases hp with rfl | rfl | rfl | rfl | rfl
  ·exact nil_sub 2
  ·exact nil_sub 3
  ·exact nil_sub 4
  ·exact nil_sub 4
  ·exact Sub1.rfl_ _
 ·refine agg_sub rfl fun p hp => ?_
  simp only [List.zip_cons_cons, List.zip_nil_right, List.mem_cons, List.not_mem_nil, or_false] at hp
  rcases hp with rfl | rfl | rfl | rfl
  ·exact nil_sub 2
  ·exact nil_sub 2
  ·exact nil_sub 2
  ·exact nil_sub 4
 ·exact Sub1.rfl_ _
theorem nextS_in {c n s : Int} (hc : c ≤ 9223372036854775807) (hn : I64 n) : I64 (nextS c n s).1.count ∧ I64 (nextS c n s).1.node := by
 unfold nextS
 split
 ·exact ⟨rfl, rfl⟩
 ·split
  ·exact ⟨rfl, rfl⟩
  ·exact ⟨I64.of (by simp only; omega) (by simp only; omega), hn⟩
theorem body_room (v : View) (x : Body) (h : I64 v.room) : I64 (bodyV v x).1.room := by
 unfold bodyV
 split
 ·split
  ·exact h
  ·exact rfl
 ·exact rfl
theorem take_room (v : View) (n : Note) (h : I64 v.room) : I64 (takeV v n).1.room := by
 unfold takeV
 split
 ·split
  ·exact h
  ·exact rfl
 ·exact rfl
set_option maxRecDepth 100000 in
set_option maxHeartbeats 6400000 in
theorem vwrite_call (v : View) (me o skip : Int) (l : List Nat) (gone : Bool) (iR : I64 v.room) (iM : I64 me) (iO : I64 o) (iS : I64 skip) : ACalls Tryz.prog TzTab 26 [vwA v, .val (.int .i64 me), .val (.int .i64 o), .val (.int .i64 skip), .iv (byI l), .val (.bool gone)] (.tup [vwA (writeV v me o skip l gone).view, noteA (writeV v me o skip l gone).note, .val (.int .i64 (writeV v me o skip l gone).err)]) [] := by
 refine ACalls.ofS (n := 102) (rs := [.cell 12 27, .cell 13 30, .tmp 14]) Tryz.func26 rfl (by kernel_rfl) Tryz.ntmps26 (by kernel_rfl) (by simp) (fun _ _ => TzTab.later) ?_
 intro hok V w0
 obtain ⟨R, hR⟩ : ∃ R, writeV v me o skip l gone = R := ⟨_, rfl⟩
 rw [hR]
 unfold writeV at hR
 have hI : ∀ k : Int, I64 (countOf v.known k) := fun k => by
  refine countOf_i64 (fun s hs => ?_) k
  obtain ⟨-, h2, -⟩ := okR_mem (by simpa [stI] using hok.1.1.2) (enSt s) (List.mem_map_of_mem hs)
  exact h2
 have hG := greatS_in v.known hI
 have hnx := next_call (greatS v.known) me skip (I64.hi hG) (I64.hi iS)
 obtain ⟨x1, x2⟩ := nextS_in (s := skip) (I64.hi hG) iM
 obtain ⟨N, hN⟩ : ∃ N, nextS (greatS v.known) me skip = N := ⟨_, rfl⟩
 rw [hN] at hnx x1 x2 hR
 obtain ⟨s, e1⟩ := N
 simp only at hnx x1 x2 hR
 refine g ?_
 refine AW.seq ?_
 refine AW.reg rfl fun KK hKK => ?_
 refine g ?_
 repeat' (refine hKK _ (g ?_); clear hKK KK)
 refine AW.freeze 700 _ rfl ⟨trivial, trivial, trivial, trivial, iR, trivial⟩ ?_
 simp only [go_sem, reduceIte, Nat.reduceEqDiff]
 have hT := vtake_call v
 cases gone with
 | true =>
  have hof := nof_call v.known ⟨s, o, true⟩ x1 x2 iO
  obtain ⟨N, hN⟩ : ∃ N, ofN v.known ⟨s, o, true⟩ = N := ⟨_, rfl⟩
  rw [hN] at hof hR
  obtain ⟨n, e2⟩ := N
  simp only at hof hR
  have htk := vtake_call v n iR
  have hroom := take_room v n iR
  obtain ⟨X, hX⟩ : ∃ X, takeV v n = X := ⟨_, rfl⟩
  rw [hX] at htk hR hroom
  obtain ⟨x, e3⟩ := X
  simp only at htk hR hroom
  have hbo := vbody_call x ⟨o, s, l⟩ hroom iO x1 x2
  obtain ⟨Y, hY⟩ : ∃ Y, bodyV x ⟨o, s, l⟩ = Y := ⟨_, rfl⟩
  have hyr := body_room x ⟨o, s, l⟩ hroom
  rw [hY] at hbo hR hyr
  obtain ⟨y, e4⟩ := Y
  simp only at hbo hR hyr
  refine g ?_
  repeat' (first | refine st_ rfl (g ?_) | refine cond_d (fun h => g ?_) (fun h => g ?_) | (refine vops_ifd rfl rfl (fun h e => ?_) (fun h e => ?_) <;> simp only [e] <;> clear e <;> refine g ?_) | (refine vops_if rfl rfl (fun h => ?_) (fun h => ?_) <;> simp only [h] <;> refine g ?_) | refine call_ (vform_call v iR) rfl (g ?_) | refine call_ (great_call _) rfl (g ?_))
  ·rw [if_neg (by rintro ⟨a, _⟩; simp [a] at h)] at hR
   exact write_no hR.symm
  ·rw [if_neg (by rintro ⟨_, a, _⟩; simp [rightO] at a; omega)] at hR
   exact write_no hR.symm
  ·rw [if_neg (by rintro ⟨_, a, _⟩; simp [rightO] at a; omega)] at hR
   exact write_no hR.symm
  ·rw [if_neg (by rintro ⟨_, _, a, _⟩; omega)] at hR
   exact write_no hR.symm
  ·rw [if_neg (by rintro ⟨_, _, _, a⟩; simp at a; simp [a] at h)] at hR
   exact write_no hR.symm
  rw [if_pos (by simp at *; simp [rightO, *]; try omega)] at hR
  refine call_ hnx rfl (g ?_)
  refine g ?_
  refine AW.freeze 1600 _ rfl ⟨x1, x2, trivial⟩ ?_
  simp only [go_sem, reduceIte, Nat.reduceEqDiff]
  refine g ?_
  repeat' (first | refine st_ rfl (g ?_) | refine cond_d (fun h => g ?_) (fun h => g ?_))
  ·rw [if_neg h] at hR
   exact write_no hR.symm
  rw [if_pos (by simpa using h)] at hR
  refine call_ hof rfl (g ?_)
  refine g ?_
  refine AW.freeze 1800 _ rfl ⟨trivial, trivial, trivial, trivial, trivial⟩ ?_
  simp only [go_sem, reduceIte, Nat.reduceEqDiff]
  refine g ?_
  repeat' (first | refine st_ rfl (g ?_) | refine cond_d (fun h => g ?_) (fun h => g ?_))
  ·rw [if_neg h] at hR
   exact write_no hR.symm
  rw [if_pos (by simpa using h)] at hR
  refine g ?_
  repeat' (first | refine st_ rfl (g ?_) | refine cond_d (fun h => g ?_) (fun h => g ?_) | (refine vops_ifd rfl rfl (fun h e => ?_) (fun h e => ?_) <;> simp only [e] <;> clear e <;> refine g ?_) | refine call_ (htk) rfl (g ?_))
  ·omega
  ·rw [if_pos (by assumption), if_pos trivial] at hR
   subst hR
   refine AW.freeze 1900 _ rfl ⟨trivial, trivial, trivial, trivial, hroom, trivial⟩ ?_
   simp only [go_sem, reduceIte, Nat.reduceEqDiff]
   refine AW.drawn (ds := [100, 101, 14]) (fin := [2, 3]) (bs := [2, 2, 2, 3, 4]) [⟨[], [], [0, 1], [], 0⟩, ⟨[], [], [0], [], 0⟩, ⟨[(100, 0)], [], [], [1], 1⟩, ⟨[(101, 1)], [], [], [0], 1⟩, ⟨[], [], [], [], 0⟩] (by kernel_rfl) rfl (by kernel_rfl) rfl rfl rfl fun KD hKD => ?_
   refine g ?_
   repeat' (first | refine st_ rfl (g ?_) | (refine hKD _ _ ⟨rfl, g ?_⟩; clear hKD KD))
   exact Sub1.rfl_ _
  ·rw [if_neg h] at hR
   exact write_no hR.symm
  ·omega
 | false =>
  have hof := nof_call v.known ⟨s, o, false⟩ x1 x2 iO
  obtain ⟨N, hN⟩ : ∃ N, ofN v.known ⟨s, o, false⟩ = N := ⟨_, rfl⟩
  rw [hN] at hof hR
  obtain ⟨n, e2⟩ := N
  simp only at hof hR
  have htk := vtake_call v n iR
  have hroom := take_room v n iR
  obtain ⟨X, hX⟩ : ∃ X, takeV v n = X := ⟨_, rfl⟩
  rw [hX] at htk hR hroom
  obtain ⟨x, e3⟩ := X
  simp only at htk hR hroom
  have hbo := vbody_call x ⟨o, s, l⟩ hroom iO x1 x2
  obtain ⟨Y, hY⟩ : ∃ Y, bodyV x ⟨o, s, l⟩ = Y := ⟨_, rfl⟩
  have hyr := body_room x ⟨o, s, l⟩ hroom
  rw [hY] at hbo hR hyr
  obtain ⟨y, e4⟩ := Y
  simp only at hbo hR hyr
  refine g ?_
  repeat' (first | refine st_ rfl (g ?_) | (refine vops_ifd rfl rfl (fun h e => ?_) (fun h e => ?_) <;> simp only [e] <;> clear e <;> refine g ?_) | (refine vops_if rfl rfl (fun h => ?_) (fun h => ?_) <;> simp only [h] <;> refine g ?_) | refine call_ (vform_call v iR) rfl (g ?_) | refine call_ (great_call _) rfl (g ?_))
  ·rw [if_neg (by rintro ⟨a, _⟩; simp [a] at h)] at hR
   exact write_no hR.symm
  ·rw [if_neg (by rintro ⟨_, a, _⟩; simp [rightO] at a; omega)] at hR
   exact write_no hR.symm
  ·rw [if_neg (by rintro ⟨_, a, _⟩; simp [rightO] at a; omega)] at hR
   exact write_no hR.symm
  ·rw [if_neg (by rintro ⟨_, _, a, _⟩; omega)] at hR
   exact write_no hR.symm
  rw [if_pos (by simp at *; simp [rightO, *]; try omega)] at hR
  refine call_ hnx rfl (g ?_)
  refine g ?_
  refine AW.freeze 1600 _ rfl ⟨x1, x2, trivial⟩ ?_
  simp only [go_sem, reduceIte, Nat.reduceEqDiff]
  refine g ?_
  repeat' (first | refine st_ rfl (g ?_) | refine cond_d (fun h => g ?_) (fun h => g ?_))
  ·rw [if_neg h] at hR
   exact write_no hR.symm
  rw [if_pos (by simpa using h)] at hR
  refine call_ hof rfl (g ?_)
  refine g ?_
  refine AW.freeze 1800 _ rfl ⟨trivial, trivial, trivial, trivial, trivial⟩ ?_
  simp only [go_sem, reduceIte, Nat.reduceEqDiff]
  refine g ?_
  repeat' (first | refine st_ rfl (g ?_) | refine cond_d (fun h => g ?_) (fun h => g ?_))
  ·rw [if_neg h] at hR
   exact write_no hR.symm
  rw [if_pos (by simpa using h)] at hR
  refine g ?_
  repeat' (first | refine st_ rfl (g ?_) | refine cond_d (fun h => g ?_) (fun h => g ?_) | (refine vops_ifd rfl rfl (fun h e => ?_) (fun h e => ?_) <;> simp only [e] <;> clear e <;> refine g ?_) | refine call_ (htk) rfl (g ?_) | refine call_ (hbo) rfl (g ?_))
  ·rename_i hb
   rw [if_pos hb, if_neg (by decide), if_neg h] at hR
   exact write_no hR.symm
  ·rename_i hb
   rw [if_pos hb, if_neg (by decide), if_pos (by simpa using h)] at hR
   subst hR
   refine AW.freeze 1900 _ rfl ⟨trivial, trivial, trivial, trivial, hyr, trivial⟩ ?_
   simp only [go_sem, reduceIte, Nat.reduceEqDiff]
   refine AW.drawn (ds := [100, 101, 14]) (fin := [2, 3]) (bs := [2, 2, 2, 3, 4]) [⟨[], [], [0, 1], [], 0⟩, ⟨[], [], [0], [], 0⟩, ⟨[(100, 0)], [], [], [1], 1⟩, ⟨[(101, 1)], [], [], [0], 1⟩, ⟨[], [], [], [], 0⟩] (by kernel_rfl) rfl (by kernel_rfl) rfl rfl rfl fun KD hKD => ?_
   refine g ?_
   repeat' (first | refine st_ rfl (g ?_) | (refine hKD _ _ ⟨rfl, g ?_⟩; clear hKD KD))
   exact Sub1.rfl_ _
  ·rw [if_neg h] at hR
   exact write_no hR.symm
  ·omega
end Go.Proofs.YtkphfdmelfhnoaaGreatDoor
namespace Go.Proofs.YtkphfdmelfhnoaaGreatDoor
open Go.ChangeShapes Go.WideShapes Go.ChangeAt Go.RowKit
attribute [local irreducible] AW AWY vops vopsY vop vopL vdraw callW qop binQ lenQ storeQ appendQ callQ ACalls AIter
attribute [local go_sem] enB_eq boI_eq boA_eq enW_eq wrI_eq wA_eq enZ_eq znI_eq vwA_eq storeQ_bp storeQ_rp
theorem span_nn (x y : Operand) (p q : Int) (w : World) : (do eqGuard .neq 78 x y (.agg #[.int .i64 p, .int .i64 q]) (.agg #[.int .i64 p, .int .i64 q]); binOp .neq 78 (.agg #[.int .i64 p, .int .i64 q]) (.agg #[.int .i64 p, .int .i64 q]) : Sem Value).run Tryz.prog w = .ok (.bool false) w := by
 go_simp
theorem write_nn (x y : Operand) (p q r : Int) (b : Bool) (w : World) : (do eqGuard .neq 55 x y (.agg #[.int .i64 p, .int .i64 q, .int .i64 r, .bool b]) (.agg #[.int .i64 p, .int .i64 q, .int .i64 r, .bool b]); binOp .neq 55 (.agg #[.int .i64 p, .int .i64 q, .int .i64 r, .bool b]) (.agg #[.int .i64 p, .int .i64 q, .int .i64 r, .bool b]) : Sem Value).run Tryz.prog w = .ok (.bool false) w := by
 go_simp
set_option maxRecDepth 100000 in
set_option maxHeartbeats 800000 in
theorem rbssame_call (l : List Body) : ACalls Tryz.prog TzTab 87 [.iv (boI l), .iv (boI l)] (.val (.bool true)) [] := by
 refine ACalls.of (n := 27) (rs := [.tmp 4]) Tryz.func87 rfl (by kernel_rfl) Tryz.ntmps87 (by kernel_rfl) (by simp) (fun _ _ => TzTab.later) ?_
 intro hok V w0
 have hlen : l.length ≤ 1073741824 := by simpa [boI] using hok.1.1
 refine g ?_
 repeat' refine st_ rfl (g ?_)
 refine AW.loop (fun i : {i : Nat // i ≤ l.length} => ⟨[(0, .iv (boI l)), (1, .iv (boI l)), (5, .val (.int .i64 (i.1 : Nat)))], []⟩) (fun i => l.length - i.1) ⟨0, Nat.zero_le _⟩ id ⟨⟨rfl, rfl, rfl, trivial⟩, trivial, List.nodup_nil⟩ fun ⟨i, hi⟩ => ?_
 refine g ?_
 repeat' (first | refine st_ rfl (g ?_) | exact trivial | refine cond_d (fun h => g ?_) (fun h => g ?_))
 have hlt : i < l.length := by omega
 have hg := get_map (f := enB) (List.getElem?_eq_getElem hlt)
 have hsame := rbosame_call l[i] l[i]
 rw [decide_eq_true rfl] at hsame
 refine AW.drawn (ds := [17, 18, 19, 20, 21, 22, 23, 24, 25, 26]) (fin := []) (bs := [0, 0, 0, 0, 0, 0, 0, 0, 0, 0]) [⟨[], [], [], [], 0⟩, ⟨[], [], [], [], 0⟩, ⟨[(17, 0), (18, 1)], [], [], [], 0⟩, ⟨[(19, 2)], [], [], [], 0⟩, ⟨[], [], [], [], 0⟩, ⟨[], [], [], [], 0⟩, ⟨[(21, 4), (22, 5)], [], [], [], 0⟩, ⟨[(23, 6)], [], [], [], 0⟩, ⟨[(20, 3), (24, 7)], [], [], [], 0⟩, ⟨[(25, 8)], [], [], [], 0⟩] (by kernel_rfl) rfl (by kernel_rfl) rfl rfl rfl fun KD hKD => ?_
 refine g ?_
 repeat' (first | refine st_ rfl (g ?_) | (refine hKD _ _ ⟨rfl, g ?_⟩; clear hKD KD) | refine ix_ (by omega) (g ?_) | refine call_ (hsame) rfl (g ?_))
 exact ⟨⟨i + 1, hlt⟩, id, ⟨⟨rfl, rfl, rfl, trivial⟩, trivial, List.nodup_nil⟩, by show l.length - (i + 1) < l.length - i; omega⟩
set_option maxRecDepth 100000 in
set_option maxHeartbeats 800000 in
theorem rwsame_call (l : List Write) : ACalls Tryz.prog TzTab 86 [.iv (wrI l), .iv (wrI l)] (.val (.bool true)) [] := by
 refine ACalls.of (n := 26) (rs := [.tmp 4]) Tryz.func86 rfl (by kernel_rfl) Tryz.ntmps86 (by kernel_rfl) (by simp) (fun _ _ => TzTab.later) ?_
 intro hok V w0
 have hlen : l.length ≤ 1073741824 := by simpa [wrI] using hok.1.1
 refine g ?_
 repeat' refine st_ rfl (g ?_)
 refine AW.loop (fun i : {i : Nat // i ≤ l.length} => ⟨[(0, .iv (wrI l)), (1, .iv (wrI l)), (5, .val (.int .i64 (i.1 : Nat)))], []⟩) (fun i => l.length - i.1) ⟨0, Nat.zero_le _⟩ id ⟨⟨rfl, rfl, rfl, trivial⟩, trivial, List.nodup_nil⟩ fun ⟨i, hi⟩ => ?_
 refine g ?_
 repeat' (first | refine st_ rfl (g ?_) | exact trivial | refine cond_d (fun h => g ?_) (fun h => g ?_))
 have hlt : i < l.length := by omega
 have hg := get_map (f := enW) (List.getElem?_eq_getElem hlt)
 refine AW.drawn (ds := [17, 18, 19, 20, 21, 22, 23, 24, 25]) (fin := []) (bs := [0, 0, 0, 0, 0, 0, 0, 0, 0]) [⟨[], [], [], [], 0⟩, ⟨[], [], [], [], 0⟩, ⟨[(17, 0), (18, 1)], [], [], [], 0⟩, ⟨[(19, 2)], [], [], [], 0⟩, ⟨[], [], [], [], 0⟩, ⟨[], [], [], [], 0⟩, ⟨[(21, 4), (22, 5)], [], [], [], 0⟩, ⟨[(23, 6)], [], [], [], 0⟩, ⟨[(20, 3), (24, 7)], [], [], [], 0⟩] (by kernel_rfl) rfl (by kernel_rfl) rfl rfl rfl fun KD hKD => ?_
 refine g ?_
 repeat' refine ix_ (by omega) (g ?_)
 refine ⟨_, fun u => write_nn _ _ _ _ _ _ u, ?_⟩
 refine g ?_
 repeat' (first | refine st_ rfl (g ?_) | refine hold_ (g ?_) | (refine hKD _ _ ⟨rfl, g ?_⟩; clear hKD KD))
 exact ⟨⟨i + 1, hlt⟩, id, ⟨⟨rfl, rfl, rfl, trivial⟩, trivial, List.nodup_nil⟩, by show l.length - (i + 1) < l.length - i; omega⟩
set_option maxRecDepth 100000 in
set_option maxHeartbeats 800000 in
theorem rzsame_call (l : List Zone) : ACalls Tryz.prog TzTab 85 [.iv (znI l), .iv (znI l)] (.val (.bool true)) [] := by
 refine ACalls.of (n := 42) (rs := [.tmp 4]) Tryz.func85 rfl (by kernel_rfl) Tryz.ntmps85 (by kernel_rfl) (by simp) (fun _ _ => TzTab.later) ?_
 intro hok V w0
 have hlen : l.length ≤ 1073741824 := by simpa [znI] using hok.1.1
 refine g ?_
 repeat' refine st_ rfl (g ?_)
 refine AW.loop (fun i : {i : Nat // i ≤ l.length} => ⟨[(0, .iv (znI l)), (1, .iv (znI l)), (5, .val (.int .i64 (i.1 : Nat)))], []⟩) (fun i => l.length - i.1) ⟨0, Nat.zero_le _⟩ id ⟨⟨rfl, rfl, rfl, trivial⟩, trivial, List.nodup_nil⟩ fun ⟨i, hi⟩ => ?_
 refine g ?_
 repeat' (first | refine st_ rfl (g ?_) | exact trivial | refine cond_d (fun h => g ?_) (fun h => g ?_))
 have hlt : i < l.length := by omega
 have hg := get_map (f := enZ) (List.getElem?_eq_getElem hlt)
 have hsame := rvsame_call l[i].vec l[i].vec
 rw [decide_eq_true rfl] at hsame
 refine AW.drawn (ds := [17, 18, 19, 20, 21, 22, 23, 24, 25, 26, 27, 28, 29, 30, 31, 32, 33, 34, 35, 36, 37, 38, 39, 40, 41]) (fin := []) (bs := [0, 0, 0, 0, 0, 0, 0, 0, 0, 0, 0, 0, 0, 0, 0, 0, 0, 0, 0, 0, 0, 0, 0, 0, 0]) [⟨[], [], [], [], 0⟩, ⟨[], [], [], [], 0⟩, ⟨[(17, 0), (18, 1)], [], [], [], 0⟩, ⟨[(19, 2)], [], [], [], 0⟩, ⟨[(20, 3)], [], [], [], 0⟩, ⟨[], [], [], [], 0⟩, ⟨[], [], [], [], 0⟩, ⟨[(22, 5), (23, 6)], [], [], [], 0⟩, ⟨[(24, 7)], [], [], [], 0⟩, ⟨[(25, 8)], [], [], [], 0⟩, ⟨[(21, 4), (26, 9)], [], [], [], 0⟩, ⟨[(27, 10)], [], [], [], 0⟩, ⟨[], [], [], [], 0⟩, ⟨[], [], [], [], 0⟩, ⟨[(29, 12), (30, 13)], [], [], [], 0⟩, ⟨[(31, 14)], [], [], [], 0⟩, ⟨[(32, 15)], [], [], [], 0⟩, ⟨[], [], [], [], 0⟩, ⟨[], [], [], [], 0⟩, ⟨[(34, 17), (35, 18)], [], [], [], 0⟩, ⟨[(36, 19)], [], [], [], 0⟩, ⟨[(37, 20)], [], [], [], 0⟩, ⟨[(33, 16), (38, 21)], [], [], [], 0⟩, ⟨[(39, 22)], [], [], [], 0⟩, ⟨[(28, 11), (40, 23)], [], [], [], 0⟩] (by kernel_rfl) rfl (by kernel_rfl) rfl rfl rfl fun KD hKD => ?_
 refine g ?_
 repeat' refine ix_ (by omega) (g ?_)
 refine ⟨_, fun u => span_nn _ _ _ _ u, ?_⟩
 refine g ?_
 repeat' (first | refine st_ rfl (g ?_) | refine hold_ (g ?_) | (refine hKD _ _ ⟨rfl, g ?_⟩; clear hKD KD) | refine ix_ (by omega) (g ?_) | refine call_ (hsame) rfl (g ?_))
 exact ⟨⟨i + 1, hlt⟩, id, ⟨⟨rfl, rfl, rfl, trivial⟩, trivial, List.nodup_nil⟩, by show l.length - (i + 1) < l.length - i; omega⟩
set_option maxRecDepth 100000 in
set_option maxHeartbeats 800000 in
theorem rvwsame_call (v : View) (iR : I64 v.room) : ACalls Tryz.prog TzTab 20 [vwA v, vwA v] (.val (.bool true)) [] := by
 refine ACalls.of (n := 38) (rs := [.tmp 4]) Tryz.func20 rfl (by kernel_rfl) Tryz.ntmps20 (by kernel_rfl) (by simp) (fun _ _ => TzTab.later) ?_
 intro hok V w0
 have hs := rvsame_call v.known v.known
 rw [decide_eq_true rfl] at hs
 refine g ?_
 refine AW.seq ?_
 refine AW.reg rfl fun KK hKK => ?_
 refine g ?_
 repeat' (refine hKK _ (g ?_); clear hKK KK)
 refine AW.freeze 300 _ rfl ⟨trivial, trivial, trivial, trivial, iR, trivial⟩ ?_
 simp only [go_sem, reduceIte, Nat.reduceEqDiff]
 refine AW.freeze 400 _ rfl ⟨trivial, trivial, trivial, trivial, iR, trivial⟩ ?_
 simp only [go_sem, reduceIte, Nat.reduceEqDiff]
 refine g ?_
 repeat' (first | refine st_ rfl (g ?_) | refine call_ (hs) rfl (g ?_) | refine call_ (rzsame_call _) rfl (g ?_) | refine call_ (rwsame_call _) rfl (g ?_) | refine call_ (rbssame_call _) rfl (g ?_))
 exact decide_eq_true trivial
set_option maxRecDepth 100000 in
theorem rnew_call (room : Int) : ACalls Tryz.prog TzTab 60 [.val (.int .i64 room)] (.tup [vwA (newS room).1, .val (.int .i64 (newS room).2)]) [] := by
 refine ACalls.ofS (n := 13) (rs := [.cell 2 27, .tmp 3]) Tryz.func60 rfl (by kernel_rfl) Tryz.ntmps60 (by kernel_rfl) (by simp) (fun _ _ => TzTab.later) ?_
 intro hok V w0
 obtain ⟨R, hR⟩ : ∃ R, newS room = R := ⟨_, rfl⟩
 rw [hR]
 unfold newS roomB at hR
 refine g ?_
 repeat' (first | refine st_ rfl (g ?_) | refine cond_d (fun h => g ?_) (fun h => g ?_) | (refine vops_ifd rfl rfl (fun h e => ?_) (fun h e => ?_) <;> simp only [e] <;> clear e <;> refine g ?_))
 ·rw [if_neg (by simp; omega)] at hR
  exact view_no hR.symm
 ·rw [if_neg (by simp; omega)] at hR
  exact view_no hR.symm
 ·rw [if_pos (by simp; omega)] at hR
  subst hR
  exact new_sub room
set_option maxRecDepth 100000 in
theorem rbycopyD (l : List Nat) : ACalls Tryz.prog TzTab 170 [.iv (byI l)] (.iv (byI l)) [] := by
 refine ACalls.ofS (n := 6) (rs := [.tmp 2]) Tryz.func170 rfl (by kernel_rfl) Tryz.ntmps170 (by kernel_rfl) (by simp) (fun _ _ => TzTab.later) ?_
 intro hok V w0
 have hlen : l.length ≤ 1073741824 := by simpa [byI] using hok.1.1
 refine g ?_
 repeat' refine st_ rfl (g ?_)
 refine bs0 (by omega) ?_
 refine g ?_
 refine append_own rfl (by kernel_rfl) (by omega) (by kernel_rfl) rfl (by simpa [byI] using hlen) ?_
 refine g ?_
 refine AW.freeze 600 _ rfl trivial ?_
 simp only [go_sem, reduceIte, Nat.reduceEqDiff]
 refine g ?_
 repeat' refine st_ rfl (g ?_)
 exact Sub1.rfl_ _
set_option maxRecDepth 100000 in
theorem rbody_call (x : Body) (i0 : I64 x.object) (i1 : I64 x.stamp.count) (i2 : I64 x.stamp.node) : ACalls Tryz.prog TzTab 84 [boA x] (boA x) [] := by
 refine ACalls.of (n := 11) (rs := [.cell 2 51]) Tryz.func84 rfl (by kernel_rfl) Tryz.ntmps84 (by kernel_rfl) (by simp) (fun _ _ => TzTab.later) ?_
 intro hok V w0
 refine g ?_
 refine AW.seq ?_
 refine AW.reg rfl fun KK hKK => ?_
 refine g ?_
 repeat' (refine hKK _ (g ?_); clear hKK KK)
 refine AW.freeze 200 _ rfl ⟨i0, i1, i2, trivial, trivial⟩ ?_
 simp only [go_sem, reduceIte, Nat.reduceEqDiff]
 refine g ?_
 repeat' refine st_ rfl (g ?_)
 refine AW.drawn (ds := [3, 4, 5, 6, 7, 8, 9, 10]) (fin := [1]) (bs := [1, 1, 1, 1, 1, 1, 1, 1, 1]) [⟨[], [], [], [], 0⟩, ⟨[(3, 0)], [], [0], [], 0⟩, ⟨[], [], [], [], 0⟩, ⟨[(5, 2)], [], [0], [], 0⟩, ⟨[], [], [], [], 0⟩, ⟨[(7, 4)], [], [0], [], 0⟩, ⟨[(8, 5)], [], [0], [], 0⟩, ⟨[(4, 1), (6, 3), (9, 6)], [], [], [], 0⟩, ⟨[(10, 7)], [], [], [0], 1⟩] (by kernel_rfl) rfl (by kernel_rfl) rfl rfl rfl fun KD hKD => ?_
 refine g ?_
 repeat' (first | refine st_ rfl (g ?_) | exact trivial | (refine hKD _ _ ⟨rfl, g ?_⟩; clear hKD KD) | refine call_ (rbycopyD _) rfl (g ?_))
end Go.Proofs.YtkphfdmelfhnoaaGreatDoor
namespace Go.Proofs.YtkphfdmelfhnoaaGreatDoor
open Go.ChangeShapes Go.WideShapes Go.ChangeAt Go.RowKit
attribute [local irreducible] AW AWY vops vopsY vop vopL vdraw callW qop binQ lenQ storeQ appendQ callQ ACalls AIter
attribute [local go_sem] enZ_eq znI_eq enB_eq boI_eq boA_eq byI_eq enW_eq wrI_eq wA_eq vwA_eq noteA_eq storeQ_bp storeQ_rp
theorem vw_nil (K : List Stamp) (Z : List Zone) (r : Int) : Sub1 (.agg [.iv (stI K), .iv (znI Z), .val (.slice none 0 0), .val (.slice none 0 0), .val (.int .i64 r)]) (vwA ⟨K, Z, [], [], r⟩) := by
 refine agg_sub rfl fun p hp => ?_
 simp only [List.zip_cons_cons, List.zip_nil_right, List.mem_cons, List.not_mem_nil, or_false] at hp
 rcases hp with rfl | rfl | rfl | rfl | rfl
 ·exact Sub1.rfl_ _
 ·exact Sub1.rfl_ _
 ·exact nil_sub 4
 ·exact nil_sub 4
 ·exact Sub1.rfl_ _
theorem filter_snoc {α : Type} (p : α → Bool) {l : List α} {m : Nat} (h : m < l.length) : (l.take (m + 1)).filter p = (l.take m).filter p ++ if p l[m] = true then [l[m]] else [] := by
 rw [List.take_succ_eq_append_getElem h, List.filter_append, List.filter_cons, List.filter_nil]
set_option maxRecDepth 100000 in
set_option maxHeartbeats 3200000 in
theorem rvtake_call (v : View) (n : Note) (iR : I64 v.room) : ACalls Tryz.prog TzTab 19 [vwA v, noteA n] (.tup [vwA (takeV v n).1, .val (.int .i64 (takeV v n).2)]) [] := by
 refine ACalls.ofS (n := 92) (rs := [.cell 4 27, .tmp 5]) Tryz.func19 rfl (by kernel_rfl) Tryz.ntmps19 (by kernel_rfl) (by simp) (fun _ _ => TzTab.later) ?_
 intro hok V w0
 obtain ⟨R, hR⟩ : ∃ R, takeV v n = R := ⟨_, rfl⟩
 rw [hR]
 unfold takeV at hR
 have hwl : n.writes.length ≤ 1073741824 := by simpa [wrI] using hok.2.1.2.2.2.1.1
 have hWI : ∀ x ∈ n.writes, I64 x.stamp.count ∧ I64 x.stamp.node ∧ I64 x.object := fun x hx => by
  obtain ⟨-, o1, o2, o3, -⟩ := okR_mem (by simpa [wrI] using hok.2.1.2.2.2.1.2) (enW x) (List.mem_map_of_mem hx)
  exact ⟨o1, o2, o3⟩
 have hBI : ∀ x ∈ v.bodies, I64 x.object ∧ I64 x.stamp.count ∧ I64 x.stamp.node := fun x hx => by
  obtain ⟨-, o1, o2, o3, -⟩ := okR_mem (by simpa [boI] using hok.1.2.2.2.1.2) (enB x) (List.mem_map_of_mem hx)
  exact ⟨o1, o2, o3⟩
 refine g ?_
 refine AW.seq ?_
 refine AW.reg rfl fun KK hKK => ?_
 refine g ?_
 repeat' (refine hKK _ (g ?_); clear hKK KK)
 refine AW.freeze 300 _ rfl ⟨trivial, trivial, trivial, trivial, iR, trivial⟩ ?_
 simp only [go_sem, reduceIte, Nat.reduceEqDiff]
 refine AW.freeze 400 _ rfl ⟨trivial, trivial, trivial, trivial, trivial⟩ ?_
 simp only [go_sem, reduceIte, Nat.reduceEqDiff]
 refine g ?_
 repeat' (first | refine st_ rfl (g ?_) | refine cond_ (fun h => g ?_) (fun h => g ?_) | refine call_ (rview_call v iR) rfl (g ?_))
 ·rw [if_neg (by simpa using h)] at hR
  exact view_no hR.symm
 have hF : viewFormed v = true := by simpa using h
 rw [if_pos hF] at hR
 obtain ⟨T, hT⟩ : ∃ T, takeZ v.zones v.known n = T := ⟨_, rfl⟩
 have htk := rztake_call v.zones v.known n
 rw [hT] at htk hR
 obtain ⟨Z, K, e⟩ := T
 simp only at htk hR
 refine call_ htk rfl (g ?_)
 refine g ?_
 repeat' (first | refine st_ rfl (g ?_) | refine cond_d (fun h => g ?_) (fun h => g ?_))
 ·rw [if_neg h] at hR
  exact view_no hR.symm
 obtain rfl : e = 0 := by simpa using h
 rw [if_pos rfl] at hR
 have hbl := view_len hF
 have hhf : shelfFormed v.held = true := by
  simp only [viewFormed, partsB, Bool.and_eq_true] at hF
  exact hF.1.1.1.1.2
 refine AW.adopt 10 9900 55 4 rfl rfl ?_
 refine AW.loop (fun m : {m : Nat // m ≤ n.writes.length} => ⟨[(2, .ip [stI v.known, znI v.zones, wrI v.held, boI v.bodies, .val (.int .i64 v.room)]), (3, .ip [stI n.start, stI n.end_, spI n.blur, wrI n.writes]), (4, .bp 500 0), (9, .bp 1000 0), (10, .own 9900), (11, .val (.int .i64 (m.1 : Nat)))], [.row 9900 55 4 (((n.writes.take m.1).filter fun w => reachedB Z K w).map enW), .box 1000 [.iv (stI K), .iv (znI Z), .val (.slice none 0 0), .val (.slice none 0 0), .val (.int .i64 v.room)], .box 500 [.val (.slice none 0 0), .val (.slice none 0 0), .val (.slice none 0 0), .val (.slice none 0 0), .val (.int .i64 0)]]⟩) (fun m => n.writes.length - m.1) ⟨0, Nat.zero_le _⟩ id ⟨⟨rfl, rfl, rfl, rfl, rfl, rfl, trivial⟩, ⟨rfl, rfl, rfl, trivial⟩, by simp [idsOf, BA.id]⟩ fun ⟨m, hm⟩ => ?_
 simp only
 repeat (refine AW.seq ?_)
 refine AW.reg rfl fun KK hKK => ?_
 refine g ?_
 repeat' (refine hKK _ (g ?_); clear hKK KK)
 repeat (refine AW.seq ?_)
 refine st_ rfl ?_
 refine g ?_
 refine cond_ (fun h => ?_) (fun h => ?_)
 ·have hlt : m < n.writes.length := by have := of_decide_eq_true h; omega
  have hs := filter_snoc (fun w => reachedB Z K w) hlt
  have hfl := List.length_filter_le (fun w => reachedB Z K w) (n.writes.take m)
  have htl := List.length_take_le m n.writes
  obtain ⟨J, hJ⟩ : ∃ J, (n.writes.take m).filter (fun w => reachedB Z K w) = J := ⟨_, rfl⟩
  obtain ⟨w, hw⟩ : ∃ w, n.writes[m] = w := ⟨_, rfl⟩
  have hget := get_map (f := enW) (List.getElem?_eq_getElem hlt)
  obtain ⟨o1, o2, o3⟩ := hWI _ (List.getElem_mem hlt)
  rw [hJ] at hs hfl ⊢
  rw [hw] at hs hget o1 o2 o3
  have hrr := rreached_call ⟨K, Z, [], [], v.room⟩ w
  simp only at hrr
  refine st_ rfl (g ?_)
  refine AW.seq ?_
  refine AW.block ?_
  repeat (refine AW.seq ?_)
  refine AW.drawn (ds := [43, 44, 45, 46, 47, 48, 49]) (fin := [0, 1, 2]) (bs := [3, 3, 3, 3, 3, 3, 3]) [⟨[], [], [0, 1, 2], [], 0⟩, ⟨[], [], [], [], 0⟩, ⟨[(44, 1)], [], [0, 1, 2], [], 0⟩, ⟨[], [], [], [], 0⟩, ⟨[(45, 2), (46, 3)], [], [0, 1, 2], [], 0⟩, ⟨[(47, 4)], [], [0, 1, 2], [], 0⟩, ⟨[(43, 0), (48, 5)], [], [0, 1, 2], [], 0⟩] (by kernel_rfl) rfl (by kernel_rfl) rfl rfl rfl fun KD hKD => ?_
  refine g ?_
  repeat' refine ix_ (by omega) (g ?_)
  rw [hw]
  refine call_s hrr (Sbs.of_ (vw_nil K Z v.room) (Sbs.rfl_ _)) rfl (g ?_)
  refine g ?_
  repeat' (first | refine st_ rfl (g ?_) | refine cond_ (fun h => g ?_) (fun h => g ?_) | (refine hKD _ _ ⟨rfl, g ?_⟩; clear hKD KD) | refine ix_ (by omega) (g ?_))
  ·rw [if_pos h] at hs
   rw [hw]
   refine bs1 (by omega) rfl rfl rfl ⟨o1, o2, o3, trivial, trivial⟩ ?_
   refine g ?_
   refine append_own rfl (by kernel_rfl) (by omega) (by kernel_rfl) rfl (by simp; omega) ?_
   refine g ?_
   repeat' refine st_ rfl (g ?_)
   refine ⟨⟨m + 1, hlt⟩, fun b => if b = 9900 then 5800 else b, ⟨⟨rfl, rfl, rfl, rfl, rfl, rfl, trivial⟩, ⟨?_, rfl, rfl, trivial⟩, by simp [idsOf, BA.id]⟩, by show n.writes.length - (m + 1) < n.writes.length - m; omega⟩
   rw [hs, List.map_append]
   rfl
  ·rw [if_neg (by simpa using h), List.append_nil] at hs
   refine ⟨⟨m + 1, hlt⟩, id, ⟨⟨rfl, rfl, rfl, rfl, rfl, rfl, trivial⟩, ⟨?_, rfl, rfl, trivial⟩, by simp [idsOf, BA.id]⟩, by show n.writes.length - (m + 1) < n.writes.length - m; omega⟩
   rw [hs]
   rfl
 obtain rfl : m = n.writes.length := by have := of_decide_eq_false h; omega
 clear h hm
 rw [List.take_length]
 have htr : (toldW Z K n).all rightW = true := List.all_eq_true.2 told_right
 have hput := rshput_call v.held (toldW Z K n)
 unfold putS at hput
 rw [if_pos ⟨hhf, htr⟩] at hput
 rw [show (n.writes.filter fun w => reachedB Z K w) = toldW Z K n from rfl]
 have htl : (toldW Z K n).length ≤ 1073741824 := Nat.le_trans (List.length_filter_le _ _) hwl
 obtain ⟨H, hH⟩ : ∃ H, putL v.held (toldW Z K n) = H := ⟨_, rfl⟩
 rw [hH] at hput hR
 generalize toldW Z K n = told at hput htl ⊢
 refine AW.exit ?_
 simp only [reduceIte]
 refine AW.freeze 9900 _ rfl trivial ?_
 simp only [go_sem, reduceIte, Nat.reduceEqDiff]
 refine g ?_
 repeat' (first | refine st_ rfl (g ?_) | refine call_ (hput) rfl (g ?_))
 refine AW.adoptC 1000 3 9900 51 4 rfl rfl rfl ?_
 refine AW.loop (fun m : {m : Nat // m ≤ v.bodies.length} => ⟨[(2, .ip [stI v.known, znI v.zones, wrI v.held, boI v.bodies, .val (.int .i64 v.room)]), (4, .bp 500 0), (9, .bp 1000 0), (12, .val (.int .i64 (m.1 : Nat)))], [.row 9900 51 4 (((v.bodies.take m.1).filter fun x => wantedB H x).map enB), .box 1000 [.iv (stI K), .iv (znI Z), .iv (wrI H), .own 9900, .val (.int .i64 v.room)], .box 500 [.val (.slice none 0 0), .val (.slice none 0 0), .val (.slice none 0 0), .val (.slice none 0 0), .val (.int .i64 0)]]⟩) (fun m => v.bodies.length - m.1) ⟨0, Nat.zero_le _⟩ id ⟨⟨rfl, rfl, rfl, rfl, trivial⟩, ⟨rfl, rfl, rfl, trivial⟩, by simp [idsOf, BA.id]⟩ fun ⟨m, hm⟩ => ?_
 simp only
 repeat (refine AW.seq ?_)
 refine AW.reg rfl fun KK hKK => ?_
 refine g ?_
 repeat' (refine hKK _ (g ?_); clear hKK KK)
 repeat (refine AW.seq ?_)
 refine st_ rfl ?_
 refine g ?_
 refine cond_ (fun h => ?_) (fun h => ?_)
 ·have hlt : m < v.bodies.length := by have := of_decide_eq_true h; omega
  have hs := filter_snoc (fun x => wantedB H x) hlt
  have hfl := List.length_filter_le (fun x => wantedB H x) (v.bodies.take m)
  have htl2 := List.length_take_le m v.bodies
  obtain ⟨J, hJ⟩ : ∃ J, (v.bodies.take m).filter (fun x => wantedB H x) = J := ⟨_, rfl⟩
  obtain ⟨x, hx⟩ : ∃ x, v.bodies[m] = x := ⟨_, rfl⟩
  obtain ⟨o1, o2, o3⟩ := hBI _ (List.getElem_mem hlt)
  rw [hJ] at hs hfl ⊢
  rw [hx] at hs o1 o2 o3
  have hrw := rwanted_call ⟨K, Z, H, J, v.room⟩ x
  simp only at hrw
  refine st_ rfl (g ?_)
  refine AW.seq ?_
  refine AW.block ?_
  repeat (refine AW.seq ?_)
  refine AW.drawn (ds := [73, 74, 75, 76, 77, 78, 79]) (fin := [0, 1, 2]) (bs := [3, 3, 3, 3, 3, 3, 3]) [⟨[], [], [0, 1, 2], [], 0⟩, ⟨[], [], [], [], 0⟩, ⟨[(74, 1)], [], [0, 1, 2], [], 0⟩, ⟨[], [], [], [], 0⟩, ⟨[(75, 2), (76, 3)], [], [0, 1, 2], [], 0⟩, ⟨[(77, 4)], [], [0, 1, 2], [], 0⟩, ⟨[(73, 0), (78, 5)], [], [0, 1, 2], [], 0⟩] (by kernel_rfl) rfl (by kernel_rfl) rfl rfl rfl fun KD hKD => ?_
  refine g ?_
  repeat' refine ix_ (by omega) (g ?_)
  rw [hx]
  refine call_l hrw (by simp [okBk, okAs]; exact ⟨⟨trivial, trivial, trivial, trivial, iR⟩, trivial, rfl⟩) rfl (fun _ h => by cases h) (Sbs.rfl_ _) rfl (g ?_)
  refine g ?_
  repeat' (first | refine st_ rfl (g ?_) | refine cond_ (fun h => g ?_) (fun h => g ?_) | (refine hKD _ _ ⟨rfl, g ?_⟩; clear hKD KD))
  ·rw [if_pos h] at hs
   refine AW.drawn (ds := [80, 81, 82, 83, 84, 85, 86, 87, 88, 89, 90]) (fin := [2, 3, 4, 5]) (bs := [3, 3, 3, 3, 3, 3, 3, 3, 3, 4, 5, 5]) [⟨[], [], [], [], 0⟩, ⟨[(80, 0)], [], [0, 1, 2], [], 0⟩, ⟨[], [], [], [], 0⟩, ⟨[(82, 2)], [], [0, 1, 2], [], 0⟩, ⟨[], [], [], [], 0⟩, ⟨[(83, 3), (84, 4)], [], [0, 1, 2], [], 0⟩, ⟨[(85, 5)], [], [0, 1, 2], [], 0⟩, ⟨[(86, 6)], [], [0, 1, 2], [], 0⟩, ⟨[(87, 7)], [], [], [], 1⟩, ⟨[(81, 1), (88, 8)], [], [1, 2, 3], [0], 1⟩, ⟨[], [], [], [], 0⟩, ⟨[(90, 10), (89, 9)], [], [], [1], 1⟩] (by kernel_rfl) rfl (by kernel_rfl) rfl rfl rfl fun KD hKD => ?_
   refine g ?_
   repeat' refine ix_ (by omega) (g ?_)
   rw [hx]
   refine g ?_
   repeat' refine call_ (rbody_call x o1 o2 o3) rfl (g ?_)
   refine bs1 (by omega) rfl rfl rfl ⟨o1, o2, o3, trivial, trivial⟩ ?_
   refine g ?_
   refine append_own rfl (by kernel_rfl) (by omega) (by kernel_rfl) rfl (by simp; omega) ?_
   refine g ?_
   repeat' (first | refine st_ rfl (g ?_) | (refine hKD _ _ ⟨rfl, g ?_⟩; clear hKD KD))
   refine ⟨⟨m + 1, hlt⟩, fun b => if b = 9900 then 9000 else b, ⟨⟨rfl, rfl, rfl, rfl, trivial⟩, ⟨?_, rfl, rfl, trivial⟩, by simp [idsOf, BA.id]⟩, by show v.bodies.length - (m + 1) < v.bodies.length - m; omega⟩
   rw [hs, List.map_append]
   rfl
  ·rw [if_neg (by simpa using h), List.append_nil] at hs
   refine ⟨⟨m + 1, hlt⟩, id, ⟨⟨rfl, rfl, rfl, rfl, trivial⟩, ⟨?_, rfl, rfl, trivial⟩, by simp [idsOf, BA.id]⟩, by show v.bodies.length - (m + 1) < v.bodies.length - m; omega⟩
   rw [hs]
   rfl
 obtain rfl : m = v.bodies.length := by have := of_decide_eq_false h; omega
 rw [List.take_length]
 refine AW.exit ?_
 simp only [reduceIte]
 refine AW.freeze 9900 _ rfl trivial ?_
 simp only [go_sem, reduceIte, Nat.reduceEqDiff]
 refine g ?_
 repeat' refine st_ rfl (g ?_)
 subst hR
 exact Sub1.rfl_ _
end Go.Proofs.YtkphfdmelfhnoaaGreatDoor
namespace Go.Proofs.YtkphfdmelfhnoaaGreatDoor
open Go.ChangeShapes Go.WideShapes Go.ChangeAt Go.RowKit
attribute [local irreducible] AW AWY vops vopsY vop vopL vdraw callW qop binQ lenQ storeQ appendQ callQ ACalls AIter
attribute [local go_sem] enB_eq boI_eq boA_eq enW_eq wrI_eq wA_eq enZ_eq znI_eq vwA_eq storeQ_bp storeQ_rp
set_option maxRecDepth 100000 in
theorem rbscopy_call (l : List Body) : ACalls Tryz.prog TzTab 67 [.iv (boI l)] (.iv (boI l)) [] := by
 refine ACalls.of (n := 20) (rs := [.tmp 2]) Tryz.func67 rfl (by kernel_rfl) Tryz.ntmps67 (by kernel_rfl) (by simp) (fun _ _ => TzTab.later) ?_
 intro hok V w0
 have hlen : l.length ≤ 1073741824 := by simpa [boI] using hok.1.1
 refine g ?_
 repeat' refine st_ rfl (g ?_)
 refine AW.adopt 3 9900 51 4 rfl rfl ?_
 refine AW.loop (fun i : {i : Nat // i ≤ l.length} => ⟨[(0, .iv (boI l)), (3, .own 9900), (4, .val (.int .i64 (i.1 : Nat)))], [.row 9900 51 4 ((l.take i.1).map enB)]⟩) (fun i => l.length - i.1) ⟨0, Nat.zero_le _⟩ id ⟨⟨rfl, rfl, rfl, trivial⟩, ⟨rfl, trivial⟩, by simp [idsOf, BA.id]⟩ fun ⟨i, hi⟩ => ?_
 repeat (refine AW.seq ?_)
 refine AW.reg rfl fun KK hKK => ?_
 refine g ?_
 repeat' (refine hKK _ (g ?_); clear hKK KK)
 repeat (refine AW.seq ?_)
 refine st_ rfl ?_
 refine g ?_
 refine cond_ (fun h => ?_) (fun h => ?_)
 ·have hlt : i < l.length := by have := of_decide_eq_true h; omega
  obtain ⟨-, o1, o2, o3, -⟩ := okR_mem (by simpa [boI] using hok.1.2) (enB l[i]) (List.mem_map_of_mem (List.getElem_mem hlt))
  refine g ?_
  repeat' refine st_ rfl (g ?_)
  refine ⟨by omega, _, get_map (List.getElem?_eq_getElem hlt), ?_⟩
  refine g ?_
  repeat' refine hold_ (g ?_)
  refine call_ (rbody_call l[i] o1 o2 o3) rfl ?_
  refine g ?_
  refine bs1 (by omega) rfl rfl rfl ⟨o1, o2, o3, trivial, trivial⟩ ?_
  refine g ?_
  refine append_own rfl (by kernel_rfl) (by omega) (by kernel_rfl) rfl (by simp; omega) ?_
  refine g ?_
  repeat' refine st_ rfl (g ?_)
  refine ⟨⟨i + 1, hlt⟩, fun b => if b = 9900 then 1900 else b, ⟨⟨rfl, rfl, rfl, trivial⟩, ⟨?_, trivial⟩, by simp [idsOf, BA.id]⟩, by show l.length - (i + 1) < l.length - i; omega⟩
  show some (BA.row _ _ _ _) = some (BA.row _ _ _ ((l.take (i + 1)).map enB))
  rw [List.take_succ_eq_append_getElem hlt, List.map_append]
  rfl
 ·obtain rfl : i = l.length := by have := of_decide_eq_false h; omega
  refine AW.freeze 9900 _ rfl trivial ?_
  simp only [go_sem, reduceIte, Nat.reduceEqDiff]
  rw [List.take_length]
  refine g ?_
  repeat' (first | refine st_ rfl (g ?_) | exact trivial)
set_option maxRecDepth 100000 in
theorem rzcopy_call (l : List Zone) : ACalls Tryz.prog TzTab 66 [.iv (znI l)] (.iv (znI l)) [] := by
 refine ACalls.of (n := 27) (rs := [.tmp 2]) Tryz.func66 rfl (by kernel_rfl) Tryz.ntmps66 (by kernel_rfl) (by simp) (fun _ _ => TzTab.later) ?_
 intro hok V w0
 have hlen : l.length ≤ 1073741824 := by simpa [znI] using hok.1.1
 refine g ?_
 repeat' refine st_ rfl (g ?_)
 refine AW.adopt 3 9900 147 3 rfl rfl ?_
 refine AW.loop (fun i : {i : Nat // i ≤ l.length} => ⟨[(0, .iv (znI l)), (3, .own 9900), (4, .val (.int .i64 (i.1 : Nat)))], [.row 9900 147 3 ((l.take i.1).map enZ)]⟩) (fun i => l.length - i.1) ⟨0, Nat.zero_le _⟩ id ⟨⟨rfl, rfl, rfl, trivial⟩, ⟨rfl, trivial⟩, by simp [idsOf, BA.id]⟩ fun ⟨i, hi⟩ => ?_
 repeat (refine AW.seq ?_)
 refine AW.reg rfl fun KK hKK => ?_
 refine g ?_
 repeat' (refine hKK _ (g ?_); clear hKK KK)
 repeat (refine AW.seq ?_)
 refine st_ rfl ?_
 refine g ?_
 refine cond_ (fun h => ?_) (fun h => ?_)
 ·have hlt : i < l.length := by have := of_decide_eq_true h; omega
  obtain ⟨-, o1, o2, -⟩ := okR_mem (by simpa [znI] using hok.1.2) (enZ l[i]) (List.mem_map_of_mem (List.getElem_mem hlt))
  have hget := get_map (f := enZ) (List.getElem?_eq_getElem hlt)
  refine g ?_
  repeat' refine st_ rfl (g ?_)
  refine AW.drawn (ds := [11, 12, 13, 14, 15, 16, 17, 18, 19, 20, 21, 22, 23, 24, 25, 3]) (fin := [1, 2]) (bs := [1, 1, 1, 1, 1, 1, 1, 1, 1, 1, 1, 1, 1, 1, 2, 3]) [⟨[], [3], [], [], 0⟩, ⟨[], [], [], [], 0⟩, ⟨[], [], [], [], 0⟩, ⟨[(12, 1), (13, 2)], [], [0], [], 0⟩, ⟨[(14, 3)], [], [], [], 0⟩, ⟨[(15, 4)], [], [0], [], 0⟩, ⟨[], [], [], [], 0⟩, ⟨[], [], [], [], 0⟩, ⟨[(17, 6), (18, 7)], [], [0], [], 0⟩, ⟨[(19, 8)], [], [], [], 0⟩, ⟨[(20, 9)], [], [0], [], 0⟩, ⟨[(21, 10)], [], [0], [], 0⟩, ⟨[(16, 5), (22, 11)], [], [], [], 0⟩, ⟨[(23, 12)], [], [], [], 1⟩, ⟨[(11, 0), (24, 13)], [], [1], [0], 1⟩, ⟨[(25, 14)], [], [], [], 0⟩] (by kernel_rfl) rfl (by kernel_rfl) rfl rfl rfl fun KD hKD => ?_
  refine g ?_
  repeat' (first | refine ix_ (by omega) (g ?_) | refine call_ (rvcopyD _) rfl (g ?_))
  refine bs1 (by omega) rfl rfl rfl ⟨o1, o2, trivial, trivial⟩ ?_
  refine g ?_
  refine append_own rfl (by kernel_rfl) (by omega) (by kernel_rfl) rfl (by simp; omega) ?_
  refine g ?_
  repeat' (first | refine st_ rfl (g ?_) | (refine hKD _ _ ⟨rfl, g ?_⟩; clear hKD KD))
  refine ⟨⟨i + 1, hlt⟩, fun b => if b = 9900 then 2600 else b, ⟨⟨rfl, rfl, rfl, trivial⟩, ⟨?_, trivial⟩, by simp [idsOf, BA.id]⟩, by show l.length - (i + 1) < l.length - i; omega⟩
  show some (BA.row _ _ _ _) = some (BA.row _ _ _ ((l.take (i + 1)).map enZ))
  rw [List.take_succ_eq_append_getElem hlt, List.map_append]
  rfl
 ·obtain rfl : i = l.length := by have := of_decide_eq_false h; omega
  refine AW.freeze 9900 _ rfl trivial ?_
  simp only [go_sem, reduceIte, Nat.reduceEqDiff]
  rw [List.take_length]
  refine g ?_
  repeat' (first | refine st_ rfl (g ?_) | exact trivial)
set_option maxRecDepth 100000 in
set_option maxHeartbeats 800000 in
theorem rvwcopy_call (v : View) (iR : I64 v.room) : ACalls Tryz.prog TzTab 16 [vwA v] (vwA v) [] := by
 refine ACalls.ofS (n := 19) (rs := [.cell 2 27]) Tryz.func16 rfl (by kernel_rfl) Tryz.ntmps16 (by kernel_rfl) (by simp) (fun _ _ => TzTab.later) ?_
 intro hok V w0
 have hlen : v.held.length ≤ 1073741824 := by simpa [wrI] using hok.1.2.2.1.1
 refine g ?_
 refine AW.seq ?_
 refine AW.reg rfl fun KK hKK => ?_
 refine g ?_
 repeat' (refine hKK _ (g ?_); clear hKK KK)
 refine AW.freeze 200 _ rfl ⟨trivial, trivial, trivial, trivial, iR, trivial⟩ ?_
 simp only [go_sem, reduceIte, Nat.reduceEqDiff]
 refine g ?_
 repeat' refine st_ rfl (g ?_)
 refine AW.drawn (ds := [3, 4, 5, 6, 7, 8, 9, 10, 11, 12, 13, 14, 15, 16, 17, 18]) (fin := [2, 3]) (bs := [1, 1, 1, 1, 1, 1, 1, 2, 2, 2, 3, 3, 3, 3, 3, 3, 3]) [⟨[], [], [], [], 0⟩, ⟨[(3, 0)], [], [0], [], 0⟩, ⟨[(4, 1)], [], [0], [], 0⟩, ⟨[], [], [], [], 0⟩, ⟨[(6, 3)], [], [0], [], 0⟩, ⟨[(7, 4)], [], [0], [], 0⟩, ⟨[], [], [], [], 1⟩, ⟨[], [], [], [], 0⟩, ⟨[(10, 7)], [], [0], [], 0⟩, ⟨[(9, 6), (11, 8)], [], [0], [1], 1⟩, ⟨[], [], [], [], 0⟩, ⟨[(13, 10)], [], [0], [], 0⟩, ⟨[(14, 11)], [], [0, 2], [], 0⟩, ⟨[], [], [], [], 0⟩, ⟨[(16, 13)], [], [0], [], 0⟩, ⟨[(5, 2), (8, 5), (12, 9), (15, 12), (17, 14)], [], [], [], 0⟩, ⟨[(18, 15)], [], [], [0], 1⟩] (by kernel_rfl) rfl (by kernel_rfl) rfl rfl rfl fun KD hKD => ?_
 refine g ?_
 repeat' (first | refine call_ (rvcopyD _) rfl (g ?_) | refine call_ (rzcopy_call _) rfl (g ?_))
 refine bs0 (by omega) ?_
 refine g ?_
 refine append_own rfl (by kernel_rfl) (by omega) (by kernel_rfl) rfl (by simpa using hlen) ?_
 refine g ?_
 refine call_ (rbscopy_call _) rfl ?_
 refine g ?_
 repeat' (refine hKD _ _ ⟨rfl, g ?_⟩; clear hKD KD)
 refine AW.freeze 1300 _ rfl trivial ?_
 simp only [go_sem, reduceIte, Nat.reduceEqDiff]
 refine g ?_
 repeat' refine st_ rfl (g ?_)
 exact Sub1.rfl_ _
end Go.Proofs.YtkphfdmelfhnoaaGreatDoor
namespace Go.Proofs.YtkphfdmelfhnoaaGreatDoor
open Go.ChangeShapes Go.WideShapes Go.ChangeAt Go.RowKit
theorem frz_heap {w : World} {g n : Nat} {e : TypeId} {C : Array Value} (hB : Blk w g e C) : (w.freeze ⟨g, n, none⟩ 1).heap.size = w.heap.size ∧ (∀ k, k ≠ g → (w.freeze ⟨g, n, none⟩ 1).heap[k]? = w.heap[k]?) ∧ (∀ p : Addr, (w.freeze ⟨g, n, none⟩ 1).cell? p = w.cell? p) := by
 have hsz : (w.freeze ⟨g, n, none⟩ 1).heap.size = w.heap.size := by simp [World.freeze]
 have hfar : ∀ k, k ≠ g → (w.freeze ⟨g, n, none⟩ 1).heap[k]? = w.heap[k]? := fun k hk => by
  simp [World.freeze, Array.getElem?_modify, Ne.symm hk]
 refine ⟨hsz, hfar, fun p => ?_⟩
 by_cases hp : p.block = g
 ·have h1 : (w.freeze ⟨g, n, none⟩ 1).heap[g]? = some (.cells C e (n, n + 1)) := by
   have := hB
   unfold Blk at this
   simp [World.freeze, Array.getElem?_modify, this]
  have h2 : w.heap[g]? = some (.cells C e (0, 0)) := hB
  unfold World.cell?
  rw [hp, h1, h2]
 ·exact World.cell?_of_block (hfar _ hp)
theorem frz_below {w0 w : World} {g n : Nat} {e : TypeId} {C : Array Value} (hB : Blk w g e C) (h : Below w0.heap.size w0 w) (hg : w0.heap.size ≤ g) : Below w0.heap.size w0 (w.freeze ⟨g, n, none⟩ 1) := by
 obtain ⟨h1, h2, _⟩ := frz_heap (n := n) hB
 refine ⟨?_, ?_, ?_, by rw [h1]; exact h.size, fun k hk => by rw [h2 k (by omega)]; exact h.block k hk⟩
 ·simpa [World.freeze] using h.os
 ·simpa [World.freeze] using h.tape
 ·simpa [World.freeze] using h.output
theorem run_mark {P : Program} {w : World} {t e e' : TypeId} {C : Array Value} {g n c : Nat} (ht : P.underlying t = some (.slice e)) (he : P.underlying e = some (.int .u8)) (hB : Blk w g e' C) :
  (convert t t (.slice (some ⟨g, 0, none⟩) n c)).run P w = .ok (.slice (some ⟨g, 0, none⟩) n c) (w.freeze ⟨g, C.size, none⟩ 1) := by
 have hsh : w.shape? g = some (e', C.size) := by
  unfold World.shape?
  rw [show w.heap[g]? = some (.cells C e' (0, 0)) from hB]
 simp [convert, run_underlying ht, run_underlying he, markStringish, hsh]
theorem list_step1 {P : Program} {ro : Option Nat} {ops : Array Oper} {o : Oper} {rest : List Oper} {Q : Exit → Act → World → Prop} {a : Act} {w w' : World} {v : Value} (hg : o.guard = none) (hd : ∀ c, o.op ≠ .defer c) (hx : (execOp a.eval o).run P w = .ok (.value v) w') (h : wpListIn (FW ro) 0 P ops Q rest (a.put o.dst v) w') : wpListIn (FW ro) 0 P ops Q (o :: rest) a w := by
 refine wpListIn_step fun K' hK' => ?_
 rw [if_pos (by unfold Region.wanted; rw [hg])]
 refine wp_wpIn hd ?_
 unfold Oper.wp
 rw [hx, Oper.upon_value]
 exact hK' _ _ h
section
variable {P : Program} {G : World → Prop} {V w0 : World} {n : Fm} {ro : Option Nat}
theorem vops_run2 {ops : List Oper} {Q : Exit → Act → World → Prop} {rest2 : List Oper} (hG : ∀ w', Below w0.heap.size w0 w' → G w') : ∀ (l : List Oper) (σ : AState) (K : AState → Prop) (E : Env) (a : Act) (w : World), dstsOk n.nd l = true → vops P G ops l σ K → St V w0 n E σ a w →
  (∀ (E' : Env) (σ' : AState) (a' : Act) (w' : World), K σ' → St V w0 n E' σ' a' w' → wpListIn (FW ro) 0 P ops.toArray Q rest2 a' w') → wpListIn (FW ro) 0 P ops.toArray Q (l ++ rest2) a w := by
 intro l
 induction l with
 | nil => exact fun σ K E a w _ h hs hQ => hQ E σ a w h hs
 | cons o rest ih =>
  intro σ K E a w hd h hs hQ
  simp only [dstsOk, Bool.and_eq_true] at hd
  have hdst : ∀ d, o.dst = some d → d < n.nd.n ∧ d ∉ n.nd.fx := fun d e => by
   have := hd.1
   rw [e] at this
   simp only [Bool.and_eq_true, Bool.not_eq_true'] at this
   exact ⟨blt_iff.1 this.1, memN_iff this.2⟩
  refine wpListIn_step fun K' hK' => ?_
  rcases guard_run hs h with ⟨hw, hr⟩ | ⟨hw, hr⟩
  ·rw [if_pos hw]
   obtain ⟨r, bk', hK, hu⟩ := vop_run hr
   refine hu V w0 n E a w hs hG K' Q (fun v w' E' hs' hv => hK' _ _ (ih ⟨putF o.dst r σ.fr, bk'⟩ K E' (a.put o.dst v) w' hd.2 hK (hs'.put hdst hv) hQ)) ro
  ·rw [if_neg (by rw [hw]; simp)]
   refine ⟨fun _ _ => trivial, hK' _ _ (ih ⟨putF o.dst (.val undef) σ.fr, σ.bk⟩ K E (a.put o.dst undef) w hd.2 hr (hs.put hdst .val) hQ)⟩
end
theorem dstsOk_append {n : Nd} : ∀ (l m : List Oper), dstsOk n (l ++ m) = (dstsOk n l && dstsOk n m)
 | [], m => rfl
 | o :: l, m => by rw [List.cons_append, dstsOk, dstsOk, dstsOk_append l m, Bool.and_assoc]
section
variable {P : Program} {G : World → Prop} {σ : AState} {V w0 : World} {n : Nd} {ro : Option Nat} {K : Exit → AState → Prop}
theorem AW.markR {id : Nat} {l1 l2 : List Oper} {t e : TypeId} {d s : Nat} {y : TypeId} {p : String} {ar : Array Edge} {L : List Oper} (hL : L = l1 ++ ⟨some d, .convert t t (.tmp s), y, p, ar, none⟩ :: l2)
  (hd : dstsOk n L = true) (ht : P.underlying t = some (.slice e)) (he : P.underlying e = some (.int .u8))
  (h : vops P G L l1 σ fun σ1 => ∃ b e' l, look σ1.fr s = .own b ∧ findB b σ1.bk = some (.row b e' 1 l) ∧ l ≠ [] ∧ vops P G L l2 ⟨putF (some d) (.iv (.sl 1 l)) σ1.fr, replB b [] σ1.bk⟩ fun σ' => K .normal σ') :
  AW P G ro V w0 n (.region id L.toArray false) σ K := fun hG m E a w hn hs => by
 rw [hL, dstsOk_append, Bool.and_eq_true] at hd
 obtain ⟨hd1, hd2⟩ := hd
 simp only [dstsOk, Bool.and_eq_true] at hd2
 refine wpIn_region_lit ?_
 suffices H : wpListIn (FW ro) 0 P L.toArray (Arr V w0 m K) (l1 ++ ⟨some d, .convert t t (.tmp s), y, p, ar, none⟩ :: l2) a w by rwa [← hL] at H
 refine vops_run2 hG l1 σ _ E a w (by rw [hn]; exact hd1) h hs fun E1 σ1 a1 w1 ⟨b, e', l, q1, q2, q3, hK⟩ hs1 => ?_
 have s1 := hs1.slots s
 rw [q1] at s1
 obtain ⟨pre, post, e1, e2, e3⟩ := findB_split q2
 obtain ⟨fr, bk⟩ := σ1
 simp only at e1 e3 hK hs1 q1 q2 s1
 have e4 := e3 []
 subst e1
 rw [e4] at hK
 obtain ⟨hO, hB⟩ := hs1.holds (.row b e' 1 l) (by simp)
 obtain ⟨v, hv⟩ : ∃ v, a1.tmps.getD s undef = v := ⟨_, rfl⟩
 rw [hv] at s1
 have hfz := St.frz_rep hs1 (x := .row b e' 1 l) trivial s1
 rw [frzA_own_row, if_pos rfl] at hfz
 have hev : v = E1.row b := by
  cases s1 with
  | own h => exact h.symm
 rcases hO.forms with ⟨_, h0⟩ | ⟨g, c, hvv, hg1, hg2⟩
 ·exact absurd h0 q3
 rw [hvv] at hO
 obtain ⟨cur, _, _, hBk, _⟩ := hO.open_
 obtain ⟨f1, f2, f3⟩ := frz_heap (n := cur.size) hBk
 have hgm : owns E1 [.row b e' 1 l] = [g] := by simp [owns, BA.owned, hvv, Value.ownBlock]
 have hsw := St.swap (E' := E1) (nb := []) (mid := [.row b e' 1 l]) (lo := 0) (hi := 0) (w' := w1.freeze ⟨g, cur.size, none⟩ 1) hs1 (fun k hk _ => f2 k (fun h => hk (by rw [hgm, h]; simp))) (by rw [f1]; exact Nat.le_refl _) (frz_below hBk hs1.low hg1) (Env.same_refl 0 0 E1) (offF_none _) (offB_none _) (by simp [owns]) (by simp [owns]) (by simp)
 refine list_step1 rfl (fun _ h => by cases h) (v := v) (w' := w1.freeze ⟨g, cur.size, none⟩ 1) ?_ ?_
 ·have : a1.eval (.tmp s) = v := hv
  simp only [execOp, this]
  refine run_v ?_
  rw [hev, hvv]
  exact run_mark ht he hBk
 ·refine vops_run hG l2 _ _ E1 _ _ (by rw [hn]; exact hd2.2) hK (hsw.put (fun d' hd' => ?_) (hfz.mono (vis_ext (by rw [f1]; exact Nat.le_refl _) fun p u _ _ h3 h4 => ⟨h3, by rw [f3]; exact h4⟩))) fun E' σ' a' w' hK hs' => ⟨m, E', σ', Fm.le.refl m, hK, hs'⟩
  cases hd'
  have := hd2.1
  simp only [Bool.and_eq_true, Bool.not_eq_true'] at this
  rw [hn]
  exact ⟨blt_iff.1 this.1, memN_iff this.2⟩
theorem AW.mark {id : Nat} {l1 l2 : List Oper} {t e : TypeId} {d s : Nat} {y : TypeId} {p : String} {ar : Array Edge} {L : List Oper} (hL : L = l1 ++ ⟨some d, .convert t t (.tmp s), y, p, ar, none⟩ :: l2)
  (hd : dstsOk n L = true) (ht : P.underlying t = some (.slice e)) (he : P.underlying e = some (.int .u8))
  (h : ∀ KK : AState → Prop, (∀ σ1 b e' l, look σ1.fr s = .own b → findB b σ1.bk = some (.row b e' 1 l) → l ≠ [] → (∀ K2 : AState → Prop, (∀ σ', K .normal σ' → K2 σ') → vops P G L l2 ⟨putF (some d) (.iv (.sl 1 l)) σ1.fr, replB b [] σ1.bk⟩ K2) → KK σ1) → vops P G L l1 σ KK) :
  AW P G ro V w0 n (.region id L.toArray false) σ K := AW.markR hL hd ht he (h _ fun σ1 b e' l h1 h2 h3 h4 => ⟨b, e', l, h1, h2, h3, h4 _ fun _ h => h⟩)
end
attribute [local irreducible] AW AWY vops vopsY vop vopL vdraw callW qop binQ lenQ storeQ appendQ callQ ACalls AIter
attribute [local go_sem] byI_eq enW_eq wrI_eq wA_eq enB_eq boI_eq enZ_eq znI_eq vwA_eq noteA_eq storeQ_bp storeQ_rp
def aliveV : View := ⟨[⟨1, 0⟩], [], [⟨⟨1, 0⟩, 3, false⟩], [⟨3, ⟨1, 0⟩, [104, 105]⟩], 9⟩
def aliveN : Note := ⟨[], [⟨1, 0⟩], [], [⟨⟨1, 0⟩, 3, false⟩]⟩
theorem alive13a : newS 9 = (⟨[], [], [], [], 9⟩, 0) := by kernel_rfl
theorem alive13b : writeV ⟨[], [], [], [], 9⟩ 0 3 0 [104, 105] false = ⟨aliveV, aliveN, 0⟩ := by kernel_rfl
theorem alive13c : readV aliveV 3 = ([104, 105], ⟨⟨1, 0⟩, 3, false⟩, 0) := by kernel_rfl
set_option maxRecDepth 100000 in
set_option maxHeartbeats 3200000 in
theorem alive13_call : ACalls Tryz.prog TzTab 15 [] (.val (.bool true)) [] := by
 refine ACalls.of (n := 53) (rs := [.tmp 0]) Tryz.func15 rfl (by kernel_rfl) Tryz.ntmps15 (by kernel_rfl) (by simp) (fun _ _ => TzTab.later) ?_
 intro hok V w0
 have hn := new_call 9 rfl
 rw [alive13a] at hn
 have hw := vwrite_call ⟨[], [], [], [], 9⟩ 0 3 0 [104, 105] false rfl rfl rfl rfl
 rw [alive13b] at hw
 have hr := vread_call aliveV 3 rfl rfl
 rw [alive13c] at hr
 simp only [aliveV, aliveN] at hw hr
 refine g ?_
 refine AW.seq ?_
 refine AW.reg rfl fun KK hKK => ?_
 refine g ?_
 repeat' (refine hKK _ (g ?_); clear hKK KK)
 refine AW.seq ?_
 refine AW.reg rfl fun KK hKK => ?_
 refine g ?_
 refine call_ hn rfl (g ?_)
 refine g ?_
 repeat' (refine hKK _ (g ?_); clear hKK KK)
 refine AW.seq ?_
 refine AW.mark (l1 := [_, _]) rfl rfl Tryz.underlying45 Tryz.underlying5 fun KK hKK => ?_
 refine g ?_
 refine bs2 (by omega) rfl rfl rfl ⟨rfl, trivial⟩ rfl rfl rfl ⟨rfl, trivial⟩ ?_
 refine g ?_
 refine hKK _ 1500 _ _ rfl rfl (by simp) ?_
 clear hKK KK
 intro KK hKK
 refine g ?_
 refine call_ hw rfl (g ?_)
 refine g ?_
 repeat' (refine hKK _ (g ?_); clear hKK KK)
 refine g ?_
 repeat' (first | refine st_ rfl (g ?_) | refine call_ (hr) rfl (g ?_))
 simp only [decide_true]
 refine ⟨[104, 105], rfl, ?_⟩
 refine g ?_
 repeat' refine hold_ (g ?_)
 have hs : strOf [104, 105] = ⟨#[104, 105]⟩ := by kernel_rfl
 rw [hs]
 refine str_eq (g ?_)
 refine ⟨_, fun u => stamp_eq _ _ _ _ _ _ u, ?_⟩
 refine g ?_
 repeat' (first | refine st_ rfl (g ?_) | refine hold_ (g ?_))
 exact decide_eq_true trivial
end Go.Proofs.YtkphfdmelfhnoaaGreatDoor
namespace Go.Proofs.YtkphfdmelfhnoaaGreatDoor
open Go.ChangeShapes Go.WideShapes Go.ChangeAt Go.RowKit
attribute [local irreducible] AW AWY vops vopsY vop vopL vdraw callW qop binQ lenQ storeQ appendQ callQ ACalls AIter
attribute [local go_sem] noteA_eq vwA_eq storeQ_bp storeQ_rp
set_option maxRecDepth 100000 in
set_option maxHeartbeats 3200000 in
theorem lawTakes (v : View) (n : Note) (iR : I64 v.room) : ACalls Tryz.prog TzTab 3 [vwA v, noteA n] (.val (.bool true)) [] := by
 refine ACalls.of (n := 55) (rs := [.tmp 4]) Tryz.func3 rfl (by kernel_rfl) Tryz.ntmps3 (by kernel_rfl) (by simp) (fun _ _ => TzTab.later) ?_
 intro hok V w0
 have ht := vtake_call v n iR
 have hr := rvtake_call v n iR
 have hf := takeV_formed (v := v) (n := n)
 have hy := take_room (v := v) (n := n) iR
 generalize takeV v n = Y at ht hr hf hy
 obtain ⟨y, e⟩ := Y
 simp only at ht hr hf hy
 refine g ?_
 refine AW.seq ?_
 refine AW.reg rfl fun KK hKK => ?_
 refine g ?_
 repeat' (refine hKK _ (g ?_); clear hKK KK)
 refine AW.freeze 300 _ rfl ⟨trivial, trivial, trivial, trivial, iR, trivial⟩ ?_
 simp only [go_sem, reduceIte, Nat.reduceEqDiff]
 refine AW.freeze 400 _ rfl ⟨trivial, trivial, trivial, trivial, trivial⟩ ?_
 simp only [go_sem, reduceIte, Nat.reduceEqDiff]
 refine g ?_
 repeat' (first | refine st_ rfl (g ?_) | refine call_ (alive13_call) rfl (g ?_))
 refine AW.drawn (ds := [13, 14, 15, 16, 5, 6]) (fin := [2, 3]) (bs := [0, 0, 0, 0, 0, 1, 2, 3]) [⟨[], [], [], [], 0⟩, ⟨[(13, 0)], [], [], [], 0⟩, ⟨[], [], [], [], 0⟩, ⟨[(15, 2)], [], [], [], 0⟩, ⟨[], [], [], [], 1⟩, ⟨[], [], [], [], 1⟩, ⟨[(5, 4), (14, 1)], [], [], [0], 1⟩, ⟨[(6, 5), (16, 3)], [], [], [1], 1⟩] (by kernel_rfl) rfl (by kernel_rfl) rfl rfl rfl fun KD hKD => ?_
 refine g ?_
 repeat' (first | refine st_ rfl (g ?_) | exact trivial | (refine hKD _ _ ⟨rfl, g ?_⟩; clear hKD KD) | (refine vops_ifd rfl rfl (fun h e => ?_) (fun h e => ?_) <;> simp only [e] <;> clear e <;> refine g ?_) | refine call_ (rvwcopy_call v iR) rfl (g ?_) | refine call_ (rncopy_call n) rfl (g ?_) | refine call_ (ht) rfl (g ?_) | refine call_ (hr) rfl (g ?_) | refine call_ (rvwsame_call y hy) rfl (g ?_) | refine call_ (rvwsame_call v iR) rfl (g ?_) | refine call_ (rnsame_call n) rfl (g ?_) | refine call_ (vform_call y hy) rfl (g ?_))
 exact hf (Decidable.of_not_not h)
end Go.Proofs.YtkphfdmelfhnoaaGreatDoor
namespace Go.Proofs.YtkphfdmelfhnoaaGreatDoor
open Go.ChangeShapes Go.WideShapes Go.ChangeAt Go.RowKit
def laying (cs : Array Value) : Obj → Obj
 | .cells _ t frozen => .cells cs t frozen
 | o => o
def tzCells : Array Value := #[.int .u8 0, .int .u8 1, .int .u8 56, .int .u8 2, .int .u8 57, .int .u8 49, .int .u8 28, .int .u8 3, .int .u8 61, .int .u8 58, .int .u8 42, .int .u8 50, .int .u8 38, .int .u8 29, .int .u8 17, .int .u8 4, .int .u8 62, .int .u8 47, .int .u8 59, .int .u8 36, .int .u8 45, .int .u8 43, .int .u8 51, .int .u8 22, .int .u8 53, .int .u8 39, .int .u8 33, .int .u8 30, .int .u8 24, .int .u8 18, .int .u8 12, .int .u8 5, .int .u8 63, .int .u8 55, .int .u8 48, .int .u8 27, .int .u8 60, .int .u8 41, .int .u8 37, .int .u8 16, .int .u8 46, .int .u8 35, .int .u8 44, .int .u8 21, .int .u8 52, .int .u8 32, .int .u8 23, .int .u8 11, .int .u8 54, .int .u8 26, .int .u8 40, .int .u8 15, .int .u8 34, .int .u8 20, .int .u8 31, .int .u8 10, .int .u8 25, .int .u8 14, .int .u8 19, .int .u8 9, .int .u8 13, .int .u8 8, .int .u8 7, .int .u8 6]
noncomputable def tzWorld (os : Os) : World :=
 { World.holding Tryz.prog os ⟨#[], #[], []⟩ with heap := (World.holding Tryz.prog os ⟨#[], #[], []⟩).heap.modify 0 (laying tzCells) }
theorem tzName : Tryz.prog.globalNamed "math/bits.deBruijn64tab" = some 0 := by kernel_rfl
theorem tzType : (Tryz.prog.globals[0]?).map (·.type) = some 280 := by kernel_rfl
theorem tz_of_laid {laid : List (String × DataW Unit)} {W : World} (e : (laid.filter fun x => x.1 == "math/bits.deBruijn64tab") = [("math/bits.deBruijn64tab", Lib.tabData .u8 (Lib.deBruijn64tab.map Int.ofNat))]) (h : laidMetH Tryz.prog laid W) : TzTab W := by
 have h1 := h.filter (fun x => x.1 == "math/bits.deBruijn64tab")
 rw [e] at h1
 have h2 := Lib.tabIs_of_head (rest := []) tzName tzType Tryz.underlying280 Tryz.underlying5 (by kernel_rfl) (by kernel_rfl) h1
 intro j hj
 have h3 := h2.cell tzName j (by simpa using hj)
 rw [h3]
 simp [List.getD, hj]
theorem small_part {H : Type} {l : List (DataW H)} (h : Rows.uptoSmall H l = true) : ∀ d, d ∈ l → Rows.uptoBulk d ≤ 1048576 := by
 have h2 : Rows.uptoBulkAll l ≤ 1048576 := of_decide_eq_true h
 intro d hd
 have := bulk_part hd
 omega
namespace cViewTakes
set_option maxRecDepth 100000 in
theorem contract (H : Type) (enc : TypeId × Value → H) (W : World) (base : Nat) (args : Array Value) (ds gs : List (DataW H)) (before : List MemPlace)
    (hval : ∀ (j : Nat) t v, Tryz.f3.params[j]? = some t → args[j]? = some v → Value.okWide Tryz.prog W .any base t v)
    (hW : DataW.Whole enc Tryz.prog Tryz.f3.params.toList Rows.viewTakesSpec.vars false W args.toList ds gs before) (hk : Rows.uptoSmall H (ds ++ gs) = true) (hL : laidMetH Tryz.prog Rows.viewTakesRow.laid W) :
    Calls Tryz.prog 3 args W fun e W' => ∃ v, e = .returned v ∧ Rows.viewTakesSpec.post enc Tryz.prog Tryz.f3 false true false false W args v W' := by
  have hW' := hW
  obtain ⟨p, q, hA0, hV, rfl, hfz, hnd⟩ := hW
  have hA : DataW.TrodAll enc Tryz.prog W 0 (fun _ => true) true Tryz.f3.params.toList args.toList ds p := hA0
  rw [Tryz.params3] at hA hval
  obtain ⟨v0, vs0, d0, ds0, p0, q0, hargs, rfl, rfl, h0, r0⟩ := trodAll_cons hA
  obtain ⟨v1, vs1, d1, ds1, p1, q1, rfl, rfl, rfl, h1, r1⟩ := trodAll_cons r0
  obtain ⟨rfl, rfl, rfl⟩ := trodAll_nil r1
  obtain rfl : args = #[v0, v1] := by cases args; simp_all
  obtain ⟨rfl, rfl⟩ := trodVars_none hV
  have hpart := small_part hk
  obtain ⟨cs0, rfl, hs0⟩ := okWide_struct Tryz.underlying27 (hval 0 _ v0 rfl rfl)
  obtain ⟨n0, hn0⟩ := h0
  obtain ⟨_, x0, va, vb, vc, vd, e0, hK, hZ, hH, hB, iR⟩ := opens_view (w := W) H enc n0 _ _ ⟨hn0, hpart d0 (by simp)⟩
  obtain rfl : cs0 = #[va, vb, vc, vd, .int .i64 x0.room] := Array.toList_inj.1 (by simpa only [Value.cells] using e0)
  obtain ⟨cs1, rfl, hs1⟩ := okWide_struct Tryz.underlying30 (hval 1 _ v1 rfl rfl)
  obtain ⟨n1, hn1⟩ := h1
  obtain ⟨_, x1, na, nb, nc, nd, e1, hNt⟩ := opens_note (w := W) H enc n1 _ _ ⟨hn1, hpart d1 (by simp)⟩
  obtain rfl : cs1 = #[na, nb, nc, nd] := Array.toList_inj.1 (by simpa only [Value.cells] using e1)
  have hT : TzTab W := tz_of_laid (by kernel_rfl) hL
  clear hA0
  refine ((lawTakes x0 x1 iR).law hT (RepAs.cons (view_rep hK hZ hH hB) (RepAs.cons (note_rep hNt) RepAs.nil))).mono fun e W' ⟨he, hb⟩ => ?_
  subst he
  exact ⟨_, rfl, law_post laidOut (by kernel_rfl) (by kernel_rfl) Tryz.underlying4 rfl rfl rfl rfl hW' hb⟩
theorem laid_met (os : Os) : laidMet Tryz.prog Rows.viewTakesRow.laid ((tzWorld os).forCall (fun _ _ => 0) ⟨#[], #[.agg #[.slice none 0 0, .slice none 0 0, .slice none 0 0, .slice none 0 0, .int .i64 0], .agg #[.slice none 0 0, .slice none 0 0, .slice none 0 0, .slice none 0 0]], []⟩).memory :=
  laidMet_of_run' 8 (by kernel_rfl) (by kernel_rfl)
theorem reads (os : Os) {H : Type} (enc : TypeId × Value → H) : ∃ places, DataW.whole enc Tryz.prog ((tzWorld os).forCall (fun _ _ => 0) ⟨#[], #[.agg #[.slice none 0 0, .slice none 0 0, .slice none 0 0, .slice none 0 0, .int .i64 0], .agg #[.slice none 0 0, .slice none 0 0, .slice none 0 0, .slice none 0 0]], []⟩).memory Tryz.f3.params.toList Rows.viewTakesSpec.vars false (#[.agg #[.slice none 0 0, .slice none 0 0, .slice none 0 0, .slice none 0 0, .int .i64 0], .agg #[.slice none 0 0, .slice none 0 0, .slice none 0 0, .slice none 0 0]] : Array Value).toList 8 = some ([.agg [.nil, .nil, .nil, .nil, .lit (.int .i64 0)], .agg [.nil, .nil, .nil, .nil]], [], places) :=
  ⟨[], by kernel_rfl⟩
set_option maxRecDepth 100000 in
theorem lifted (os : Os) (started : os.Started) (H : Type) (enc : TypeId × Value → H) (F : Stop.Interp) :
    ReturnsInHanded {} Tryz.checked os 3 .any ((Rows.OpenSpec.upto Rows.viewTakesSpec).preRow enc Tryz.prog Tryz.f3 Rows.viewTakesUptoRow.domain false Rows.viewTakesUptoRow.laid) (((Rows.OpenSpec.upto Rows.viewTakesSpec).at F).post enc Tryz.prog Tryz.f3 false true false false) := by
  obtain ⟨places, hx⟩ := reads os enc
  refine returnsInHanded_of_row (C := Tryz.checked) (s := Rows.OpenSpec.upto Rows.viewTakesSpec) own started (by kernel_rfl) Tryz.func3
    (witness_row_at (enc := enc) (C := Tryz.checked) false (tzWorld os) #[.agg #[.slice none 0 0, .slice none 0 0, .slice none 0 0, .slice none 0 0, .int .i64 0], .agg #[.slice none 0 0, .slice none 0 0, .slice none 0 0, .slice none 0 0]] rfl (by kernel_rfl) (by kernel_rfl) (by kernel_rfl)
      (OpenSpec.preRow_of_cond 8 hx (by kernel_rfl) (fun k hk => by cases hk; kernel_rfl) (by kernel_rfl) (laid_met os))) ?_
  intro W base args ds gs before hval hW _ hcond _ hL _ _
  exact contract H enc W base args ds gs before hval hW (hcond _ rfl) hL
theorem c1 : laidOutB Tryz.pinned.checked.prog = true := by kernel_rfl
theorem c2 : mapsRowed Tryz.pinned.checked.prog = true := by kernel_rfl
theorem c3 : (Rows.viewTakesUptoRow.inPlace == Tryz.pinned.checked.prog.inPlace 3) = true := by kernel_rfl
theorem c4 : (Rows.viewTakesUptoRow.unfollowed == Tryz.pinned.checked.prog.unfollowed 3) = true := by kernel_rfl
theorem c5 : (Rows.viewTakesUptoRow.recurses == Tryz.pinned.checked.prog.recurses 3) = true := by kernel_rfl
theorem c6 : (Rows.viewTakesUptoRow.named == Tryz.pinned.checked.prog.varsNamed 3) = true := by kernel_rfl
theorem closed : joinedFacts Tryz.pinned.checked.prog 3 Tryz.f3 (Rows.OpenSpec.upto Rows.viewTakesSpec).bare Rows.viewTakesUptoRow = true := by
  unfold joinedFacts
  rw [c1, c2, c3, c4, c5, c6]
  kernel_rfl
theorem said : Rows.ViewTakesUptoSaid :=
  OpenClaim.holds_of_cond 3 Tryz.f3 rfl rfl rfl rfl rfl rfl rfl ⟨rfl, rfl, rfl, rfl, rfl⟩ rfl rfl rfl rfl rfl (by kernel_rfl) Tryz.func3 closed
    (of_decide_eq_true (by kernel_rfl)) (by unfold Func.isWrapper; first | (rw [if_pos (by decide +kernel)]; kernel_rfl) | (rw [if_neg (by decide +kernel)]; exact ⟨rfl, rfl⟩))
    (fun os started H enc _ F => by rw [OpenClaim.pre_eq_preRow]; exact lifted os started H enc F)
theorem plain (f : FuncId) (fn : Func) (hf : Tryz.pinned.checked.prog.funcNamed "telltale/telltalelaw13.ViewTakes" = some f) (hfn : Tryz.pinned.checked.prog.funcs[f]? = some fn) :
    false = Tryz.pinned.checked.prog.looks [] ∧ ∀ (j : Nat) t, fn.params[j]? = some t → Tryz.pinned.checked.prog.wantsStandIn t = false := by
  obtain rfl : f = 3 := Option.some.inj ((show Tryz.prog.funcNamed "telltale/telltalelaw13.ViewTakes" = some 3 by kernel_rfl).symm.trans hf) |>.symm
  obtain rfl : fn = Tryz.f3 := (Option.some.inj (Tryz.func3.symm.trans hfn)).symm
  refine ⟨by kernel_rfl, fun j t ht => ?_⟩
  rw [Tryz.params3] at ht
  have hm := Array.mem_of_getElem? ht
  simp at hm
  rcases hm with rfl | rfl
  · exact (show Tryz.prog.wantsStandIn 27 = false by kernel_rfl)
  · exact (show Tryz.prog.wantsStandIn 30 = false by kernel_rfl)
theorem card : Rows.ViewTakesUptoCardSaid :=
  Claim7.holds_tied_plain_at .later [] _ _ _ _ said (fun _ h => by cases h) (by as_aux_lemma => kernel_rfl) (fun _ h => by cases h) viewTakesUpto_row_tie rfl ⟨rfl, rfl⟩ (by as_aux_lemma => kernel_rfl) rfl plain (by as_aux_lemma => kernel_rfl)
#print axioms card
end cViewTakes
end Go.Proofs.YtkphfdmelfhnoaaGreatDoor
