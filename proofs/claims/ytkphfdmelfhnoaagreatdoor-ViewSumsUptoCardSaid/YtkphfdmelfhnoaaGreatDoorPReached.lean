/- Whether a write is reached, and a body wanted (the reference's); whether a write is reached (the program's). -/
import Derived.Test.YtkphfdmelfhnoaaGreatDoorPShelf
import Derived.Test.YtkphfdmelfhnoaaGreatDoorPCache
set_option linter.all false
set_option linter.unnecessarySimpa false
set_option linter.unusedSimpArgs false
set_option linter.unusedVariables false
namespace Go.Proofs.YtkphfdmelfhnoaaGreatDoor
open Go.ChangeShapes Go.WideShapes Go.ChangeAt Go.RowKit
attribute [local irreducible] AW AWY vops vopsY vop vopL vdraw callW qop binQ lenQ storeQ appendQ callQ ACalls AIter setI
attribute [local go_sem] storeQ_bp storeQ_rp
set_option maxRecDepth 100000 in
theorem vcompare_call (a b : List Stamp) : ACalls Tryz.prog TzTab 93 [.iv (stI a), .iv (stI b)] (.val (.int .i64 (cmpV a b))) [] := by
 refine ACalls.of (n := 22) (rs := [.tmp 4]) Tryz.func93 rfl (by kernel_rfl) Tryz.ntmps93 (by kernel_rfl) (by simp) (fun _ _ => TzTab.later) ?_
 intro hok V w0
 unfold cmpV
 have h1 := vcovers_call a b
 have h2 := vcovers_call b a
 generalize coversB a b = x at h1 ⊢
 generalize coversB b a = y at h2 ⊢
 cases x <;> cases y
 ·refine g ?_
  repeat' refine st_ rfl (g ?_)
  refine ⟨fun v hv => by simp at hv; subst hv; rfl, _, rfl, ⟨rfl, rfl, rfl, rfl, trivial⟩, ?_⟩
  refine g ?_
  repeat' (first | refine st_ rfl (g ?_) | refine hold_ (g ?_) | exact trivial | refine call_ (h1) rfl (g ?_) | refine call_ (h2) rfl (g ?_))
 ·refine g ?_
  repeat' refine st_ rfl (g ?_)
  refine ⟨fun v hv => by simp at hv; subst hv; rfl, _, rfl, ⟨rfl, rfl, rfl, rfl, trivial⟩, ?_⟩
  refine g ?_
  repeat' (first | refine st_ rfl (g ?_) | refine hold_ (g ?_) | exact trivial | refine call_ (h1) rfl (g ?_) | refine call_ (h2) rfl (g ?_))
 ·refine g ?_
  repeat' refine st_ rfl (g ?_)
  refine ⟨fun v hv => by simp at hv; subst hv; rfl, _, rfl, ⟨rfl, rfl, rfl, rfl, trivial⟩, ?_⟩
  refine g ?_
  repeat' (first | refine st_ rfl (g ?_) | refine hold_ (g ?_) | exact trivial | refine call_ (h1) rfl (g ?_) | refine call_ (h2) rfl (g ?_))
 ·refine g ?_
  repeat' refine st_ rfl (g ?_)
  refine ⟨fun v hv => by simp at hv; subst hv; rfl, _, rfl, ⟨rfl, rfl, rfl, rfl, trivial⟩, ?_⟩
  refine g ?_
  repeat' (first | refine st_ rfl (g ?_) | refine hold_ (g ?_) | exact trivial | refine call_ (h1) rfl (g ?_) | refine call_ (h2) rfl (g ?_))
set_option maxRecDepth 100000 in
theorem rvcompare_call (a b : List Stamp) : ACalls Tryz.prog TzTab 128 [.iv (stI a), .iv (stI b)] (.val (.int .i64 (cmpV a b))) [] := by
 refine ACalls.of (n := 22) (rs := [.tmp 4]) Tryz.func128 rfl (by kernel_rfl) Tryz.ntmps128 (by kernel_rfl) (by simp) (fun _ _ => TzTab.later) ?_
 intro hok V w0
 unfold cmpV
 have h1 := rvcovers_call a b
 have h2 := rvcovers_call b a
 generalize coversB a b = x at h1 ⊢
 generalize coversB b a = y at h2 ⊢
 cases x <;> cases y
 ·refine g ?_
  repeat' (first | refine st_ rfl (g ?_) | exact trivial | refine call_ (h1) rfl (g ?_) | refine call_ (h2) rfl (g ?_))
 ·refine g ?_
  repeat' (first | refine st_ rfl (g ?_) | exact trivial | refine call_ (h1) rfl (g ?_) | refine call_ (h2) rfl (g ?_))
 ·refine g ?_
  repeat' (first | refine st_ rfl (g ?_) | exact trivial | refine call_ (h1) rfl (g ?_) | refine call_ (h2) rfl (g ?_))
 ·refine g ?_
  repeat' (first | refine st_ rfl (g ?_) | exact trivial | refine call_ (h1) rfl (g ?_) | refine call_ (h2) rfl (g ?_))
end Go.Proofs.YtkphfdmelfhnoaaGreatDoor
namespace Go.Proofs.YtkphfdmelfhnoaaGreatDoor
open Go.ChangeShapes Go.WideShapes Go.ChangeAt Go.RowKit
attribute [local irreducible] AW AWY vops vopsY vop vopL vdraw callW qop binQ lenQ storeQ appendQ callQ ACalls AIter setI
attribute [local go_sem] enB_eq boI_eq boA_eq byI_eq enW_eq wrI_eq wA_eq enZ_eq znI_eq vwA_eq storeQ_bp storeQ_rp
set_option maxRecDepth 100000 in
theorem reached_call (z : List Zone) (known : List Stamp) (w : Write) : ACalls Tryz.prog TzTab 73 [.iv (znI z), .iv (stI known), wA w] (.val (.bool (reachedB z known w))) [] := by
 refine ACalls.of (n := 15) (rs := [.tmp 6]) Tryz.func73 rfl (by kernel_rfl) Tryz.ntmps73 (by kernel_rfl) (by simp) (fun _ _ => TzTab.later) ?_
 intro hok V w0
 refine g ?_
 repeat' refine st_ rfl (g ?_)
 refine AW.drawn (ds := [7, 8, 9, 10, 11, 12, 13, 14, 6]) (fin := [0]) (bs := [1, 1, 1, 1, 1, 1, 1, 1, 1]) [⟨[], [], [], [], 0⟩, ⟨[], [], [], [], 0⟩, ⟨[], [], [], [], 0⟩, ⟨[(9, 2)], [], [0], [], 0⟩, ⟨[(7, 0), (8, 1), (10, 3)], [], [0], [], 0⟩, ⟨[], [], [], [], 0⟩, ⟨[(12, 5)], [], [0], [], 0⟩, ⟨[(11, 4), (13, 6)], [], [0], [], 0⟩, ⟨[(14, 7)], [], [], [], 0⟩] (by kernel_rfl) rfl (by kernel_rfl) rfl rfl rfl fun KD hKD => ?_
 refine g ?_
 repeat' (first | refine st_ rfl (g ?_) | (refine hKD _ _ ⟨rfl, g ?_⟩; clear hKD KD) | refine call_ (zreach_call _ _ _) rfl (g ?_) | refine call_ (vhas_call _ w.stamp) rfl (g ?_))
 rfl
set_option maxRecDepth 100000 in
theorem rreached_call (v : View) (w : Write) : ACalls Tryz.prog TzTab 81 [vwA v, wA w] (.val (.bool (reachedB v.zones v.known w))) [] := by
 refine ACalls.of (n := 15) (rs := [.tmp 4]) Tryz.func81 rfl (by kernel_rfl) Tryz.ntmps81 (by kernel_rfl) (by simp) (fun _ _ => TzTab.later) ?_
 intro hok V w0
 refine g ?_
 repeat' refine st_ rfl (g ?_)
 refine AW.drawn (ds := [5, 6, 7, 8, 9, 10, 11, 12, 13, 14, 4]) (fin := [0, 1]) (bs := [2, 2, 2, 2, 2, 2, 2, 2, 2, 2, 2]) [⟨[], [], [], [], 0⟩, ⟨[(5, 0)], [], [0, 1], [], 0⟩, ⟨[], [], [], [], 0⟩, ⟨[(7, 2)], [], [0, 1], [], 0⟩, ⟨[], [], [], [], 0⟩, ⟨[(9, 4)], [], [0, 1], [], 0⟩, ⟨[(6, 1), (8, 3), (10, 5)], [], [0, 1], [], 0⟩, ⟨[], [], [], [], 0⟩, ⟨[(12, 7)], [], [0, 1], [], 0⟩, ⟨[(11, 6), (13, 8)], [], [0, 1], [], 0⟩, ⟨[(14, 9)], [], [], [], 0⟩] (by kernel_rfl) rfl (by kernel_rfl) rfl rfl rfl fun KD hKD => ?_
 refine g ?_
 repeat' (first | refine st_ rfl (g ?_) | (refine hKD _ _ ⟨rfl, g ?_⟩; clear hKD KD) | refine call_ (rzreach_call _ _ _) rfl (g ?_) | refine call_ (rvhas_call _ w.stamp) rfl (g ?_))
 rfl
theorem stamp_eq (x y : Operand) (p q r s : Int) (w : World) : (do eqGuard .eql 49 x y (.agg #[.int .i64 p, .int .i64 q]) (.agg #[.int .i64 r, .int .i64 s]); binOp .eql 49 (.agg #[.int .i64 p, .int .i64 q]) (.agg #[.int .i64 r, .int .i64 s]) : Sem Value).run Tryz.prog w = .ok (.bool (p == r && q == s)) w := by
 by_cases h1 : p = r <;> by_cases h2 : q = s <;> go_simp <;> simp [h1, h2]
theorem stamp_dec {a b : Stamp} : decide (a = b) = (a.count == b.count && a.node == b.node) := by
 obtain ⟨c, n⟩ := a
 obtain ⟨d, m⟩ := b
 by_cases h1 : c = d <;> by_cases h2 : n = m <;> simp [h1, h2]
set_option maxRecDepth 100000 in
theorem rwanted_call (v : View) (x : Body) : ACalls Tryz.prog TzTab 83 [vwA v, boA x] (.val (.bool (wantedB v.held x))) [] := by
 refine ACalls.of (n := 28) (rs := [.tmp 4]) Tryz.func83 rfl (by kernel_rfl) Tryz.ntmps83 (by kernel_rfl) (by simp) (fun _ _ => TzTab.later) ?_
 intro hok V w0
 obtain ⟨B, hB⟩ : ∃ B, wantedB v.held x = B := ⟨_, rfl⟩
 rw [hB]
 unfold wantedB wantedW at hB
 have hat := rat_call v.held x.object
 cases hg : getW v.held x.object with
 | none =>
  rw [hg] at hB hat
  refine g ?_
  repeat' (first | refine st_ rfl (g ?_) | refine call_ (hat) rfl (g ?_))
  exact hB
 | some w =>
  rw [hg] at hB hat
  simp only [Option.getD_some, Option.isSome_some] at hat hB
  rw [stamp_dec] at hB
  refine g ?_
  repeat' (first | refine st_ rfl (g ?_) | refine call_ (hat) rfl (g ?_))
  refine ⟨_, fun u => stamp_eq _ _ _ _ _ _ u, ?_⟩
  refine g ?_
  repeat' (first | refine st_ rfl (g ?_) | refine hold_ (g ?_) | (refine vops_if rfl rfl (fun h => ?_) (fun h => ?_) <;> simp only [h] <;> refine g ?_))
  ·rw [← hB, h]; simp
  ·rw [← hB, h]; simp
end Go.Proofs.YtkphfdmelfhnoaaGreatDoor
