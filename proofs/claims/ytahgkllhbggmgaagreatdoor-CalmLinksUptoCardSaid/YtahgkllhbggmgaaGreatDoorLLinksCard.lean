/- The law CalmLinks: the nodes to which any node comes by subscriptions are what the reference says. The card (second form: of bulk at most 1048576). -/
import Derived.Test.YtahgkllhbggmgaaGreatDoorLClusterArgs
import Derived.Test.YtahgkllhbggmgaaGreatDoorLStreamArgs
import Derived.Test.YtahgkllhbggmgaaGreatDoorLLinksLaw
import Derived.Test.YtahgkllhbggmgaaGreatDoorLConF23
import Derived.Test.YtahgkllhbggmgaaGreatDoorLLinksCardC
import Derived.Test.YtahgkllhbggmgaaGreatDoorLNdLaid
set_option linter.all false
set_option linter.unnecessarySimpa false
set_option linter.unusedSimpArgs false
set_option linter.unusedVariables false
namespace Go.Proofs.YtahgkllhbggmgaaGreatDoor
open Go.ChangeShapes Go.WideShapes Go.ChangeAt Go.RowKit
namespace cCalmLinks
set_option maxRecDepth 100000 in
theorem contract (H : Type) (enc : TypeId × Value -> H) (W : World) (base : Nat) (args : Array Value) (ds gs : List (DataW H)) (before : List MemPlace)
    (hval : ∀ (j : Nat) t v, Tryz.f6.params[j]? = some t -> args[j]? = some v -> Value.okWide Tryz.prog W .any base t v)
    (hW : DataW.Whole enc Tryz.prog Tryz.f6.params.toList Rows.calmLinksSpec.vars false W args.toList ds gs before) (hk : Rows.uptoSmall H (ds ++ gs) = true) (hL : laidMetH Tryz.prog Rows.calmLinksRow.laid W) :
    Calls Tryz.prog 6 args W fun e W' => ∃ v, e = .returned v /\ Rows.calmLinksSpec.post enc Tryz.prog Tryz.f6 false true false false W args v W' := by
  have hW' := hW
  obtain ⟨p, q, hA0, hV, rfl, hfz, hnd⟩ := hW
  have hA : DataW.TrodAll enc Tryz.prog W 0 (fun _ => true) true Tryz.f6.params.toList args.toList ds p := hA0
  rw [Tryz.params6] at hA hval
  obtain ⟨v0, vs0, d0, ds0, p0, q0, hargs, rfl, rfl, h0, r0⟩ := trodAll_cons hA
  obtain ⟨v1, vs1, d1, ds1, p1, q1, rfl, rfl, rfl, h1, r1⟩ := trodAll_cons r0
  obtain ⟨v2, vs2, d2, ds2, p2, q2, rfl, rfl, rfl, h2, r2⟩ := trodAll_cons r1
  obtain ⟨rfl, rfl, rfl⟩ := trodAll_nil r2
  obtain rfl : args = #[v0, v1, v2] := by cases args; simp_all
  obtain ⟨rfl, rfl⟩ := trodVars_none hV
  have hpart := Ar5 hk
  obtain ⟨cs0, rfl, hs0⟩ := okWide_struct Tryz.underlying25 (hval 0 _ v0 rfl rfl)
  obtain ⟨n0, hn0⟩ := h0
  obtain ⟨_, x0, va, vb, e0, hCV⟩ := Zg (w := W) H enc n0 _ _ ⟨hn0, hpart d0 (by simp)⟩
  obtain rfl : cs0 = #[va, vb] := Array.toList_inj.1 (by simpa only [Value.cells] using e0)
  obtain ⟨a1, rfl, rfl, rfl, w1⟩ := open_int Tryz.underlying3 (hval 1 _ v1 rfl rfl) h1
  obtain ⟨_, _, _, rfl⟩ := okWide_slice Tryz.underlying40 (hval 2 _ v2 rfl rfl)
  obtain ⟨n2, hn2⟩ := h2
  obtain ⟨_, l2, u2, hv2, hl2⟩ := Jm (w := W) H enc n2 _ _ ⟨hn2, hpart d2 (by simp)⟩
  simp only [Value.cells, List.cons.injEq, and_true] at hv2
  subst hv2
  have hT : R5 W := ⟨Aq4 (by kernel_rfl) hL, An4 (by kernel_rfl) hL⟩
  clear hA0
  refine ((Bn0 x0 a1 l2 (Bl5 hCV.nodes) Ab5).law hT (An.cons (Bz8 hCV) (An.cons .val (An.cons (.iv (M7 hl2 (Nat.le_refl _))) An.nil)))).mono fun e W' ⟨he, hb⟩ => ?_
  subst he
  exact ⟨_, rfl, Bm9 Bx6 (by kernel_rfl) (by kernel_rfl) Tryz.underlying4 rfl rfl rfl rfl hW' hb⟩
theorem laid_met (os:Os):laidMet Tryz.prog Rows.calmLinksRow.laid ((A82 os).forCall (fun _ _=>0) ⟨#[],#[.agg #[.slice none 0 0,.slice none 0 0],.int .i64 0,.slice none 0 0],[]⟩).memory :=
  laidMet_of_run' 8 (by kernel_rfl) (by kernel_rfl)
theorem reads (os:Os) {H:Type} (enc:TypeId×Value->H):∃ places,DataW.whole enc Tryz.prog ((A82 os).forCall (fun _ _=>0) ⟨#[],#[.agg #[.slice none 0 0,.slice none 0 0],.int .i64 0,.slice none 0 0],[]⟩).memory Tryz.f6.params.toList Rows.calmLinksSpec.vars false (#[.agg #[.slice none 0 0,.slice none 0 0],.int .i64 0,.slice none 0 0]:Array Value).toList 8=some ([.agg [.nil,.nil],.lit (.int .i64 0),.nil],[],places) :=
  ⟨[],by kernel_rfl⟩
set_option maxRecDepth 100000 in
theorem lifted (os : Os) (started : os.Started) (H : Type) (enc : TypeId × Value -> H) (F : Stop.Interp) :
    ReturnsInHanded {} Tryz.checked os 6 .any ((Rows.OpenSpec.upto Rows.calmLinksSpec).preRow enc Tryz.prog Tryz.f6 Rows.calmLinksUptoRow.domain false Rows.calmLinksUptoRow.laid) (((Rows.OpenSpec.upto Rows.calmLinksSpec).at F).post enc Tryz.prog Tryz.f6 false true false false) := by
  obtain ⟨places, hx⟩ := reads os enc
  refine returnsInHanded_of_row (C := Tryz.checked) (s := Rows.OpenSpec.upto Rows.calmLinksSpec) own started (by kernel_rfl) Tryz.func6
    (witness_row_at (enc := enc) (C := Tryz.checked) false (A82 os) #[.agg #[.slice none 0 0, .slice none 0 0], .int .i64 0, .slice none 0 0] rfl (by kernel_rfl) (by kernel_rfl) (by kernel_rfl)
      (OpenSpec.preRow_of_cond 8 hx (by kernel_rfl) (fun k hk => by cases hk; kernel_rfl) (by kernel_rfl) (laid_met os))) ?_
  intro W base args ds gs before hval hW _ hcond _ hL _ _
  exact contract H enc W base args ds gs before hval hW (hcond _ rfl) hL
theorem said:Rows.CalmLinksUptoSaid :=
  OpenClaim.holds_of_cond 6 Tryz.f6 rfl rfl rfl rfl rfl rfl rfl ⟨rfl,rfl,rfl,rfl,rfl⟩ rfl rfl rfl rfl rfl (by kernel_rfl) Tryz.func6 closed
    (of_decide_eq_true (by kernel_rfl)) (by unfold Func.isWrapper;first | (rw [if_pos (by decide +kernel)];kernel_rfl) | (rw [if_neg (by decide +kernel)];exact ⟨rfl,rfl⟩))
    (fun os started H enc _ F=>by rw [OpenClaim.pre_eq_preRow];exact lifted os started H enc F)
theorem card:Rows.CalmLinksUptoCardSaid :=
  Claim7.holds_tied_plain_at .later [] _ _ _ _ said (fun _ h=>by cases h) (by as_aux_lemma=>kernel_rfl) (fun _ h=>by cases h) calmLinksUpto_row_tie rfl ⟨rfl,rfl⟩ (by as_aux_lemma=>kernel_rfl) rfl plain gb
#print axioms card
end cCalmLinks
end Go.Proofs.YtahgkllhbggmgaaGreatDoor
