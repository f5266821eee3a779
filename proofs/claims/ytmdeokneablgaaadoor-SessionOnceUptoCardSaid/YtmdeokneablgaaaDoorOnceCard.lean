/- The law SessionOnce: of the messages of a session, in any order and any number, the first ones are heard, each once, in their order; of up to 200 messages. The card (second form: of bulk at most 1048576). -/
import Derived.Test.YtmdeokneablgaaaDoorOnceLaw
import Derived.Test.YtmdeokneablgaaaDoorTzLaid
namespace Go.Proofs.YtmdeokneablgaaaDoor
open Go.ChangeShapes Go.WideShapes Go.ChangeAt Go.RowKit

namespace cSessionOnce
set_option maxRecDepth 100000 in
theorem contract (H : Type) (enc : TypeId × Value → H) (W : World) (base : Nat) (args : Array Value) (ds gs : List (DataW H)) (before : List MemPlace)
    (hval : ∀ (j : Nat) t v, Tryd.f3.params[j]? = some t → args[j]? = some v → Value.okWide Tryd.prog W .any base t v)
    (hW : DataW.Whole enc Tryd.prog Tryd.f3.params.toList Rows.sessionOnceSpec.vars false W args.toList ds gs before) (hk : Rows.uptoSmall H (ds ++ gs) = true) (hL : laidMetH Tryd.prog Rows.sessionOnceRow.laid W) :
    Calls Tryd.prog 3 args W fun e W' => ∃ v, e = .returned v ∧ Rows.sessionOnceSpec.post enc Tryd.prog Tryd.f3 false true false false W args v W' := by
  have hW' := hW
  obtain ⟨p, q, hA0, hV, rfl, hfz, hnd⟩ := hW
  have hA : DataW.TrodAll enc Tryd.prog W 0 (fun _ => true) true Tryd.f3.params.toList args.toList ds p := hA0
  rw [Tryd.params3] at hA hval
  obtain ⟨v0, vs0, d0, ds0, p0, q0, hargs, rfl, rfl, h0, r0⟩ := trodAll_cons hA
  obtain ⟨v1, vs1, d1, ds1, p1, q1, rfl, rfl, rfl, h1, r1⟩ := trodAll_cons r0
  obtain ⟨v2, vs2, d2, ds2, p2, q2, rfl, rfl, rfl, h2, r2⟩ := trodAll_cons r1
  obtain ⟨rfl, rfl, rfl⟩ := trodAll_nil r2
  obtain rfl : args = #[v0, v1, v2] := by cases args; simp_all
  obtain ⟨rfl, rfl⟩ := trodVars_none hV
  have hpart := small_part hk
  obtain ⟨_, _, _, rfl⟩ := okWide_slice Tryd.underlying22 (hval 0 _ v0 rfl rfl)
  obtain ⟨n0, hn0⟩ := h0
  obtain ⟨_, l0, u0, hv0, hl0⟩ := opens_bytes (w := W) H enc n0 _ _ ⟨hn0, hpart d0 (by simp)⟩
  simp only [Value.cells, List.cons.injEq, and_true] at hv0
  subst hv0
  obtain ⟨_, _, _, rfl⟩ := okWide_slice Tryd.underlying23 (hval 1 _ v1 rfl rfl)
  obtain ⟨n1, hn1⟩ := h1
  obtain ⟨_, l1, u1, hv1, hl1⟩ := opens_notes (w := W) H enc n1 _ _ ⟨hn1, hpart d1 (by simp)⟩
  simp only [Value.cells, List.cons.injEq, and_true] at hv1
  subst hv1
  obtain ⟨a2, rfl, rfl, rfl, w2⟩ := open_int Tryd.underlying24 (hval 2 _ v2 rfl rfl) h2
  have hT : TzTab W := tz_of_laid (by kernel_rfl) hL
  clear hA0
  refine (lawOnce l0 l1 a2 _ _ W hl0 hl1 (by simp [Lit.wf, IntKind.max, IntKind.min, IntKind.signed, IntKind.bits] at w2; omega) (by simp [Lit.wf, IntKind.max, IntKind.min, IntKind.signed, IntKind.bits] at w2; omega) hT).mono fun e W' ⟨he, hb⟩ => ?_
  subst he
  exact ⟨_, rfl, law_post laidOut (by kernel_rfl) (by kernel_rfl) Tryd.underlying4 rfl rfl rfl rfl hW' hb⟩

theorem laid_met (os : Os) : laidMet Tryd.prog Rows.sessionOnceRow.laid ((tzWorld os).forCall (fun _ _ => 0) ⟨#[], #[.slice none 0 0, .slice none 0 0, .int .u32 0], []⟩).memory :=
  laidMet_of_run' 8 (by kernel_rfl) (by kernel_rfl)
theorem reads (os : Os) {H : Type} (enc : TypeId × Value → H) : ∃ places, DataW.whole enc Tryd.prog ((tzWorld os).forCall (fun _ _ => 0) ⟨#[], #[.slice none 0 0, .slice none 0 0, .int .u32 0], []⟩).memory Tryd.f3.params.toList Rows.sessionOnceSpec.vars false (#[.slice none 0 0, .slice none 0 0, .int .u32 0] : Array Value).toList 8 = some ([.nil, .nil, .lit (.int .u32 0)], [], places) :=
  ⟨[], by kernel_rfl⟩

set_option maxRecDepth 100000 in
theorem lifted (os : Os) (started : os.Started) (H : Type) (enc : TypeId × Value → H) (F : Stop.Interp) :
    ReturnsInHanded {} Tryd.checked os 3 .any ((Rows.OpenSpec.upto Rows.sessionOnceSpec).preRow enc Tryd.prog Tryd.f3 Rows.sessionOnceUptoRow.domain false Rows.sessionOnceUptoRow.laid) (((Rows.OpenSpec.upto Rows.sessionOnceSpec).at F).post enc Tryd.prog Tryd.f3 false true false false) := by
  obtain ⟨places, hx⟩ := reads os enc
  refine returnsInHanded_of_row (C := Tryd.checked) (s := Rows.OpenSpec.upto Rows.sessionOnceSpec) own started (by kernel_rfl) Tryd.func3
    (witness_row_at (enc := enc) (C := Tryd.checked) false (tzWorld os) #[.slice none 0 0, .slice none 0 0, .int .u32 0] rfl (by kernel_rfl) (by kernel_rfl) (by kernel_rfl)
      (OpenSpec.preRow_of_cond 8 hx (by kernel_rfl) (fun k hk => by cases hk; kernel_rfl) (by kernel_rfl) (laid_met os))) ?_
  intro W base args ds gs before hval hW _ hcond _ hL _ _
  exact contract H enc W base args ds gs before hval hW (hcond _ rfl) hL

theorem said : Rows.SessionOnceUptoSaid :=
  OpenClaim.holds_of_cond 3 Tryd.f3 rfl rfl rfl rfl rfl rfl rfl ⟨rfl, rfl, rfl, rfl, rfl⟩ rfl rfl rfl rfl rfl (by kernel_rfl) Tryd.func3 (by kernel_rfl)
    (of_decide_eq_true (by kernel_rfl)) (by unfold Func.isWrapper; first | (rw [if_pos (by decide +kernel)]; kernel_rfl) | (rw [if_neg (by decide +kernel)]; exact ⟨rfl, rfl⟩))
    (fun os started H enc _ F => by rw [OpenClaim.pre_eq_preRow]; exact lifted os started H enc F)

theorem plain (f : FuncId) (fn : Func) (hf : Tryd.pinned.checked.prog.funcNamed "telltale/telltalelaw17.SessionOnce" = some f) (hfn : Tryd.pinned.checked.prog.funcs[f]? = some fn) :
    false = Tryd.pinned.checked.prog.looks [] ∧ ∀ (j : Nat) t, fn.params[j]? = some t → Tryd.pinned.checked.prog.wantsStandIn t = false := by
  obtain rfl : f = 3 := Option.some.inj ((show Tryd.prog.funcNamed "telltale/telltalelaw17.SessionOnce" = some 3 by kernel_rfl).symm.trans hf) |>.symm
  obtain rfl : fn = Tryd.f3 := (Option.some.inj (Tryd.func3.symm.trans hfn)).symm
  refine ⟨by kernel_rfl, fun j t ht => ?_⟩
  rw [Tryd.params3] at ht
  have hm := Array.mem_of_getElem? ht
  simp at hm
  rcases hm with rfl | rfl | rfl
  · exact (show Tryd.prog.wantsStandIn 22 = false by kernel_rfl)
  · exact (show Tryd.prog.wantsStandIn 23 = false by kernel_rfl)
  · exact (show Tryd.prog.wantsStandIn 24 = false by kernel_rfl)

theorem card : Rows.SessionOnceUptoCardSaid :=
  Claim7.holds_tied_plain_at .later [] _ _ _ _ said (fun _ h => by cases h) (by kernel_rfl) (fun _ h => by cases h) sessionOnceUpto_row_tie rfl ⟨rfl, rfl⟩ (by kernel_rfl) rfl plain (by kernel_rfl)
#print axioms card
end cSessionOnce
end Go.Proofs.YtmdeokneablgaaaDoor
