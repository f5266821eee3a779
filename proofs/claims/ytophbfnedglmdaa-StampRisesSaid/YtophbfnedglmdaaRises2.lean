/- The row of the law StampRises, out of its contract. -/
import Derived.Test.YtophbfnedglmdaaRises
namespace Go.Proofs.Ytophbfnedglmdaa
open Go.ChangeShapes Go.WideShapes Go.ChangeAt Go.RowKit

theorem okWide_array {P : Program} {w : World} {r : Reach} {base : Nat} {t e : TypeId} {n : Nat} {v : Value} (ht : P.underlying t = some (.array n e)) (h : Value.okWide P w r base t v) : ∃ cs, v = .agg cs ∧ cs.size = P.cellsOf t := by
  unfold Value.okWide at h
  rw [ht] at h
  obtain ⟨cs, h1, h2, _⟩ := h
  exact ⟨cs, h1, h2⟩

theorem three_stamps {H : Type} {enc : TypeId × Value → H} {w : World} {fuel : Nat} {cs : List Value} {x : DataW H × List MemPlace} (h : DataW.trod enc Try.prog w 0 (fun _ => true) true fuel 36 cs = some x) :
    ∃ a b c d e f, cs = [.int .i64 a, .int .i64 b, .int .i64 c, .int .i64 d, .int .i64 e, .int .i64 f] ∧ I64 a := by
  obtain ⟨xs, m, _, _, hl, hn, hi⟩ := DataW.trod_array Try.underlying36 h
  have hk : Try.prog.cellsOf 23 = 2 := by kernel_rfl
  have hk6 : Try.prog.cellsOf 36 = 6 := by kernel_rfl
  rw [hk6] at hl
  match cs, hl with
  | [v0, v1, v2, v3, v4, v5], _ =>
    match xs, hn with
    | [x0, x1, x2], _ =>
      have g0 := hi 0 (by omega)
      have g1 := hi 1 (by omega)
      have g2 := hi 2 (by omega)
      rw [hk] at g0 g1 g2
      obtain ⟨_, s0, e0, i0, _⟩ := opens_stamp (w := w) H enc m _ _ g0
      obtain ⟨_, s1, e1, _, _⟩ := opens_stamp (w := w) H enc m _ _ g1
      obtain ⟨_, s2, e2, _, _⟩ := opens_stamp (w := w) H enc m _ _ g2
      simp at e0 e1 e2
      obtain ⟨rfl, rfl⟩ := e0
      obtain ⟨rfl, rfl⟩ := e1
      obtain ⟨rfl, rfl⟩ := e2
      exact ⟨_, _, _, _, _, _, rfl, i0⟩

namespace rises
set_option maxRecDepth 100000 in
theorem lifted (os : Os) (started : os.Started) (H : Type) (enc : TypeId × Value → H) :
    ReturnsInHanded {} Try.checked os 6 .any (Rows.stampRisesSpec.pre6 enc Try.prog Try.f6 Rows.stampRisesRow.domain false) (Rows.stampRisesSpec.post enc Try.prog Try.f6 false true false false) := by
  refine returnsInHanded_of_change (C := Try.checked) own started (by kernel_rfl) Try.func6
    (ChangeSpec.witness6 (enc := enc) (C := Try.checked) false ⟨#[], #[.agg #[.int .i64 0, .int .i64 0, .int .i64 0, .int .i64 0, .int .i64 0, .int .i64 0], .int .u8 0, .int .i64 0], []⟩ 8 (by kernel_rfl) (by kernel_rfl) (by kernel_rfl) (by kernel_rfl)) ?_
  intro W base args ds gs before hval0 hW hcnd _
  have hW' := hW
  have hval : ∀ (j : Nat) t v, Try.f6.params[j]? = some t → args[j]? = some v → Value.okWide Try.prog W .any base t v := hval0
  obtain ⟨p, q, hA0, hV, rfl, hfz, hnd⟩ := hW
  have hA : DataW.TrodAll enc Try.prog W 0 (fun _ => true) true Try.f6.params.toList args.toList ds p := hA0
  rw [Try.params6] at hA hval
  obtain ⟨v0, vs0, d0, ds0, p0, q0, hargs, rfl, rfl, h0, r0⟩ := trodAll_cons hA
  obtain ⟨v1, vs1, d1, ds1, p1, q1, rfl, rfl, rfl, h1, r1⟩ := trodAll_cons r0
  obtain ⟨v2, vs2, d2, ds2, p2, q2, rfl, rfl, rfl, h2, r2⟩ := trodAll_cons r1
  obtain ⟨rfl, rfl, rfl⟩ := trodAll_nil r2
  obtain rfl : args = #[v0, v1, v2] := by cases args; simp_all
  obtain ⟨rfl, rfl⟩ := trodVars_none hV
  clear hA0 hval0
  obtain ⟨cs, rfl, hsz⟩ := okWide_array Try.underlying36 (hval 0 _ v0 rfl rfl)
  obtain ⟨fuel, hf⟩ := h0
  obtain ⟨a, b, c, d, e, f, hcs, ia⟩ := three_stamps hf
  obtain ⟨node, rfl, rfl, rfl, wn⟩ := open_int Try.underlying5 (hval 1 _ v1 rfl rfl) h1
  obtain ⟨skip, rfl, rfl, rfl, wk⟩ := open_int Try.underlying3 (hval 2 _ v2 rfl rfl) h2
  obtain rfl : cs = #[.int .i64 a, .int .i64 b, .int .i64 c, .int .i64 d, .int .i64 e, .int .i64 f] := by cases cs; simpa [Value.cells] using hcs
  have hn : 0 ≤ node ∧ node < 256 := by simp [Lit.wf, IntKind.max, IntKind.min, IntKind.signed, IntKind.bits] at wn; omega
  have h3 : cmpS a b c d = -1 ∨ cmpS a b c d = 0 ∧ a = c ∧ b = d ∨ cmpS a b c d = 1 := by
    rcases cmpS_bd a b c d with h | h | h
    · exact Or.inl h
    · exact Or.inr (Or.inl ⟨h, (cmpS_eq a b c d).1 h⟩)
    · exact Or.inr (Or.inr h)
  have hlaw := lawRises a b c d e f node skip _ _ _ W hn ia.hi (Cmps.of a b c d) (Cmps.of c d e f) (Cmps.of a b e f) (by rw [← cmpS_neg]; exact Cmps.of c d a b) h3 (cmpS_trans a b c d e f)
  refine hlaw.mono fun e W' ⟨he, hb⟩ => ?_
  subst he
  exact ⟨_, rfl, law_post laidOut (by kernel_rfl) (by kernel_rfl) Try.underlying4 rfl rfl rfl rfl hW' hb⟩

theorem proved : Rows.StampRisesSaid :=
  OpenClaim.holds_of_wide 6 Try.f6 rfl rfl rfl rfl rfl rfl rfl ⟨rfl, rfl, rfl, rfl, rfl⟩ rfl rfl rfl rfl rfl (by kernel_rfl) Try.func6 (by kernel_rfl)
    (of_decide_eq_true (by kernel_rfl)) (by unfold Func.isWrapper; first | (rw [if_pos (by decide +kernel)]; kernel_rfl) | (rw [if_neg (by decide +kernel)]; exact ⟨rfl, rfl⟩))
    (fun os started H enc _ => lifted os started H enc)
#print axioms proved
end rises
end Go.Proofs.Ytophbfnedglmdaa
