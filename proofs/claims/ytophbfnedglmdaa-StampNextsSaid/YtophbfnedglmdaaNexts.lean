/- The law StampNexts: the program's next stamp is the reference's. -/
import Derived.Test.YtophbfnedglmdaaStamp
namespace Go.Proofs.Ytophbfnedglmdaa
open Go.ChangeShapes Go.WideShapes Go.ChangeAt Go.RowKit

theorem nxV_form (c n s : Int) : ∃ a b e, nxV c n s = .tuple #[.agg #[.int .i64 a, .int .i64 b], .int .i64 e] := by
  unfold nxV
  (repeat' split) <;> exact ⟨_, _, _, rfl⟩

set_option maxHeartbeats 400000 in
theorem lawNexts (c n s : Int) (w : World) (hc : c ≤ 9223372036854775807) :
    Calls Try.prog 3 #[.int .i64 c, .int .i64 n, .int .i64 s] w fun e w' => e = .returned (.bool true) ∧ Below w.heap.size w w' := by
  obtain ⟨x, y, z, hx⟩ := nxV_form c n s
  have h1 := fun w => stampNext c n s w hc
  have h2 := fun w => refNext c n s w hc
  have h3 := fun w => stampNext 7 2 0 w (by omega)
  rw [hx] at h1 h2
  rw [show nxV 7 2 0 = .tuple #[.agg #[.int .i64 8, .int .i64 2], .int .i64 0] from rfl] at h3
  have H1 := Lib.hid h1
  have H2 := Lib.hid h2
  have H3 := Lib.hid h3
  clear h1 h2 h3 hx
  go_enter Try.func3, Try.ntmps3
  go_wp2_with fail
  refine (H1.out _).mono ?_
  rintro e w1 ⟨rfl, hb1⟩
  go_wp2_with fail
  refine (H2.out _).mono ?_
  rintro e w2 ⟨rfl, hb2⟩
  have a0 : w2.cell? ⟨w1.heap.size, 0, none⟩ = some (.int .i64 x) := by rw [hb2.cell (by simp)]; simp
  have a1 : w2.cell? ⟨w1.heap.size, 1, none⟩ = some (.int .i64 y) := by rw [hb2.cell (by simp)]; simp
  have z2 : w1.heap.size < w2.heap.size := by have := hb2.size; simp at this; omega
  have b2 : Below w.heap.size w w2 := (hb1.alloc hb1.size _).trans (hb2.mono (by have := hb1.size; simp; omega))
  clear hb1 hb2
  go_wp2_with fail
  refine (H3.out _).mono ?_
  rintro e w3 ⟨rfl, hb3⟩
  have c0 : w3.cell? ⟨w1.heap.size, 0, none⟩ = some (.int .i64 x) := by rw [hb3.cell (by simp; omega)]; simp [go_sem, z2, a0]
  have c1 : w3.cell? ⟨w1.heap.size, 1, none⟩ = some (.int .i64 y) := by rw [hb3.cell (by simp; omega)]; simp [go_sem, z2, a1]
  have c2 : w3.cell? ⟨w2.heap.size, 0, none⟩ = some (.int .i64 x) := by rw [hb3.cell (by simp)]; simp
  have c3 : w3.cell? ⟨w2.heap.size, 1, none⟩ = some (.int .i64 y) := by rw [hb3.cell (by simp)]; simp
  have z3 : w2.heap.size < w3.heap.size := by have := hb3.size; simp at this; omega
  have z4 : w1.heap.size < w3.heap.size := by omega
  have b3 : Below w.heap.size w w3 := (b2.alloc b2.size _).trans (hb3.mono (by have := b2.size; simp; omega))
  clear hb3 a0 a1 b2
  go_wp2_with fail
  go_ret
  exact ⟨rfl, b3.alloc b3.size _⟩

theorem own : ownKnob Try.prog.godebug = none := by kernel_rfl
theorem laidOut : laidOutB Try.prog = true := by kernel_rfl

namespace nexts
set_option maxRecDepth 100000 in
theorem lifted (os : Os) (started : os.Started) (H : Type) (enc : TypeId × Value → H) :
    ReturnsInHanded {} Try.checked os 3 .any (Rows.stampNextsSpec.pre6 enc Try.prog Try.f3 Rows.stampNextsRow.domain false) (Rows.stampNextsSpec.post enc Try.prog Try.f3 false true false false) := by
  refine returnsInHanded_of_change (C := Try.checked) own started (by kernel_rfl) Try.func3
    (ChangeSpec.witness6 (enc := enc) (C := Try.checked) false ⟨#[], #[.int .i64 0, .int .i64 0, .int .i64 0], []⟩ 8 (by kernel_rfl) (by kernel_rfl) (by kernel_rfl) (by kernel_rfl)) ?_
  intro W base args ds gs before hval0 hW hcnd _
  have hW' := hW
  have hval : ∀ (j : Nat) t v, Try.f3.params[j]? = some t → args[j]? = some v → Value.okWide Try.prog W .any base t v := hval0
  obtain ⟨p, q, hA0, hV, rfl, hfz, hnd⟩ := hW
  have hA : DataW.TrodAll enc Try.prog W 0 (fun _ => true) true Try.f3.params.toList args.toList ds p := hA0
  rw [Try.params3] at hA hval
  obtain ⟨v0, vs0, d0, ds0, p0, q0, hargs, rfl, rfl, h0, r0⟩ := trodAll_cons hA
  obtain ⟨v1, vs1, d1, ds1, p1, q1, rfl, rfl, rfl, h1, r1⟩ := trodAll_cons r0
  obtain ⟨v2, vs2, d2, ds2, p2, q2, rfl, rfl, rfl, h2, r2⟩ := trodAll_cons r1
  obtain ⟨rfl, rfl, rfl⟩ := trodAll_nil r2
  obtain rfl : args = #[v0, v1, v2] := by cases args; simp_all
  obtain ⟨rfl, rfl⟩ := trodVars_none hV
  obtain ⟨a0, rfl, rfl, rfl, w0⟩ := open_int Try.underlying3 (hval 0 _ v0 rfl rfl) h0
  obtain ⟨a1, rfl, rfl, rfl, w1⟩ := open_int Try.underlying3 (hval 1 _ v1 rfl rfl) h1
  obtain ⟨a2, rfl, rfl, rfl, w2⟩ := open_int Try.underlying3 (hval 2 _ v2 rfl rfl) h2
  clear hA0 hval0
  have hb : a0 ≤ 9223372036854775807 := by simp [Lit.wf, IntKind.max, IntKind.min, IntKind.signed, IntKind.bits] at w0; omega
  refine (lawNexts a0 a1 a2 W hb).mono fun e W' ⟨he, hb⟩ => ?_
  subst he
  exact ⟨_, rfl, law_post laidOut (by kernel_rfl) (by kernel_rfl) Try.underlying4 rfl rfl rfl rfl hW' hb⟩

theorem proved : Rows.StampNextsSaid :=
  OpenClaim.holds_of_wide 3 Try.f3 rfl rfl rfl rfl rfl rfl rfl ⟨rfl, rfl, rfl, rfl, rfl⟩ rfl rfl rfl rfl rfl (by kernel_rfl) Try.func3 (by kernel_rfl)
    (of_decide_eq_true (by kernel_rfl)) (by unfold Func.isWrapper; first | (rw [if_pos (by decide +kernel)]; kernel_rfl) | (rw [if_neg (by decide +kernel)]; exact ⟨rfl, rfl⟩))
    (fun os started H enc _ => lifted os started H enc)
#print axioms proved
end nexts
end Go.Proofs.Ytophbfnedglmdaa
