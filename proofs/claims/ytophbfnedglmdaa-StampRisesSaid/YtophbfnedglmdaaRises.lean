/- The law StampRises: the order of stamps is one, and the next stamp comes behind all stamps of counts up to the one that it was made from. -/
import Derived.Test.YtophbfnedglmdaaStamp
import Derived.Test.YtophbfnedglmdaaTypes
namespace Go.Proofs.Ytophbfnedglmdaa
open Go.ChangeShapes Go.WideShapes Go.ChangeAt Go.RowKit

/-- Compare at two stamps answers x, in whatever world. -/
def Cmps (a b c d x : Int) : Prop := ∀ w : World, Calls Try.prog 9 #[.agg #[.int .i64 a, .int .i64 b], .agg #[.int .i64 c, .int .i64 d]] w fun e w' => e = .returned (.int .i64 x) ∧ Below w.heap.size w w'
theorem Cmps.at_ {a b c d x : Int} (h : Cmps a b c d x) (w : World) : Calls Try.prog 9 #[.agg #[.int .i64 a, .int .i64 b], .agg #[.int .i64 c, .int .i64 d]] w fun e w' => e = .returned (.int .i64 x) ∧ Below w.heap.size w w' := h w
theorem Cmps.of (a b c d : Int) : Cmps a b c d (cmpS a b c d) := fun w => stampCompare a b c d w

theorem Cmps.lt {a b c d : Int} (h : a < c) : Cmps a b c d (-1) := fun w => by
  have := stampCompare a b c d w
  rwa [(cmpS_lt a b c d).2 (Or.inl h)] at this

theorem next_two (c n s : Int) (w : World) (hc : 0 ≤ c) (hc' : c ≤ 9223372036854775807) (hn : 0 ≤ n) (hn' : n < 64) (hs : 0 ≤ s) :
    Calls Try.prog 7 #[.int .i64 c, .int .i64 n, .int .i64 s] w fun e w' => (e = .returned (.tuple #[.agg #[.int .i64 0, .int .i64 0], .int .i64 2]) ∨ ∃ t : Int, c < t ∧ e = .returned (.tuple #[.agg #[.int .i64 t, .int .i64 n], .int .i64 0])) ∧ Below w.heap.size w w' := by
  refine (stampNext c n s w hc').mono fun e w' ⟨he, hb⟩ => ⟨?_, hb⟩
  subst he
  unfold nxV
  rw [if_neg (by omega)]
  split
  · exact Or.inl rfl
  · exact Or.inr ⟨_, by omega, rfl⟩

theorem right_true (c n : Int) (w : World) (hc : 0 < c) (hn : 0 ≤ n) (hn' : n < 64) :
    Calls Try.prog 11 #[.agg #[.int .i64 c, .int .i64 n]] w fun e w' => e = .returned (.bool true) ∧ Below w.heap.size w w' := by
  have := stampRight c n w
  rwa [show rightB c n = true by simp [rightB]; omega] at this

set_option maxRecDepth 100000 in
set_option maxHeartbeats 1600000 in
theorem lawRises (a b c d e f node skip x y z : Int) (w : World) (hnode : 0 ≤ node ∧ node < 256) (ha : a ≤ 9223372036854775807) (hx : Cmps a b c d x) (hy : Cmps c d e f y) (hz : Cmps a b e f z) (hn : Cmps c d a b (-x)) (h3 : x = -1 ∨ x = 0 ∧ a = c ∧ b = d ∨ x = 1) (hxyz : x ≤ 0 → y ≤ 0 → z ≤ 0) :
    Calls Try.prog 6 #[.agg #[.int .i64 a, .int .i64 b, .int .i64 c, .int .i64 d, .int .i64 e, .int .i64 f], .int .u8 node, .int .i64 skip] w fun e w' => e = .returned (.bool true) ∧ Below w.heap.size w w' := by
  go_enter Try.func6, Try.ntmps6
  go_upto_region 1 with fail
  go_cut [7, 8, 9] (fun s7 s8 s9 wx => ∃ g7 g8 g9 : Nat, s7 = .pointer (some ⟨g7, 0, none⟩) ∧ s8 = .pointer (some ⟨g8, 0, none⟩) ∧ s9 = .pointer (some ⟨g9, 0, none⟩) ∧
    wx.cell? ⟨g7, 0, none⟩ = some (.int .i64 a) ∧ wx.cell? ⟨g7, 1, none⟩ = some (.int .i64 b) ∧ wx.cell? ⟨g8, 0, none⟩ = some (.int .i64 c) ∧ wx.cell? ⟨g8, 1, none⟩ = some (.int .i64 d) ∧ wx.cell? ⟨g9, 0, none⟩ = some (.int .i64 e) ∧ wx.cell? ⟨g9, 1, none⟩ = some (.int .i64 f) ∧ Below w.heap.size w wx)
  case first =>
    clear hx hy hz hn h3 hxyz
    go_region_held3 (fun w' => w'.cell? ⟨w.heap.size, 0, none⟩ = some (.int .i64 a) ∧ w'.cell? ⟨w.heap.size, 1, none⟩ = some (.int .i64 b) ∧ w'.cell? ⟨w.heap.size, 2, none⟩ = some (.int .i64 c) ∧ w'.cell? ⟨w.heap.size, 3, none⟩ = some (.int .i64 d) ∧ w'.cell? ⟨w.heap.size, 4, none⟩ = some (.int .i64 e) ∧ w'.cell? ⟨w.heap.size, 5, none⟩ = some (.int .i64 f)) (go_keep)
      (fail)
    all_goals
      go_wp2_with fail
      go_meet
      refine ⟨_, _, _, rfl, rfl, rfl, by simp [go_sem], by simp [go_sem], by simp [go_sem], by simp [go_sem], by simp [go_sem], by simp [go_sem], ?_⟩
      repeat (first | exact Below.refl _ _ | apply Below.drew | apply balloc)
  case rest =>
    obtain ⟨g7, g8, g9, rfl, rfl, rfl, a0, a1, b0, b1, c0, c1, hb⟩ := hcut
    go_upto_region 2 with fail
    go_region_held3 (fun w' => w'.cell? ⟨g7, 0, none⟩ = some (.int .i64 a) ∧ w'.cell? ⟨g7, 1, none⟩ = some (.int .i64 b) ∧ w'.cell? ⟨g8, 0, none⟩ = some (.int .i64 c) ∧ w'.cell? ⟨g8, 1, none⟩ = some (.int .i64 d) ∧ w'.cell? ⟨g9, 0, none⟩ = some (.int .i64 e) ∧ w'.cell? ⟨g9, 1, none⟩ = some (.int .i64 f)) (first | go_keep | ((refine ⟨?_, ?_, ?_, ?_, ?_, ?_⟩) <;> (refine kept_cell (by assumption) ?_; simp [*])))
      (first | (go_at_call 9; (with_reducible refine (hx.at_ _).mono ?_); rintro e w1 ⟨rfl, hb1⟩) | (go_at_call 9; (with_reducible refine (hy.at_ _).mono ?_); rintro e w2 ⟨rfl, hb2⟩) | (go_at_call 9; (with_reducible refine (hz.at_ _).mono ?_); rintro e w3 ⟨rfl, hb3⟩))
    rename_i hh
    obtain ⟨p0, p1, q0, q1, r0, r1⟩ := hh
    have hb' := bnext (bnext (bnext hb.drew hb1) hb2) hb3
    clear a0 a1 b0 b1 c0 c1 hb hb1 hb2 hb3 hx hy hz
    have hyz : x = 1 ∨ 0 < y ∨ z ≤ 0 := by omega
    clear hxyz
    rcases h3 with rfl | ⟨rfl, rfl, rfl⟩ | rfl
    all_goals
      go_wp2_with fail
      refine (hn.at_ _).mono ?_
      rintro e w4 ⟨rfl, hb4⟩
      have a0 := kept_cell hb4 p0
      have a1 := kept_cell hb4 p1
      have b0 := kept_cell hb4 q0
      have b1 := kept_cell hb4 q1
      have c0 := kept_cell hb4 r0
      have c1 := kept_cell hb4 r1
      have hb := bnext hb' hb4
      clear p0 p1 q0 q1 r0 r1 hb' hb4 hn
      have hm0 : 0 ≤ node % 64 := by omega
      have hm1 : node % 64 < 64 := by omega
      go_wp2_with fail
    all_goals
      refine (next_two _ _ _ _ (by omega) (by omega) hm0 hm1 (by omega)).mono ?_
      rintro e w5 ⟨rfl | ⟨t, ht, rfl⟩, hb5⟩
      · go_wp2
        go_ret
        exact ⟨rfl, balloc (bnext hb hb5)⟩
      · have a0' := kept_cell hb5 a0
        have a1' := kept_cell hb5 a1
        have c0' := kept_cell hb5 c0
        have c1' := kept_cell hb5 c1
        have l7 := World.block_lt_of_cell? _ _ a0'
        have l9 := World.block_lt_of_cell? _ _ c0'
        have hb' := bnext hb hb5
        clear a0 a1 b0 b1 c0 c1 hb hb5
        go_wp2_with fail
        refine ((Cmps.lt (by omega)).at_ _).mono ?_
        rintro e w6 ⟨rfl, hb6⟩
        have t0 := kept_cell (a := ⟨w5.heap.size, 0, none⟩) (v := .int .i64 t) hb6 (by simp)
        have t1 := kept_cell (a := ⟨w5.heap.size, 1, none⟩) (v := .int .i64 (node % 64)) hb6 (by simp)
        have a0 := kept_cell (a := ⟨g7, 0, none⟩) hb6 ((World.cell?_alloc_lt _ _ _ l7).trans a0')
        have c0 := kept_cell (a := ⟨g9, 0, none⟩) hb6 ((World.cell?_alloc_lt _ _ _ l9).trans c0')
        have c1 := kept_cell (a := ⟨g9, 1, none⟩) hb6 ((World.cell?_alloc_lt _ _ _ l9).trans c1')
        have hb := bnext (balloc hb') hb6
        clear a0' a1' c0' c1' hb' hb6 l7 l9
        go_wp2_with fail
        refine (right_true _ _ _ (by omega) hm0 hm1).mono ?_
        rintro e w7 ⟨rfl, hb7⟩
        have a0' := kept_cell hb7 a0
        have c0' := kept_cell hb7 c0
        have c1' := kept_cell hb7 c1
        have t0' := kept_cell hb7 t0
        have t1' := kept_cell hb7 t1
        have hb' := bnext hb hb7
        clear a0 c0 c1 t0 t1 hb hb7
        by_cases hea : a < e
        · go_wp2_with fail
          go_ret
          exact ⟨rfl, hb'⟩
        · go_wp2_with fail
          refine ((Cmps.lt (by omega)).at_ _).mono ?_
          rintro e w8 ⟨rfl, hb8⟩
          go_wp2_with fail
          go_ret
          exact ⟨rfl, bnext hb' hb8⟩

end Go.Proofs.Ytophbfnedglmdaa
