/- The reference's comparison of subscriptions: the same list is found the same. -/
import Derived.Test.YtmdeokneablgaaaDoorSubsOwn
namespace Go.Proofs.YtmdeokneablgaaaDoor
open Go.ChangeShapes Go.WideShapes Go.ChangeAt Go.RowKit

theorem refSpanSameT (l : List Span) (v u : Value) (w : World) (h : Spans w w.heap.size v l) (h' : Spans w w.heap.size u l) :
    Calls Tryd.prog 37 #[v, u] w fun e w' => e = .returned (.bool true) ∧ Below w.heap.size w w' :=
  (refSpanSame l l v u w h h').mono fun e w' ⟨he, hb⟩ => ⟨by rw [he, decide_eq_true rfl], hb⟩

set_option maxRecDepth 100000 in
set_option maxHeartbeats 1600000 in
theorem refSubsSame (l : List Sub) (v u : Value) (w : World) (h : Subs w w.heap.size v l) (h' : Subs w w.heap.size u l) :
    Calls Tryd.prog 13 #[v, u] w fun e w' => e = .returned (.bool true) ∧ Below w.heap.size w w' := by
  have hle := h.len_le
  obtain ⟨A, c, rfl, -⟩ := id h
  obtain ⟨A', c', rfl, -⟩ := id h'
  have HH := Lib.hid h
  have HH' := Lib.hid h'
  clear h h'
  go_enter Tryd.func13, Tryd.ntmps13
  go_wp2_with fail
  go_loopw [5] (fun i wr => ∃ (m : Nat) (z : BW w), m ≤ l.length ∧ i = .int .i64 m ∧ wr = z.val) (fun i _ => l.length - (intOf i).toNat)
  case atStart => exact ⟨0, BW.self w, Nat.zero_le _, rfl, rfl⟩
  case round =>
    obtain ⟨m, z, hm, rfl, rfl⟩ := hrel
    by_cases hlt : m < l.length
    · obtain ⟨y, hy⟩ : ∃ y, l[m]? = some y := ⟨l[m], List.getElem?_eq_getElem hlt⟩
      obtain ⟨b, off, _, vi, hv, hbb, e0, e1, e2, e3, e4, e5, e6, hs, -, -, -⟩ := subs_at (HH.out.next z.below) hy
      obtain ⟨b', off', _, vi', hv', hbb', e0', e1', e2', e3', e4', e5', e6', hs', -, -, -⟩ := subs_at (HH'.out.next z.below) hy
      injection hv with hv1 hv2 hv3
      injection hv' with hv1' hv2' hv3'
      subst hv1 hv1'
      obtain ⟨yf, yi, ys, yq, yl, yh, yd⟩ := y
      simp only at e0 e1 e2 e3 e4 e5 e6 hs e0' e1' e2' e3' e4' e5' e6' hs'
      obtain ⟨A4, c4, rfl, -⟩ := id hs
      obtain ⟨A5, c5, rfl, -⟩ := id hs'
      have HS := Lib.hid hs
      have HS' := Lib.hid hs'
      have i1 : (m : Int) < (l.length : Int) := by omega
      clear hv2 hv3 hv2' hv3' hy hs hs'
      go_upto_region 6 with fail
      go_cut [6, 7] (fun s t wx => ∃ (g g' : Nat), s = .pointer (some ⟨g, 0, none⟩) ∧ t = .pointer (some ⟨g', 0, none⟩) ∧ Blk wx g 35 #[.int .i64 yf, .slice A4 yi.length c4, .int .i64 ys, .int .i64 yq, .bool yl, .bool yh, .bool yd] ∧
        Blk wx g' 35 #[.int .i64 yf, .slice A5 yi.length c5, .int .i64 ys, .int .i64 yq, .bool yl, .bool yh, .bool yd] ∧ Below z.val.heap.size z.val wx)
      case first =>
        go_region
        all_goals
          go_wp2_with fail
          go_meet
          refine ⟨_, _, rfl, rfl, ?_, ?_, ?_⟩
          all_goals first
            | exact (Blk.new _ _ _).alloc.drew
            | exact (Blk.new_at (by simp)).drew
            | exact (balloc (balloc (Below.refl _ _))).drew
      case rest =>
        clear e0 e1 e2 e3 e4 e5 e6 e0' e1' e2' e3' e4' e5' e6'
        obtain ⟨g, g', rfl, rfl, B, B', hb⟩ := hcut
        rename_i wc
        have HB := Lib.hid B
        have HB' := Lib.hid B'
        have p0 : ∀ z : BW wc, z.val.cell? ⟨g, 0, none⟩ = some (.int .i64 yf) := fun z => z.cell (HB.out.cell 0)
        have p1 : ∀ z : BW wc, z.val.cell? ⟨g, 1, none⟩ = some (.slice A4 yi.length c4) := fun z => z.cell (HB.out.cell 1)
        have p2 : ∀ z : BW wc, z.val.cell? ⟨g, 2, none⟩ = some (.int .i64 ys) := fun z => z.cell (HB.out.cell 2)
        have p3 : ∀ z : BW wc, z.val.cell? ⟨g, 3, none⟩ = some (.int .i64 yq) := fun z => z.cell (HB.out.cell 3)
        have p4 : ∀ z : BW wc, z.val.cell? ⟨g, 4, none⟩ = some (.bool yl) := fun z => z.cell (HB.out.cell 4)
        have p5 : ∀ z : BW wc, z.val.cell? ⟨g, 5, none⟩ = some (.bool yh) := fun z => z.cell (HB.out.cell 5)
        have p6 : ∀ z : BW wc, z.val.cell? ⟨g, 6, none⟩ = some (.bool yd) := fun z => z.cell (HB.out.cell 6)
        have q0 : ∀ z : BW wc, z.val.cell? ⟨g', 0, none⟩ = some (.int .i64 yf) := fun z => z.cell (HB'.out.cell 0)
        have q1 : ∀ z : BW wc, z.val.cell? ⟨g', 1, none⟩ = some (.slice A5 yi.length c5) := fun z => z.cell (HB'.out.cell 1)
        have q2 : ∀ z : BW wc, z.val.cell? ⟨g', 2, none⟩ = some (.int .i64 ys) := fun z => z.cell (HB'.out.cell 2)
        have q3 : ∀ z : BW wc, z.val.cell? ⟨g', 3, none⟩ = some (.int .i64 yq) := fun z => z.cell (HB'.out.cell 3)
        have q4 : ∀ z : BW wc, z.val.cell? ⟨g', 4, none⟩ = some (.bool yl) := fun z => z.cell (HB'.out.cell 4)
        have q5 : ∀ z : BW wc, z.val.cell? ⟨g', 5, none⟩ = some (.bool yh) := fun z => z.cell (HB'.out.cell 5)
        have q6 : ∀ z : BW wc, z.val.cell? ⟨g', 6, none⟩ = some (.bool yd) := fun z => z.cell (HB'.out.cell 6)
        clear B B'
        refine BW.rebase wc ?_
        intro zc
        go_wp2_with fail
        refine BW.call (z := zc) (refSpanSameT yi _ _ _ ((HS.out.next hb).next zc.below) ((HS'.out.next hb).next zc.below)) ?_
        clear zc
        intro zc
        go_wp2_with fail
        refine ⟨⟨m + 1, z.to (bnext hb zc.below), by omega, by go_num, rfl⟩, by simp [intOf]; omega⟩
    · obtain rfl : m = l.length := by omega
      go_wp2_with fail
      go_ret
      exact ⟨rfl, z.below⟩
end Go.Proofs.YtmdeokneablgaaaDoor
