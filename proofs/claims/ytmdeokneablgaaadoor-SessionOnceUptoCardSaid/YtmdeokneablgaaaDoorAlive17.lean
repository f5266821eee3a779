/- The fixed fact of the laws of layer 17. -/
import Derived.Test.YtmdeokneablgaaaDoorHear
namespace Go.Proofs.YtmdeokneablgaaaDoor
open Go.ChangeShapes Go.WideShapes Go.ChangeAt Go.RowKit

theorem i64_lit {n : Int} (h : (-9223372036854775808 ≤ n && n ≤ 9223372036854775807) = true) : I64 n := by
  simp only [Bool.and_eq_true, decide_eq_true_eq] at h
  exact I64.of h.1 h.2
def aliveSub : Sub := ⟨2, [⟨0, 3⟩], 5, 0, false, false, false⟩
def aliveMsg (n : Int) : Msg := ⟨3, 2, 0, 5, n, [], [], [], ⟨0, ⟨0, 0⟩, []⟩⟩
theorem alive1 : hearS [aliveSub] (aliveMsg 0) = ([⟨2, [⟨0, 3⟩], 5, 1, true, true, true⟩], 0) := by decide +kernel
theorem alive2 : hearS [aliveSub] (aliveMsg 1) = ([], 3) := by decide +kernel
theorem msgV_nil {w : World} {B : Nat} {k f t s q o c n : Int} : MsgV w B (.slice none 0 0) (.slice none 0 0) (.slice none 0 0) (.slice none 0 0) ⟨k, f, t, s, q, [], [], [], ⟨o, ⟨c, n⟩, []⟩⟩ :=
  ⟨Sl.nil_ (by unfold maxLen; omega) _, Sl.nil_ (by unfold maxLen; omega) _, Sl.nil_ (by unfold maxLen; omega) _, Sl.nil_ (by unfold maxLen; omega) _⟩

set_option maxRecDepth 100000 in
set_option maxHeartbeats 1600000 in
theorem alive17 (w : World) (hT : TzTab w) :
    Calls Tryd.prog 6 #[] w fun e w' => e = .returned (.bool true) ∧ Below w.heap.size w w' := by
  have HT := Lib.hid hT
  clear hT
  go_enter Tryd.func6, Tryd.ntmps6
  go_wp2_with fail
  have hb := balloc (o := .cells #[.int .i64 2, .slice (some ⟨w.heap.size, 0, none⟩) 1 1, .int .i64 5, .int .i64 0, .bool false, .bool false, .bool false] 35) (balloc (o := .cells #[.int .i64 0, .int .i64 3] 33) (Below.refl _ w))
  have hsp : Spans _ _ _ [⟨0, 3⟩] := ((OwnSl.of_blk (R := SpanR) (k := 2) (l := [⟨0, 3⟩]) (Blk.new w 33 #[.int .i64 0, .int .i64 3]) (Chunks.one rfl ⟨rfl, i64_lit rfl, i64_lit rfl⟩) (by simp)).sl)
  have hsu : Subs _ _ _ [aliveSub] := ((OwnSl.of_blk (R := SubR _ _) (k := 7) (l := [aliveSub]) (Blk.new (w.alloc (.cells #[.int .i64 0, .int .i64 3] 33)) 35 #[.int .i64 2, .slice (some ⟨w.heap.size, 0, none⟩) 1 1, .int .i64 5, .int .i64 0, .bool false, .bool false, .bool false]) (Chunks.one rfl ⟨_, rfl, i64_lit rfl, i64_lit rfl, i64_lit rfl, hsp.next (balloc (Below.refl _ _))⟩) (by simp)).sl)
  generalize hW : (w.alloc (.cells #[.int .i64 0, .int .i64 3] 33)).alloc _ = W at *
  have hz : (w.alloc (.cells #[.int .i64 0, .int .i64 3] 33)).heap.size = w.heap.size + 1 := by simp
  rw [hz] at hsu
  have HS := Lib.hid hsu
  clear hW hsp hsu hz
  have HC := Lib.hid (fun n (hi : I64 n) (z : BW W) => sessionHear (aliveMsg n) [aliveSub] _ _ _ _ _ z.val z.val (Ext.refl _) (HS.out.next z.below) ⟨i64_lit rfl, i64_lit rfl, i64_lit rfl, i64_lit rfl, hi, i64_lit rfl⟩ msgV_nil ((HT.out.next hb).next z.below))
  refine (HC.out 0 (i64_lit rfl) (BW.self W)).mono ?_
  rw [alive1]
  rintro e w1 ⟨v1, rfl, hs1, hb1⟩
  replace hs1 := Subs.ext hs1 (mix_ext_w (Ext.refl _) hb1)
  obtain ⟨A1, c1, rfl, -⟩ := id hs1
  have HS1 := Lib.hid hs1
  clear hs1
  go_wp2_with fail
  refine (HC.out 1 (i64_lit rfl) ((BW.self W).to hb1)).mono ?_
  rw [alive2]
  rintro e w2 ⟨v2, rfl, hs2, hb2⟩
  obtain ⟨A2, c2, rfl, -⟩ := id hs2
  obtain ⟨b, off, _, vi, hv, hbb, e0, e1, e2, e3, e4, e5, e6, -⟩ := subs_at (HS1.out.next hb2) (m := 0) rfl
  injection hv with hv1 hv2 hv3
  subst hv1
  simp only [Nat.zero_mul, Nat.add_zero] at e0 e1 e2 e3 e4 e5 e6
  clear hs2 hv2 hv3
  go_wp2_with fail
  go_ret
  exact ⟨rfl, bnext (bnext hb hb1) hb2⟩
end Go.Proofs.YtmdeokneablgaaaDoor
