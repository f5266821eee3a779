/- The law SessionOuts: what others subscribed to is opened, closed and cut as the reference says, or refused. The card (second form: of bulk at most 1048576). -/
import Derived.Test.YtmdeokneablgaaaDoorPHear
import Derived.Test.YtmdeokneablgaaaDoorPSubsOwn
import Derived.Test.YtmdeokneablgaaaDoorPOutsOwn
import Derived.Test.YtmdeokneablgaaaDoorPOpenRef
import Derived.Test.YtmdeokneablgaaaDoorPRead
import Derived.Test.YtmdeokneablgaaaDoorCards
import Derived.Test.YtmdeokneablgaaaDoorTie
import Derived.Lib.LaidTab
import Derived.Deep.DeepWitnessRowRef
import Derived.Lib.SmallJoins
/- The fixed fact of the laws of layer 17. -/
namespace Go.Proofs.YtmdeokneablgaaaDoor
open Go.ChangeShapes Go.WideShapes Go.ChangeAt Go.RowKit

theorem i64_lit {n : Int} (h : (-9223372036854775808 ≤ n && n ≤ 9223372036854775807) = true) : I64 n := by
  simp only [Bool.and_eq_true, decide_eq_true_eq] at h
  exact I64.of h.1 h.2
def aliveSub : Sub := ⟨2, [⟨0, 3⟩], 5, 0, false, false, false⟩
def aliveMsg (n : Int) : Msg := ⟨3, 2, 0, 5, n, [], [], [], ⟨0, ⟨0, 0⟩, []⟩⟩
theorem alive1 : hearS [aliveSub] (aliveMsg 0) = ([⟨2, [⟨0, 3⟩], 5, 1, true, true, true⟩], 0) := by decide +kernel
theorem alive2 : hearS [aliveSub] (aliveMsg 1) = ([], 3) := by decide +kernel
theorem msgV_nil {w : World} {B : Nat} {k f t s q o c n : Int} : MsgV w B (.slice none 0 0) (.slice none 0 0) (.slice none 0 0) (.slice none 0 0) ⟨k, f, t, s, q, [], [], [], ⟨o, ⟨c, n⟩, []⟩⟩ :=
  ⟨Sl.nil_ (by unfold maxLen; omega) _, Sl.nil_ (by unfold maxLen; omega) _, Sl.nil_ (by unfold maxLen; omega) _, Sl.nil_ (by unfold maxLen; omega) _⟩

set_option maxRecDepth 100000 in
set_option maxHeartbeats 1600000 in
theorem alive17 (w : World) (hT : TzTab w) :
    Calls Tryd.prog 6 #[] w fun e w' => e = .returned (.bool true) ∧ Below w.heap.size w w' := by
  have HT := Lib.hid hT
  clear hT
  go_enter Tryd.func6, Tryd.ntmps6
  go_wp2_with fail
  have hb := balloc (o := .cells #[.int .i64 2, .slice (some ⟨w.heap.size, 0, none⟩) 1 1, .int .i64 5, .int .i64 0, .bool false, .bool false, .bool false] 35) (balloc (o := .cells #[.int .i64 0, .int .i64 3] 33) (Below.refl _ w))
  have hsp : Spans _ _ _ [⟨0, 3⟩] := ((OwnSl.of_blk (R := SpanR) (k := 2) (l := [⟨0, 3⟩]) (Blk.new w 33 #[.int .i64 0, .int .i64 3]) (Chunks.one rfl ⟨rfl, i64_lit rfl, i64_lit rfl⟩) (by simp)).sl)
  have hsu : Subs _ _ _ [aliveSub] := ((OwnSl.of_blk (R := SubR _ _) (k := 7) (l := [aliveSub]) (Blk.new (w.alloc (.cells #[.int .i64 0, .int .i64 3] 33)) 35 #[.int .i64 2, .slice (some ⟨w.heap.size, 0, none⟩) 1 1, .int .i64 5, .int .i64 0, .bool false, .bool false, .bool false]) (Chunks.one rfl ⟨_, rfl, i64_lit rfl, i64_lit rfl, i64_lit rfl, hsp.next (balloc (Below.refl _ _))⟩) (by simp)).sl)
  generalize hW : (w.alloc (.cells #[.int .i64 0, .int .i64 3] 33)).alloc _ = W at *
  have hz : (w.alloc (.cells #[.int .i64 0, .int .i64 3] 33)).heap.size = w.heap.size + 1 := by simp
  rw [hz] at hsu
  have HS := Lib.hid hsu
  clear hW hsp hsu hz
  have HC := Lib.hid (fun n (hi : I64 n) (z : BW W) => sessionHear (aliveMsg n) [aliveSub] _ _ _ _ _ z.val z.val (Ext.refl _) (HS.out.next z.below) ⟨i64_lit rfl, i64_lit rfl, i64_lit rfl, i64_lit rfl, hi, i64_lit rfl⟩ msgV_nil ((HT.out.next hb).next z.below))
  refine (HC.out 0 (i64_lit rfl) (BW.self W)).mono ?_
  rw [alive1]
  rintro e w1 ⟨v1, rfl, hs1, hb1⟩
  replace hs1 := Subs.ext hs1 (mix_ext_w (Ext.refl _) hb1)
  obtain ⟨A1, c1, rfl, -⟩ := id hs1
  have HS1 := Lib.hid hs1
  clear hs1
  go_wp2_with fail
  refine (HC.out 1 (i64_lit rfl) ((BW.self W).to hb1)).mono ?_
  rw [alive2]
  rintro e w2 ⟨v2, rfl, hs2, hb2⟩
  obtain ⟨A2, c2, rfl, -⟩ := id hs2
  obtain ⟨b, off, _, vi, hv, hbb, e0, e1, e2, e3, e4, e5, e6, -⟩ := subs_at (HS1.out.next hb2) (m := 0) rfl
  injection hv with hv1 hv2 hv3
  subst hv1
  simp only [Nat.zero_mul, Nat.add_zero] at e0 e1 e2 e3 e4 e5 e6
  clear hs2 hv2 hv3
  go_wp2_with fail
  go_ret
  exact ⟨rfl, bnext (bnext hb hb1) hb2⟩
end Go.Proofs.YtmdeokneablgaaaDoor
/- The reference's comparison of subscriptions: the same list is found the same. -/
namespace Go.Proofs.YtmdeokneablgaaaDoor
open Go.ChangeShapes Go.WideShapes Go.ChangeAt Go.RowKit

theorem refSpanSameT (l : List Span) (v u : Value) (w : World) (h : Spans w w.heap.size v l) (h' : Spans w w.heap.size u l) :
    Calls Tryd.prog 37 #[v, u] w fun e w' => e = .returned (.bool true) ∧ Below w.heap.size w w' :=
  (refSpanSame l l v u w h h').mono fun e w' ⟨he, hb⟩ => ⟨by rw [he, decide_eq_true rfl], hb⟩

set_option maxRecDepth 100000 in
set_option maxHeartbeats 1600000 in
theorem refSubsSame (l : List Sub) (v u : Value) (w : World) (h : Subs w w.heap.size v l) (h' : Subs w w.heap.size u l) :
    Calls Tryd.prog 13 #[v, u] w fun e w' => e = .returned (.bool true) ∧ Below w.heap.size w w' := by
  have hle := h.len_le
  obtain ⟨A, c, rfl, -⟩ := id h
  obtain ⟨A', c', rfl, -⟩ := id h'
  have HH := Lib.hid h
  have HH' := Lib.hid h'
  clear h h'
  go_enter Tryd.func13, Tryd.ntmps13
  go_wp2_with fail
  go_loopw [5] (fun i wr => ∃ (m : Nat) (z : BW w), m ≤ l.length ∧ i = .int .i64 m ∧ wr = z.val) (fun i _ => l.length - (intOf i).toNat)
  case atStart => exact ⟨0, BW.self w, Nat.zero_le _, rfl, rfl⟩
  case round =>
    obtain ⟨m, z, hm, rfl, rfl⟩ := hrel
    by_cases hlt : m < l.length
    · obtain ⟨y, hy⟩ : ∃ y, l[m]? = some y := ⟨l[m], List.getElem?_eq_getElem hlt⟩
      obtain ⟨b, off, _, vi, hv, hbb, e0, e1, e2, e3, e4, e5, e6, hs, -, -, -⟩ := subs_at (HH.out.next z.below) hy
      obtain ⟨b', off', _, vi', hv', hbb', e0', e1', e2', e3', e4', e5', e6', hs', -, -, -⟩ := subs_at (HH'.out.next z.below) hy
      injection hv with hv1 hv2 hv3
      injection hv' with hv1' hv2' hv3'
      subst hv1 hv1'
      obtain ⟨yf, yi, ys, yq, yl, yh, yd⟩ := y
      simp only at e0 e1 e2 e3 e4 e5 e6 hs e0' e1' e2' e3' e4' e5' e6' hs'
      obtain ⟨A4, c4, rfl, -⟩ := id hs
      obtain ⟨A5, c5, rfl, -⟩ := id hs'
      have HS := Lib.hid hs
      have HS' := Lib.hid hs'
      have i1 : (m : Int) < (l.length : Int) := by omega
      clear hv2 hv3 hv2' hv3' hy hs hs'
      go_upto_region 6 with fail
      go_cut [6, 7] (fun s t wx => ∃ (g g' : Nat), s = .pointer (some ⟨g, 0, none⟩) ∧ t = .pointer (some ⟨g', 0, none⟩) ∧ Blk wx g 35 #[.int .i64 yf, .slice A4 yi.length c4, .int .i64 ys, .int .i64 yq, .bool yl, .bool yh, .bool yd] ∧
        Blk wx g' 35 #[.int .i64 yf, .slice A5 yi.length c5, .int .i64 ys, .int .i64 yq, .bool yl, .bool yh, .bool yd] ∧ Below z.val.heap.size z.val wx)
      case first =>
        go_region
        all_goals
          go_wp2_with fail
          go_meet
          refine ⟨_, _, rfl, rfl, ?_, ?_, ?_⟩
          all_goals first
            | exact (Blk.new _ _ _).alloc.drew
            | exact (Blk.new_at (by simp)).drew
            | exact (balloc (balloc (Below.refl _ _))).drew
      case rest =>
        clear e0 e1 e2 e3 e4 e5 e6 e0' e1' e2' e3' e4' e5' e6'
        obtain ⟨g, g', rfl, rfl, B, B', hb⟩ := hcut
        rename_i wc
        have HB := Lib.hid B
        have HB' := Lib.hid B'
        have p0 : ∀ z : BW wc, z.val.cell? ⟨g, 0, none⟩ = some (.int .i64 yf) := fun z => z.cell (HB.out.cell 0)
        have p1 : ∀ z : BW wc, z.val.cell? ⟨g, 1, none⟩ = some (.slice A4 yi.length c4) := fun z => z.cell (HB.out.cell 1)
        have p2 : ∀ z : BW wc, z.val.cell? ⟨g, 2, none⟩ = some (.int .i64 ys) := fun z => z.cell (HB.out.cell 2)
        have p3 : ∀ z : BW wc, z.val.cell? ⟨g, 3, none⟩ = some (.int .i64 yq) := fun z => z.cell (HB.out.cell 3)
        have p4 : ∀ z : BW wc, z.val.cell? ⟨g, 4, none⟩ = some (.bool yl) := fun z => z.cell (HB.out.cell 4)
        have p5 : ∀ z : BW wc, z.val.cell? ⟨g, 5, none⟩ = some (.bool yh) := fun z => z.cell (HB.out.cell 5)
        have p6 : ∀ z : BW wc, z.val.cell? ⟨g, 6, none⟩ = some (.bool yd) := fun z => z.cell (HB.out.cell 6)
        have q0 : ∀ z : BW wc, z.val.cell? ⟨g', 0, none⟩ = some (.int .i64 yf) := fun z => z.cell (HB'.out.cell 0)
        have q1 : ∀ z : BW wc, z.val.cell? ⟨g', 1, none⟩ = some (.slice A5 yi.length c5) := fun z => z.cell (HB'.out.cell 1)
        have q2 : ∀ z : BW wc, z.val.cell? ⟨g', 2, none⟩ = some (.int .i64 ys) := fun z => z.cell (HB'.out.cell 2)
        have q3 : ∀ z : BW wc, z.val.cell? ⟨g', 3, none⟩ = some (.int .i64 yq) := fun z => z.cell (HB'.out.cell 3)
        have q4 : ∀ z : BW wc, z.val.cell? ⟨g', 4, none⟩ = some (.bool yl) := fun z => z.cell (HB'.out.cell 4)
        have q5 : ∀ z : BW wc, z.val.cell? ⟨g', 5, none⟩ = some (.bool yh) := fun z => z.cell (HB'.out.cell 5)
        have q6 : ∀ z : BW wc, z.val.cell? ⟨g', 6, none⟩ = some (.bool yd) := fun z => z.cell (HB'.out.cell 6)
        clear B B'
        refine BW.rebase wc ?_
        intro zc
        go_wp2_with fail
        refine BW.call (z := zc) (refSpanSameT yi _ _ _ ((HS.out.next hb).next zc.below) ((HS'.out.next hb).next zc.below)) ?_
        clear zc
        intro zc
        go_wp2_with fail
        refine ⟨⟨m + 1, z.to (bnext hb zc.below), by omega, by go_num, rfl⟩, by simp [intOf]; omega⟩
    · obtain rfl : m = l.length := by omega
      go_wp2_with fail
      go_ret
      exact ⟨rfl, z.below⟩
end Go.Proofs.YtmdeokneablgaaaDoor
/- The reference's comparison of subscriptions at their sender: the same list is found the same. -/
namespace Go.Proofs.YtmdeokneablgaaaDoor
open Go.ChangeShapes Go.WideShapes Go.ChangeAt Go.RowKit

set_option maxRecDepth 100000 in
set_option maxHeartbeats 1600000 in
theorem refOutsSame (l : List Out) (v u : Value) (w : World) (h : Outs w w.heap.size v l) (h' : Outs w w.heap.size u l) :
    Calls Tryd.prog 23 #[v, u] w fun e w' => e = .returned (.bool true) ∧ Below w.heap.size w w' := by
  have hle := h.len_le
  obtain ⟨A, c, rfl, -⟩ := id h
  obtain ⟨A', c', rfl, -⟩ := id h'
  have HH := Lib.hid h
  have HH' := Lib.hid h'
  clear h h'
  go_enter Tryd.func23, Tryd.ntmps23
  go_wp2_with fail
  go_loopw [5] (fun i wr => ∃ (m : Nat) (z : BW w), m ≤ l.length ∧ i = .int .i64 m ∧ wr = z.val) (fun i _ => l.length - (intOf i).toNat)
  case atStart => exact ⟨0, BW.self w, Nat.zero_le _, rfl, rfl⟩
  case round =>
    obtain ⟨m, z, hm, rfl, rfl⟩ := hrel
    by_cases hlt : m < l.length
    · obtain ⟨y, hy⟩ : ∃ y, l[m]? = some y := ⟨l[m], List.getElem?_eq_getElem hlt⟩
      obtain ⟨b, off, _, vi, hv, hbb, e0, e1, e2, e3, e4, hs, -, -, -, -⟩ := outs_at (HH.out.next z.below) hy
      obtain ⟨b', off', _, vi', hv', hbb', e0', e1', e2', e3', e4', hs', -, -, -, -⟩ := outs_at (HH'.out.next z.below) hy
      injection hv with hv1 hv2 hv3
      injection hv' with hv1' hv2' hv3'
      subst hv1 hv1'
      obtain ⟨yf, ys, yi, ya, yq⟩ := y
      simp only at e0 e1 e2 e3 e4 hs e0' e1' e2' e3' e4' hs'
      obtain ⟨A4, c4, rfl, -⟩ := id hs
      obtain ⟨A5, c5, rfl, -⟩ := id hs'
      have HS := Lib.hid hs
      have HS' := Lib.hid hs'
      have i1 : (m : Int) < (l.length : Int) := by omega
      clear hv2 hv3 hv2' hv3' hy hs hs'
      go_upto_region 6 with fail
      go_cut [6, 7] (fun s t wx => ∃ (g g' : Nat), s = .pointer (some ⟨g, 0, none⟩) ∧ t = .pointer (some ⟨g', 0, none⟩) ∧ Blk wx g 54 #[.int .i64 yf, .int .i64 ys, .slice A4 yi.length c4, .int .i64 ya, .int .i64 yq] ∧
        Blk wx g' 54 #[.int .i64 yf, .int .i64 ys, .slice A5 yi.length c5, .int .i64 ya, .int .i64 yq] ∧ Below z.val.heap.size z.val wx)
      case first =>
        go_region
        all_goals
          go_wp2_with fail
          go_meet
          refine ⟨_, _, rfl, rfl, ?_, ?_, ?_⟩
          all_goals first
            | exact (Blk.new _ _ _).alloc.drew
            | exact (Blk.new_at (by simp)).drew
            | exact (balloc (balloc (Below.refl _ _))).drew
      case rest =>
        clear e0 e1 e2 e3 e4 e0' e1' e2' e3' e4'
        obtain ⟨g, g', rfl, rfl, B, B', hb⟩ := hcut
        rename_i wc
        have HB := Lib.hid B
        have HB' := Lib.hid B'
        have p0 : ∀ z : BW wc, z.val.cell? ⟨g, 0, none⟩ = some (.int .i64 yf) := fun z => z.cell (HB.out.cell 0)
        have p1 : ∀ z : BW wc, z.val.cell? ⟨g, 1, none⟩ = some (.int .i64 ys) := fun z => z.cell (HB.out.cell 1)
        have p2 : ∀ z : BW wc, z.val.cell? ⟨g, 2, none⟩ = some (.slice A4 yi.length c4) := fun z => z.cell (HB.out.cell 2)
        have p3 : ∀ z : BW wc, z.val.cell? ⟨g, 3, none⟩ = some (.int .i64 ya) := fun z => z.cell (HB.out.cell 3)
        have p4 : ∀ z : BW wc, z.val.cell? ⟨g, 4, none⟩ = some (.int .i64 yq) := fun z => z.cell (HB.out.cell 4)
        have q0 : ∀ z : BW wc, z.val.cell? ⟨g', 0, none⟩ = some (.int .i64 yf) := fun z => z.cell (HB'.out.cell 0)
        have q1 : ∀ z : BW wc, z.val.cell? ⟨g', 1, none⟩ = some (.int .i64 ys) := fun z => z.cell (HB'.out.cell 1)
        have q2 : ∀ z : BW wc, z.val.cell? ⟨g', 2, none⟩ = some (.slice A5 yi.length c5) := fun z => z.cell (HB'.out.cell 2)
        have q3 : ∀ z : BW wc, z.val.cell? ⟨g', 3, none⟩ = some (.int .i64 ya) := fun z => z.cell (HB'.out.cell 3)
        have q4 : ∀ z : BW wc, z.val.cell? ⟨g', 4, none⟩ = some (.int .i64 yq) := fun z => z.cell (HB'.out.cell 4)
        clear B B'
        refine BW.rebase wc ?_
        intro zc
        go_wp2_with fail
        refine BW.call (z := zc) (refSpanSameT yi _ _ _ ((HS.out.next hb).next zc.below) ((HS'.out.next hb).next zc.below)) ?_
        clear zc
        intro zc
        go_wp2_with fail
        refine ⟨⟨m + 1, z.to (bnext hb zc.below), by omega, by go_num, rfl⟩, by simp [intOf]; omega⟩
    · obtain rfl : m = l.length := by omega
      go_wp2_with fail
      go_ret
      exact ⟨rfl, z.below⟩
end Go.Proofs.YtmdeokneablgaaaDoor
/- The law SessionOuts: walked. -/
namespace Go.Proofs.YtmdeokneablgaaaDoor
open Go.ChangeShapes Go.WideShapes Go.ChangeAt Go.RowKit

theorem BW.retO {P : Program} {f : FuncId} {args : Array Value} {W : World} {z : BW W} {r : List Out × Int} {Q : Ending → World → Prop} {V : World} (hV : Ext V z.val) (h : Calls P f args z.val fun e w' => RetOuts r V z.val e w')
    (k : ∀ (z' : BW W) (v : Value), Outs z'.val z'.val.heap.size v r.1 → Below z.val.heap.size z.val z'.val → Q (.returned (.tuple #[v, .int .i64 r.2])) z'.val) : Calls P f args z.val Q :=
  h.mono fun _ _ ⟨v, he, hs, hb⟩ => he ▸ k (z.to hb) v (Outs.ext hs (mix_ext_w hV hb)) hb
theorem BW.callO {P : Program} {f : FuncId} {args : Array Value} {W : World} {z : BW W} {v v' : Value} {Q : Ending → World → Prop} (h : Calls P f args z.val fun e w' => e = .returned v ∧ Below z.val.heap.size z.val w')
    (hv : v = v') (k : ∀ z' : BW W, Below z.val.heap.size z.val z'.val → Q (.returned v') z'.val) : Calls P f args z.val Q :=
  h.mono fun _ _ ⟨he, hb⟩ => he ▸ hv ▸ k (z.to hb) hb
theorem BW.ownO {P : Program} {f : FuncId} {args : Array Value} {W : World} {z : BW W} {V : World} (hV : Ext V z.val) {e : TypeId} {l : List Out} {Q : Ending → World → Prop} (h : Calls P f args z.val fun e' w' => (∃ v', e' = .returned v' ∧ OwnOuts V z.val w' z.val.heap.size e v' l) ∧ Below z.val.heap.size z.val w')
    (k : ∀ (z' : BW W) (v : Value), Outs z'.val z'.val.heap.size v l → Below z.val.heap.size z.val z'.val → Q (.returned v) z'.val) : Calls P f args z.val Q :=
  h.mono fun _ _ ⟨⟨v, he, hs⟩, hb⟩ => he ▸ k (z.to hb) v (Outs.ext (OwnN.sl hs extOut (Nat.le_refl _)) (mix_ext_w hV hb)) hb

set_option maxRecDepth 100000 in
set_option maxHeartbeats 3200000 in
theorem lawOuts (x : Out) (l : List Out) (n : Int) (v vi : Value) (w : World) (h : Outs w w.heap.size v l) (hs : Spans w w.heap.size vi x.interest) (i1 : I64 x.to_) (i2 : I64 x.session) (i3 : I64 x.at_) (i4 : I64 x.seq) (hT : TzTab w) :
    Calls Tryd.prog 5 #[v, .agg #[.int .i64 x.to_, .int .i64 x.session, vi, .int .i64 x.at_, .int .i64 x.seq], .int .i64 n] w fun e w' => e = .returned (.bool true) ∧ Below w.heap.size w w' := by
  have hle := h.len_le
  have HH := Lib.hid h
  have HSx := Lib.hid hs
  have HT := Lib.hid hT
  obtain ⟨A, c, rfl, -⟩ := id h
  obtain ⟨A1, c1, rfl, -⟩ := id hs
  clear h hs hT
  have HC1 := Lib.hid (fun (W : World) (z : BW W) (vo : Value) (kB : Below w.heap.size w W) (ho : Outs z.val z.val.heap.size vo l) => sessionOpen x l vo _ z.val z.val (Ext.refl _) ho ((HSx.out.next kB).next z.below) i1 i2 i3 i4)
  have HC2 := Lib.hid (fun (W : World) (z : BW W) (kB : Below w.heap.size w W) => refOpen x l _ _ z.val z.val (Ext.refl _) ((HH.out.next kB).next z.below) ((HSx.out.next kB).next z.below) i1 i2 i3 i4)
  generalize hr : openS l x = res at HC1 HC2
  obtain ⟨rl, rc⟩ := res
  clear hr
  generalize hr : closeS l n = res2
  have HR2 := Lib.hid hr
  obtain ⟨fl, fc⟩ := res2
  clear hr
  generalize hr : cutS l n = res3
  have HR3 := Lib.hid hr
  obtain ⟨gl, gc⟩ := res3
  clear hr
  generalize hr : outsFormed n l = r4
  have HR4 := Lib.hid hr
  clear hr
  go_enter Tryd.func5, Tryd.ntmps5
  go_wp2_with fail
  have kB := balloc (o := .cells #[.int .i64 x.to_, .int .i64 x.session, .slice A1 x.interest.length c1, .int .i64 x.at_, .int .i64 x.seq] 54) (Below.refl _ w)
  have B := Blk.new w 54 #[.int .i64 x.to_, .int .i64 x.session, .slice A1 x.interest.length c1, .int .i64 x.at_, .int .i64 x.seq]
  generalize hW : w.alloc _ = W at *
  have HB := Lib.hid B
  clear hW B
  have q0 : ∀ z : BW W, z.val.cell? ⟨w.heap.size, 0, none⟩ = some (.int .i64 x.to_) := fun z => z.cell (HB.out.cell 0)
  have q1 : ∀ z : BW W, z.val.cell? ⟨w.heap.size, 1, none⟩ = some (.int .i64 x.session) := fun z => z.cell (HB.out.cell 1)
  have q2 : ∀ z : BW W, z.val.cell? ⟨w.heap.size, 2, none⟩ = some (.slice A1 x.interest.length c1) := fun z => z.cell (HB.out.cell 2)
  have q3 : ∀ z : BW W, z.val.cell? ⟨w.heap.size, 3, none⟩ = some (.int .i64 x.at_) := fun z => z.cell (HB.out.cell 3)
  have q4 : ∀ z : BW W, z.val.cell? ⟨w.heap.size, 4, none⟩ = some (.int .i64 x.seq) := fun z => z.cell (HB.out.cell 4)
  refine BW.start (w := W) ?_
  intro z
  refine BW.call (z := z) (alive17 _ ((HT.out.next kB).next z.below)) ?_
  intro z0
  go_wp2_with fail
  refine BW.ownO (z := z0) (Ext.refl _) (refOuts l _ _ _ (Ext.refl _) ((HH.out.next kB).next z0.below)) ?_
  intro z1 vo hso _
  obtain ⟨A5, c5, rfl, -⟩ := id hso
  have HO := Lib.hid hso
  clear hso
  go_wp2_with fail
  refine BW.retO (z := z1) (Ext.refl _) (HC1.out W z1 _ kB HO.out) ?_
  intro z2 vx hsx hb2
  obtain ⟨A6, c6, rfl, -⟩ := id hsx
  have HX := Lib.hid hsx
  clear hsx
  go_wp2_with fail
  refine BW.retO (z := z2) (Ext.refl _) (HC2.out W z2 kB) ?_
  intro z3 vy hsy hb3
  obtain ⟨A7, c7, rfl, -⟩ := id hsy
  have HY := Lib.hid hsy
  clear hsy q0 q1 q2 q3 q4
  go_wp2_with fail
  refine BW.retO (z := z3) (Ext.refl _) (sessionClose n l _ _ _ (Ext.refl _) ((HO.out.next hb2).next hb3)) ?_
  rw [HR2.out]
  intro z4 vp hsp hb4
  obtain ⟨A8, c8, rfl, -⟩ := id hsp
  have HP := Lib.hid hsp
  clear hsp
  go_wp2_with fail
  refine BW.retO (z := z4) (Ext.refl _) (refClose n l _ _ _ (Ext.refl _) ((HH.out.next kB).next z4.below)) ?_
  rw [HR2.out]
  intro z5 vq hsq hb5
  obtain ⟨A9, c9, rfl, -⟩ := id hsq
  have HQ := Lib.hid hsq
  clear hsq
  go_wp2_with fail
  refine BW.retO (z := z5) (Ext.refl _) (sessionCut n l _ _ _ (Ext.refl _) ((((HO.out.next hb2).next hb3).next hb4).next hb5)) ?_
  rw [HR3.out]
  intro z6 vp hsp hb6
  obtain ⟨A10, c10, rfl, -⟩ := id hsp
  have HP2 := Lib.hid hsp
  clear hsp
  go_wp2_with fail
  refine BW.retO (z := z6) (Ext.refl _) (refCut n l _ _ _ (Ext.refl _) ((HH.out.next kB).next z6.below)) ?_
  rw [HR3.out]
  intro z7 vq hsq hb7
  obtain ⟨A11, c11, rfl, -⟩ := id hsq
  have HQ2 := Lib.hid hsq
  clear hsq
  have e1 : (r4 == r4) = true := by simp
  go_wp2_with fail
  refine BW.callO (z := z7) (refOutsSame rl _ _ _ (((((HX.out.next hb3).next hb4).next hb5).next hb6).next hb7) ((((HY.out.next hb4).next hb5).next hb6).next hb7)) rfl ?_
  intro z8 hb8
  go_wp2_with fail
  refine BW.callO (z := z8) (refOutsSame fl _ _ _ ((((HP.out.next hb5).next hb6).next hb7).next hb8) (((HQ.out.next hb6).next hb7).next hb8)) rfl ?_
  intro z9 hb9
  go_wp2_with fail
  refine BW.callO (z := z9) (refOutsSame gl _ _ _ (((HP2.out.next hb7).next hb8).next hb9) ((HQ2.out.next hb8).next hb9)) rfl ?_
  intro z10 hb10
  go_wp2_with fail
  have HO10 := Lib.hid (((((((((HO.out.next hb2).next hb3).next hb4).next hb5).next hb6).next hb7).next hb8).next hb9).next hb10)
  refine BW.callO (z := z10) (sessionFormedOuts l n _ _ HO10.out) (congrArg Value.bool HR4.out) ?_
  intro z11 hb11
  go_wp2_with fail
  refine BW.callO (z := z11) (refFormedOuts l n _ _ ((HH.out.next kB).next z11.below)) (congrArg Value.bool HR4.out) ?_
  intro z12 hb12
  go_wp2_with fail
  refine BW.callO (z := z12) (refOutsSame l _ _ _ ((HO10.out.next hb11).next hb12) ((HH.out.next kB).next z12.below)) rfl ?_
  intro z13 hb13
  go_wp2_with fail
  go_ret
  exact ⟨rfl, bnext kB z13.below⟩
end Go.Proofs.YtmdeokneablgaaaDoor
/- A world that holds math/bits.deBruijn64tab as it is laid; and what a row's list gives of it. -/
namespace Go.Proofs.YtmdeokneablgaaaDoor
open Go.ChangeShapes Go.WideShapes Go.ChangeAt Go.RowKit

def laying (cs : Array Value) : Obj → Obj
  | .cells _ t frozen => .cells cs t frozen
  | o => o
def tzCells : Array Value := #[.int .u8 0, .int .u8 1, .int .u8 56, .int .u8 2, .int .u8 57, .int .u8 49, .int .u8 28, .int .u8 3, .int .u8 61, .int .u8 58, .int .u8 42, .int .u8 50, .int .u8 38, .int .u8 29, .int .u8 17, .int .u8 4, .int .u8 62, .int .u8 47, .int .u8 59, .int .u8 36, .int .u8 45, .int .u8 43, .int .u8 51, .int .u8 22, .int .u8 53, .int .u8 39, .int .u8 33, .int .u8 30, .int .u8 24, .int .u8 18, .int .u8 12, .int .u8 5, .int .u8 63, .int .u8 55, .int .u8 48, .int .u8 27, .int .u8 60, .int .u8 41, .int .u8 37, .int .u8 16, .int .u8 46, .int .u8 35, .int .u8 44, .int .u8 21, .int .u8 52, .int .u8 32, .int .u8 23, .int .u8 11, .int .u8 54, .int .u8 26, .int .u8 40, .int .u8 15, .int .u8 34, .int .u8 20, .int .u8 31, .int .u8 10, .int .u8 25, .int .u8 14, .int .u8 19, .int .u8 9, .int .u8 13, .int .u8 8, .int .u8 7, .int .u8 6]
noncomputable def tzWorld (os : Os) : World :=
  { World.holding Tryd.prog os ⟨#[], #[], []⟩ with heap := (World.holding Tryd.prog os ⟨#[], #[], []⟩).heap.modify 0 (laying tzCells) }
theorem tzName : Tryd.prog.globalNamed "math/bits.deBruijn64tab" = some 0 := by kernel_rfl
theorem tzType : (Tryd.prog.globals[0]?).map (·.type) = some 110 := by kernel_rfl
theorem tz_of_laid {laid : List (String × DataW Unit)} {W : World} (e : (laid.filter fun x => x.1 == "math/bits.deBruijn64tab") = [("math/bits.deBruijn64tab", Lib.tabData .u8 (Lib.deBruijn64tab.map Int.ofNat))]) (h : laidMetH Tryd.prog laid W) : TzTab W := by
  have h1 := h.filter (fun x => x.1 == "math/bits.deBruijn64tab")
  rw [e] at h1
  have h2 := Lib.tabIs_of_head (rest := []) tzName tzType Tryd.underlying110 Tryd.underlying5 (by kernel_rfl) (by kernel_rfl) h1
  intro j hj
  have h3 := h2.cell tzName j (by simpa using hj)
  rw [h3]
  simp [List.getD, hj]
theorem small_part {H : Type} {l : List (DataW H)} (h : Rows.uptoSmall H l = true) : ∀ d, d ∈ l → Rows.uptoBulk d ≤ 1048576 := by
  have h2 : Rows.uptoBulkAll l ≤ 1048576 := of_decide_eq_true h
  intro d hd
  have := bulk_part hd
  omega
end Go.Proofs.YtmdeokneablgaaaDoor
namespace Go.Proofs.YtmdeokneablgaaaDoor
open Go.ChangeShapes Go.WideShapes Go.ChangeAt Go.RowKit

namespace cSessionOuts
set_option maxRecDepth 100000 in
theorem contract (H : Type) (enc : TypeId × Value → H) (W : World) (base : Nat) (args : Array Value) (ds gs : List (DataW H)) (before : List MemPlace)
    (hval : ∀ (j : Nat) t v, Tryd.f5.params[j]? = some t → args[j]? = some v → Value.okWide Tryd.prog W .any base t v)
    (hW : DataW.Whole enc Tryd.prog Tryd.f5.params.toList Rows.sessionOutsSpec.vars false W args.toList ds gs before) (hk : Rows.uptoSmall H (ds ++ gs) = true) (hL : laidMetH Tryd.prog Rows.sessionOutsRow.laid W) :
    Calls Tryd.prog 5 args W fun e W' => ∃ v, e = .returned v ∧ Rows.sessionOutsSpec.post enc Tryd.prog Tryd.f5 false true false false W args v W' := by
  have hW' := hW
  obtain ⟨p, q, hA0, hV, rfl, hfz, hnd⟩ := hW
  have hA : DataW.TrodAll enc Tryd.prog W 0 (fun _ => true) true Tryd.f5.params.toList args.toList ds p := hA0
  rw [Tryd.params5] at hA hval
  obtain ⟨v0, vs0, d0, ds0, p0, q0, hargs, rfl, rfl, h0, r0⟩ := trodAll_cons hA
  obtain ⟨v1, vs1, d1, ds1, p1, q1, rfl, rfl, rfl, h1, r1⟩ := trodAll_cons r0
  obtain ⟨v2, vs2, d2, ds2, p2, q2, rfl, rfl, rfl, h2, r2⟩ := trodAll_cons r1
  obtain ⟨rfl, rfl, rfl⟩ := trodAll_nil r2
  obtain rfl : args = #[v0, v1, v2] := by cases args; simp_all
  obtain ⟨rfl, rfl⟩ := trodVars_none hV
  have hpart := small_part hk
  obtain ⟨_, _, _, rfl⟩ := okWide_slice Tryd.underlying52 (hval 0 _ v0 rfl rfl)
  obtain ⟨n0, hn0⟩ := h0
  obtain ⟨_, l0, u0, hv0, hl0⟩ := opens_outs (w := W) H enc n0 _ _ ⟨hn0, hpart d0 (by simp)⟩
  simp only [Value.cells, List.cons.injEq, and_true] at hv0
  subst hv0
  obtain ⟨cs1, rfl, hs1⟩ := okWide_struct Tryd.underlying54 (hval 1 _ v1 rfl rfl)
  obtain ⟨n1, hn1⟩ := h1
  obtain ⟨_, x1, vi, e1, i1, i2, i3, i4, hs⟩ := opens_out (w := W) H enc n1 _ _ ⟨hn1, hpart d1 (by simp)⟩
  obtain rfl : cs1 = #[.int .i64 x1.to_, .int .i64 x1.session, vi, .int .i64 x1.at_, .int .i64 x1.seq] := Array.toList_inj.1 (by simpa only [Value.cells] using e1)
  obtain ⟨a2, rfl, rfl, rfl, w2⟩ := open_int Tryd.underlying3 (hval 2 _ v2 rfl rfl) h2
  have hT : TzTab W := tz_of_laid (by kernel_rfl) hL
  clear hA0
  refine (lawOuts x1 l0 a2 _ _ W hl0 hs i1 i2 i3 i4 hT).mono fun e W' ⟨he, hb⟩ => ?_
  subst he
  exact ⟨_, rfl, law_post laidOut (by kernel_rfl) (by kernel_rfl) Tryd.underlying4 rfl rfl rfl rfl hW' hb⟩

theorem laid_met (os : Os) : laidMet Tryd.prog Rows.sessionOutsRow.laid ((tzWorld os).forCall (fun _ _ => 0) ⟨#[], #[.slice none 0 0, .agg #[.int .i64 0, .int .i64 0, .slice none 0 0, .int .i64 0, .int .i64 0], .int .i64 0], []⟩).memory :=
  laidMet_of_run' 8 (by kernel_rfl) (by kernel_rfl)
theorem reads (os : Os) {H : Type} (enc : TypeId × Value → H) : ∃ places, DataW.whole enc Tryd.prog ((tzWorld os).forCall (fun _ _ => 0) ⟨#[], #[.slice none 0 0, .agg #[.int .i64 0, .int .i64 0, .slice none 0 0, .int .i64 0, .int .i64 0], .int .i64 0], []⟩).memory Tryd.f5.params.toList Rows.sessionOutsSpec.vars false (#[.slice none 0 0, .agg #[.int .i64 0, .int .i64 0, .slice none 0 0, .int .i64 0, .int .i64 0], .int .i64 0] : Array Value).toList 8 = some ([.nil, .agg [.lit (.int .i64 0), .lit (.int .i64 0), .nil, .lit (.int .i64 0), .lit (.int .i64 0)], .lit (.int .i64 0)], [], places) :=
  ⟨[], by kernel_rfl⟩

set_option maxRecDepth 100000 in
theorem lifted (os : Os) (started : os.Started) (H : Type) (enc : TypeId × Value → H) (F : Stop.Interp) :
    ReturnsInHanded {} Tryd.checked os 5 .any ((Rows.OpenSpec.upto Rows.sessionOutsSpec).preRow enc Tryd.prog Tryd.f5 Rows.sessionOutsUptoRow.domain false Rows.sessionOutsUptoRow.laid) (((Rows.OpenSpec.upto Rows.sessionOutsSpec).at F).post enc Tryd.prog Tryd.f5 false true false false) := by
  obtain ⟨places, hx⟩ := reads os enc
  refine returnsInHanded_of_row (C := Tryd.checked) (s := Rows.OpenSpec.upto Rows.sessionOutsSpec) own started (by kernel_rfl) Tryd.func5
    (witness_row_at (enc := enc) (C := Tryd.checked) false (tzWorld os) #[.slice none 0 0, .agg #[.int .i64 0, .int .i64 0, .slice none 0 0, .int .i64 0, .int .i64 0], .int .i64 0] rfl (by kernel_rfl) (by kernel_rfl) (by kernel_rfl)
      (OpenSpec.preRow_of_cond 8 hx (by kernel_rfl) (fun k hk => by cases hk; kernel_rfl) (by kernel_rfl) (laid_met os))) ?_
  intro W base args ds gs before hval hW _ hcond _ hL _ _
  exact contract H enc W base args ds gs before hval hW (hcond _ rfl) hL

theorem said : Rows.SessionOutsUptoSaid :=
  OpenClaim.holds_of_cond 5 Tryd.f5 rfl rfl rfl rfl rfl rfl rfl ⟨rfl, rfl, rfl, rfl, rfl⟩ rfl rfl rfl rfl rfl (by kernel_rfl) Tryd.func5 (by kernel_rfl)
    (of_decide_eq_true (by kernel_rfl)) (by unfold Func.isWrapper; first | (rw [if_pos (by decide +kernel)]; kernel_rfl) | (rw [if_neg (by decide +kernel)]; exact ⟨rfl, rfl⟩))
    (fun os started H enc _ F => by rw [OpenClaim.pre_eq_preRow]; exact lifted os started H enc F)

theorem plain (f : FuncId) (fn : Func) (hf : Tryd.pinned.checked.prog.funcNamed "telltale/telltalelaw17.SessionOuts" = some f) (hfn : Tryd.pinned.checked.prog.funcs[f]? = some fn) :
    false = Tryd.pinned.checked.prog.looks [] ∧ ∀ (j : Nat) t, fn.params[j]? = some t → Tryd.pinned.checked.prog.wantsStandIn t = false := by
  obtain rfl : f = 5 := Option.some.inj ((show Tryd.prog.funcNamed "telltale/telltalelaw17.SessionOuts" = some 5 by kernel_rfl).symm.trans hf) |>.symm
  obtain rfl : fn = Tryd.f5 := (Option.some.inj (Tryd.func5.symm.trans hfn)).symm
  refine ⟨by kernel_rfl, fun j t ht => ?_⟩
  rw [Tryd.params5] at ht
  have hm := Array.mem_of_getElem? ht
  simp at hm
  rcases hm with rfl | rfl | rfl
  · exact (show Tryd.prog.wantsStandIn 52 = false by kernel_rfl)
  · exact (show Tryd.prog.wantsStandIn 54 = false by kernel_rfl)
  · exact (show Tryd.prog.wantsStandIn 3 = false by kernel_rfl)

theorem card : Rows.SessionOutsUptoCardSaid :=
  Claim7.holds_tied_plain_at .later [] _ _ _ _ said (fun _ h => by cases h) (by kernel_rfl) (fun _ h => by cases h) sessionOutsUpto_row_tie rfl ⟨rfl, rfl⟩ (by kernel_rfl) rfl plain (by kernel_rfl)
#print axioms card
end cSessionOuts
end Go.Proofs.YtmdeokneablgaaaDoor
