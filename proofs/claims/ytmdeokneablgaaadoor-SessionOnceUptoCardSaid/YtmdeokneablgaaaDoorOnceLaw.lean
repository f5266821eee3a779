/- The law SessionOnce: walked. -/
import Derived.Test.YtmdeokneablgaaaDoorHearsLaw
namespace Go.Proofs.YtmdeokneablgaaaDoor
open Go.ChangeShapes Go.WideShapes Go.ChangeAt Go.RowKit

def onceSub (N : Int) (ns : List Note) (a : Nat) : Sub := ⟨2, [⟨0, 9⟩], N, a, decide (0 < a), decide (0 < a), decide (0 < a) && decide (ns.length = 0)⟩
def onceL (N : Int) (ns : List Note) (a : Nat) : List Sub := [⟨1, [⟨0, 9⟩], 4, 0, false, false, false⟩, onceSub N ns a]
def onceM (ns : List Note) (q s : Int) : Msg := ⟨3, 2, 7, s, q, [], [], ns, ⟨0, ⟨0, 0⟩, []⟩⟩
theorem once_want : wantB [⟨0, 9⟩] = true := by decide
theorem once_formed {N : Int} {ns : List Note} {a : Nat} (h0 : 0 ≤ N) (h1 : N < 4294967296) (ha : a ≤ 12) : subsFormed (onceL N ns a) = true := by
  simp [subsFormed, onceL, onceSub, subsFrom, once_want, nodeB, numB]
  omega
theorem once_msg {ns : List Note} {q s : Int} (hq : 0 ≤ q) (hs : 0 ≤ s) (hn : ns.length ≤ 8) (hf : ns.all noteFormed = true) : msgFormed (onceM ns q s) = true := by
  simp only [msgFormed, onceM, hf]
  simp [nodeB, bodyEmpty, hq, hs]
  omega
theorem once_hear {N : Int} {ns : List Note} {a : Nat} {q : Int} (h0 : 0 ≤ N) (h1 : N < 4294967296) (ha : a ≤ 12) (hq : 0 ≤ q) (hn : ns.length ≤ 8) (hf : ns.all noteFormed = true) :
    hearS (onceL N ns a) (onceM ns q N) = if q < a then ([], 13) else if (a : Int) < q then ([], 3) else (onceL N ns (a + 1), 0) := by
  have hok : hearOk (onceL N ns a) (onceM ns q N) = true := by
    simp only [hearOk, once_formed h0 h1 ha, once_msg hq h0 hn hf]
    rfl
  rw [hearS_at (i := 1) (x := onceSub N ns a) hok rfl (by simp [isSess, onceSub, onceM]) (fun k y hk hy => by
    obtain rfl : k = 0 := by omega
    simp only [onceL, List.getElem?_cons_zero, Option.some.injEq] at hy
    subst hy
    simp [isSess, onceM])]
  unfold hearAt
  simp only [show (onceM ns q N).seq = q from rfl, show (onceSub N ns a).seq = (a : Int) from rfl]
  by_cases g1 : q < a
  · rw [if_pos g1, if_pos g1]
  rw [if_neg g1, if_neg g1]
  by_cases g2 : (a : Int) < q
  · rw [if_pos g2, if_pos g2]
  rw [if_neg g2, if_neg g2]
  obtain rfl : q = a := by omega
  have e : nextN (a : Int) = ((a + 1 : Nat) : Int) := by unfold nextN; omega
  simp [onceL, onceSub, subHear, onceM, e]
theorem once_stale {N : Int} {ns : List Note} {a : Nat} {q : Int} (h0 : 0 ≤ N) (h1 : N < 4294967296) (ha : a ≤ 12) (hq : 0 ≤ q) (hn : ns.length ≤ 8) (hf : ns.all noteFormed = true) :
    hearS (onceL N ns a) (onceM ns q (N + 1)) = ([], 13) := by
  have hok : hearOk (onceL N ns a) (onceM ns q (N + 1)) = true := by
    simp only [hearOk, once_formed h0 h1 ha, once_msg hq (show 0 ≤ N + 1 by omega) hn hf]
    rfl
  refine hearS_none hok fun x hx => ?_
  simp only [onceL, List.mem_cons, List.not_mem_nil, or_false] at hx
  rcases hx with rfl | rfl
  · simp [isSess, onceM]
  · simp [isSess, onceM, onceSub]
    omega
theorem bytes_at {w : World} {B : Nat} {v : Value} {l : List Nat} (h : Bytes w B v l) {m : Nat} {x : Nat} (hx : l[m]? = some x) :
    ∃ b off c, v = .slice (some ⟨b, off, none⟩) l.length c ∧ b < B ∧ w.cell? ⟨b, off + m, none⟩ = some (.int .u8 x) ∧ x < 256 := by
  obtain ⟨A, c, rfl, _, _, h3⟩ := h
  obtain ⟨b, off, rfl, hb, h4⟩ := h3 (by rintro rfl; simp at hx)
  obtain ⟨cs, ⟨rfl, h5⟩, _, h6⟩ := h4 m x hx
  have := h6 0 _ rfl
  rw [Nat.mul_one] at this
  exact ⟨b, off, c, rfl, hb, this, h5⟩

set_option maxRecDepth 100000 in
set_option maxHeartbeats 6400000 in
theorem lawOnce (os : List Nat) (ns : List Note) (N : Int) (vo vn : Value) (w : World) (ho : Bytes w w.heap.size vo os) (hn : Notes w w.heap.size vn ns) (h0 : 0 ≤ N) (h1 : N < 4294967296) (hT : TzTab w) :
    Calls Tryd.prog 3 #[vo, vn, .int .u32 N] w fun e w' => e = .returned (.bool true) ∧ Below w.heap.size w w' := by
  have hlo := ho.len_le
  have hln := hn.len_le
  have HO := Lib.hid ho
  have HN := Lib.hid hn
  have iN : I64 N := I64.of (by omega) (by omega)
  have HT := Lib.hid hT
  obtain ⟨A, c, rfl, -⟩ := id ho
  obtain ⟨A3, c3, rfl, -⟩ := id hn
  clear ho hn hT
  go_enter Tryd.func3, Tryd.ntmps3
  go_wp2_with fail
  refine BW.call (z := BW.self w) (alive17 _ HT.out) ?_
  intro z
  by_cases hbig : ¬ (os.length ≤ 200 ∧ ns.length ≤ 8)
  · have hcs : (200 : Int) < (os.length : Int) ∨ ((os.length : Int) ≤ 200 ∧ (8 : Int) < (ns.length : Int)) := by omega
    rcases hcs with g | ⟨g, g'⟩
    all_goals
      go_wp2_with fail
      go_ret
      exact ⟨rfl, z.below⟩
  have hcs : (os.length : Int) ≤ 200 ∧ (ns.length : Int) ≤ 8 := by omega
  obtain ⟨g1, g2⟩ := hcs
  clear hbig
  go_wp2_with fail
  go_loopw [7] (fun i wr => ∃ (m : Nat) (z : BW w), m ≤ ns.length ∧ i = .int .i64 m ∧ (ns.take m).all noteFormed = true ∧ wr = z.val) (fun i _ => ns.length - (intOf i).toNat)
  case atStart => exact ⟨0, z, Nat.zero_le _, rfl, rfl, rfl⟩
  case round =>
    obtain ⟨m, z, hm, rfl, hv, rfl⟩ := hrel
    by_cases hlt : m < ns.length
    · obtain ⟨y, hy⟩ : ∃ y, ns[m]? = some y := ⟨ns[m], List.getElem?_eq_getElem hlt⟩
      obtain ⟨b, off, c', v0, v1, v2, v3, hv', hbb, e0, e1, e2, e3, hn⟩ := notes_at (HN.out.next z.below) hy
      injection hv' with hv1 hv2 hv3
      have HS := Lib.hid (take_snoc hy)
      subst hv1
      generalize hr : noteFormed y = r
      have HR := Lib.hid hr
      have HY := Lib.hid hv
      have HQ := Lib.hid hn
      clear hv hv2 hv3 hr hy hn
      go_wp2_with fail
      refine BW.callR (z := z) (refNoteFormed y _ _ _ _ _ HQ.out) (congrArg Value.bool HR.out) ?_
      intro z1
      cases r
      · go_wp2_with fail
        go_ret
        exact ⟨rfl, z1.below⟩
      · go_wp2_with fail
        refine ⟨⟨m + 1, z1, by omega, by go_num, ?_, rfl⟩, by simp [intOf]; omega⟩
        rw [HS.out, List.all_append, HY.out, List.all_cons, HR.out]; rfl
    · obtain rfl : m = ns.length := by omega
      rw [List.take_length] at hv
      have HF := Lib.hid hv
      clear hv
      go_wp2_with fail
      have hs1 : Spans _ _ _ [⟨0, 9⟩] := ((OwnSl.of_blk (R := SpanR) (k := 2) (l := [⟨0, 9⟩]) (Blk.new z.val 33 #[.int .i64 0, .int .i64 9]) (Chunks.one rfl ⟨rfl, i64_lit rfl, i64_lit rfl⟩) (by simp)).sl)
      have hs2 : Spans _ _ _ [⟨0, 9⟩] := ((OwnSl.of_blk (R := SpanR) (k := 2) (l := [⟨0, 9⟩]) (Blk.new (z.val.alloc (.cells #[.int .i64 0, .int .i64 9] 33)) 33 #[.int .i64 0, .int .i64 9]) (Chunks.one rfl ⟨rfl, i64_lit rfl, i64_lit rfl⟩) (by simp)).sl)
      have hz1 : (z.val.alloc (.cells #[.int .i64 0, .int .i64 9] 33)).heap.size = z.val.heap.size + 1 := by simp
      have hz2 : ((z.val.alloc (.cells #[.int .i64 0, .int .i64 9] 33)).alloc (.cells #[.int .i64 0, .int .i64 9] 33)).heap.size = z.val.heap.size + 1 + 1 := by simp
      have hsu : Subs _ _ _ (onceL N ns 0) := ((OwnSl.of_blk (R := SubR _ _) (k := 7) (l := onceL N ns 0) (Blk.new ((z.val.alloc (.cells #[.int .i64 0, .int .i64 9] 33)).alloc (.cells #[.int .i64 0, .int .i64 9] 33)) 35 #[.int .i64 1, .slice (some ⟨z.val.heap.size, 0, none⟩) 1 1, .int .i64 4, .int .i64 0, .bool false, .bool false, .bool false, .int .i64 2, .slice (some ⟨z.val.heap.size + 1, 0, none⟩) 1 1, .int .i64 N, .int .i64 0, .bool false, .bool false, .bool false])
        ⟨[.int .i64 1, .slice (some ⟨z.val.heap.size, 0, none⟩) 1 1, .int .i64 4, .int .i64 0, .bool false, .bool false, .bool false], [.int .i64 2, .slice (some ⟨z.val.heap.size + 1, 0, none⟩) 1 1, .int .i64 N, .int .i64 0, .bool false, .bool false, .bool false], rfl, rfl,
          ⟨_, rfl, i64_lit rfl, i64_lit rfl, i64_lit rfl, (hs1.next (balloc (Below.refl _ _))).next (balloc (Below.refl _ _))⟩,
          Chunks.one rfl ⟨_, rfl, i64_lit rfl, iN, i64_lit rfl, by rw [hz1] at hs2; exact hs2.next (balloc (Below.refl _ _))⟩⟩ (by simp [onceL])).sl)
      rw [hz2] at hsu
      have hb0 : Below w.heap.size w (((z.val.alloc (.cells #[.int .i64 0, .int .i64 9] 33)).alloc (.cells #[.int .i64 0, .int .i64 9] 33)).alloc (.cells #[.int .i64 1, .slice (some ⟨z.val.heap.size, 0, none⟩) 1 1, .int .i64 4, .int .i64 0, .bool false, .bool false, .bool false, .int .i64 2, .slice (some ⟨z.val.heap.size + 1, 0, none⟩) 1 1, .int .i64 N, .int .i64 0, .bool false, .bool false, .bool false] 35)) := balloc (balloc (balloc z.below))
      have HSU := Lib.hid hsu
      clear hsu hs1 hs2 hz1 hz2
      go_loopw [8, 9, 10] (fun lv a i wr => ∃ (j t : Nat) (V : World), j ≤ os.length ∧ i = .int .i64 j ∧ a = .int .i64 t ∧ t ≤ 12 ∧ Ext V wr ∧ Subs V V.heap.size lv (onceL N ns t) ∧ Below w.heap.size w wr) (fun _ _ i _ => os.length - (intOf i).toNat)
      case atStart => exact ⟨0, 0, _, Nat.zero_le _, rfl, rfl, by omega, Ext.refl _, HSU.out, hb0⟩
      case round =>
        clear hb0 HSU
        obtain ⟨j, t, V, hj, rfl, rfl, ht, hV, hsu, hb⟩ := hrel
        by_cases hlt : j < os.length
        · obtain ⟨x, hx⟩ : ∃ x, os[j]? = some x := ⟨os[j], List.getElem?_eq_getElem hlt⟩
          obtain ⟨b, off, _, hv, hbb, e0, hx2⟩ := bytes_at (HO.out.next hb) hx
          injection hv with hv1 hv2 hv3
          subst hv1
          obtain ⟨A5, c5, hv5, -⟩ := id hsu
          replace hv5 : _ = Value.slice A5 2 c5 := hv5
          subst hv5
          have hq1 : (0 : Int) ≤ (x : Int) % 12 := by omega
          have hq2 : (x : Int) % 12 ≤ 11 := by omega
          have hxx : (0 : Int) ≤ (x : Int) := by omega
          have hxy : (x : Int) < 256 := by omega
          generalize hqq : (x : Int) % 12 = q at hq1 hq2
          have HQQ := Lib.hid hqq
          have HSU := Lib.hid hsu
          have hml : ns.length ≤ 8 := by omega
          have H1 := Lib.hid (once_hear (a := t) (q := q) h0 h1 ht hq1 hml HF.out)
          have H2 := Lib.hid (once_stale (a := t) (q := q) h0 h1 ht hq1 hml HF.out)
          have HVz := Lib.hid hV.size
          clear hv2 hv3 hx hqq hsu hml
          go_wp2_with fail
          rw [HQQ.out]
          have kB := balloc (o := .cells #[.int .i64 3, .int .i64 2, .int .i64 7, .int .i64 N, .int .i64 q, .slice none 0 0, .slice none 0 0, .slice A3 ns.length c3, .int .i64 0, .int .i64 0, .int .i64 0, .slice none 0 0] 42) (Below.refl _ wr)
          have B := Blk.new wr 42 #[.int .i64 3, .int .i64 2, .int .i64 7, .int .i64 N, .int .i64 q, .slice none 0 0, .slice none 0 0, .slice A3 ns.length c3, .int .i64 0, .int .i64 0, .int .i64 0, .slice none 0 0]
          have hlt0 : wr.heap.size < (wr.alloc (.cells #[.int .i64 3, .int .i64 2, .int .i64 7, .int .i64 N, .int .i64 q, .slice none 0 0, .slice none 0 0, .slice A3 ns.length c3, .int .i64 0, .int .i64 0, .int .i64 0, .slice none 0 0] 42)).heap.size := by simp
          generalize hW : wr.alloc _ = W at *
          have HB := Lib.hid B
          clear hW B
          have hVW := hV.trans (Ext.of_below kB)
          refine (sessionHear (onceM ns q N) (onceL N ns t) _ _ _ _ _ V W hVW HSU.out ⟨i64_lit rfl, i64_lit rfl, i64_lit rfl, iN, I64.of (by show _ ≤ q; omega) (by show q ≤ _; omega), i64_lit rfl⟩ ⟨Sl.nil_ (by unfold maxLen; omega) _, Sl.nil_ (by unfold maxLen; omega) _, (HN.out.next hb).next kB, Sl.nil_ (by unfold maxLen; omega) _⟩ ((HT.out.next hb).next kB)).mono ?_
          rw [H1.out]
          rintro e w1 ⟨v1, rfl, hr1, hb1⟩
          have hV1 := mix_ext_w hVW hb1
          have hid1 : ∀ q u, (mixW V W w1).cell? q = some u → q.block ≠ wr.heap.size := mix_hides hV.size hlt0
          have hVV := mix_ext_v hVW hb1.size
          generalize mixW V W w1 = V1 at hr1 hV1 hid1 hVV
          have B1 := HB.out.next hb1
          have f0 := B1.cell 0
          have f1 := B1.cell 1
          have f2 := B1.cell 2
          have f3 := B1.cell 3
          have f4 := B1.cell 4
          have f5 := B1.cell 5
          have f6 := B1.cell 6
          have f7 := B1.cell 7
          have f8 := B1.cell 8
          have f9 := B1.cell 9
          have f10 := B1.cell 10
          have f11 := B1.cell 11
          have fz := B1.frozen 3
          simp only [List.getElem?_toArray, List.getElem?_cons_zero, List.getElem?_cons_succ] at f0 f1 f2 f3 f4 f5 f6 f7 f8 f9 f10 f11
          have hbW := bset (u := .int .i64 (N + 1)) (p := ⟨wr.heap.size, 3, none⟩) (bnext kB hb1) (Nat.le_refl _)
          have hVS : Ext V (w1.setCell ⟨wr.heap.size, 3, none⟩ (.int .i64 (N + 1))) := hide_set (hVV.trans hV1) (fun p u hp => by
            have := World.block_lt_of_cell? V p hp
            have := HVz.out
            show p.block ≠ wr.heap.size
            omega) _
          have hV1S : Ext V1 (w1.setCell ⟨wr.heap.size, 3, none⟩ (.int .i64 (N + 1))) := hide_set hV1 hid1 _
          have HC := Lib.hid (sessionHear (onceM ns q (N + 1)) (onceL N ns t) _ _ _ _ _ V (w1.setCell ⟨wr.heap.size, 3, none⟩ (.int .i64 (N + 1))) hVS HSU.out ⟨i64_lit rfl, i64_lit rfl, i64_lit rfl, I64.of (by show _ ≤ N + 1; omega) (by show N + 1 ≤ _; omega), I64.of (by show _ ≤ q; omega) (by show q ≤ _; omega), i64_lit rfl⟩ ⟨Sl.nil_ (c := 0) (by unfold maxLen; omega) none, Sl.nil_ (c := 0) (by unfold maxLen; omega) none, (HN.out.next hb).next hbW, Sl.nil_ (c := 0) (by unfold maxLen; omega) none⟩ ((HT.out.next hb).next hbW))
          rw [H2.out] at HC
          unfold msgCells onceM at HC
          dsimp only at HC
          clear B1 HQQ hbW
          by_cases g1 : q < t
          · rw [if_pos g1] at hr1
            obtain ⟨A6, c6, hv6, -⟩ := id hr1
            replace hv6 : v1 = Value.slice A6 0 c6 := hv6
            subst hv6
            have HR1 := Lib.hid hr1
            have g2 : (q == (t : Int)) = false := by simp; omega
            clear hr1
            go_wp2_with fail
            refine HC.out.mono ?_
            rintro e w3 ⟨v3, rfl, hr3, hb3⟩
            have hb4 := bnext hb (bnext (bset (u := .int .i64 (N + 1)) (p := ⟨wr.heap.size, 3, none⟩) (bnext kB hb1) (Nat.le_refl _)) hb3)
            have hVS3 := hVS.trans (Ext.of_below hb3)
            have hV1S3 := hV1S.trans (Ext.of_below hb3)
            clear f0 f1 f2 f3 f4 f5 f6 f7 f8 f9 f10 f11 fz HC
            obtain ⟨A7, c7, rfl, -⟩ := id hr3
            have HR3 := Lib.hid hr3
            clear hr3
            go_wp2_with fail
            refine ⟨⟨j + 1, t, V, by omega, by go_num, rfl, ht, hVS3, HSU.out, hb4⟩, by simp [intOf]; omega⟩
          by_cases g2 : (t : Int) < q
          · rw [if_neg g1, if_pos g2] at hr1
            obtain ⟨A6, c6, hv6, -⟩ := id hr1
            replace hv6 : v1 = Value.slice A6 0 c6 := hv6
            subst hv6
            have HR1 := Lib.hid hr1
            have g3 : (q == (t : Int)) = false := by simp; omega
            clear hr1
            go_wp2_with fail
            refine HC.out.mono ?_
            rintro e w3 ⟨v3, rfl, hr3, hb3⟩
            have hb4 := bnext hb (bnext (bset (u := .int .i64 (N + 1)) (p := ⟨wr.heap.size, 3, none⟩) (bnext kB hb1) (Nat.le_refl _)) hb3)
            have hVS3 := hVS.trans (Ext.of_below hb3)
            have hV1S3 := hV1S.trans (Ext.of_below hb3)
            clear f0 f1 f2 f3 f4 f5 f6 f7 f8 f9 f10 f11 fz HC
            obtain ⟨A7, c7, rfl, -⟩ := id hr3
            have HR3 := Lib.hid hr3
            clear hr3
            go_wp2_with fail
            refine ⟨⟨j + 1, t, V, by omega, by go_num, rfl, ht, hVS3, HSU.out, hb4⟩, by simp [intOf]; omega⟩
          · rw [if_neg g1, if_neg g2] at hr1
            obtain ⟨A6, c6, hv6, -⟩ := id hr1
            replace hv6 : v1 = Value.slice A6 2 c6 := hv6
            subst hv6
            have HR1 := Lib.hid hr1
            obtain rfl : q = t := by omega
            have ht12 : t + 1 ≤ 12 := by omega
            clear hr1 g1 g2
            go_wp2_with fail
            refine HC.out.mono ?_
            rintro e w3 ⟨v3, rfl, hr3, hb3⟩
            have hb4 := bnext hb (bnext (bset (u := .int .i64 (N + 1)) (p := ⟨wr.heap.size, 3, none⟩) (bnext kB hb1) (Nat.le_refl _)) hb3)
            have hVS3 := hVS.trans (Ext.of_below hb3)
            have hV1S3 := hV1S.trans (Ext.of_below hb3)
            clear f0 f1 f2 f3 f4 f5 f6 f7 f8 f9 f10 f11 fz HC
            obtain ⟨A7, c7, rfl, -⟩ := id hr3
            have HR3 := Lib.hid hr3
            clear hr3
            go_wp2_with fail
            refine ⟨⟨j + 1, t + 1, V1, by omega, by go_num, by go_num, ht12, hV1S3, HR1.out, hb4⟩, by simp [intOf]; omega⟩
        · obtain rfl : j = os.length := by omega
          have hs1 := subs_at (Subs.ext hsu hV) (m := 1) (x := onceSub N ns t) rfl
          have hs0 := subs_at (Subs.ext hsu hV) (m := 0) (x := ⟨1, [⟨0, 9⟩], 4, 0, false, false, false⟩) rfl
          obtain ⟨b, off, cc, vi, hv5, hbb, e0, e1, e2, e3, e4, e5, e6, -⟩ := hs1
          obtain ⟨b', off', cc', vi', hv5', hbb', e0', e1', e2', e3', e4', e5', e6', -⟩ := hs0
          rw [hv5] at hv5'
          injection hv5' with h1 h2 h3
          injection h1 with h1
          injection h1 with h4 h5
          subst h4 h5 h3
          replace hv5 : _ = Value.slice (some ⟨b, off, none⟩) 2 cc := hv5
          subst hv5
          simp only [onceSub, Nat.zero_mul, Nat.add_zero, Nat.one_mul] at e0 e1 e2 e3 e4 e5 e6 e0' e1' e2' e3' e4' e5' e6'
          clear hsu h2
          go_wp2_with fail
          go_ret
          exact ⟨rfl, hb⟩
end Go.Proofs.YtmdeokneablgaaaDoor
