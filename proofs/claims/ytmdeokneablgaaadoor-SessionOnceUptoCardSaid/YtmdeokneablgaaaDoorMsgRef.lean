/- Contract of the reference's test whether a message is formed. -/
import Derived.Test.YtmdeokneablgaaaDoorMsgSpec
import Derived.Test.YtmdeokneablgaaaDoorNoteRef
namespace Go.Proofs.YtmdeokneablgaaaDoor
open Go.ChangeShapes Go.WideShapes Go.ChangeAt Go.RowKit

theorem refEmpty (o c n : Int) (A : Option Addr) (k cp : Nat) (w : World) :
    Calls Tryd.prog 61 #[.agg #[.int .i64 o, .int .i64 c, .int .i64 n, .slice A k cp]] w fun e w' => e = .returned (.bool (decide (c = 0 ∧ n = 0) && decide (k = 0))) ∧ Below w.heap.size w w' := by
  go_enter Tryd.func61, Tryd.ntmps61
  go_wp2_with fail
  all_goals (go_ret; exact ⟨ret_bool (Bool.eq_iff_iff.2 (by simp [*] <;> omega)), balloc (Below.refl _ _)⟩)
theorem refBodyRight (o c n : Int) (A : Option Addr) (k cp : Nat) (w : World) (hk : k ≤ 1073741824) :
    Calls Tryd.prog 62 #[.agg #[.int .i64 o, .int .i64 c, .int .i64 n, .slice A k cp]] w fun e w' => e = .returned (.bool (decide (0 ≤ o ∧ o ≤ 255) && rightB c n && decide (k ≤ 256))) ∧ Below w.heap.size w w' := by
  generalize hr : rightB c n = r
  have HR := Lib.hid hr
  clear hr
  by_cases ho : 0 ≤ o ∧ o ≤ 255
  · rw [decide_eq_true ho]
    obtain ⟨h1, h2⟩ := ho
    go_enter Tryd.func62, Tryd.ntmps62
    go_wp2_with fail
    have kB := balloc (o := .cells #[.int .i64 o, .int .i64 c, .int .i64 n, .slice A k cp] 40) (Below.refl _ w)
    have B := Blk.new w 40 #[.int .i64 o, .int .i64 c, .int .i64 n, .slice A k cp]
    generalize hW : w.alloc _ = W at *
    have B3 := Lib.hid (B.cell 3)
    have q3 : ∀ z : BW W, z.val.cell? ⟨w.heap.size, 3, none⟩ = some (.slice A k cp) := fun z => z.cell B3.out
    clear hW B
    refine BW.start (w := W) ?_
    intro z
    refine BW.callR (z := z) (refRight _ _ _) (congrArg Value.bool HR.out) ?_
    clear z
    intro z
    cases r
    · go_wp2_with fail
      go_ret
      exact ⟨rfl, bnext kB z.below⟩
    · go_wp2_with fail
      go_ret
      exact ⟨ret_bool (Bool.eq_iff_iff.2 (by simp <;> omega)), bnext kB z.below⟩
  · rw [decide_eq_false ho]
    go_enter Tryd.func62, Tryd.ntmps62
    go_wp2_with fail
    all_goals first | (go_ret; exact ⟨ret_bool (Bool.eq_iff_iff.2 (by simp <;> omega)), balloc (Below.refl _ _)⟩) | (exfalso; simp at *; omega)

set_option maxRecDepth 100000 in
set_option maxHeartbeats 3200000 in
theorem refMsgFormed (x : Msg) (vi vv vn vb : Value) (w : World) (hI : MsgI x) (h : MsgV w w.heap.size vi vv vn vb x) :
    Calls Tryd.prog 35 #[.agg (msgCells vi vv vn vb x)] w fun e w' => e = .returned (.bool (msgFormed x)) ∧ Below w.heap.size w w' := by
  have hl1 := h.interest.len_le
  have hl2 := h.vector.len_le
  have hl3 := h.notes.len_le
  have hl4 := h.value.len_le
  obtain ⟨A1, c1, rfl, -⟩ := id h.interest
  obtain ⟨A2, c2, rfl, -⟩ := id h.vector
  obtain ⟨A3, c3, rfl, -⟩ := id h.notes
  obtain ⟨A4, c4, rfl, -⟩ := id h.value
  have HH := Lib.hid h
  clear h
  obtain ⟨kd, fr, tt, se, sq, li, lv, ln, ⟨bo, ⟨bc, bn⟩, lb⟩⟩ := x
  dsimp only [msgCells] at *
  unfold msgFormed
  dsimp only
  generalize hv : (nodeB fr && nodeB tt && _ : Bool) = V
  unfold msgRest bodyFormed bodyEmpty at hv
  dsimp only at hv
  generalize hn1 : li.length = n1 at *
  generalize hn2 : lv.length = n2 at *
  generalize hn3 : ln.length = n3 at *
  generalize hn4 : lb.length = n4 at *
  have HV := Lib.hid hv
  have HN1 := Lib.hid hn1
  have HN2 := Lib.hid hn2
  have HN3 := Lib.hid hn3
  clear hv hn1 hn2 hn3 hn4 hI
  by_cases hbase : (0 ≤ fr ∧ fr ≤ 63) ∧ (0 ≤ tt ∧ tt ≤ 63) ∧ 0 ≤ se ∧ 0 ≤ sq ∧ n3 ≤ 257
  · obtain ⟨⟨p1, p2⟩, ⟨p3, p4⟩, p5, p6, p7⟩ := hbase
    have hV2 := HV.out
    rw [show nodeB fr = true from decide_eq_true (by omega), show nodeB tt = true from decide_eq_true (by omega), Bool.true_and, Bool.true_and] at hV2
    generalize he : (decide (bc = 0 ∧ bn = 0) && decide (n4 = 0)) = em at hV2
    have HEm := Lib.hid he
    have HW := Lib.hid hV2
    clear HV hV2 he
    go_enter Tryd.func35, Tryd.ntmps35
    go_upto_region 3 with fail
    have kB := balloc (o := .cells #[.int .i64 kd, .int .i64 fr, .int .i64 tt, .int .i64 se, .int .i64 sq, .slice A1 n1 c1, .slice A2 n2 c2, .slice A3 n3 c3, .int .i64 bo, .int .i64 bc, .int .i64 bn, .slice A4 n4 c4] 42) (Below.refl _ w)
    have B := Blk.new w 42 #[.int .i64 kd, .int .i64 fr, .int .i64 tt, .int .i64 se, .int .i64 sq, .slice A1 n1 c1, .slice A2 n2 c2, .slice A3 n3 c3, .int .i64 bo, .int .i64 bc, .int .i64 bn, .slice A4 n4 c4]
    generalize hW : w.alloc _ = W at *
    have HB := Lib.hid B
    clear hW B
    have q0 : ∀ z : BW W, z.val.cell? ⟨w.heap.size, 0, none⟩ = some (.int .i64 kd) := fun z => z.cell (HB.out.cell 0)
    have q3 : ∀ z : BW W, z.val.cell? ⟨w.heap.size, 3, none⟩ = some (.int .i64 se) := fun z => z.cell (HB.out.cell 3)
    have q4 : ∀ z : BW W, z.val.cell? ⟨w.heap.size, 4, none⟩ = some (.int .i64 sq) := fun z => z.cell (HB.out.cell 4)
    have q5 : ∀ z : BW W, z.val.cell? ⟨w.heap.size, 5, none⟩ = some (.slice A1 n1 c1) := fun z => z.cell (HB.out.cell 5)
    have q6 : ∀ z : BW W, z.val.cell? ⟨w.heap.size, 6, none⟩ = some (.slice A2 n2 c2) := fun z => z.cell (HB.out.cell 6)
    have q7 : ∀ z : BW W, z.val.cell? ⟨w.heap.size, 7, none⟩ = some (.slice A3 n3 c3) := fun z => z.cell (HB.out.cell 7)
    have q8 : ∀ z : BW W, z.val.cell? ⟨w.heap.size, 8, none⟩ = some (.int .i64 bo) := fun z => z.cell (HB.out.cell 8)
    have q9 : ∀ z : BW W, z.val.cell? ⟨w.heap.size, 9, none⟩ = some (.int .i64 bc) := fun z => z.cell (HB.out.cell 9)
    have q10 : ∀ z : BW W, z.val.cell? ⟨w.heap.size, 10, none⟩ = some (.int .i64 bn) := fun z => z.cell (HB.out.cell 10)
    have q11 : ∀ z : BW W, z.val.cell? ⟨w.heap.size, 11, none⟩ = some (.slice A4 n4 c4) := fun z => z.cell (HB.out.cell 11)
    refine BW.rebase W ?_
    intro z
    generalize hb1 : ((n1 : Int) == 0) = b1
    generalize hb2 : ((n2 : Int) == 0) = b2
    generalize hb3 : ((n3 : Int) == 0) = b3
    generalize hb4 : (se == 0) = b4
    generalize hb5 : (sq == 0) = b5
    generalize hb6 : (bo == 0) = b6
    have HB1 := Lib.hid hb1
    have HB2 := Lib.hid hb2
    have HB3 := Lib.hid hb3
    have HB4 := Lib.hid hb4
    have HB5 := Lib.hid hb5
    have HB6 := Lib.hid hb6
    clear hb1 hb2 hb3 hb4 hb5 hb6
    go_cut [3] (fun s wx => s = .bool (b1 && b2) ∧ wx = z.val)
    case first =>
      have e1 := HB1.out
      have e2 := HB2.out
      cases b1
      · go_wp2_with fail; go_meet; exact ⟨rfl, rfl⟩
      · cases b2
        all_goals (go_wp2_with fail; go_meet; exact ⟨rfl, rfl⟩)
    case rest =>
      obtain ⟨rfl, rfl⟩ := hcut
      go_upto_region 4 with fail
      go_cut [4] (fun s wx => s = .bool (b4 && b5 && b3) ∧ wx = z.val)
      case first =>
        have e1 := HB4.out
        have e2 := HB5.out
        have e3 := HB3.out
        cases b4
        · go_wp2_with fail; go_meet; exact ⟨rfl, rfl⟩
        · cases b5
          · go_wp2_with fail; go_meet; exact ⟨rfl, rfl⟩
          · cases b3
            all_goals (go_wp2_with fail; go_meet; exact ⟨rfl, rfl⟩)
      case rest =>
        obtain ⟨rfl, rfl⟩ := hcut
        go_upto_region 5 with fail
        go_cut [5] (fun s wx => s = .bool (b6 && em) ∧ ∃ z : BW W, wx = z.val)
        case first =>
          have e1 := HB6.out
          cases b6
          · go_wp2_with fail
            go_meet
            exact ⟨rfl, z, rfl⟩
          · go_wp2_with fail
            refine BW.callR (z := z) (refEmpty _ _ _ _ _ _ _) (congrArg Value.bool HEm.out) ?_
            clear z
            intro z
            go_wp2_with fail
            go_meet
            exact ⟨rfl, z, rfl⟩
        case rest =>
          clear z
          obtain ⟨rfl, z, rfl⟩ := hcut
          by_cases k1 : kd = 1
          · subst k1
            generalize hs1 : spanFormed li = sf at HW
            generalize hs2 : vecFormed lv = vf at HW
            have HS1 := Lib.hid hs1
            have HS2 := Lib.hid hs2
            have HX := Lib.hid (show V = (b5 && b3 && (b6 && em) && decide (0 < n1) && sf && vf) by
              rw [← HW.out, ← HB5.out, ← HB3.out, ← HB6.out, Bool.eq_iff_iff]
              cases em <;> cases sf <;> cases vf <;> simp <;> omega)
            clear HW hs1 hs2
            generalize (b6 && em) = N at HX ⊢
            have e5 := HB5.out
            have e3 := HB3.out
            cases b5
            · go_wp2_with fail
              go_ret
              exact ⟨ret_bool (by rw [HX.out]; simp), bnext kB z.below⟩
            cases b3
            · go_wp2_with fail
              go_ret
              exact ⟨ret_bool (by rw [HX.out]; simp), bnext kB z.below⟩
            cases N
            · go_wp2_with fail
              go_ret
              exact ⟨ret_bool (by rw [HX.out]; simp), bnext kB z.below⟩
            by_cases g1 : 0 < n1
            · have HY := Lib.hid (show V = (sf && vf) by rw [HX.out, decide_eq_true g1]; simp)
              clear HX
              have g2 : (0 : Int) < (n1 : Int) := by omega
              go_wp2_with fail
              refine BW.callR (z := z) (refSpanFormed li _ _ ((HH.out.next kB).next z.below).interest) (congrArg Value.bool HS1.out) ?_
              clear z
              intro z
              cases sf
              · go_wp2_with fail
                go_ret
                exact ⟨ret_bool (by rw [HY.out]; simp), bnext kB z.below⟩
              go_wp2_with fail
              refine BW.callR (z := z) (refVectorFormed lv _ _ ((HH.out.next kB).next z.below).vector) (congrArg Value.bool HS2.out) ?_
              clear z
              intro z
              go_wp2_with fail
              go_ret
              exact ⟨ret_bool (by rw [HY.out]; simp), bnext kB z.below⟩
            · have HY := Lib.hid (show V = false by rw [HX.out, decide_eq_false g1]; simp)
              clear HX
              have g2 : (n1 : Int) ≤ 0 := by omega
              go_wp2_with fail
              go_ret
              exact ⟨ret_bool (by rw [HY.out]), bnext kB z.below⟩
          have k1' : (kd == 1) = false := by simpa using k1
          by_cases k2 : kd = 2
          · subst k2
            have HX := Lib.hid (show V = ((b1 && b2) && (b4 && b5 && b3) && (b6 && em)) by
              rw [← HW.out, ← HB1.out, ← HB2.out, ← HB4.out, ← HB5.out, ← HB3.out, ← HB6.out, Bool.eq_iff_iff]
              cases em <;> simp <;> omega)
            clear HW
            generalize (b6 && em) = N at HX ⊢
            generalize (b1 && b2) = S at HX ⊢
            generalize (b4 && b5 && b3) = R at HX ⊢
            cases S
            · go_wp2_with fail
              go_ret
              exact ⟨ret_bool (by rw [HX.out]; simp), bnext kB z.below⟩
            cases R
            · go_wp2_with fail
              go_ret
              exact ⟨ret_bool (by rw [HX.out]; simp), bnext kB z.below⟩
            go_wp2_with fail
            go_ret
            exact ⟨ret_bool (by rw [HX.out]; simp), bnext kB z.below⟩
          have k2' : (kd == 2) = false := by simpa using k2
          by_cases k3 : kd = 3
          · subst k3
            generalize hs1 : ln.all noteFormed = nf at HW
            have HS1 := Lib.hid hs1
            have HX := Lib.hid (show V = ((b1 && b2) && (b6 && em) && nf) by
              rw [← HW.out, ← HB1.out, ← HB2.out, ← HB6.out, Bool.eq_iff_iff]
              cases em <;> cases nf <;> simp <;> omega)
            clear HW hs1
            generalize (b6 && em) = N at HX ⊢
            generalize (b1 && b2) = S at HX ⊢
            go_wp2_with fail
            go_loopw [6] (fun i wr => ∃ (m : Nat) (z : BW W), m ≤ n3 ∧ i = .int .i64 m ∧ nf = (ln.drop m).all noteFormed ∧ wr = z.val) (fun i _ => n3 - (intOf i).toNat)
            case atStart => exact ⟨0, z, Nat.zero_le _, rfl, HS1.out.symm, rfl⟩
            case round =>
              clear z
              obtain ⟨m, z, hm, rfl, hv, rfl⟩ := hrel
              by_cases hlt : m < n3
              · obtain ⟨y, hy⟩ : ∃ y, ln[m]? = some y := ⟨ln[m]'(by rw [HN3.out]; exact hlt), List.getElem?_eq_getElem (by rw [HN3.out]; exact hlt)⟩
                obtain ⟨b, off, c', v0, v1, v2, v3, hv', hbb, e0, e1, e2, e3, hn⟩ := notes_at (HH.out.next kB).notes hy
                rw [HN3.out] at hv'
                injection hv' with hv1 hv2 hv3
                rw [drop_cons hy, List.all_cons] at hv
                subst hv1
                replace e0 := z.cell e0
                replace e1 := z.cell e1
                replace e2 := z.cell e2
                replace e3 := z.cell e3
                generalize hr : noteFormed y = r at hv
                have HR := Lib.hid hr
                have HY := Lib.hid hv
                have HQ := Lib.hid hn
                clear hv hv2 hv3 hr hy hn
                go_wp2_with fail
                refine BW.callR (z := z) (refNoteFormed y _ _ _ _ _ (HQ.out.next z.below)) (congrArg Value.bool HR.out) ?_
                clear e0 e1 e2 e3 z
                intro z
                cases r
                · go_wp2_with fail
                  go_ret
                  exact ⟨ret_bool (by rw [HX.out, HY.out]; simp), bnext kB z.below⟩
                · go_wp2_with fail
                  refine ⟨⟨m + 1, z, by omega, by go_num, ?_, rfl⟩, by simp [intOf]; omega⟩
                  rw [HY.out]; rfl
              · obtain rfl : m = n3 := by omega
                have HY := Lib.hid (show V = (S && N) by rw [HX.out, hv, List.drop_of_length_le (by rw [HN3.out]; exact Nat.le_refl _)]; simp)
                clear hv
                cases S
                all_goals
                  go_wp2_with fail
                  go_ret
                  exact ⟨ret_bool (by rw [HY.out]; simp), bnext kB z.below⟩
          have k3' : (kd == 3) = false := by simpa using k3
          by_cases k4 : kd = 4
          · subst k4
            have HX := Lib.hid (show V = ((b1 && b2) && (b4 && b5 && b3) && decide (0 ≤ bo ∧ bo ≤ 255) && em) by
              rw [← HW.out, ← HB1.out, ← HB2.out, ← HB4.out, ← HB5.out, ← HB3.out, Bool.eq_iff_iff]
              cases em <;> simp <;> omega)
            clear HW
            generalize (b6 && em) = N
            generalize (b1 && b2) = S at HX ⊢
            generalize (b4 && b5 && b3) = R at HX ⊢
            cases S
            · go_wp2_with fail
              go_ret
              exact ⟨ret_bool (by rw [HX.out]; simp), bnext kB z.below⟩
            cases R
            · go_wp2_with fail
              go_ret
              exact ⟨ret_bool (by rw [HX.out]; simp), bnext kB z.below⟩
            by_cases g1 : bo < 0
            · have HY := Lib.hid (show V = false by rw [HX.out, decide_eq_false (by omega)]; simp)
              go_wp2_with fail
              go_ret
              exact ⟨ret_bool (by rw [HY.out]), bnext kB z.below⟩
            by_cases g2 : 255 < bo
            · have HY := Lib.hid (show V = false by rw [HX.out, decide_eq_false (by omega)]; simp)
              have g3 : 0 ≤ bo := by omega
              go_wp2_with fail
              go_ret
              exact ⟨ret_bool (by rw [HY.out]), bnext kB z.below⟩
            have HY := Lib.hid (show V = em by rw [HX.out, decide_eq_true (by omega)]; simp)
            have g3 : 0 ≤ bo := by omega
            have g4 : bo ≤ 255 := by omega
            clear HX
            go_wp2_with fail
            refine BW.callR (z := z) (refEmpty _ _ _ _ _ _ _) (congrArg Value.bool HEm.out) ?_
            clear z
            intro z
            go_wp2_with fail
            go_ret
            exact ⟨ret_bool HY.out.symm, bnext kB z.below⟩
          have k4' : (kd == 4) = false := by simpa using k4
          by_cases k5 : kd = 5
          · subst k5
            generalize hs1 : (decide (0 ≤ bo ∧ bo ≤ 255) && rightB bc bn && decide (n4 ≤ 256)) = bf at HW
            have HS1 := Lib.hid hs1
            have HX := Lib.hid (show V = ((b1 && b2) && (b4 && b5 && b3) && bf) by
              rw [← HW.out, ← HB1.out, ← HB2.out, ← HB4.out, ← HB5.out, ← HB3.out, Bool.eq_iff_iff]
              cases bf <;> simp <;> omega)
            clear HW hs1
            generalize (b6 && em) = N
            generalize (b1 && b2) = S at HX ⊢
            generalize (b4 && b5 && b3) = R at HX ⊢
            cases S
            · go_wp2_with fail
              go_ret
              exact ⟨ret_bool (by rw [HX.out]; simp), bnext kB z.below⟩
            cases R
            · go_wp2_with fail
              go_ret
              exact ⟨ret_bool (by rw [HX.out]; simp), bnext kB z.below⟩
            go_wp2_with fail
            refine BW.callR (z := z) (refBodyRight _ _ _ _ _ _ _ hl4) (congrArg Value.bool HS1.out) ?_
            clear z
            intro z
            go_wp2_with fail
            go_ret
            exact ⟨ret_bool (by rw [HX.out]; simp), bnext kB z.below⟩
          have k5' : (kd == 5) = false := by simpa using k5
          have HX := Lib.hid (show V = false by rw [← HW.out, if_neg k1, if_neg k3, if_neg k2, if_neg k4, if_neg k5]; simp)
          go_wp2_with fail
          go_ret
          exact ⟨ret_bool (by rw [HX.out]), bnext kB z.below⟩
  · obtain rfl : V = false := by
      rw [← HV.out, Bool.eq_false_iff]
      intro h
      simp only [Bool.and_eq_true, nodeB, decide_eq_true_eq] at h
      obtain ⟨⟨h1, h2⟩, h3⟩ := h
      split at h3
      · simp only [Bool.and_eq_true, decide_eq_true_eq] at h3; omega
      · split at h3
        · simp only [Bool.and_eq_true, decide_eq_true_eq] at h3; omega
        · simp only [Bool.and_eq_true, decide_eq_true_eq] at h3; omega
    go_enter Tryd.func35, Tryd.ntmps35
    go_wp2_with fail
    all_goals first | (go_ret; exact ⟨rfl, balloc (Below.refl _ _)⟩) | (exfalso; simp at *; omega)
end Go.Proofs.YtmdeokneablgaaaDoor
