/- Contract of the reference's Parse: a right stamp's text is read, all else is refused. -/
import Derived.Test.YtophbfnedglmdaaDoorParse
import Derived.Test.YtophbfnedglmdaaDoorRep
namespace Go.Proofs.YtophbfnedglmdaaDoor
open Go.ChangeShapes Go.WideShapes Go.ChangeAt Go.RowKit

/-- s is no right stamp's text -/
def NoText (s : ByteArray) : Prop := ∀ c n : Int, rightB c n = true → c ≤ 9223372036854775807 → s ≠ showS c n
def ParsePost (s : ByteArray) (e : Ending) : Prop :=
  (∃ c n : Int, rightB c n = true ∧ c ≤ 9223372036854775807 ∧ s = showS c n ∧ e = .returned (.tuple #[.agg #[.int .i64 c, .int .i64 n], .int .i64 0])) ∨
  (NoText s ∧ e = .returned (.tuple #[.agg #[.int .i64 0, .int .i64 0], .int .i64 17]))

theorem showS_list (c n : Int) : (showS c n).data.toList = Lib.decDigits c.toNat ++ 64 :: Lib.decDigits n.toNat := by
  simp [showS, dg, ByteArray.data_append]
theorem at_split : ∀ (l1 r1 l2 r2 : List UInt8), (64 : UInt8) ∉ l1 → (64 : UInt8) ∉ l2 → l1 ++ 64 :: r1 = l2 ++ 64 :: r2 → l1 = l2 ∧ r1 = r2
  | [], r1, [], r2, _, _, h => by simpa using h
  | [], r1, x :: l2, r2, _, h2, h => by
    simp at h
    exact absurd (by simp [h.1]) h2
  | x :: l1, r1, [], r2, h1, _, h => by
    simp at h
    exact absurd (by simp [h.1]) h1
  | x :: l1, r1, y :: l2, r2, h1, h2, h => by
    simp only [List.cons_append, List.cons.injEq] at h
    obtain ⟨rfl, h⟩ := h
    obtain ⟨rfl, rfl⟩ := at_split l1 r1 l2 r2 (fun hh => h1 (by simp [hh])) (fun hh => h2 (by simp [hh])) h
    exact ⟨rfl, rfl⟩
theorem at_here {s : ByteArray} {k : Nat} (hk : k < s.size) (h : s[k].toNat = 64) : s.data.toList = s.data.toList.take k ++ 64 :: s.data.toList.drop (k + 1) := by
  have e : s[k] = 64 := by rw [← UInt8.ofNat_toNat (x := s[k]), h]; rfl
  have hl : k < s.data.toList.length := by rw [size_list]; exact hk
  conv => lhs; rw [← List.take_append_drop k s.data.toList, List.drop_eq_getElem_cons hl]
  rw [show s.data.toList[k] = 64 from e]
theorem pre_list (s : ByteArray) (k : Nat) : (s.extract 0 k).data.toList = s.data.toList.take k := by
  simp [ByteArray.data_extract]
theorem post_list (s : ByteArray) (k : Nat) : (s.extract (k + 1) s.size).data.toList = s.data.toList.drop (k + 1) := by
  rw [ByteArray.data_extract, Array.toList_extract, List.extract_eq_take_drop, List.take_of_length_le (by rw [List.length_drop, size_list]; omega)]

/-- where the first @ stands: what is ahead of it and behind it decides -/
theorem NoText.of {s : ByteArray} {k : Nat} (hk : k < s.size) (h : s[k].toNat = 64) (hno : (64 : UInt8) ∉ s.data.toList.take k)
    (hbad : ∀ c n : Int, rightB c n = true → c ≤ 9223372036854775807 → ¬ (s.extract 0 k = dg c.toNat ∧ s.extract (k + 1) s.size = dg n.toNat)) : NoText s := by
  intro c n hr hc he
  have h1 := at_here hk h
  have h2 := showS_list c n
  rw [← he, h1] at h2
  obtain ⟨h3, h4⟩ := at_split _ _ _ _ hno (no_at _) h2
  exact hbad c n hr hc ⟨ba_of_list (by rw [pre_list, h3]), ba_of_list (by rw [post_list, h4])⟩
theorem NoText.none {s : ByteArray} (hno : (64 : UInt8) ∉ s.data.toList) : NoText s := by
  rintro c n _ _ rfl
  rw [showS_list] at hno
  exact hno (by simp)
theorem right_nat {c n : Int} (h : rightB c n = true) : 1 ≤ c ∧ 0 ≤ n ∧ n < 64 := by simpa [rightB] using h
theorem dg_inj {u v : Nat} (h : dg u = dg v) : u = v := dec_inj (by rw [← dg_list, ← dg_list, h])

set_option maxHeartbeats 400000 in
theorem refParse (s : ByteArray) (w : World) (hsz : s.size ≤ 1048576) :
    Calls Tryd.prog 9 #[.string s] w fun e w' => ParsePost s e ∧ Below w.heap.size w w' := by
  go_enter Tryd.func9, Tryd.ntmps9
  go_wp2_with fail
  go_loop [4] (fun i => ∃ (k : Nat), k ≤ s.size ∧ i = .int .i64 k ∧ (64 : UInt8) ∉ s.data.toList.take k) (fun i => s.size - (intOf i).toNat)
  case atStart => exact ⟨0, Nat.zero_le _, rfl, by simp⟩
  case round =>
    obtain ⟨k, hk, rfl, hR⟩ := hrel
    by_cases hlt : k < s.size
    · by_cases h64 : s[k].toNat = 64
      · have q : ((s[k].toNat : Nat) : Int) = 64 := by omega
        have Hno := Lib.hid (NoText.of hlt h64 hR)
        have Hat := Lib.hid (at_here hlt h64)
        clear hR h64
        go_wp2_with fail
        refine (refNumber _ _).mono ?_
        rintro e w1 ⟨hN, rfl⟩
        rcases hN with ⟨u, hu, hsu, rfl⟩ | ⟨hnu, x, rfl⟩
        · have HU := Lib.hid hsu
          clear hsu
          go_wp2_with fail
          refine (refNumber _ _).mono ?_
          rintro e w2 ⟨hN, rfl⟩
          rcases hN with ⟨v, hv, hsv, rfl⟩ | ⟨hnv, x, rfl⟩
          · have HV := Lib.hid hsv
            clear hsv
            go_wp2_with fail
            cases hr : rightB u v with
            | false =>
              refine ((refRight _ _ _).mono ?_)
              rintro e w3 ⟨rfl, hb⟩
              rw [hr]
              have B0 := (Blk.new w 23 #[.int .i64 0, .int .i64 0]).alloc.next hb
              have B1 := (Blk.new_at (w := w.alloc (.cells #[.int .i64 0, .int .i64 0] 23)) (t := 23) (cs := #[.int .i64 u, .int .i64 v]) (g := w.heap.size + 1) (by simp)).next hb
              have hb2 := bnext (balloc (balloc (Below.refl _ _))) hb
              have b0 := B0.cell 0
              have b1 := B0.cell 1
              have b2 := B1.cell 0
              have b3 := B1.cell 1
              have f0 := B0.frozen 0
              have f1 := B0.frozen 1
              simp only [List.getElem?_toArray, List.getElem?_cons_zero, List.getElem?_cons_succ] at b0 b1 b2 b3
              clear hb B1
              go_wp2_with fail
              have B2 := (B0.set_ 0 (.int .i64 0)).set_ 1 (.int .i64 0)
              have k0 := B2.cell 0
              have k1 := B2.cell 1
              simp only [List.setIfInBounds_toArray, List.set_cons_zero, List.set_cons_succ, List.getElem?_toArray, List.getElem?_cons_zero, List.getElem?_cons_succ] at k0 k1
              refine ⟨rfl, _, by simp [results, Tryd.results9, go_sem, k0, k1] <;> rfl, Or.inr ⟨Hno.out fun c n h1 h2 h3 => ?_, rfl⟩, bset (bset hb2 (by simp)) (by simp)⟩
              obtain ⟨g1, g2⟩ := h3
              have r := right_nat h1
              have e1 := dg_inj (HU.out.symm.trans g1)
              have e2 := dg_inj (HV.out.symm.trans g2)
              rw [show (u : Int) = c by omega, show (v : Int) = n by omega, h1] at hr
              cases hr
            | true =>
              refine ((refRight _ _ _).mono ?_)
              rintro e w3 ⟨rfl, hb⟩
              rw [hr]
              have B0 := (Blk.new w 23 #[.int .i64 0, .int .i64 0]).alloc.next hb
              have B1 := (Blk.new_at (w := w.alloc (.cells #[.int .i64 0, .int .i64 0] 23)) (t := 23) (cs := #[.int .i64 u, .int .i64 v]) (g := w.heap.size + 1) (by simp)).next hb
              have hb2 := bnext (balloc (balloc (Below.refl _ _))) hb
              have b0 := B0.cell 0
              have b1 := B0.cell 1
              have b2 := B1.cell 0
              have b3 := B1.cell 1
              have f0 := B0.frozen 0
              have f1 := B0.frozen 1
              simp only [List.getElem?_toArray, List.getElem?_cons_zero, List.getElem?_cons_succ] at b0 b1 b2 b3
              clear hb B1
              go_wp2_with fail
              have B2 := (B0.set_ 0 (.int .i64 u)).set_ 1 (.int .i64 v)
              have k0 := B2.cell 0
              have k1 := B2.cell 1
              simp only [List.setIfInBounds_toArray, List.set_cons_zero, List.set_cons_succ, List.getElem?_toArray, List.getElem?_cons_zero, List.getElem?_cons_succ] at k0 k1
              refine ⟨rfl, _, by simp [results, Tryd.results9, go_sem, k0, k1] <;> rfl, Or.inl ⟨u, v, hr, by omega, ?_, rfl⟩, bset (bset hb2 (by simp)) (by simp)⟩
              apply ByteArray.ext
              apply Array.ext'
              rw [showS_list, Hat.out, ← pre_list, ← post_list, HU.out, HV.out]
              rfl
          · have HV := Lib.hid hnv
            clear hnv
            go_wp2_with fail
            refine ⟨rfl, _, by simp [results, Tryd.results9, go_sem] <;> rfl, Or.inr ⟨Hno.out fun c n h1 h2 h3 => ?_, rfl⟩, balloc (balloc (Below.refl _ _))⟩
            exact HV.out n.toNat (by have := right_nat h1; omega) h3.2
        · have HU := Lib.hid hnu
          clear hnu
          go_wp2_with fail
          refine (refNumber _ _).mono ?_
          rintro e w2 ⟨hN, rfl⟩
          rcases hN with ⟨v, hv, hsv, rfl⟩ | ⟨hnv, y, rfl⟩
          all_goals
            go_wp2_with fail
            refine ⟨rfl, _, by simp [results, Tryd.results9, go_sem] <;> rfl, Or.inr ⟨Hno.out fun c n h1 h2 h3 => ?_, rfl⟩, balloc (balloc (Below.refl _ _))⟩
            exact HU.out c.toNat (by have := right_nat h1; omega) h3.1
      · have hk2 : ¬ ((s[k].toNat : Nat) : Int) = 64 := by omega
        have HR : Hid ((64 : UInt8) ∉ s.data.toList.take (k + 1)) := by
          show (64 : UInt8) ∉ s.data.toList.take (k + 1)
          rw [bytes_snoc s k hlt]
          intro hh
          rcases List.mem_append.1 hh with hh | hh
          · exact hR hh
          · have := List.mem_singleton.1 hh
            rw [← this] at h64
            exact h64 rfl
        clear hR h64
        go_wp2_with fail
        exact ⟨⟨k + 1, by omega, by go_num, HR.out⟩, by simp [intOf]; omega⟩
    · obtain rfl : k = s.size := by omega
      have HR := Lib.hid hR
      clear hR
      go_wp2_with fail
      refine ⟨rfl, _, by simp [results, Tryd.results9, go_sem] <;> rfl, Or.inr ⟨NoText.none ?_, rfl⟩, balloc (Below.refl _ _)⟩
      have := HR.out
      rwa [List.take_of_length_le (by rw [size_list]; exact Nat.le_refl _)] at this
end Go.Proofs.YtophbfnedglmdaaDoor
