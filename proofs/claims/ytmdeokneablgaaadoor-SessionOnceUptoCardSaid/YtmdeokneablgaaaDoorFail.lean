/- A session fails: the program's and the reference's. -/
import Derived.Test.YtmdeokneablgaaaDoorHearSpec
import Derived.Test.YtmdeokneablgaaaDoorSubsRef
namespace Go.Proofs.YtmdeokneablgaaaDoor
open Go.ChangeShapes Go.WideShapes Go.ChangeAt Go.RowKit

theorem OwnSubs.setB {V w0 w : World} {base : Nat} {e : TypeId} {g c i j : Nat} {l : List Sub} {u : Value} {x x' : Sub} (h : OwnSubs V w0 w base e (.slice (some ⟨g, 0, none⟩) l.length c) l) (hi : l[i]? = some x) (hj : j < 7)
    (hR : ∀ W cs, SubR W W.heap.size cs x → cs.length = 7 → SubR W W.heap.size (cs.set j u) x') : OwnSubs V w0 (w.setCell ⟨g, i * 7 + j, none⟩ u) base e (.slice (some ⟨g, 0, none⟩) (l.set i x').length c) (l.set i x') :=
  OwnN.set_ h hi hj fun cs => hR _ cs

set_option maxRecDepth 100000 in
set_option maxHeartbeats 1600000 in
theorem sessionFail (n : Int) (l : List Sub) (v : Value) (V w : World) (hV : Ext V w) (h : Subs V V.heap.size v l) :
    Calls Tryd.prog 11 #[v, .int .i64 n] w fun e w' => RetSubs (failS l n) V w e w' := by
  have hle := h.len_le
  have HH0 := Lib.hid h
  have HH := Lib.hid (Subs.ext h hV)
  obtain ⟨A, c, rfl, -⟩ := id h
  generalize hr : subsFormed l = r
  have HR := Lib.hid hr
  generalize hs : failS l n = res
  have HS := Lib.hid hs
  clear h hr hs
  go_enter Tryd.func11, Tryd.ntmps11
  go_wp2_with fail
  refine BW.callR (z := BW.self w) (sessionFormedSubs l _ _ HH.out) (congrArg Value.bool HR.out) ?_
  intro z
  cases r
  · go_wp2_with fail
    go_ret2
    exact RetSubs.nil_ (by rw [← HS.out, failS, if_neg (by rw [HR.out]; simp)]) z.below
  go_wp2_with fail
  refine BW.call (z := z) (sessionFrom n l _ _ (HH.out.next z.below)) ?_
  intro z1
  rcases idxFrom_spec (isFrom n) l 0 with ⟨hk, hno⟩ | ⟨i, x, hx, hp, hk, hno⟩
  · rw [hk]
    have HX := Lib.hid (HS.out.symm.trans (failS_none HR.out hno))
    clear hk hno
    go_wp2_with fail
    go_ret2
    exact RetSubs.nil_ HX.out z1.below
  · rw [hk]
    have HX := Lib.hid (HS.out.symm.trans (failS_at HR.out hx hp hno))
    have hil := (List.getElem?_eq_some_iff.1 hx).1
    have HI := Lib.hid hx
    rw [Nat.zero_add]
    clear hk hno hp hx
    go_wp2_with fail
    refine (sessionSubs l _ V _ (hV.trans z1.ext) HH0.out).mono ?_
    rintro e w2 ⟨⟨v2, rfl, hown⟩, hb2⟩
    rcases hown.forms with ⟨rfl, rfl⟩ | ⟨g, c1, rfl, hg1, hg2⟩
    · simp at hil
    · obtain ⟨cs, ⟨vi, rfl, -, -, -, -⟩, -, hc⟩ := OwnSl.at_ hown HI.out
      have e4 := hc 4 _ rfl
      have e5 := hc 5 _ rfl
      have z4 := OwnSl.frozen hown (i * 7 + 4)
      have z5 := OwnSl.frozen hown (i * 7 + 5)
      have h3 := OwnSubs.setB (j := 4) (u := .bool false) (x' := { x with live := false }) hown HI.out (by omega) (by
        rintro W cs ⟨vi, rfl, i1, i2, i3, hs⟩ _
        exact ⟨vi, rfl, i1, i2, i3, hs⟩)
      have h4 := OwnSubs.setB (i := i) (j := 5) (u := .bool false) (x := { x with live := false }) (x' := subFail x) h3 (by simp [hil]) (by omega) (by
        rintro W cs ⟨vi, rfl, i1, i2, i3, hs⟩ _
        exact ⟨vi, rfl, i1, i2, i3, hs⟩)
      rw [List.set_set] at h4
      have hb4 := bset (u := .bool false) (p := ⟨g, i * 7 + 5, none⟩) (bset (u := .bool false) (p := ⟨g, i * 7 + 4, none⟩) (bnext z1.below hb2) (by have := z1.size; simp; omega)) (by have := z1.size; simp; omega)
      have H4 := Lib.hid (Subs.ext (OwnN.sl h4 extSub (Nat.le_refl _)) (mix_later hV z1.size))
      have hi3 : (i : Int) < (l.length : Int) := by omega
      clear h3 h4 hown hc
      go_wp2_with fail
      go_ret2
      refine ⟨.slice (some ⟨g, 0, none⟩) l.length c1, by rw [HX.out]; rfl, ?_, hb4⟩
      rw [HX.out]
      have := H4.out
      rwa [List.length_set] at this

set_option maxRecDepth 100000 in
set_option maxHeartbeats 1600000 in
theorem refFail (n : Int) (l : List Sub) (v : Value) (V w : World) (hV : Ext V w) (h : Subs V V.heap.size v l) :
    Calls Tryd.prog 12 #[v, .int .i64 n] w fun e w' => RetSubs (failS l n) V w e w' := by
  have hle := h.len_le
  have HH0 := Lib.hid h
  have HH := Lib.hid (Subs.ext h hV)
  obtain ⟨A, c, rfl, -⟩ := id h
  generalize hr : subsFormed l = r
  have HR := Lib.hid hr
  generalize hs : failS l n = res
  have HS := Lib.hid hs
  clear h hr hs
  go_enter Tryd.func12, Tryd.ntmps12
  go_wp2_with fail
  refine BW.callR (z := BW.self w) (refFormedSubs l _ _ HH.out) (congrArg Value.bool HR.out) ?_
  intro z
  cases r
  · go_wp2_with fail
    go_ret2
    exact RetSubs.nil_ (by rw [← HS.out, failS, if_neg (by rw [HR.out]; simp)]) z.below
  go_wp2_with fail
  refine (refOwn l _ V _ (hV.trans z.ext) HH0.out).mono ?_
  rintro e w2 ⟨⟨v2, rfl, hown⟩, hb2⟩
  have HO := Lib.hid hown
  have hb := bnext z.below hb2
  obtain ⟨A2, c2, rfl⟩ := hown.form
  have hwz := z.size
  clear hown
  go_wp2_with fail
  go_loopw [7] (fun i wr => ∃ m : Nat, m ≤ l.length ∧ i = .int .i64 m ∧ (∀ k y, k < m → l[k]? = some y → isFrom n y = false) ∧ wr = w2) (fun i _ => l.length - (intOf i).toNat)
  case atStart => exact ⟨0, Nat.zero_le _, rfl, fun k y hk => by omega, rfl⟩
  case round =>
    obtain ⟨m, hm, rfl, hno, rfl⟩ := hrel
    have HN := Lib.hid hno
    clear hno
    by_cases hlt : m < l.length
    · obtain ⟨x, hx⟩ : ∃ y, l[m]? = some y := ⟨l[m], List.getElem?_eq_getElem hlt⟩
      have HI := Lib.hid hx
      have hown := HO.out
      rcases hown.forms with ⟨h1, rfl⟩ | ⟨g, c1, h1, hg1, hg2⟩
      · simp at hlt
      injection h1 with h1 h2 h3
      subst h1 h3
      obtain ⟨cs, ⟨vi, rfl, -, -, -, -⟩, -, hc⟩ := OwnSl.at_ hown hx
      have e0 : wr.cell? ⟨g, m * 7, none⟩ = some (.int .i64 x.from_) := hc 0 _ rfl
      have e4 := hc 4 _ rfl
      have e5 := hc 5 _ rfl
      have z4 := OwnSl.frozen hown (m * 7 + 4)
      have z5 := OwnSl.frozen hown (m * 7 + 5)
      have hi3 : (m : Int) < (l.length : Int) := by omega
      clear h2 hx
      by_cases hf : x.from_ = n
      · have h3 := OwnSubs.setB (j := 4) (u := .bool false) (x' := { x with live := false }) hown HI.out (by omega) (by
          rintro W cs ⟨vi, rfl, i1, i2, i3, hs⟩ _
          exact ⟨vi, rfl, i1, i2, i3, hs⟩)
        have h4 := OwnSubs.setB (i := m) (j := 5) (u := .bool false) (x := { x with live := false }) (x' := subFail x) h3 (by simp [hlt]) (by omega) (by
          rintro W cs ⟨vi, rfl, i1, i2, i3, hs⟩ _
          exact ⟨vi, rfl, i1, i2, i3, hs⟩)
        rw [List.set_set] at h4
        have hb4 := bset (u := .bool false) (p := ⟨g, m * 7 + 5, none⟩) (bset (u := .bool false) (p := ⟨g, m * 7 + 4, none⟩) hb (by simp; omega)) (by simp; omega)
        have H4 := Lib.hid (Subs.ext (OwnN.sl h4 extSub (Nat.le_refl _)) (mix_later hV z.size))
        have HX := Lib.hid (HS.out.symm.trans (failS_at HR.out HI.out (by simp [isFrom, hf]) HN.out))
        obtain rfl : n = x.from_ := hf.symm
        clear h3 h4 hown hc
        go_wp2_with fail
        go_ret2
        refine ⟨.slice (some ⟨g, 0, none⟩) l.length c2, by rw [HX.out]; rfl, ?_, hb4⟩
        rw [HX.out]
        have := H4.out
        rwa [List.length_set] at this
      · have hf' : (x.from_ == n) = false := by simpa using hf
        clear hown hc
        go_wp2_with fail
        refine ⟨⟨m + 1, by omega, by go_num, fun k y hk hy => ?_, trivial⟩, by simp [intOf]; omega⟩
        by_cases e : k < m
        · exact HN.out k y e hy
        · obtain rfl : k = m := by omega
          rw [HI.out] at hy
          injection hy with hy
          subst hy
          simp [isFrom, hf]
    · obtain rfl : m = l.length := by omega
      have HX := Lib.hid (HS.out.symm.trans (failS_none HR.out fun x hx => by
        obtain ⟨j, hj⟩ := List.mem_iff_getElem?.1 hx
        exact HN.out j x (List.getElem?_eq_some_iff.1 hj).1 hj))
      go_wp2_with fail
      go_ret2
      exact RetSubs.nil_ HX.out hb
end Go.Proofs.YtmdeokneablgaaaDoor
