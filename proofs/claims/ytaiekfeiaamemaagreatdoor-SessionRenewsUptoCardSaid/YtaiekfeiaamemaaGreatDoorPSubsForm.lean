/- Contract of the program's test of subscriptions. -/
import Derived.Test.YtaiekfeiaamemaaGreatDoorPSubs
set_option linter.all false
set_option linter.unnecessarySimpa false
set_option linter.unusedSimpArgs false
set_option linter.unusedVariables false
namespace Go.Proofs.YtaiekfeiaamemaaGreatDoor
open Go.ChangeShapes Go.WideShapes Go.ChangeAt Go.RowKit

def subsFrom : Int → List Sub → Bool
  | _, [] => true
  | e, s :: l => (decide (e < s.from_) && (nodeB s.from_ && wantB s.interest) && numB s.session && numB s.seq) && subsFrom s.from_ l
def subsFormed (l : List Sub) : Bool := subsFrom (-1) l && decide (l.length ≤ 16)

theorem subs_at {w : World} {B : Nat} {v : Value} {l : List Sub} (h : Subs w B v l) {m : Nat} {x : Sub} (hx : l[m]? = some x) :
    ∃ b off c vi, v = .slice (some ⟨b, off, none⟩) l.length c ∧ b < B ∧ w.cell? ⟨b, off + m * 7, none⟩ = some (.int .i64 x.from_) ∧ w.cell? ⟨b, off + m * 7 + 1, none⟩ = some vi ∧
      w.cell? ⟨b, off + m * 7 + 2, none⟩ = some (.int .i64 x.session) ∧ w.cell? ⟨b, off + m * 7 + 3, none⟩ = some (.int .i64 x.seq) ∧ w.cell? ⟨b, off + m * 7 + 4, none⟩ = some (.bool x.live) ∧
      w.cell? ⟨b, off + m * 7 + 5, none⟩ = some (.bool x.heard) ∧ w.cell? ⟨b, off + m * 7 + 6, none⟩ = some (.bool x.idle) ∧ Spans w B vi x.interest ∧ I64 x.from_ ∧ I64 x.session ∧ I64 x.seq := by
  obtain ⟨A, c, rfl, _, _, h3⟩ := h
  obtain ⟨b, off, rfl, hb, h4⟩ := h3 (by rintro rfl; simp at hx)
  obtain ⟨cs, ⟨vi, rfl, i1, i2, i3, hv⟩, _, h5⟩ := h4 m x hx
  exact ⟨b, off, c, vi, rfl, hb, h5 0 _ rfl, h5 1 _ rfl, h5 2 _ rfl, h5 3 _ rfl, h5 4 _ rfl, h5 5 _ rfl, h5 6 _ rfl, hv, i1, i2, i3⟩

set_option maxHeartbeats 1600000 in
theorem sessionFormedSubs (l : List Sub) (v : Value) (w : World) (h : Subs w w.heap.size v l) :
    Calls Tryz.prog 21 #[v] w fun e w' => e = .returned (.bool (subsFormed l)) ∧ Below w.heap.size w w' := by
  have hle := h.len_le
  obtain ⟨A, c, rfl, _⟩ := id h
  unfold subsFormed
  go_enter Tryz.func21, Tryz.ntmps21
  go_wp2_with fail
  go_loopw [3, 8] (fun a i wr => ∃ (m : Nat) (e : Int), m ≤ l.length ∧ i = .int .i64 m ∧ a = .int .i64 e ∧ subsFrom (-1) l = subsFrom e (l.drop m) ∧ Below w.heap.size w wr) (fun _ i _ => l.length - (intOf i).toNat)
  case atStart => exact ⟨0, -1, Nat.zero_le _, rfl, rfl, rfl, Below.refl _ _⟩
  case round =>
    obtain ⟨m, e, hm, rfl, rfl, hv, hb⟩ := hrel
    have hn := h.next hb
    by_cases hlt : m < l.length
    · obtain ⟨y, hy⟩ : ∃ y, l[m]? = some y := ⟨l[m], List.getElem?_eq_getElem hlt⟩
      obtain ⟨b, off, c', vi, hv', hbb, e0, e1, e2, e3, e4, e5, e6, hs, _, _, _⟩ := subs_at hn hy
      injection hv' with hv1 hv2 hv3
      rw [drop_cons hy, subsFrom] at hv
      obtain ⟨yf, yi, ys, yq, yl, yh, yd⟩ := y
      simp only at e0 e1 e2 e3 e4 e5 e6 hv hs
      subst hv1
      generalize hr1 : nodeB yf = r1 at hv
      generalize hr2 : numB ys = r2 at hv
      generalize hr3 : numB yq = r3 at hv
      generalize hr4 : wantB yi = r4 at hv
      have HV := Lib.hid hv
      have H1 := Lib.hid hr1
      have H2 := Lib.hid hr2
      have H3 := Lib.hid hr3
      have H4 := Lib.hid hr4
      obtain ⟨A4, c4, rfl, _⟩ := id hs
      have HS := Lib.hid hs
      clear hv hv2 hv3 hy hbb hr1 hr2 hr3 hr4 hn hs
      by_cases p1 : yf ≤ e
      · go_wp2_with fail
        go_ret
        refine ⟨ret_bool ?_, balloc hb⟩
        rw [HV.out, decide_eq_false (p := e < yf) (by omega)]
        rfl
      · have Hp := Lib.hid (decide_eq_true (p := e < yf) (by omega))
        go_wp2_with fail
        have kB := balloc (o := .cells #[.int .i64 yf, .slice A4 yi.length c4, .int .i64 ys, .int .i64 yq, .bool yl, .bool yh, .bool yd] 123) (Below.refl _ wr)
        refine (sessionNode _ _).mono ?_
        rw [H1.out]
        rintro e' w' ⟨rfl, rfl⟩
        cases r1
        · go_wp2_with fail
          go_ret
          refine ⟨ret_bool ?_, balloc hb⟩
          rw [HV.out]
          simp
        go_wp2_with fail
        refine (sessionNumber _ _).mono ?_
        rw [H2.out]
        rintro e' w' ⟨rfl, rfl⟩
        cases r2
        · go_wp2_with fail
          go_ret
          refine ⟨ret_bool ?_, balloc hb⟩
          rw [HV.out]
          simp
        go_wp2_with fail
        refine (sessionNumber _ _).mono ?_
        rw [H3.out]
        rintro e' w' ⟨rfl, rfl⟩
        cases r3
        · go_wp2_with fail
          go_ret
          refine ⟨ret_bool ?_, balloc hb⟩
          rw [HV.out]
          simp
        go_wp2_with fail
        refine (sessionWanted _ _ _ (HS.out.next kB)).mono ?_
        rw [H4.out]
        rintro e' w1 ⟨rfl, hb1⟩
        have k1 := bnext (balloc hb) hb1
        have d0 := kept_cell hb1 ((Blk.new wr 123 #[.int .i64 yf, .slice A4 yi.length c4, .int .i64 ys, .int .i64 yq, .bool yl, .bool yh, .bool yd]).cell 0)
        clear hb1 kB e0 e1 e2 e3 e4 e5 e6
        cases r4
        · go_wp2_with fail
          go_ret
          refine ⟨ret_bool ?_, k1⟩
          rw [HV.out]
          simp
        go_wp2_with fail
        refine ⟨⟨m + 1, yf, by omega, by go_num, rfl, ?_, k1⟩, by simp [intOf]; omega⟩
        rw [HV.out, Hp.out]
        simp
    · obtain rfl : m = l.length := by omega
      rw [List.drop_length] at hv
      have HV := Lib.hid hv
      clear hv
      go_wp2_with fail
      go_ret
      refine ⟨ret_bool ?_, hb⟩
      rw [HV.out, subsFrom, Bool.true_and]
      exact decide_eq_decide.2 (by omega)
end Go.Proofs.YtaiekfeiaamemaaGreatDoor
