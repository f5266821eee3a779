/- Contract of the program's test of subscriptions at their sender. -/
import Derived.Test.YtmdeokneablgaaaDoorPSubs
import Derived.Test.YtmdeokneablgaaaDoorPClone
namespace Go.Proofs.YtmdeokneablgaaaDoor
open Go.ChangeShapes Go.WideShapes Go.ChangeAt Go.RowKit

def outsFrom (n : Int) : Int → List Out → Bool
  | _, [] => true
  | e, s :: l => (decide (e < s.to_) && (nodeB s.to_ && wantB s.interest) && numB s.session && numB s.seq && decide (-1 ≤ s.at_ ∧ s.at_ ≤ n)) && outsFrom n s.to_ l
def outsFormed (n : Int) (l : List Out) : Bool := outsFrom n (-1) l

set_option maxRecDepth 100000 in
set_option maxHeartbeats 1600000 in
theorem sessionFormedOuts (l : List Out) (n : Int) (v : Value) (w : World) (h : Outs w w.heap.size v l) :
    Calls Tryd.prog 24 #[v, .int .i64 n] w fun e w' => e = .returned (.bool (outsFormed n l)) ∧ Below w.heap.size w w' := by
  have hle := h.len_le
  have HH := Lib.hid h
  obtain ⟨A, c, rfl, -⟩ := id h
  unfold outsFormed
  generalize hr : outsFrom n (-1) l = V
  have HV0 := Lib.hid hr
  clear h hr
  go_enter Tryd.func24, Tryd.ntmps24
  go_wp2_with fail
  go_loopw [5, 10] (fun a i wr => ∃ (m : Nat) (e : Int) (z : BW w), m ≤ l.length ∧ i = .int .i64 m ∧ a = .int .i64 e ∧ V = outsFrom n e (l.drop m) ∧ wr = z.val) (fun _ i _ => l.length - (intOf i).toNat)
  case atStart => exact ⟨0, -1, BW.self w, Nat.zero_le _, rfl, rfl, HV0.out.symm, rfl⟩
  case round =>
    obtain ⟨m, e, z, hm, rfl, rfl, hv, rfl⟩ := hrel
    by_cases hlt : m < l.length
    · obtain ⟨y, hy⟩ : ∃ y, l[m]? = some y := ⟨l[m], List.getElem?_eq_getElem hlt⟩
      obtain ⟨b, off, _, vi, hv', hbb, e0, e1, e2, e3, e4, hs, -, -, -, -⟩ := outs_at (HH.out.next z.below) hy
      injection hv' with hv1 hv2 hv3
      subst hv1
      rw [drop_cons hy, outsFrom] at hv
      obtain ⟨yf, ys, yi, ya, yq⟩ := y
      simp only at e0 e1 e2 e3 e4 hv hs
      generalize hr1 : nodeB yf = r1 at hv
      generalize hr2 : numB ys = r2 at hv
      generalize hr3 : numB yq = r3 at hv
      generalize hr4 : wantB yi = r4 at hv
      have HV := Lib.hid hv
      have H1 := Lib.hid hr1
      have H2 := Lib.hid hr2
      have H3 := Lib.hid hr3
      have H4 := Lib.hid hr4
      obtain ⟨A4, c4, rfl, -⟩ := id hs
      have HS := Lib.hid hs
      clear hv hv2 hv3 hy hr1 hr2 hr3 hr4 hs
      by_cases p1 : yf ≤ e
      · have HD := Lib.hid (decide_eq_false (p := e < yf) (by omega))
        go_wp2_with fail
        go_ret
        exact ⟨ret_bool (by rw [HV.out, HD.out]; rfl), balloc z.below⟩
      · have HD := Lib.hid (decide_eq_true (p := e < yf) (by omega))
        go_wp2_with fail
        have kB := balloc (o := .cells #[.int .i64 yf, .int .i64 ys, .slice A4 yi.length c4, .int .i64 ya, .int .i64 yq] 54) (Below.refl _ z.val)
        have B := Blk.new z.val 54 #[.int .i64 yf, .int .i64 ys, .slice A4 yi.length c4, .int .i64 ya, .int .i64 yq]
        generalize hW : z.val.alloc _ = W at *
        have HB := Lib.hid B
        clear hW B e0 e1 e2 e3 e4
        have q1 : ∀ z' : BW W, z'.val.cell? ⟨z.val.heap.size, 1, none⟩ = some (.int .i64 ys) := fun z' => z'.cell (HB.out.cell 1)
        have q2 : ∀ z' : BW W, z'.val.cell? ⟨z.val.heap.size, 2, none⟩ = some (.slice A4 yi.length c4) := fun z' => z'.cell (HB.out.cell 2)
        have q3 : ∀ z' : BW W, z'.val.cell? ⟨z.val.heap.size, 3, none⟩ = some (.int .i64 ya) := fun z' => z'.cell (HB.out.cell 3)
        have q4 : ∀ z' : BW W, z'.val.cell? ⟨z.val.heap.size, 4, none⟩ = some (.int .i64 yq) := fun z' => z'.cell (HB.out.cell 4)
        have q0 : ∀ z' : BW W, z'.val.cell? ⟨z.val.heap.size, 0, none⟩ = some (.int .i64 yf) := fun z' => z'.cell (HB.out.cell 0)
        refine BW.start (w := W) ?_
        intro z1
        refine BW.sameR (sessionNode _ _) (congrArg Value.bool H1.out) ?_
        cases r1
        · go_wp2_with fail
          go_ret
          exact ⟨ret_bool (by rw [HV.out]; simp), bnext z.below (bnext kB z1.below)⟩
        go_wp2_with fail
        refine BW.sameR (sessionNumber _ _) (congrArg Value.bool H2.out) ?_
        cases r2
        · go_wp2_with fail
          go_ret
          exact ⟨ret_bool (by rw [HV.out]; simp), bnext z.below (bnext kB z1.below)⟩
        go_wp2_with fail
        refine BW.sameR (sessionNumber _ _) (congrArg Value.bool H3.out) ?_
        cases r3
        · go_wp2_with fail
          go_ret
          exact ⟨ret_bool (by rw [HV.out]; simp), bnext z.below (bnext kB z1.below)⟩
        go_wp2_with fail
        refine BW.callR (z := z1) (sessionWanted _ _ _ ((HS.out.next kB).next z1.below)) (congrArg Value.bool H4.out) ?_
        intro z2
        cases r4
        · go_wp2_with fail
          go_ret
          exact ⟨ret_bool (by rw [HV.out]; simp), bnext z.below (bnext kB z2.below)⟩
        by_cases p2 : ya < -1
        · have HD2 := Lib.hid (decide_eq_false (p := -1 ≤ ya ∧ ya ≤ n) (by omega))
          go_wp2_with fail
          go_ret
          exact ⟨ret_bool (by rw [HV.out, HD2.out]; simp), bnext z.below (bnext kB z2.below)⟩
        by_cases p3 : n < ya
        · have HD2 := Lib.hid (decide_eq_false (p := -1 ≤ ya ∧ ya ≤ n) (by omega))
          have p4 : -1 ≤ ya := by omega
          go_wp2_with fail
          go_ret
          exact ⟨ret_bool (by rw [HV.out, HD2.out]; simp), bnext z.below (bnext kB z2.below)⟩
        have HD2 := Lib.hid (decide_eq_true (p := -1 ≤ ya ∧ ya ≤ n) (by omega))
        have p4 : -1 ≤ ya := by omega
        have p5 : ya ≤ n := by omega
        go_wp2_with fail
        refine ⟨⟨m + 1, yf, z.to (bnext kB z2.below), by omega, by go_num, rfl, ?_, rfl⟩, by simp [intOf]; omega⟩
        rw [HV.out, HD.out, HD2.out]
        simp
    · obtain rfl : m = l.length := by omega
      rw [List.drop_length, outsFrom] at hv
      have HV := Lib.hid hv
      clear hv
      go_wp2_with fail
      go_ret
      exact ⟨ret_bool HV.out.symm, z.below⟩
end Go.Proofs.YtmdeokneablgaaaDoor
