/- Where the subscription of a node stands: the program's search. -/
import Derived.Test.YtmdeokneablgaaaDoorSubsOwn
import Derived.Test.YtmdeokneablgaaaDoorSpanIn
namespace Go.Proofs.YtmdeokneablgaaaDoor
open Go.ChangeShapes Go.WideShapes Go.ChangeAt Go.RowKit

def isFrom (n : Int) (s : Sub) : Bool := decide (s.from_ = n)
theorem idxFrom_spec {α : Type} (p : α → Bool) : ∀ (l : List α) (i : Nat), (idxFrom p i l = -1 ∧ ∀ x ∈ l, p x = false) ∨ ∃ j x, l[j]? = some x ∧ p x = true ∧ idxFrom p i l = ((i + j : Nat) : Int) ∧ ∀ k y, k < j → l[k]? = some y → p y = false
  | [], i => .inl ⟨rfl, fun x h => by cases h⟩
  | x :: l, i => by
    by_cases h : p x = true
    · refine .inr ⟨0, x, rfl, h, by simp [idxFrom, h], fun k y hk => by omega⟩
    · have h' : p x = false := by simpa using h
      rcases idxFrom_spec p l (i + 1) with ⟨h1, h2⟩ | ⟨j, y, h1, h2, h3, h4⟩
      · refine .inl ⟨by simp [idxFrom, h', h1], fun y hy => ?_⟩
        rcases List.mem_cons.1 hy with rfl | hy
        · exact h'
        · exact h2 y hy
      · refine .inr ⟨j + 1, y, by simpa using h1, h2, by simp [idxFrom, h', h3]; omega, fun k z hk hz => ?_⟩
        cases k with
        | zero => simp at hz; subst hz; exact h'
        | succ k => exact h4 k z (by omega) (by simpa using hz)

theorem sessionFrom1 (n yf ys yq : Int) (A : Option Addr) (k cp : Nat) (yl yh yd : Bool) (B : Nat) (w : World) (h : w.cell? ⟨B, 0, none⟩ = some (.int .i64 n)) :
    Calls Tryd.prog 59 #[.agg #[.int .i64 yf, .slice A k cp, .int .i64 ys, .int .i64 yq, .bool yl, .bool yh, .bool yd], .pointer (some ⟨B, 0, none⟩)] w fun e w' => e = .returned (.bool (decide (yf = n))) ∧ Below w.heap.size w w' := by
  have c0 := kept_cell (balloc (o := .cells #[.int .i64 yf, .slice A k cp, .int .i64 ys, .int .i64 yq, .bool yl, .bool yh, .bool yd] 35) (Below.refl _ w)) h
  have hB := World.block_lt_of_cell? _ _ h
  simp only at hB
  go_enter Tryd.func59, Tryd.ntmps59
  go_wp2_with fail
  all_goals
    go_ret
    refine ⟨ret_bool (Bool.eq_iff_iff.2 ?_), balloc (Below.refl _ _)⟩
    simp

def fromFn (B : Nat) : Value := .func (.func 59) #[] #[.pointer (some ⟨B, 0, none⟩)]

set_option maxRecDepth 100000 in
theorem subsIndexFunc (n : Int) (l : List Sub) (B : Nat) (v : Value) (w : World) (h : Subs w w.heap.size v l) (ho : w.cell? ⟨B, 0, none⟩ = some (.int .i64 n)) :
    Calls Tryd.prog 58 #[v, fromFn B] w fun e w' => e = .returned (.int .i64 (idxFrom (isFrom n) 0 l)) ∧ Below w.heap.size w w' := by
  have hle := h.len_le
  obtain ⟨A, c, rfl, -⟩ := id h
  have Ho := Lib.hid ho
  have HH := Lib.hid h
  clear ho h
  unfold fromFn
  go_enter Tryd.func58, Tryd.ntmps58
  go_wp2_with fail
  go_loopw [8] (fun k wr => ∃ (m : Nat) (z : BW w), m ≤ l.length ∧ k = .int .i64 m ∧ idxFrom (isFrom n) 0 l = idxFrom (isFrom n) m (l.drop m) ∧ wr = z.val) (fun k _ => l.length - (intOf k).toNat)
  case atStart => exact ⟨0, BW.self w, Nat.zero_le _, rfl, rfl, rfl⟩
  case round =>
    obtain ⟨m, z, hm, rfl, hv, rfl⟩ := hrel
    by_cases hlt : m < l.length
    · obtain ⟨y, hy⟩ : ∃ y, l[m]? = some y := ⟨l[m], List.getElem?_eq_getElem hlt⟩
      obtain ⟨b, off, _, vi, hv', hbb, e0, e1, e2, e3, e4, e5, e6, hs, -, -, -⟩ := subs_at (HH.out.next z.below) hy
      injection hv' with hv1 hv2 hv3
      subst hv1
      rw [drop_cons hy, idxFrom] at hv
      obtain ⟨yf, yi, ys, yq, yl, yh, yd⟩ := y
      obtain ⟨A4, c4, rfl, -⟩ := id hs
      unfold isFrom at hv
      simp only at e0 e1 e2 e3 e4 e5 e6 hv
      have HC := Lib.hid (sessionFrom1 n yf ys yq A4 yi.length c4 yl yh yd B z.val (z.cell Ho.out))
      generalize decide (yf = n) = r at hv HC
      have HV := Lib.hid hv
      clear hv hv2 hv3 hy hs
      go_wp2_with fail
      refine BW.call (z := z) HC.out ?_
      clear HC e0 e1 e2 e3 e4 e5 e6
      intro z1
      cases r <;> go_wp2_with fail
      · refine ⟨⟨m + 1, z1, by omega, by go_num, ?_, rfl⟩, by simp [intOf]; omega⟩
        exact HV.out.trans (by rw [if_neg (by simp)]; rfl)
      · go_ret
        exact ⟨ret_int (HV.out.trans (by simp)).symm, z1.below⟩
    · obtain rfl : m = l.length := by omega
      rw [List.drop_length] at hv
      have HV := Lib.hid hv
      clear hv
      go_wp2_with fail
      go_ret
      exact ⟨ret_int HV.out.symm, z.below⟩

theorem sessionFrom (n : Int) (l : List Sub) (v : Value) (w : World) (h : Subs w w.heap.size v l) :
    Calls Tryd.prog 32 #[v, .int .i64 n] w fun e w' => e = .returned (.int .i64 (idxFrom (isFrom n) 0 l)) ∧ Below w.heap.size w w' := by
  have kB := balloc (o := .cells #[.int .i64 n] 3) (Below.refl _ w)
  have HC := Lib.hid (subsIndexFunc n l w.heap.size v _ (h.next kB) ((Blk.new w 3 #[.int .i64 n]).cell 0))
  generalize idxFrom (isFrom n) 0 l = k at HC ⊢
  unfold fromFn at HC
  obtain ⟨A, c, rfl, -⟩ := id h
  clear h
  go_enter Tryd.func32, Tryd.ntmps32
  go_wp2_with fail
  refine BW.call (z := (BW.self w).alloc _) HC.out ?_
  intro z
  go_wp2_with fail
  go_ret
  exact ⟨rfl, z.below⟩
end Go.Proofs.YtmdeokneablgaaaDoor
