/- Notes: how they are read; contracts of their form, the program's and the reference's. -/
import Derived.Test.YtmdeokneablgaaaDoorPRead
import Derived.RangeFuncNested
import Derived.RangeFuncBound
import Derived.RangeFuncCalls
import Derived.RangeFuncLeaves
import Derived.Shelf.Abstract
import Derived.Shelf.RegionOpen
import Derived.OwnWalkIn
import Derived.TacticsInMore
import Derived.LoopNIn
import Derived.LoopIn
import Derived.Test.YtmdeokneablgaaaDoorPSpanIn
/- The program's walk over a vector's nodes ('each', 'All'): its contract as a range function's. -/
namespace Go.Proofs.YtmdeokneablgaaaDoor
open Go.ChangeShapes Go.WideShapes Go.ChangeAt Go.RowKit Go.Shelf
attribute [local go_sem] Oper.semAt_some

/-- the nodes that a mask names, rising -/
def nodesOf (M k : Nat) : List Nat := (List.range k).filter M.testBit
theorem nodesOf_succ (M k : Nat) : nodesOf M (k + 1) = if M.testBit k then nodesOf M k ++ [k] else nodesOf M k := by
  simp only [nodesOf, List.range_succ, List.filter_append, List.filter_cons, List.filter_nil]
  split <;> simp
theorem nodesOf_same {M k n : Nat} (hkn : k ≤ n) (h : ∀ i, k ≤ i → i < n → M.testBit i = false) : nodesOf M n = nodesOf M k := by
  induction n with
  | zero => obtain rfl : k = 0 := by omega
            rfl
  | succ n ih =>
    rcases Nat.lt_or_ge n k with c | c
    · obtain rfl : k = n + 1 := by omega
      rfl
    · rw [nodesOf_succ, h n c (by omega), if_neg (by simp)]
      exact ih c fun i h1 h2 => h i h1 (by omega)
theorem nodesOf_prefix {M k n : Nat} (h : k ≤ n) : nodesOf M k <+: nodesOf M n := by
  induction n with
  | zero => obtain rfl : k = 0 := by omega
            exact List.prefix_rfl
  | succ n ih =>
    rcases Nat.lt_or_ge n k with c | c
    · obtain rfl : k = n + 1 := by omega
      exact List.prefix_rfl
    · rw [nodesOf_succ]
      split
      · exact (ih c).trans (List.prefix_append _ _)
      · exact ih c
theorem nodesOf_length (M k : Nat) : (nodesOf M k).length ≤ k := by
  have := List.length_filter_le M.testBit (List.range k)
  simpa [nodesOf] using this
theorem mem_nodesOf {M k n : Nat} : n ∈ nodesOf M k ↔ n < k ∧ M.testBit n = true := by simp [nodesOf]

/-- the lowest bit of a number -/
theorem low_bit {R : Nat} (h0 : R ≠ 0) (hR : R < 18446744073709551616) : Lib.ctz 64 R < 64 ∧ R.testBit (Lib.ctz 64 R) = true ∧ ∀ i, i < Lib.ctz 64 R → R.testBit i = false := by
  obtain ⟨m, hm, hk⟩ := Lib.ctzFrom_spec 64 R (by omega) hR
  have e : Lib.ctz 64 R = Lib.ctzFrom 64 R := by rw [Lib.ctz, if_neg h0]
  rw [e]
  generalize Lib.ctzFrom 64 R = k at *
  refine ⟨hk, ?_, fun i hi => ?_⟩
  · rw [hm, Nat.mul_comm, Nat.testBit_mul_two_pow]
    simp [Nat.testBit_zero]
  · rw [hm, Nat.mul_comm, Nat.testBit_mul_two_pow]
    simp; omega
theorem drop_low {R : Nat} (h0 : R ≠ 0) (hR : R < 18446744073709551616) (i : Nat) : (R &&& (R - 1)).testBit i = (R.testBit i && !decide (i = Lib.ctz 64 R)) := by
  obtain ⟨m, hm, hk⟩ := Lib.ctzFrom_spec 64 R (by omega) hR
  have e : Lib.ctz 64 R = Lib.ctzFrom 64 R := by rw [Lib.ctz, if_neg h0]
  rw [e]
  generalize Lib.ctzFrom 64 R = k at *
  have e1 : R = (2 * m + 1) * 2 ^ k := by rw [hm, Nat.mul_comm]
  have e2 : R - 1 = 2 ^ k * (2 * m) + (2 ^ k - 1) := by
    rw [e1, Nat.add_mul, Nat.one_mul, Nat.mul_comm (2 * m)]
    have : 0 < 2 ^ k := Nat.two_pow_pos k
    omega
  have hlt : 2 ^ k - 1 < 2 ^ k := by have : 0 < 2 ^ k := Nat.two_pow_pos k; omega
  rw [Nat.testBit_and]
  cases hb : R.testBit i with
  | false => simp
  | true =>
    rw [Bool.true_and, Bool.true_and, e2, Nat.testBit_two_pow_mul_add _ hlt]
    rw [e1, Nat.testBit_mul_two_pow] at hb
    simp only [Bool.and_eq_true, decide_eq_true_eq] at hb
    rw [if_neg (by omega)]
    obtain ⟨h1, h2⟩ := hb
    by_cases hi : i = k
    · subst hi; simp [Nat.testBit_zero]
    · obtain ⟨d, hd⟩ : ∃ d, i - k = d + 1 := ⟨i - k - 1, by omega⟩
      rw [hd, Nat.testBit_succ] at h2 ⊢
      rw [show (2 * m + 1) / 2 = m by omega] at h2
      rw [show 2 * m / 2 = m by omega, h2, decide_eq_false hi]
      rfl

/-- what the walk reads lies as it lay: the box, the counts, the library's table -/
def KeepEach (Bn C : Nat) (W W' : World) : Prop := ∀ g, g = Bn ∨ g = C ∨ g = 0 → W'.heap[g]? = W.heap[g]?
theorem KeepEach.t {Bn C : Nat} {A B D : World} (h : KeepEach Bn C A B) (k : KeepEach Bn C B D) : KeepEach Bn C A D := fun g hg => (k g hg).trans (h g hg)
theorem KeepEach.of_below {Bn C : Nat} {W W' : World} (h : Below W.heap.size W W') (h1 : Bn < W.heap.size) (h2 : C < W.heap.size) (h3 : 0 < W.heap.size) : KeepEach Bn C W W' := by
  rintro g (rfl | rfl | rfl)
  · exact h.block _ h1
  · exact h.block _ h2
  · exact h.block _ h3

theorem KeepEach.refl (Bn C : Nat) (W : World) : KeepEach Bn C W W := fun _ _ => rfl
theorem KeepEach.put {Bn C : Nat} {w W : World} {l : Nat} {o' : Obj} (h1 : Bn < w.heap.size) (h2 : C < w.heap.size) (_h3 : 0 < w.heap.size) (hl : w.heap.size ≤ l) : KeepEach Bn C W (W.putObj l o') := by
  rintro g (rfl | rfl | rfl) <;> exact World.putObj_heap_other (by omega)
theorem KeepEach.far {Bn C : Nat} {W : World} {p : Addr} {v : Value} (h1 : p.block ≠ Bn) (h2 : p.block ≠ C) (h3 : p.block ≠ 0) : KeepEach Bn C W (W.setCell p v) := by
  rintro g (rfl | rfl | rfl)
  · exact Below.heap_setCell W p v _ (Ne.symm h1)
  · exact Below.heap_setCell W p v _ (Ne.symm h2)
  · exact Below.heap_setCell W p v _ (Ne.symm h3)
theorem TzTab.lt {w : World} (h : TzTab w) : 0 < w.heap.size := World.block_lt_of_cell? _ _ (h 0 (by decide))
/-- a block of cells abides the turn of what is no cells -/
theorem Blk.own {W W' : World} {g : Nat} {t : TypeId} {cs : Array Value} {row : Option Nat} (h : Blk W g t cs) (hg : W.grownBy W' row) (hr : ∀ r, row = some r → ∃ o : Obj, W.heap[r]? = some o ∧ o.isCells = false) : Blk W' g t cs := by
  refine h.grown hg ?_
  intro e
  obtain ⟨o, ho, hc⟩ := hr g e.symm
  rw [h.raw] at ho
  injection ho with ho
  subst ho
  cases hc

def eachEnc (f : Nat → Int) (n : Fin 64) : Array Value := #[.int .i64 (n.1 : Nat), .int .i64 (f n.1)]
/-- the walk's reading of its own memory -/
structure EachAt (Bn C : Nat) (f : Nat → Int) (M : Nat) (W : World) : Prop where
  box : Blk W Bn 107 #[.pointer (some ⟨C, 0, none⟩)]
  cnt : Blk W C 97 (cnts f M)
  tab : TzTab W
theorem EachAt.keep {Bn C : Nat} {f : Nat → Int} {M : Nat} {W W' : World} (h : EachAt Bn C f M W) (k : KeepEach Bn C W W') : EachAt Bn C f M W' := by
  refine ⟨(k _ (Or.inl rfl)).trans h.box, (k _ (Or.inr (Or.inl rfl))).trans h.cnt, fun j hj => ?_⟩
  have := h.tab j hj
  have hk := k 0 (Or.inr (Or.inr rfl))
  unfold World.cell? at this ⊢
  simp only at this ⊢
  rw [hk]
  exact this
theorem EachAt.next {Bn C : Nat} {f : Nat → Int} {M : Nat} {W W' : World} (h : EachAt Bn C f M W) (hb : Below W.heap.size W W') : EachAt Bn C f M W' := ⟨h.box.next hb, h.cnt.next hb, h.tab.next hb⟩

set_option maxRecDepth 100000 in
set_option maxHeartbeats 1000000 in
theorem each1_in (n : Nat) (hn : 1 ≤ n) (l Bn C : Nat) (f : Nat → Int) (M : Nat) (hM : M < 18446744073709551616) (J Jx : List (Fin 64) → World → Prop)
    (hY : ∀ pre x W, J pre W → pre.length < 64 → YieldAt Fence.wide (n - 1) Tryd.prog l (eachEnc f x) W fun e W' =>
      (e = .returned (.bool true) ∧ J (pre ++ [x]) W' ∧ KeepEach Bn C W W') ∨ (e = .returned (.bool false) ∧ Jx (pre ++ [x]) W'))
    (W : World) (hE : EachAt Bn C f M W) (h0 : J [] W) :
    CallsIn Fence.wide n Tryd.prog 84 #[.func (.yield l) #[] #[], .pointer (some ⟨Bn, 0, none⟩)] W fun e W' => (∃ v, e = .returned v) ∧
      ((∃ ys : List (Fin 64), ys.map (·.1) = nodesOf M 64 ∧ J ys W') ∨ (∃ pre : List (Fin 64), pre.map (·.1) <+: nodesOf M 64 ∧ Jx pre W')) := by
  have HE := Lib.hid hE
  have HY := Lib.hid hY
  clear hY
  have b0 := hE.box.cell 0
  have c0 := (hE.cnt.cell 64).trans cnts_has
  simp only [List.getElem?_toArray, List.getElem?_cons_zero] at b0
  clear hE
  refine callsIn_of_wp Tryd.func84 rfl trivial ?_ rfl
  simp only [Tryd.ntmps84, List.size_toArray, List.length_cons, List.length_nil, Nat.reduceAdd, Nat.reduceSub, Array.replicate_succ, Array.replicate_zero, List.push_toArray, List.append_toArray, List.nil_append, List.cons_append]
  gi_wp2
  gi_loopw [3] (fun p wr => ∃ (k R : Nat), k ≤ 64 ∧ p = .int .u64 R ∧ R < 18446744073709551616 ∧ (∀ i, i < 64 → R.testBit i = (M.testBit i && decide (k ≤ i))) ∧ EachAt Bn C f M wr ∧ ∃ pre : List (Fin 64), pre.map (·.1) = nodesOf M k ∧ J pre wr) (fun p wr => (intOf p).toNat)
  case atStart =>
    exact ⟨0, M, by omega, rfl, hM, fun i _ => by simp, HE.out, [], rfl, h0⟩
  case round =>
    obtain ⟨k, R, hk, rfl, hR, hbit, hEr, pre, hpm, hJ⟩ := hrel
    have Hpm := Lib.hid hpm
    clear hpm
    have Hbit := Lib.hid hbit
    clear hbit b0 c0
    by_cases hz : R = 0
    · subst hz
      have HJ := Lib.hid hJ
      clear hJ
      gi_wp2
      go_end0
      refine ⟨⟨_, rfl⟩, .inl ⟨pre, ?_, HJ.out⟩⟩
      rw [nodesOf_same hk fun i h1 h2 => by have := Hbit.out i h2; rw [Nat.zero_testBit, decide_eq_true h1, Bool.and_true] at this; exact this.symm]
      exact Hpm.out
    · obtain ⟨hx, hxb, hxl⟩ := low_bit hz hR
      have hdl := drop_low hz hR
      have hxc : Lib.ctz 64 R = Lib.ctz 64 R := rfl
      generalize hq : Lib.ctz 64 R = x at *
      have Hxl := Lib.hid hxl
      have Hdl := Lib.hid hdl
      have Hq := Lib.hid hq
      have Hxb := Lib.hid hxb
      have hkx : k ≤ x := by
        have := Hbit.out x hx
        rw [hxb] at this
        simp only [Bool.true_eq, Bool.and_eq_true, decide_eq_true_eq] at this
        exact this.2
      clear hxl hdl hq hxc hxb
      have HE2 := Lib.hid hEr
      have d0 := hEr.box.cell 0
      have d1 := (hEr.cnt.cell x).trans (cnts_at hx)
      simp only [List.getElem?_toArray, List.getElem?_cons_zero] at d0
      have HT := Lib.hid hEr.tab
      clear hEr
      have hzi : ((R : Int) == 0) = false := by simp; omega
      have HJ := Lib.hid hJ
      clear hJ
      have hz2 : ¬ (R : Int) = 0 := by omega
      gi_wp2
      refine ⟨trivial, ?_⟩
      refine (callsIn_wide.2 (trailing R hR _ HT.out)).mono ?_
      rw [Hq.out]
      rintro e w' ⟨rfl, rfl⟩
      obtain ⟨fn, tmps, assign, body, hy, hRd⟩ := HY.out pre ⟨x, hx⟩ wr HJ.out (by have := nodesOf_length M k; rw [← Hpm.out, List.length_map] at this; omega)
      dsimp only [eachEnc] at hy
      have hxi : (x : Int) < 64 := by omega
      gi_wp2
      refine hRd.mono ?_
      have hpre : (pre ++ [(⟨x, hx⟩ : Fin 64)]).map (·.1) = nodesOf M (x + 1) := by
        rw [List.map_append, Hpm.out]
        show nodesOf M k ++ [x] = _
        have hb : M.testBit x = true := by
          have := Hbit.out x hx
          rw [Hxb.out] at this
          simp only [Bool.true_eq, Bool.and_eq_true] at this
          exact this.1
        rw [nodesOf_succ, hb, if_pos rfl, nodesOf_same hkx fun i h1 h2 => by
          have := Hbit.out i (by omega)
          rw [Hxl.out i h2, decide_eq_true h1, Bool.and_true] at this
          exact this.symm]
      have Hpre := Lib.hid hpre
      clear hpre
      rintro e W3 (⟨rfl, hJ3, hk3⟩ | ⟨rfl, hJx3⟩)
      · have hE3 := HE2.out.keep hk3
        have e1 : bits .and .u64 (R : Int) ((R : Int) - 1) = ((R &&& (R - 1) : Nat) : Int) := by
          rw [show (R : Int) - 1 = ((R - 1 : Nat) : Int) by omega]
          exact u64_and_nat _ _ hR (by omega)
        have e2 : IntKind.u64.wrap ((R : Int) - 1) = (R : Int) - 1 := by rw [IntKind.wrap_u64]; omega
        have hlt : R &&& (R - 1) < R := Nat.lt_of_le_of_lt Nat.and_le_right (by omega)
        have HE3 := Lib.hid hE3
        have HJ3 := Lib.hid hJ3
        clear hE3 hJ3 hk3 d0 d1
        gi_wp2
        refine ⟨⟨x + 1, R &&& (R - 1), by omega, rfl, by omega, fun i hi => ?_, HE3.out, _, Hpre.out, HJ3.out⟩, by simp [intOf]; omega⟩
        rw [Hdl.out]
        rcases Nat.lt_or_ge i x with c | c
        · rw [Hxl.out i c, decide_eq_false (p := x + 1 ≤ i) (by omega)]
          simp
        · rw [Hbit.out i hi, decide_eq_true (p := k ≤ i) (by omega), Bool.and_true]
          congr 1
          by_cases hix : i = x
          · subst hix; simp
          · rw [decide_eq_false (p := i = x) hix, decide_eq_true (p := x + 1 ≤ i) (by omega)]
            rfl
      · gi_wp2
        refine bodyPost_ret (results_none rfl _ _ _) rfl ?_
        exact ⟨⟨_, rfl⟩, .inr ⟨_, Hpre.out ▸ nodesOf_prefix (by omega), hJx3⟩⟩

/-- the walk as a range function: it reads its own memory, which the rounds keep -/
theorem each_stops (n : Nat) (hn : 1 ≤ n) (Bn C : Nat) (f : Nat → Int) (M : Nat) (hM : M < 18446744073709551616) (w : World) (h : EachAt Bn C f M w) :
    SeqStopsK Fence.wide n Tryd.prog 84 #[.pointer (some ⟨Bn, 0, none⟩)] (eachEnc f) (KeepEach Bn C) (fun ys => ys.map (·.1) = nodesOf M 64) (fun pre => pre.map (·.1) <+: nodesOf M 64) 64 w := fun l J Jx W hW _ _ hY h0 =>
  each1_in n hn l Bn C f M hM J Jx hY W (h.next hW) h0
end Go.Proofs.YtmdeokneablgaaaDoor
/- Contracts of the program's walk over a vector, and of its test whether one vector covers another. -/
namespace Go.Proofs.YtmdeokneablgaaaDoor
open Go.ChangeShapes Go.WideShapes Go.ChangeAt Go.RowKit Go.Shelf
attribute [local go_sem] Oper.semAt_some

def eachFn (Bn : Nat) : Value := .func (.func 84) #[] #[.pointer (some ⟨Bn, 0, none⟩)]

theorem countsEach (C : Nat) (w : World) :
    Calls Tryd.prog 82 #[.pointer (some ⟨C, 0, none⟩)] w fun e w' => e = .returned (eachFn w.heap.size) ∧ w.alloc (.cells #[.pointer (some ⟨C, 0, none⟩)] 107) = w' := by
  go_enter Tryd.func82, Tryd.ntmps82
  go_wp2
  go_ret
  exact ⟨rfl, rfl⟩

/-- a function over a vector's nodes and counts -/
def AllPost (l : List Stamp) (w : World) (e : Ending) (w' : World) : Prop :=
  ∃ Bn C, e = .returned (eachFn Bn) ∧ EachAt Bn C (fun n => countOf l n) (maskOf l) w' ∧ w.heap.size ≤ Bn ∧ w.heap.size ≤ C ∧ Below w.heap.size w w'

set_option maxRecDepth 100000 in
theorem vectorAll (l : List Stamp) (v : Value) (w : World) (h : Stamps w w.heap.size v l) (hT : TzTab w) :
    Calls Tryd.prog 77 #[v] w (AllPost l w) := by
  obtain ⟨A, c, rfl, _⟩ := id h
  have HT := Lib.hid hT
  clear hT
  go_enter Tryd.func77, Tryd.ntmps77
  go_wp2_with fail
  refine (vectorRead l _ _ h).mono ?_
  rintro e w1 ⟨rfl, hb1⟩
  have hs := hb1.size
  have Hb1 := Lib.hid hb1
  clear hb1 h
  go_wp2_with (refine wpList_store_row rfl 97 (.tmp 3) (.tmp 5) rfl w1.heap.size _ rfl rfl 97 _ (Blk.new w1 97 _).raw (infoCnts _ _) (cnts_size _ _).symm (cnts_one _ _) ?_)
  refine (countsEach _ _).mono ?_
  rintro e w2 ⟨rfl, rfl⟩
  go_wp2
  go_ret
  have hC : Blk ((w1.alloc (.cells (cnts (fun _ => 0) 0) 97)).setRow w1.heap.size (cnts (fun n => countOf l n) (maskOf l))) w1.heap.size 97 (cnts (fun n => countOf l n) (maskOf l)) := (Blk.new _ _ _).setRow
  rw [cnts_zero] at hC
  have hk := bsetRow (g := w1.heap.size) (cs := cnts (fun n => countOf l n) (maskOf l)) (balloc (o := .cells (cnts (fun _ => 0) 0) 97) Hb1.out) hs
  rw [cnts_zero] at hk
  exact ⟨_, _, rfl, ⟨Blk.new_at (by simp), hC.alloc, HT.out.next (balloc hk)⟩, by omega, hs, balloc hk⟩

/-- a whole array stored, in a fenced walk -/
theorem wpListIn_store_row {F : Fence} {nF : Nat} {P : Program} {ops : Array Oper} {rest : List Oper} {o : Oper} {a : Act} {w : World} {Q : Exit → Act → World → Prop} (hgd : o.guard = none) (ty : TypeId) (x y : Operand) (ho : o.op = .store ty x y)
    (g : Nat) (cells : Array Value) (hx : a.eval x = .pointer (some ⟨g, 0, none⟩)) (hy : a.eval y = .agg cells)
    (t : TypeId) (old : Array Value) (hg : w.heap[g]? = some (.cells old t (0, 0))) (hi : (P.info? ty).map (·.size) = some cells.size)
    (hold : old.size = cells.size) (h1 : cells.all (·.oneCell') = true)
    (h : wpListIn F nF P ops Q rest (a.put o.dst undef) (w.setRow g cells)) : wpListIn F nF P ops Q (o :: rest) a w := by
  refine wpListIn_plain hgd fun K hK => ?_
  unfold Oper.wpIn
  refine ⟨by simp [Oper.about, ho], ?_⟩
  rw [Oper.semAt_plain F _ _ (by rw [ho]; intro c hc'; cases hc')]
  simp only [execOp, ho, hx, hy, Instr.storeAt, Instr.sureAddr, Sem.run_bind, Sem.run_pure, Result.andThen_ok, run_storeVar_row w g t ty old cells hg hi hold h1]
  exact hK _ _ h

set_option maxRecDepth 100000 in
set_option maxHeartbeats 2000000 in
theorem vectorCovers (l m : List Stamp) (v u : Value) (w : World) (h : Stamps w w.heap.size v l) (h' : Stamps w w.heap.size u m) (hT : TzTab w) :
    Calls Tryd.prog 70 #[v, u] w fun e w' => e = .returned (.bool (coversB l m)) ∧ Below w.heap.size w w' := by
  obtain ⟨A, c, rfl, _⟩ := id h
  obtain ⟨A', c', rfl, _⟩ := id h'
  have HT := Lib.hid hT
  clear hT
  refine (callsIn_wide (n := 5)).1 ?_
  refine callsIn_of_wp_marks Tryd.func70 rfl trivial ?_ rfl
  simp only [Tryd.ntmps70, List.size_toArray, List.length_cons, List.length_nil, Nat.reduceAdd, Nat.reduceSub, Array.replicate_succ, Array.replicate_zero, List.push_toArray, List.append_toArray, List.nil_append, List.cons_append]
  gi_wp2
  refine ⟨trivial, ?_⟩
  have B0 := Blk.new w 4 #[.bool false]
  refine (callsIn_wide.2 (vectorRead l _ _ (h.next (balloc (Below.refl _ _))))).mono ?_
  rintro e w1 ⟨rfl, hb1⟩
  replace B0 := B0.next hb1
  have k1 := bnext (balloc (Below.refl _ _)) hb1
  have Hs := Lib.hid (h'.next k1)
  have HT1 := Lib.hid (HT.out.next k1)
  clear h h' hb1 HT
  have hC : Blk ((w1.alloc (.cells (cnts (fun _ => 0) 0) 97)).setRow w1.heap.size (cnts (fun n => countOf l n) (maskOf l))) w1.heap.size 97 (cnts (fun n => countOf l n) (maskOf l)) := (Blk.new _ _ _).setRow
  have hk := bsetRow (g := w1.heap.size) (cs := cnts (fun n => countOf l n) (maskOf l)) (balloc (o := .cells (cnts (fun _ => 0) 0) 97) (Below.refl _ w1)) (Nat.le_refl _)
  rw [cnts_zero] at hC hk
  have HC := Lib.hid hC
  have Hk := Lib.hid hk
  have Hk1 := Lib.hid k1
  have HB := Lib.hid B0
  clear hC hk k1 B0
  gi_wp2_with (refine wpListIn_store_row rfl 97 (.tmp 5) (.tmp 9) rfl w1.heap.size _ rfl rfl 97 _ (Blk.new w1 97 _).raw (infoCnts _ _) (cnts_size _ _).symm (cnts_one _ _) ?_)
  refine ⟨trivial, ?_⟩
  refine (callsIn_wide.2 (vectorAll m _ _ (Hs.out.next Hk.out) (HT1.out.next Hk.out))).mono ?_
  rintro e w2 ⟨Bn, D, rfl, hE, hBn, hD, hb2⟩
  have B2 : Blk w2 w.heap.size 4 #[.bool false] := (HB.out.next Hk.out).next hb2
  have C2 := HC.out.next hb2
  have k2 : Below w.heap.size w w2 := bnext (bnext Hk1.out Hk.out) hb2
  have l1 := hE.box.lt
  have l2 := hE.cnt.lt
  have l3 := hE.tab.lt
  have l4 := B2.lt
  have hM := maskOf_lt m
  have HE := Lib.hid hE
  have HK2 := Lib.hid k2
  have hg1 := Hk1.out.size
  clear hb2 HB HC Hk Hk1 hE Hs HT1 hBn hD
  generalize w1.heap.size = g1 at *
  have HB2 := Lib.hid B2
  have HC2 := Lib.hid C2
  clear B2 C2 k2
  gi_wp2
  refine wpIn_rangeFunc_ownF rfl (by omega) (gf := 84) (lb := #[.pointer (some ⟨Bn, 0, none⟩)]) rfl trivial (enters_of Tryd.func84 (by kernel_rfl) rfl)
    (each_stops _ (by omega) Bn D (fun n => countOf m n) (maskOf m) hM w2 HE.out) (fun h k => KeepEach.t h k) (fun W l o o' hl _ _ _ => KeepEach.put l1 l2 l3 hl) (Below.refl _ _) (fun _ => rfl)
    (fun pre W => (Blk W w.heap.size 4 #[.bool false] ∧ Blk W g1 97 (cnts (fun n => countOf l n) (maskOf l)) ∧ ∀ i ∈ pre, countOf m (i.1 : Nat) ≤ countOf l (i.1 : Nat)) ∧ Below w.heap.size w W)
    (fun c pre W => (c = .ret ∧ Blk W w.heap.size 4 #[.bool false] ∧ ∃ i ∈ pre, countOf l (i.1 : Nat) < countOf m (i.1 : Nat)) ∧ Below w.heap.size w W)
    (OwnFrom.and (Own.from (fun s A B row hs hg hr => ⟨hs.1.own hg hr, hs.2.1.own hg hr, hs.2.2⟩) _) (ownFrom_below (Nat.le_refl _) HK2.out.size))
    (fun c => OwnFrom.and (Own.from (fun s A B row hs hg hr => ⟨hs.1, hs.2.1.own hg hr, hs.2.2⟩) _) (ownFrom_below (Nat.le_refl _) HK2.out.size))
    ⟨⟨HB2.out, HC2.out, by simp⟩, HK2.out⟩
    (fun x => { tmps := #[.slice A l.length c, .slice A' m.length c', undef, undef, .pointer (some ⟨w.heap.size, 0, none⟩), .pointer (some ⟨g1, 0, none⟩), .int .i64 (x.1 : Nat), .int .i64 (countOf m (x.1 : Nat)), .slice A l.length c, .agg (cnts (fun n => countOf l n) (maskOf l)), .slice A' m.length c', eachFn Bn, .int .i64 (x.1 : Nat), .int .i64 (countOf m (x.1 : Nat)), undef, undef, undef, undef, undef, undef], defers := [] }) ?assign ?body ?done ?stop
  case assign =>
    intro r x W K hK
    dsimp only [eachEnc]
    gi_wp2
    exact hK
  case body =>
    rintro r pre ⟨x, hx⟩ W ⟨⟨hB, hC, hall⟩, hb⟩ _
    dsimp only
    have c0 := (hC.cell x).trans (cnts_at hx)
    have f0 := hB.frozen 0
    have d0 := hB.cell 0
    simp only [List.getElem?_toArray, List.getElem?_cons_zero] at c0 d0
    have Hall := Lib.hid hall
    have HBB := Lib.hid hB
    have HCC := Lib.hid hC
    have Hb := Lib.hid hb
    clear hall hB hC hb
    have hxi : (x : Int) < 64 := by omega
    generalize hp : countOf l x = p at c0
    generalize hq : countOf m x = q
    have HP := Lib.hid hp
    have HQ := Lib.hid hq
    clear hp hq
    gi_wp2
    · refine ⟨KeepsOthers.setCell _ _ _, ⟨rfl, ?_, ⟨x, hx⟩, by simp, ?_⟩, bset Hb.out (Nat.le_refl _)⟩
      · exact HBB.out.set_ 0 _
      · show countOf l x < countOf m x
        rw [HP.out, HQ.out]
        assumption
    · refine ⟨KeepsOthers.refl _, KeepEach.refl _ _ _, ⟨HBB.out, HCC.out, fun i hi => ?_⟩, Hb.out⟩
      rcases List.mem_append.1 hi with hi | hi
      · exact Hall.out i hi
      · obtain rfl : i = ⟨x, hx⟩ := by simpa using hi
        show countOf m x ≤ countOf l x
        rw [HP.out, HQ.out]
        assumption
  case done =>
    rintro E ys W hD hys ⟨⟨hB, _, hall⟩, hb⟩ hK
    have Hres : Hid (coversB l m = true) := by
      rw [coversB, decide_eq_true_eq]
      intro n hn
      by_cases hz : countOf m n = 0
      · rw [hz]
        by_cases h0 : countOf l n = 0
        · omega
        · have := countOf_pos h0; omega
      · have hmem : n ∈ nodesOf (maskOf m) 64 := mem_nodesOf.2 ⟨hn, by rw [maskOf_bit hn]; simpa using hz⟩
        rw [← hys] at hmem
        obtain ⟨i, hi, rfl⟩ := List.mem_map.1 hmem
        exact hall i hi
    have f0 := hB.frozen 0
    have d0 := hB.cell 0
    simp only [List.getElem?_toArray, List.getElem?_cons_zero] at d0
    have HBB := Lib.hid hB
    have Hb := Lib.hid hb
    have Hys := Lib.hid hys
    have HK := Lib.hid hK
    clear hall hB hb hys hK
    gi_wp2
    have hK' := (KeepsOthers.setCell W ⟨w.heap.size, 0, none⟩ (.bool true)).same E _ HK.out rfl
    refine ⟨by simp, .inl ⟨_, _, rfl, run_takeDeferred hK', ?_⟩⟩
    have hc5 := cell_kept (World.cell?_setCell_same' W ⟨w.heap.size, 0, none⟩ (.bool true) (by rw [d0]; rfl)) (grownBy_putObj' _ E (.deferred none)) (fun r e => by cases e; exact ⟨_, hK', rfl⟩)
    refine ⟨.bool true, ?_, by rw [Hres.out], (Hb.out.setCell (p := ⟨w.heap.size, 0, none⟩) (Nat.le_refl _) _).trans (belowK_b (w := w) (Nat.le_refl _) _ E _ _ (by have := HK2.out.size; omega) hK' rfl rfl)⟩
    simp [results, Tryd.f70, go_sem, hc5]
  case stop =>
    rintro E d pre W hD _ ⟨⟨rfl, hB, i, _, hi⟩, hb⟩ hK
    have Hres : Hid (coversB l m = false) := by
      rw [coversB, decide_eq_false_iff_not]
      intro h
      have := h i.1 i.2
      omega
    have d0 := hB.cell 0
    simp only [List.getElem?_toArray, List.getElem?_cons_zero] at d0
    have Hb := Lib.hid hb
    have HK := Lib.hid hK
    clear hB hb hK hi
    gi_wp2
    refine ⟨by simp, .inl ⟨_, _, rfl, run_takeDeferred HK.out, ?_⟩⟩
    have hc5 := cell_kept d0 (grownBy_putObj' _ E (.deferred none)) (fun r e => by cases e; exact ⟨_, HK.out, rfl⟩)
    refine ⟨.bool false, ?_, by rw [Hres.out], Hb.out.trans (belowK_b (w := w) (Nat.le_refl _) W E _ _ (by have := HK2.out.size; omega) HK.out rfl rfl)⟩
    simp [results, Tryd.f70, go_sem, hc5]
end Go.Proofs.YtmdeokneablgaaaDoor
namespace Go.Proofs.YtmdeokneablgaaaDoor
open Go.ChangeShapes Go.WideShapes Go.ChangeAt Go.RowKit

structure Write where
  stamp : Stamp
  object : Int
  gone : Bool
  deriving DecidableEq
def WriteR (cs : List Value) (x : Write) : Prop := cs = [.int .i64 x.stamp.count, .int .i64 x.stamp.node, .int .i64 x.object, .bool x.gone] ∧ I64 x.stamp.count ∧ I64 x.stamp.node ∧ I64 x.object
theorem opens_write {w : World} : Opens Tryd.prog w 66 4 WriteR := by
  intro H enc fuel cs x h
  obtain ⟨hl, n, hf⟩ := struct_pieces Tryd.underlying66 h
  have hk : Tryd.prog.cellsOf 66 = 4 := by kernel_rfl
  have hs : Tryd.prog.cellsOf 38 = 2 := by kernel_rfl
  have hi : Tryd.prog.cellsOf 3 = 1 := by kernel_rfl
  have hb : Tryd.prog.cellsOf 4 = 1 := by kernel_rfl
  rw [hk] at hl
  refine ⟨hl, ?_⟩
  match cs, hl with
  | [v0, v1, v2, v3], _ =>
    obtain ⟨y0, h0⟩ := hf 0 38 0 2 rfl hs
    obtain ⟨y1, h1⟩ := hf 1 3 2 1 rfl hi
    obtain ⟨y2, h2⟩ := hf 2 4 3 1 rfl hb
    obtain ⟨_, a, e0, i1, i2⟩ := opens_stamp (w := w) H enc n _ _ h0
    obtain ⟨_, b, e1, i3⟩ := opens_int (w := w) Tryd.underlying3 H enc n _ _ h1
    obtain ⟨_, g, e2⟩ := opens_bool (w := w) Tryd.underlying4 H enc n _ _ h2
    simp at e0 e1 e2
    obtain ⟨rfl, rfl⟩ := e0
    subst e1 e2
    exact ⟨⟨a, b, g⟩, rfl, i1, i2, i3⟩
abbrev Writes := Sl WriteR 4
theorem opens_writes {w : World} : Opens Tryd.prog w 29 1 (fun cs l => ∃ v, cs = [v] ∧ Writes w w.heap.size v l) :=
  opens_slice Tryd.underlying29 (by kernel_rfl) (by omega) opens_write
theorem writes_at {w : World} {B : Nat} {v : Value} {l : List Write} (h : Writes w B v l) {m : Nat} {x : Write} (hx : l[m]? = some x) :
    ∃ b off c, v = .slice (some ⟨b, off, none⟩) l.length c ∧ b < B ∧ w.cell? ⟨b, off + m * 4, none⟩ = some (.int .i64 x.stamp.count) ∧ w.cell? ⟨b, off + m * 4 + 1, none⟩ = some (.int .i64 x.stamp.node) ∧
      w.cell? ⟨b, off + m * 4 + 2, none⟩ = some (.int .i64 x.object) ∧ w.cell? ⟨b, off + m * 4 + 3, none⟩ = some (.bool x.gone) ∧ I64 x.object := by
  obtain ⟨A, c, rfl, _, _, h3⟩ := h
  obtain ⟨b, off, rfl, hb, h4⟩ := h3 (by rintro rfl; simp at hx)
  obtain ⟨cs, ⟨rfl, i1, i2, i3⟩, _, h5⟩ := h4 m x hx
  exact ⟨b, off, c, rfl, hb, h5 0 _ rfl, h5 1 _ rfl, h5 2 _ rfl, h5 3 _ rfl, i3⟩

structure Note where
  start : List Stamp
  end_ : List Stamp
  blur : List Span
  writes : List Write
  deriving DecidableEq
/-- the four slices of a note -/
structure NoteV (w : World) (B : Nat) (v0 v1 v2 v3 : Value) (x : Note) : Prop where
  start : Stamps w B v0 x.start
  end_ : Stamps w B v1 x.end_
  blur : Spans w B v2 x.blur
  writes : Writes w B v3 x.writes
theorem NoteV.next {w w' : World} {v0 v1 v2 v3 : Value} {x : Note} (h : NoteV w w.heap.size v0 v1 v2 v3 x) (hb : Below w.heap.size w w') : NoteV w' w'.heap.size v0 v1 v2 v3 x :=
  ⟨h.start.next hb, h.end_.next hb, h.blur.next hb, h.writes.next hb⟩
theorem NoteV.keep {w w' : World} {B B' : Nat} {v0 v1 v2 v3 : Value} {x : Note} (h : NoteV w B v0 v1 v2 v3 x) (hB : B ≤ B') (hk : ∀ p : Addr, p.block < B → w'.cell? p = w.cell? p) : NoteV w' B' v0 v1 v2 v3 x :=
  ⟨h.start.keep (fun _ _ h => h) hB hk, h.end_.keep (fun _ _ h => h) hB hk, h.blur.keep (fun _ _ h => h) hB hk, h.writes.keep (fun _ _ h => h) hB hk⟩
def NoteR (w : World) (B : Nat) (cs : List Value) (x : Note) : Prop := ∃ v0 v1 v2 v3, cs = [v0, v1, v2, v3] ∧ NoteV w B v0 v1 v2 v3 x
theorem opens_note {w : World} : Opens Tryd.prog w 31 4 (NoteR w w.heap.size) := by
  intro H enc fuel cs x h
  obtain ⟨hl, n, hf⟩ := struct_pieces Tryd.underlying31 h
  have hk : Tryd.prog.cellsOf 31 = 4 := by kernel_rfl
  have hs : Tryd.prog.cellsOf 27 = 1 := by kernel_rfl
  have hi : Tryd.prog.cellsOf 28 = 1 := by kernel_rfl
  have hb : Tryd.prog.cellsOf 29 = 1 := by kernel_rfl
  rw [hk] at hl
  refine ⟨hl, ?_⟩
  match cs, hl with
  | [v0, v1, v2, v3], _ =>
    obtain ⟨y0, h0⟩ := hf 0 27 0 1 rfl hs
    obtain ⟨y1, h1⟩ := hf 1 27 1 1 rfl hs
    obtain ⟨y2, h2⟩ := hf 2 28 2 1 rfl hi
    obtain ⟨y3, h3⟩ := hf 3 29 3 1 rfl hb
    obtain ⟨_, a, _, e0, s0⟩ := opens_stamps (w := w) H enc n _ _ h0
    obtain ⟨_, b, _, e1, s1⟩ := opens_stamps (w := w) H enc n _ _ h1
    obtain ⟨_, c, _, e2, s2⟩ := opens_spans (w := w) H enc n _ _ h2
    obtain ⟨_, d, _, e3, s3⟩ := opens_writes (w := w) H enc n _ _ h3
    simp at e0 e1 e2 e3
    subst e0 e1 e2 e3
    exact ⟨⟨a, b, c, d⟩, _, _, _, _, rfl, s0, s1, s2, s3⟩
abbrev Notes (w : World) (B : Nat) := Sl (NoteR w B) 4 w B
theorem Notes.next {w w' : World} {v : Value} {l : List Note} (h : Notes w w.heap.size v l) (hb : Below w.heap.size w w') : Notes w' w'.heap.size v l :=
  h.keep (fun _ _ ⟨v0, v1, v2, v3, e, hn⟩ => ⟨v0, v1, v2, v3, e, hn.next hb⟩) hb.size fun _ hp => hb.cell hp
theorem opens_notes {w : World} : Opens Tryd.prog w 23 1 (fun cs l => ∃ v, cs = [v] ∧ Notes w w.heap.size v l) :=
  opens_slice Tryd.underlying23 (by kernel_rfl) (by omega) opens_note
theorem notes_at {w : World} {B : Nat} {v : Value} {l : List Note} (h : Notes w B v l) {m : Nat} {x : Note} (hx : l[m]? = some x) :
    ∃ b off c v0 v1 v2 v3, v = .slice (some ⟨b, off, none⟩) l.length c ∧ b < B ∧ w.cell? ⟨b, off + m * 4, none⟩ = some v0 ∧ w.cell? ⟨b, off + m * 4 + 1, none⟩ = some v1 ∧
      w.cell? ⟨b, off + m * 4 + 2, none⟩ = some v2 ∧ w.cell? ⟨b, off + m * 4 + 3, none⟩ = some v3 ∧ NoteV w B v0 v1 v2 v3 x := by
  obtain ⟨A, c, rfl, _, _, h3⟩ := h
  obtain ⟨b, off, rfl, hb, h4⟩ := h3 (by rintro rfl; simp at hx)
  obtain ⟨cs, ⟨v0, v1, v2, v3, rfl, hn⟩, _, h5⟩ := h4 m x hx
  exact ⟨b, off, c, v0, v1, v2, v3, rfl, hb, h5 0 _ rfl, h5 1 _ rfl, h5 2 _ rfl, h5 3 _ rfl, hn⟩

/-- writes of rising objects behind one, each outside the blur, its stamp known -/
def writesFrom (x : Note) : Int → List Write → Bool
  | _, [] => true
  | e, y :: l => (decide (e < y.object ∧ 0 ≤ y.object ∧ y.object ≤ 255) && !spanHas x.blur y.object && vecHas x.end_ y.stamp) && writesFrom x y.object l
def noteFormed (x : Note) : Bool := vecFormed x.start && vecFormed x.end_ && coversB x.end_ x.start && spanFormed x.blur && writesFrom x (-1) x.writes
end Go.Proofs.YtmdeokneablgaaaDoor
