/- Contracts of the program's read of a vector's counts, and the number of zeros behind a number's last one. -/
import Derived.Test.YtmdeokneablgaaaDoorPVec
import Derived.Test.YtmdeokneablgaaaDoorPArr
import Derived.StillTailTactics
import Derived.Laws.BitsAllLaws
import Derived.Shelf.Spec.TrailingZeros
/- Contracts of the counts of a vector, the program's and the reference's. -/
namespace Go.Proofs.YtmdeokneablgaaaDoor
open Go.ChangeShapes Go.WideShapes Go.ChangeAt Go.RowKit

/-- the count of a node: the first right stamp's -/
def countOf : List Stamp → Int → Int
  | [], _ => 0
  | s :: l, n => if s.node = n ∧ rightB s.count s.node = true then s.count else countOf l n

def row64 (f : Nat → Int) : Array Value := rowOf 64 fun n => .int .i64 (f n)

theorem row64_size (f : Nat → Int) : (row64 f).size = 64 := rowOf_size _ _
theorem row64_one (f : Nat → Int) : (row64 f).all (·.oneCell') = true := rowOf_one fun _ => rfl
theorem info64 (f : Nat → Int) : (Tryd.prog.info? 81).map (·.size) = some (row64 f).size := by rw [row64_size]; kernel_rfl
set_option maxRecDepth 100000 in
theorem refCounts (l : List Stamp) (v : Value) (w : World) (h : Stamps w w.heap.size v l) :
    Calls Tryd.prog 49 #[v] w fun e w' => e = .returned (.agg (row64 fun n => countOf l n)) ∧ Below w.heap.size w w' := by
  have hle := h.len_le
  obtain ⟨A, c, rfl, _⟩ := id h
  go_enter Tryd.func49, Tryd.ntmps49
  go_wp2_with fail
  go_loopw [4] (fun k wr => ∃ m : Nat, m ≤ l.length ∧ k = .int .i64 ((m : Int) - 1) ∧ Below w.heap.size w wr ∧ Blk wr w.heap.size 81 (row64 fun _ => 0) ∧ Blk wr (w.heap.size + 1) 81 (row64 fun n => countOf (l.drop m) n)) (fun k _ => (intOf k + 1).toNat)
  case atStart =>
    refine ⟨l.length, Nat.le_refl _, rfl, balloc (balloc (Below.refl _ _)), (Blk.new _ _ _).alloc, ?_⟩
    rw [List.drop_length]
    exact Blk.new_at (by simp)
  case round =>
    obtain ⟨m, hm, rfl, hb, hB, hC⟩ := hrel
    cases m with
    | zero =>
      go_wp2_with (first
        | (with_reducible refine wpList_load_row rfl 81 (.tmp 3) rfl (w.heap.size + 1) rfl 81 _ (0, 0) _ hC.raw Tryd.underlying81 rfl (info64 _) ?_)
        | (with_reducible refine wpList_store_row rfl 81 (.tmp 2) (.tmp 28) rfl w.heap.size _ rfl rfl 81 _ hB.raw (info64 _) ((row64_size _).trans (row64_size _).symm) (row64_one _) ?_))
      exact bodyPost_ret (results_cell_row Tryd.results49 _ _ w.heap.size 81 _ (0, 0) _ rfl (hB.setRow (cs' := row64 fun n => countOf (l.drop 0) n)).raw Tryd.underlying81 rfl (info64 _)) rfl ⟨rfl, bsetRow hb (by simp)⟩
    | succ p =>
      obtain ⟨x, hx⟩ : ∃ x, l[p]? = some x := ⟨l[p], List.getElem?_eq_getElem (by omega)⟩
      obtain ⟨b, off, c', hv', hbb, e0, e1, _, _⟩ := stamps_at h hx
      injection hv' with hv1 hv2 hv3
      subst hv1
      have f0 := (hb.cell (p := ⟨b, off + p * 2, none⟩) hbb).trans e0
      have f1 := (hb.cell (p := ⟨b, off + p * 2 + 1, none⟩) hbb).trans e1
      have hd := drop_cons hx
      obtain ⟨xc, xn⟩ := x
      simp only at f0 f1 hd
      have Hd := Lib.hid hd
      clear hd hv2 hv3 e0 e1 hx
      have i1 : (p : Int) < (l.length : Int) := by omega
      have i2 : (0 : Int) ≤ (p : Int) := by omega
      rw [show ((p + 1 : Nat) : Int) - 1 = (p : Int) by omega]
      cases hr : rightB xc xn with
      | false =>
        go_wp2_with fail
        refine (refRightOf _ _ _ hr).mono ?_
        rintro e w1 ⟨rfl, hb1⟩
        go_wp2_with fail
        refine ⟨⟨p, by omega, rfl, bnext hb hb1, hB.next hb1, ?_⟩, by simp [intOf]⟩
        have e : (fun n : Nat => countOf (l.drop p) n) = fun n : Nat => countOf (l.drop (p + 1)) n := by
          funext n
          rw [Hd.out, countOf, hr, if_neg (by simp)]
        rw [e]
        exact hC.next hb1
      | true =>
        go_wp2_with fail
        refine (refRightOf _ _ _ hr).mono ?_
        rintro e w1 ⟨rfl, hb1⟩
        replace f0 := kept_cell hb1 f0
        replace f1 := kept_cell hb1 f1
        replace hC := hC.next hb1
        replace hB := hB.next hb1
        replace hb := bnext hb hb1
        simp only [rightB, decide_eq_true_eq] at hr
        obtain ⟨r1, r2, r3⟩ := hr
        obtain ⟨n, rfl⟩ : ∃ n : Nat, xn = n := ⟨xn.toNat, by omega⟩
        have r4 : n < 64 := by omega
        have c0 := (hC.cell n).trans (rowOf_at r4)
        have d0 := hC.frozen n
        have Hb1 := Lib.hid hb1
        clear hb1
        go_wp2_with fail
        go_still_tail 11, (by kernel_rfl)
        go_wp2_with fail
        refine ⟨⟨p, by omega, rfl, (bset hb (p := ⟨w.heap.size + 1, n, none⟩) (by simp)).drew, (hB.far (by simp) _).drew, ?_⟩, by simp [intOf]⟩
        have e : (row64 fun n : Nat => countOf (l.drop p) n) = (row64 fun n : Nat => countOf (l.drop (p + 1)) n).setIfInBounds n (.int .i64 xc) := by
          rw [row64, row64, rowOf_set]
          refine rowOf_congr fun i _ => ?_
          rw [Hd.out, countOf]
          have hr : rightB xc n = true := by simp only [rightB, decide_eq_true_eq]; omega
          by_cases hi : i = n
          · subst hi; simp [hr]
          · rw [if_neg (by simp; omega), if_neg hi]
        rw [e]
        exact (hC.set_ n _).drew
theorem countOf_out {l : List Stamp} {n : Int} (h : n < 0 ∨ 63 < n) : countOf l n = 0 := by
  induction l with
  | nil => rfl
  | cons s l ih =>
    rw [countOf, if_neg, ih]
    rintro ⟨rfl, h2⟩
    simp only [rightB, decide_eq_true_eq] at h2
    omega

set_option maxRecDepth 100000 in
theorem refCount (l : List Stamp) (n : Int) (v : Value) (w : World) (h : Stamps w w.heap.size v l) :
    Calls Tryd.prog 52 #[v, .int .i64 n] w fun e w' => e = .returned (.int .i64 (countOf l n)) ∧ Below w.heap.size w w' := by
  obtain ⟨A, c, rfl, _⟩ := id h
  by_cases h0 : n < 0
  · have H := Lib.hid (countOf_out (l := l) (Or.inl h0))
    go_enter Tryd.func52, Tryd.ntmps52
    go_wp2_with fail
    go_ret
    exact ⟨ret_int H.out.symm, Below.refl _ _⟩
  · by_cases h1 : 63 < n
    · have H := Lib.hid (countOf_out (l := l) (Or.inr h1))
      go_enter Tryd.func52, Tryd.ntmps52
      go_wp2_with fail
      go_ret
      exact ⟨ret_int H.out.symm, Below.refl _ _⟩
    · obtain ⟨k, rfl⟩ : ∃ k : Nat, n = k := ⟨n.toNat, by omega⟩
      have hk : k < 64 := by omega
      have hX : ∀ u : World, (Instr.index 81 (.agg (row64 fun n => countOf l n)) (.int .i64 k)).run Tryd.prog u = .ok (.int .i64 (countOf l k)) u :=
        run_index_one Tryd.underlying81 Tryd.underlying3 rfl (by kernel_rfl) hk (rowOf_at hk)
      go_enter Tryd.func52, Tryd.ntmps52
      go_wp2_with fail
      refine (refCounts l _ _ h).mono ?_
      rintro e w1 ⟨rfl, hb1⟩
      go_wp2_with fail
      go_ret
      exact ⟨rfl, hb1⟩

theorem vectorCount (l : List Stamp) (n : Int) (v : Value) (w : World) (h : Stamps w w.heap.size v l) :
    Calls Tryd.prog 80 #[v, .int .i64 n] w fun e w' => e = .returned (.int .i64 (countOf l n)) ∧ Below w.heap.size w w' := by
  have hle := h.len_le
  obtain ⟨A, c, rfl, _⟩ := id h
  go_enter Tryd.func80, Tryd.ntmps80
  go_wp2_with fail
  go_loopw [9] (fun k wr => ∃ m : Nat, m ≤ l.length ∧ k = .int .i64 m ∧ countOf l n = countOf (l.drop m) n ∧ Below w.heap.size w wr) (fun k _ => l.length - (intOf k).toNat)
  case atStart => exact ⟨0, Nat.zero_le _, rfl, rfl, Below.refl _ _⟩
  case round =>
    obtain ⟨m, hm, rfl, hv, hb⟩ := hrel
    by_cases hlt : m < l.length
    · obtain ⟨x, hx⟩ : ∃ x, l[m]? = some x := ⟨l[m], List.getElem?_eq_getElem hlt⟩
      obtain ⟨b, off, c', hv', hbb, e0, e1, _, _⟩ := stamps_at h hx
      injection hv' with hv1 hv2 hv3
      subst hv1
      have f0 := (hb.cell (p := ⟨b, off + m * 2, none⟩) hbb).trans e0
      have f1 := (hb.cell (p := ⟨b, off + m * 2 + 1, none⟩) hbb).trans e1
      rw [drop_cons hx, countOf] at hv
      obtain ⟨xc, xn⟩ := x
      simp only at f0 f1 hv
      generalize hr : rightB xc xn = r at hv
      have HV := Lib.hid hv
      clear hv hv2 hv3 e0 e1 hx
      by_cases hn : xn = n
      · have ht : (xn == n) = true := by simpa using hn
        have Hn := Lib.hid hn
        clear hn
        go_wp2_with fail
        refine (stampRightOf xc xn _ hr).mono ?_
        rintro e' w1 ⟨rfl, hb1⟩
        have B1 := (Blk.new wr 38 #[.int .i64 xc, .int .i64 xn]).next hb1
        have k1 := bnext (balloc hb) hb1
        have b0 := B1.cell 0
        have b1 := B1.cell 1
        simp only [List.getElem?_toArray, List.getElem?_cons_zero, List.getElem?_cons_succ] at b0 b1
        clear hb1 hr
        cases r <;> go_wp2_with fail
        · refine ⟨⟨m + 1, by omega, by go_num, ?_, k1⟩, by simp [intOf]; omega⟩
          rw [HV.out, if_neg (by simp)]
        · go_ret
          refine ⟨ret_int ?_, k1⟩
          rw [HV.out, if_pos ⟨Hn.out, trivial⟩]
      · have ht : (xn == n) = false := by simpa using hn
        have Hn := Lib.hid hn
        clear hn
        go_wp2_with fail
        refine ⟨⟨m + 1, by omega, by go_num, ?_, balloc hb⟩, by simp [intOf]; omega⟩
        rw [HV.out, if_neg (fun h => Hn.out h.1)]
    · obtain rfl : m = l.length := by omega
      rw [List.drop_length] at hv
      have HV := Lib.hid hv
      clear hv
      go_wp2_with fail
      go_ret
      exact ⟨ret_int HV.out.symm, hb⟩

def vecHas (l : List Stamp) (s : Stamp) : Bool := rightB s.count s.node && decide (s.count ≤ countOf l s.node)

theorem vectorHas (l : List Stamp) (s : Stamp) (v : Value) (w : World) (h : Stamps w w.heap.size v l) :
    Calls Tryd.prog 73 #[v, .agg #[.int .i64 s.count, .int .i64 s.node]] w fun e w' => e = .returned (.bool (vecHas l s)) ∧ Below w.heap.size w w' := by
  obtain ⟨A, c, rfl, _⟩ := id h
  unfold vecHas
  obtain ⟨sc, sn⟩ := s
  simp only
  generalize hr : rightB sc sn = r
  generalize hk : countOf l sn = k
  have HC : ∀ u : World, Stamps u u.heap.size (.slice A l.length c) l → Calls Tryd.prog 80 #[.slice A l.length c, .int .i64 sn] u fun e w' => e = .returned (.int .i64 k) ∧ Below u.heap.size u w' := fun u hu => hk ▸ vectorCount l sn _ u hu
  have HD := Lib.hid HC
  clear hk HC
  go_enter Tryd.func73, Tryd.ntmps73
  cases r
  all_goals
    go_wp2_with fail
    have hS : ∀ z : BW (w.alloc (.cells #[.int .i64 sc, .int .i64 sn] 38)), Stamps z.val z.val.heap.size (.slice A l.length c) l := fun z => (h.next (balloc (Below.refl _ _))).next z.below
    have HS := Lib.hid hS
    clear hS h
    have B := Blk.new w 38 #[.int .i64 sc, .int .i64 sn]
    have q0 : ∀ z : BW (w.alloc (.cells #[.int .i64 sc, .int .i64 sn] 38)), z.val.cell? ⟨w.heap.size, 0, none⟩ = some (.int .i64 sc) := fun z => z.cell (B.cell 0)
    have q1 : ∀ z : BW (w.alloc (.cells #[.int .i64 sc, .int .i64 sn] 38)), z.val.cell? ⟨w.heap.size, 1, none⟩ = some (.int .i64 sn) := fun z => z.cell (B.cell 1)
    refine region_below (by kernel_rfl) (by kernel_rfl) ?_
    repeat (go_big_quiet_step (first | (go_at_call 69; exact below_of (stampRightOf _ _ _ hr)) | (go_at_call 80; exact below_of (HD.out _ (HS.out _)))))
    refine wpQuiet_nil ?_
    intro w1 hb1
    have k1 := bnext (balloc (Below.refl _ _)) hb1
    go_wp2_with fail
    go_ret
    exact ⟨rfl, k1⟩

theorem refHas (l : List Stamp) (s : Stamp) (v : Value) (w : World) (h : Stamps w w.heap.size v l) :
    Calls Tryd.prog 29 #[v, .agg #[.int .i64 s.count, .int .i64 s.node]] w fun e w' => e = .returned (.bool (vecHas l s)) ∧ Below w.heap.size w w' := by
  obtain ⟨A, c, rfl, _⟩ := id h
  unfold vecHas
  obtain ⟨sc, sn⟩ := s
  simp only
  generalize hr : rightB sc sn = r
  generalize hk : countOf l sn = k
  have HC : ∀ u : World, Stamps u u.heap.size (.slice A l.length c) l → Calls Tryd.prog 52 #[.slice A l.length c, .int .i64 sn] u fun e w' => e = .returned (.int .i64 k) ∧ Below u.heap.size u w' := fun u hu => hk ▸ refCount l sn _ u hu
  have HD := Lib.hid HC
  clear hk HC
  go_enter Tryd.func29, Tryd.ntmps29
  cases r
  all_goals
    go_wp2_with fail
    have hS : ∀ z : BW (w.alloc (.cells #[.int .i64 sc, .int .i64 sn] 38)), Stamps z.val z.val.heap.size (.slice A l.length c) l := fun z => (h.next (balloc (Below.refl _ _))).next z.below
    have HS := Lib.hid hS
    clear hS h
    have B := Blk.new w 38 #[.int .i64 sc, .int .i64 sn]
    have q0 : ∀ z : BW (w.alloc (.cells #[.int .i64 sc, .int .i64 sn] 38)), z.val.cell? ⟨w.heap.size, 0, none⟩ = some (.int .i64 sc) := fun z => z.cell (B.cell 0)
    have q1 : ∀ z : BW (w.alloc (.cells #[.int .i64 sc, .int .i64 sn] 38)), z.val.cell? ⟨w.heap.size, 1, none⟩ = some (.int .i64 sn) := fun z => z.cell (B.cell 1)
    refine region_below (by kernel_rfl) (by kernel_rfl) ?_
    repeat (go_big_quiet_step (first | (go_at_call 48; exact below_of (refRightOf _ _ _ hr)) | (go_at_call 52; exact below_of (HD.out _ (HS.out _)))))
    refine wpQuiet_nil ?_
    intro w1 hb1
    have k1 := bnext (balloc (Below.refl _ _)) hb1
    go_wp2_with fail
    go_ret
    exact ⟨rfl, k1⟩

/-- two arrays laid one behind the other -/
theorem wp_two_rows {P : Program} {C : Code} {Q : Exit → Act → World → Prop} {a : Act} {w w2 : World} {t : TypeId} {z1 z2 c1 c2 : Array Value} (hb : Below w.heap.size w w2)
    (h : ∀ W, Blk W w2.heap.size t c1 → Blk W (w2.heap.size + 1) t c2 → Below w.heap.size w W → C.wp P Q a W) :
    C.wp P Q a ((((w2.alloc (.cells z1 t)).alloc (.cells z2 t)).setRow w2.heap.size c1).setRow (w2.heap.size + 1) c2) := by
  have hs := hb.size
  refine h _ ?_ ?_ ?_
  · exact ((Blk.new w2 t z1).alloc.setRow).farRow (by omega)
  · exact (((Blk.new_at (by simp)) : Blk ((w2.alloc (.cells z1 t)).alloc (.cells z2 t)) (w2.heap.size + 1) t z2).farRow (by omega)).setRow
  · exact bsetRow (bsetRow (balloc (balloc hb)) (by omega)) (by omega)

/-- is no count of the second greater? -/
def coversB (a b : List Stamp) : Bool := decide (∀ n : Nat, n < 64 → countOf b n ≤ countOf a n)

set_option maxRecDepth 100000 in
theorem refCovers (l m : List Stamp) (v u : Value) (w : World) (h : Stamps w w.heap.size v l) (h' : Stamps w w.heap.size u m) :
    Calls Tryd.prog 27 #[v, u] w fun e w' => e = .returned (.bool (coversB l m)) ∧ Below w.heap.size w w' := by
  obtain ⟨A, c, rfl, _⟩ := id h
  obtain ⟨A', c', rfl, _⟩ := id h'
  go_enter Tryd.func27, Tryd.ntmps27
  go_wp2_with fail
  refine (refCounts l _ _ h).mono ?_
  rintro e w1 ⟨rfl, hb1⟩
  replace h' := h'.next hb1
  clear h
  go_wp2_with fail
  refine (refCounts m _ _ h').mono ?_
  rintro e w2 ⟨rfl, hb2⟩
  have hb := bnext hb1 hb2
  clear hb1 hb2 h'
  go_wp2_with (first
    | (with_reducible refine wpList_store_row rfl 81 (.tmp 5) (.tmp 9) rfl w2.heap.size _ rfl rfl 81 _ (Blk.new w2 81 _).alloc.raw (info64 _) (row64_size _).symm (row64_one _) ?_)
    | (with_reducible refine wpList_store_row rfl 81 (.tmp 6) (.tmp 11) rfl (w2.heap.size + 1) _ rfl rfl 81 _ ((Blk.new_at (by simp)).farRow (by simp)).raw (info64 _) (row64_size _).symm (row64_one _) ?_))
  refine wp_two_rows hb ?_
  intro W hB5 hB6 hbw
  have hBa := Lib.hid hB5
  have hBb := Lib.hid hB6
  have hN := hB5.lt
  generalize w2.heap.size = g at *
  clear hb hB5 hB6
  go_loopw [7] (fun k wr => ∃ n : Nat, n ≤ 64 ∧ k = .int .i64 n ∧ Below W.heap.size W wr ∧ ∀ i : Nat, i < n → countOf m i ≤ countOf l i) (fun k _ => 64 - (intOf k).toNat)
  case atStart => exact ⟨0, by omega, rfl, Below.refl _ _, fun i hi => by omega⟩
  case round =>
    obtain ⟨n, hn, rfl, hb, hall⟩ := hrel
    have Hall := Lib.hid hall
    clear hall
    by_cases hlt : n < 64
    · have f0 := (hBa.out.next hb).cell n |>.trans (rowOf_at hlt)
      have f1 := (hBb.out.next hb).cell n |>.trans (rowOf_at hlt)
      simp only at f0 f1
      generalize hx : countOf l n = x at f0
      generalize hy : countOf m n = y at f1
      have HX := Lib.hid hx
      have HY := Lib.hid hy
      clear hx hy
      have i1 : (n : Int) < 64 := by omega
      go_wp2_with fail
      go_quiet (fail)
      go_wp2_with fail
      · go_ret
        refine ⟨ret_bool ?_, bnext hbw (bdrewN hb _)⟩
        rw [coversB, eq_comm, decide_eq_false_iff_not]
        intro h
        have := h n hlt
        rw [HX.out, HY.out] at this
        omega
      · refine ⟨⟨n + 1, by omega, by go_num, bdrewN hb _, fun i hi => ?_⟩, by simp [intOf]; omega⟩
        rcases Nat.lt_or_ge i n with c | c
        · exact Hall.out i c
        · obtain rfl : i = n := by omega
          rw [HX.out, HY.out]
          omega
    · obtain rfl : n = 64 := by omega
      go_wp2_with fail
      go_ret
      refine ⟨ret_bool ?_, bnext hbw hb⟩
      rw [coversB, eq_comm, decide_eq_true_eq]
      exact Hall.out
end Go.Proofs.YtmdeokneablgaaaDoor
namespace Go.Proofs.YtmdeokneablgaaaDoor
open Go.ChangeShapes Go.WideShapes Go.ChangeAt Go.RowKit

def tzRen : Go.Shelf.Ren := ⟨fun | 29 => 85 | n => n, fun | 0 => 0 | 3 => 3 | 4 => 4 | 5 => 5 | 22 => 95 | 25 => 94 | 54 => 110 | n => n, fun | 1 => 0 | n => n⟩
theorem tzLays : Go.Proofs.Lays7.n29 Tryd.prog tzRen := {
  mixed := by kernel_rfl
  f29 := Tryd.func85.trans (congrArg some (by kernel_rfl))
  t0 := Tryd.underlying0
  a0 := Tryd.isAgg0
  z0 := Tryd.sizeOf0
  v0 := Tryd.zeroValue0
  i0 := by kernel_rfl
  t3 := Tryd.underlying3
  a3 := Tryd.isAgg3
  z3 := Tryd.sizeOf3
  v3 := Tryd.zeroValue3
  i3 := by kernel_rfl
  t4 := Tryd.underlying4
  a4 := Tryd.isAgg4
  z4 := Tryd.sizeOf4
  v4 := Tryd.zeroValue4
  i4 := by kernel_rfl
  t5 := Tryd.underlying5
  a5 := Tryd.isAgg5
  z5 := Tryd.sizeOf5
  v5 := Tryd.zeroValue5
  i5 := by kernel_rfl
  t22 := Tryd.underlying95
  a22 := Tryd.isAgg95
  z22 := Tryd.sizeOf95
  v22 := Tryd.zeroValue95
  i22 := by kernel_rfl
  t25 := Tryd.underlying94
  a25 := Tryd.isAgg94
  z25 := Tryd.sizeOf94
  v25 := Tryd.zeroValue94
  i25 := by kernel_rfl
  t54 := Tryd.underlying110
  a54 := Tryd.isAgg110
  z54 := Tryd.sizeOf110
  g1 := by kernel_rfl }

/-- the library's table, as its initialiser lays it -/
def TzTab (w : World) : Prop := TabAt 0 Lib.deBruijn64tab w
theorem TzTab.next {w w1 : World} (h : TzTab w) (hb : Below w.heap.size w w1) : TzTab w1 := fun j hj => kept_cell hb (h j hj)
theorem trailing (x : Nat) (hx : x < 18446744073709551616) (w : World) (hT : TzTab w) :
    Calls Tryd.prog 85 #[.int .u64 x] w fun e w' => e = .returned (.int .i64 (Lib.ctz 64 x)) ∧ w = w' :=
  (Any7.bits_TrailingZeros64 tzLays x hx w fun _ => hT).mono fun _ _ ⟨h1, h2⟩ => ⟨h1, h2.symm⟩

/-- the program's counts: of all nodes, and which of them there are -/
def cnts (f : Nat → Int) (M : Nat) : Array Value := rowOf 65 fun i => if i < 64 then .int .i64 (f i) else .int .u64 M
theorem cnts_size (f : Nat → Int) (M : Nat) : (cnts f M).size = 65 := rowOf_size _ _
theorem cnts_one (f : Nat → Int) (M : Nat) : (cnts f M).all (·.oneCell') = true := rowOf_one fun i => by split <;> rfl
theorem infoCnts (f : Nat → Int) (M : Nat) : (Tryd.prog.info? 97).map (·.size) = some (cnts f M).size := by rw [cnts_size]; kernel_rfl
theorem cnts_at {f : Nat → Int} {M n : Nat} (h : n < 64) : (cnts f M)[n]? = some (.int .i64 (f n)) := by rw [cnts, rowOf_at (by omega), if_pos h]
theorem cnts_has {f : Nat → Int} {M : Nat} : (cnts f M)[64]? = some (.int .u64 M) := by rw [cnts, rowOf_at (by omega)]; rfl
theorem cnts_set {f : Nat → Int} {M n : Nat} (h : n < 64) (x : Int) : (cnts f M).setIfInBounds n (.int .i64 x) = cnts (fun k => if k = n then x else f k) M := by
  rw [cnts, rowOf_set, cnts]
  refine rowOf_congr fun i _ => ?_
  by_cases hi : i = n
  · subst hi; simp [h]
  · simp [hi]
theorem cnts_set_has {f : Nat → Int} {M M' : Nat} : (cnts f M).setIfInBounds 64 (.int .u64 M') = cnts f M' := by
  rw [cnts, rowOf_set, cnts]
  refine rowOf_congr fun i _ => ?_
  by_cases hi : i = 64
  · subst hi; simp
  · have : i < 64 := by omega
    simp [hi, this]

theorem cnts_zero : cnts (fun _ => 0) 0 = #[.int .i64 0, .int .i64 0, .int .i64 0, .int .i64 0, .int .i64 0, .int .i64 0, .int .i64 0, .int .i64 0, .int .i64 0, .int .i64 0, .int .i64 0, .int .i64 0, .int .i64 0, .int .i64 0, .int .i64 0, .int .i64 0, .int .i64 0, .int .i64 0, .int .i64 0, .int .i64 0, .int .i64 0, .int .i64 0, .int .i64 0, .int .i64 0, .int .i64 0, .int .i64 0, .int .i64 0, .int .i64 0, .int .i64 0, .int .i64 0, .int .i64 0, .int .i64 0, .int .i64 0, .int .i64 0, .int .i64 0, .int .i64 0, .int .i64 0, .int .i64 0, .int .i64 0, .int .i64 0, .int .i64 0, .int .i64 0, .int .i64 0, .int .i64 0, .int .i64 0, .int .i64 0, .int .i64 0, .int .i64 0, .int .i64 0, .int .i64 0, .int .i64 0, .int .i64 0, .int .i64 0, .int .i64 0, .int .i64 0, .int .i64 0, .int .i64 0, .int .i64 0, .int .i64 0, .int .i64 0, .int .i64 0, .int .i64 0, .int .i64 0, .int .i64 0, .int .u64 0] := by kernel_rfl

theorem div_pow_nat (M n : Nat) : (M : Int) / 2 ^ n = ((M / 2 ^ n : Nat) : Int) := by
  rw [Int.natCast_ediv, Int.natCast_pow]; rfl
theorem bit_test {M n : Nat} (hM : M < 18446744073709551616) : (bits .and .u64 ((M : Int) / 2 ^ n) 1 == 0) = !M.testBit n := by
  have h1 : M / 2 ^ n < 18446744073709551616 := Nat.lt_of_le_of_lt (Nat.div_le_self _ _) hM
  have e : bits .and .u64 ((M : Int) / 2 ^ n) 1 = ((M / 2 ^ n &&& 1 : Nat) : Int) := by
    rw [div_pow_nat]
    exact u64_and_nat _ 1 h1 (by omega)
  rw [e, Nat.testBit, Nat.shiftRight_eq_div_pow, Nat.and_comm 1]
  generalize M / 2 ^ n &&& 1 = q
  cases q with
  | zero => rfl
  | succ q => rw [bne, Bool.not_not]; simp <;> omega

theorem set_bit {M n : Nat} (hM : M < 18446744073709551616) (hn : n < 64) : bits .or .u64 (M : Int) (IntKind.u64.wrap (2 ^ n)) = ((M ||| 2 ^ n : Nat) : Int) := by
  have h2 : 2 ^ n < 18446744073709551616 := Nat.pow_lt_pow_right (by omega) hn
  have e : IntKind.u64.wrap (2 ^ n) = ((2 ^ n : Nat) : Int) := by
    rw [IntKind.wrap_u64, show ((2 : Int) ^ n) = ((2 ^ n : Nat) : Int) by rw [Int.natCast_pow]; rfl]
    generalize 2 ^ n = q at h2
    omega
  rw [e, u64_or_nat _ _ hM h2]
theorem or_bit_lt {M n : Nat} (hM : M < 18446744073709551616) (hn : n < 64) : M ||| 2 ^ n < 18446744073709551616 :=
  Nat.or_lt_two_pow (n := 64) hM (Nat.pow_lt_pow_right (by omega) hn)
theorem or_bit (M n i : Nat) : (M ||| 2 ^ n).testBit i = (M.testBit i || decide (n = i)) := by
  rw [Nat.testBit_or, Nat.testBit_two_pow]
theorem countOf_pos {l : List Stamp} {n : Int} (h : countOf l n ≠ 0) : 1 ≤ countOf l n := by
  induction l with
  | nil => exact absurd rfl h
  | cons s l ih =>
    rw [countOf] at h ⊢
    split
    · rename_i hs
      simp only [rightB, decide_eq_true_eq] at hs
      omega
    · rename_i hs
      rw [if_neg hs] at h
      exact ih h
theorem countOf_snoc (l : List Stamp) (x : Stamp) (n : Int) : countOf (l ++ [x]) n = if countOf l n = 0 then (if x.node = n ∧ rightB x.count x.node = true then x.count else 0) else countOf l n := by
  induction l with
  | nil => simp [countOf]
  | cons s l ih =>
    rw [List.cons_append, countOf, countOf, ih]
    by_cases hs : s.node = n ∧ rightB s.count s.node = true
    · rw [if_pos hs, if_pos hs, if_neg]
      have := hs.2
      simp only [rightB, decide_eq_true_eq] at this
      omega
    · rw [if_neg hs, if_neg hs]

/-- a bit for each place at which p holds -/
def bitsOf (p : Nat → Bool) : Nat → Nat
  | 0 => 0
  | k + 1 => if p k then bitsOf p k ||| 2 ^ k else bitsOf p k
theorem bitsOf_bit (p : Nat → Bool) : ∀ k i, (bitsOf p k).testBit i = (decide (i < k) && p i)
  | 0, i => by simp [bitsOf]
  | k + 1, i => by
    have ih := bitsOf_bit p k i
    rw [bitsOf]
    by_cases hk : p k = true
    · rw [if_pos hk, or_bit, ih]
      by_cases hi : k = i
      · subst hi; simp [hk]
      · rw [decide_eq_false hi, Bool.or_false]
        congr 1
        exact decide_eq_decide.2 ⟨fun h => by omega, fun h => by omega⟩
    · rw [if_neg hk, ih]
      by_cases hi : k = i
      · subst hi; simp [hk]
      · congr 1
        exact decide_eq_decide.2 ⟨fun h => by omega, fun h => by omega⟩
theorem bitsOf_lt (p : Nat → Bool) : ∀ k, k ≤ 64 → bitsOf p k < 18446744073709551616
  | 0, _ => by simp [bitsOf]
  | k + 1, h => by
    rw [bitsOf]
    split
    · exact or_bit_lt (bitsOf_lt p k (by omega)) (by omega)
    · exact bitsOf_lt p k (by omega)
theorem bits_same {M N : Nat} (hM : M < 18446744073709551616) (hN : N < 18446744073709551616) (h : ∀ i, i < 64 → M.testBit i = N.testBit i) : M = N := by
  apply Nat.eq_of_testBit_eq
  intro i
  rcases Nat.lt_or_ge i 64 with c | c
  · exact h i c
  · have hp : (18446744073709551616 : Nat) ≤ 2 ^ i := Nat.pow_le_pow_right (n := 2) (by omega) c
    rw [Nat.testBit_lt_two_pow (Nat.lt_of_lt_of_le hM hp), Nat.testBit_lt_two_pow (Nat.lt_of_lt_of_le hN hp)]
/-- which nodes have a count, a bit each -/
def maskOf (l : List Stamp) : Nat := bitsOf (fun n => !decide (countOf l n = 0)) 64
theorem maskOf_bit {l : List Stamp} {i : Nat} (h : i < 64) : (maskOf l).testBit i = !decide (countOf l i = 0) := by
  rw [maskOf, bitsOf_bit, decide_eq_true h, Bool.true_and]
theorem maskOf_lt (l : List Stamp) : maskOf l < 18446744073709551616 := bitsOf_lt _ 64 (by omega)

set_option maxRecDepth 100000 in
theorem vectorRead (l : List Stamp) (v : Value) (w : World) (h : Stamps w w.heap.size v l) :
    Calls Tryd.prog 76 #[v] w fun e w' => e = .returned (.agg (cnts (fun n => countOf l n) (maskOf l))) ∧ Below w.heap.size w w' := by
  have hle := h.len_le
  obtain ⟨A, c, rfl, _⟩ := id h
  go_enter Tryd.func76, Tryd.ntmps76
  go_wp2_with fail
  go_loopw [7] (fun k wr => ∃ (m M : Nat), m ≤ l.length ∧ k = .int .i64 m ∧ M < 18446744073709551616 ∧ (∀ i : Nat, i < 64 → M.testBit i = !decide (countOf (l.take m) i = 0)) ∧ Below w.heap.size w wr ∧ Blk wr w.heap.size 97 (cnts (fun n => countOf (l.take m) n) M)) (fun k _ => l.length - (intOf k).toNat)
  case atStart => 
    refine ⟨0, 0, Nat.zero_le _, rfl, by omega, fun i _ => by simp [countOf], balloc (Below.refl _ _), ?_⟩
    rw [show (fun n : Nat => countOf (l.take 0) n) = fun _ => 0 from funext fun n => by simp [countOf], cnts_zero]
    exact Blk.new _ _ _
  case round =>
    obtain ⟨m, M, hm, rfl, hM, hbit, hb, hC⟩ := hrel
    have Hbit := Lib.hid hbit
    clear hbit
    by_cases hlt : m < l.length
    · obtain ⟨x, hx⟩ : ∃ x, l[m]? = some x := ⟨l[m], List.getElem?_eq_getElem hlt⟩
      obtain ⟨b, off, c', hv', hbb, e0, e1, _, _⟩ := stamps_at h hx
      injection hv' with hv1 hv2 hv3
      subst hv1
      have f0 := (hb.cell (p := ⟨b, off + m * 2, none⟩) hbb).trans e0
      have f1 := (hb.cell (p := ⟨b, off + m * 2 + 1, none⟩) hbb).trans e1
      have ht := take_snoc hx
      obtain ⟨xc, xn⟩ := x
      simp only at f0 f1 ht
      have Ht := Lib.hid ht
      clear ht hv2 hv3 e0 e1 hx
      cases hr : rightB xc xn with
      | false =>
        go_wp2_with fail
        refine (stampRightOf _ _ _ hr).mono ?_
        rintro e w1 ⟨rfl, hb1⟩
        go_wp2_with fail
        refine ⟨⟨m + 1, M, by omega, by go_num, hM, fun i hi => ?_, bnext (balloc hb) hb1, ?_⟩, by simp [intOf]; omega⟩
        · rw [Hbit.out i hi, Ht.out, countOf_snoc]
          simp only [hr]
          split <;> simp_all
        · have e : (fun n : Nat => countOf (l.take (m + 1)) n) = fun n : Nat => countOf (l.take m) n := by
            funext n
            rw [Ht.out, countOf_snoc]
            simp only [hr]
            split <;> simp_all
          rw [e]
          exact hC.alloc.next hb1
      | true =>
        go_wp2_with fail
        refine (stampRightOf _ _ _ hr).mono ?_
        rintro e w1 ⟨rfl, hb1⟩
        have B1 := (Blk.new wr 38 #[.int .i64 xc, .int .i64 xn]).next hb1
        have hC0 := hC
        have hb0 := hb
        replace hC := hC.alloc (o := .cells #[.int .i64 xc, .int .i64 xn] 38) |>.next hb1
        replace hb := bnext (balloc hb) hb1
        simp only [rightB, decide_eq_true_eq] at hr
        obtain ⟨r1, r2, r3⟩ := hr
        obtain ⟨n, rfl⟩ : ∃ n : Nat, xn = n := ⟨xn.toNat, by omega⟩
        have r4 : n < 64 := by omega
        have c0 := (hC.cell n).trans (cnts_at r4)
        have c1 := (hC.cell 64).trans cnts_has
        have d0 := hC.frozen n
        have d1 := hC.frozen 64
        have b0 := B1.cell 0
        have b1 := B1.cell 1
        simp only [List.getElem?_toArray, List.getElem?_cons_zero, List.getElem?_cons_succ] at b0 b1
        have hne : w.heap.size < wr.heap.size := by have := hb0.size; exact hC0.lt
        have ht := bit_test (n := n) hM
        have Hb1 := Lib.hid hb1
        clear hb1 hC0 hb0
        cases hq : M.testBit n with
        | true =>
          rw [hq] at ht
          simp only [Bool.not_true] at ht
          go_wp2_with fail
          rw [Hbit.out n r4, Bool.not_eq_true', decide_eq_false_iff_not] at hq
          have key : ∀ i : Nat, countOf (l.take (m + 1)) i = countOf (l.take m) i := fun i => by
            rw [Ht.out, countOf_snoc]
            split
            · rename_i h0
              rw [if_neg, h0]
              rintro ⟨h1, _⟩
              simp only at h1
              rw [← h1] at h0
              exact hq h0
            · rfl
          refine ⟨⟨m + 1, M, by omega, by go_num, hM, fun i hi => by rw [key, Hbit.out i hi], hb, ?_⟩, by simp [intOf]; omega⟩
          rw [funext key]
          exact hC
        | false =>
          rw [hq] at ht
          simp only [Bool.not_false] at ht
          go_wp2_with fail
          rw [Hbit.out n r4, Bool.not_eq_false', decide_eq_true_eq] at hq
          have key : ∀ i : Nat, countOf (l.take (m + 1)) i = if i = n then xc else countOf (l.take m) i := fun i => by
            rw [Ht.out, countOf_snoc]
            have hr : rightB xc n = true := by simp only [rightB, decide_eq_true_eq]; omega
            by_cases hi : i = n
            · subst hi
              rw [if_pos hq, if_pos ⟨rfl, hr⟩, if_pos rfl]
            · rw [if_neg hi]
              split
              · rename_i h0
                rw [if_neg (by rintro ⟨h1, _⟩; simp only at h1; omega), h0]
              · rfl
          refine ⟨⟨m + 1, M ||| 2 ^ n, by omega, by go_num, or_bit_lt hM r4, fun i hi => ?_, bset (bset hb (by simp)) (by simp), ?_⟩, by simp [intOf]; omega⟩
          · rw [key, or_bit, Hbit.out i hi]
            by_cases hin : i = n
            · subst hin; simp; omega
            · rw [if_neg hin, decide_eq_false (p := n = i) (fun e => hin e.symm), Bool.or_false]
          · rw [funext key, set_bit hM r4]
            have := (hC.set_ n (.int .i64 xc)).set_ 64 (.int .u64 ((M ||| 2 ^ n : Nat) : Int))
            rw [cnts_set r4, cnts_set_has] at this
            exact this
    · obtain rfl : m = l.length := by omega
      have hT : l.take l.length = l := List.take_length
      have hMm : M = maskOf l := bits_same hM (maskOf_lt l) fun i hi => by rw [Hbit.out i hi, hT, maskOf_bit hi]
      rw [hT, hMm] at hC
      clear hT hMm
      go_wp2_with (first
        | (with_reducible refine wpList_load_row rfl 97 (.tmp 2) rfl w.heap.size rfl 97 _ (0, 0) _ hC.raw Tryd.underlying97 rfl (infoCnts _ _) ?_)
        | (with_reducible refine wpList_store_row rfl 97 (.tmp 2) (.tmp 38) rfl w.heap.size _ rfl rfl 97 _ hC.raw (infoCnts _ _) rfl (cnts_one _ _) ?_))
      exact bodyPost_ret (results_cell_row Tryd.results76 _ _ w.heap.size 97 _ (0, 0) _ rfl (hC.setRow (cs' := cnts (fun n => countOf l n) (maskOf l))).raw Tryd.underlying97 rfl (infoCnts _ _)) rfl ⟨rfl, bsetRow hb (by simp)⟩
end Go.Proofs.YtmdeokneablgaaaDoor
