/- Contract of the program's test whether a note is formed. -/
import Derived.Test.YtkphfdmelfhnoaaGreatDoorPCovers
import Derived.Test.YtkphfdmelfhnoaaGreatDoorPSpanIn
set_option linter.all false
set_option linter.unnecessarySimpa false
set_option linter.unusedSimpArgs false
set_option linter.unusedVariables false
namespace Go.Proofs.YtkphfdmelfhnoaaGreatDoor
open Go.ChangeShapes Go.WideShapes Go.ChangeAt Go.RowKit
structure Write where
 stamp : Stamp
 object : Int
 gone : Bool
 deriving DecidableEq
def WriteR (cs : List Value) (x : Write) : Prop := cs = [.int .i64 x.stamp.count, .int .i64 x.stamp.node, .int .i64 x.object, .bool x.gone] ∧ I64 x.stamp.count ∧ I64 x.stamp.node ∧ I64 x.object
theorem opens_write {w : World} : Opens Tryz.prog w 55 4 WriteR := by
 intro H enc fuel cs x h
 obtain ⟨hl, n, hf⟩ := struct_pieces Tryz.underlying55 h
 have hk : Tryz.prog.cellsOf 55 = 4 := by kernel_rfl
 have hs : Tryz.prog.cellsOf 49 = 2 := by kernel_rfl
 have hi : Tryz.prog.cellsOf 3 = 1 := by kernel_rfl
 have hb : Tryz.prog.cellsOf 4 = 1 := by kernel_rfl
 rw [hk] at hl
 refine ⟨hl, ?_⟩
 match cs, hl with
 | [v0, v1, v2, v3], _ =>
  obtain ⟨y0, h0⟩ := hf 0 49 0 2 rfl hs
  obtain ⟨y1, h1⟩ := hf 1 3 2 1 rfl hi
  obtain ⟨y2, h2⟩ := hf 2 4 3 1 rfl hb
  obtain ⟨_, a, e0, i1, i2⟩ := opens_stamp (w := w) H enc n _ _ h0
  obtain ⟨_, b, e1, i3⟩ := opens_int (w := w) Tryz.underlying3 H enc n _ _ h1
  obtain ⟨_, g, e2⟩ := opens_bool (w := w) Tryz.underlying4 H enc n _ _ h2
  simp at e0 e1 e2
  obtain ⟨rfl, rfl⟩ := e0
  subst e1 e2
  exact ⟨⟨a, b, g⟩, rfl, i1, i2, i3⟩
abbrev Writes := Sl WriteR 4
theorem opens_writes {w : World} : Opens Tryz.prog w 24 1 (fun cs l => ∃ v, cs = [v] ∧ Writes w w.heap.size v l) :=
 opens_slice Tryz.underlying24 (by kernel_rfl) (by omega) opens_write
theorem writes_at {w : World} {B : Nat} {v : Value} {l : List Write} (h : Writes w B v l) {m : Nat} {x : Write} (hx : l[m]? = some x) :
  ∃ b off c, v = .slice (some ⟨b, off, none⟩) l.length c ∧ b < B ∧ w.cell? ⟨b, off + m * 4, none⟩ = some (.int .i64 x.stamp.count) ∧ w.cell? ⟨b, off + m * 4 + 1, none⟩ = some (.int .i64 x.stamp.node) ∧
   w.cell? ⟨b, off + m * 4 + 2, none⟩ = some (.int .i64 x.object) ∧ w.cell? ⟨b, off + m * 4 + 3, none⟩ = some (.bool x.gone) ∧ I64 x.object := by
 obtain ⟨A, c, rfl, _, _, h3⟩ := h
 obtain ⟨b, off, rfl, hb, h4⟩ := h3 (by rintro rfl; simp at hx)
 obtain ⟨cs, ⟨rfl, i1, i2, i3⟩, _, h5⟩ := h4 m x hx
 exact ⟨b, off, c, rfl, hb, h5 0 _ rfl, h5 1 _ rfl, h5 2 _ rfl, h5 3 _ rfl, i3⟩
structure Note where
 start : List Stamp
 end_ : List Stamp
 blur : List Span
 writes : List Write
 deriving DecidableEq
structure NoteV (w : World) (B : Nat) (v0 v1 v2 v3 : Value) (x : Note) : Prop where
 start : Stamps w B v0 x.start
 end_ : Stamps w B v1 x.end_
 blur : Spans w B v2 x.blur
 writes : Writes w B v3 x.writes
theorem NoteV.next {w w' : World} {v0 v1 v2 v3 : Value} {x : Note} (h : NoteV w w.heap.size v0 v1 v2 v3 x) (hb : Below w.heap.size w w') : NoteV w' w'.heap.size v0 v1 v2 v3 x :=
 ⟨h.start.next hb, h.end_.next hb, h.blur.next hb, h.writes.next hb⟩
def NoteR (w : World) (B : Nat) (cs : List Value) (x : Note) : Prop := ∃ v0 v1 v2 v3, cs = [v0, v1, v2, v3] ∧ NoteV w B v0 v1 v2 v3 x
theorem opens_note {w : World} : Opens Tryz.prog w 30 4 (NoteR w w.heap.size) := by
 intro H enc fuel cs x h
 obtain ⟨hl, n, hf⟩ := struct_pieces Tryz.underlying30 h
 have hk : Tryz.prog.cellsOf 30 = 4 := by kernel_rfl
 have hs : Tryz.prog.cellsOf 22 = 1 := by kernel_rfl
 have hi : Tryz.prog.cellsOf 28 = 1 := by kernel_rfl
 have hb : Tryz.prog.cellsOf 24 = 1 := by kernel_rfl
 rw [hk] at hl
 refine ⟨hl, ?_⟩
 match cs, hl with
 | [v0, v1, v2, v3], _ =>
  obtain ⟨y0, h0⟩ := hf 0 22 0 1 rfl hs
  obtain ⟨y1, h1⟩ := hf 1 22 1 1 rfl hs
  obtain ⟨y2, h2⟩ := hf 2 28 2 1 rfl hi
  obtain ⟨y3, h3⟩ := hf 3 24 3 1 rfl hb
  obtain ⟨_, a, _, e0, s0⟩ := opens_stamps (w := w) H enc n _ _ h0
  obtain ⟨_, b, _, e1, s1⟩ := opens_stamps (w := w) H enc n _ _ h1
  obtain ⟨_, c, _, e2, s2⟩ := opens_spans (w := w) H enc n _ _ h2
  obtain ⟨_, d, _, e3, s3⟩ := opens_writes (w := w) H enc n _ _ h3
  simp at e0 e1 e2 e3
  subst e0 e1 e2 e3
  exact ⟨⟨a, b, c, d⟩, _, _, _, _, rfl, s0, s1, s2, s3⟩
abbrev Notes (w : World) (B : Nat) := Sl (NoteR w B) 4 w B
def writesFrom (x : Note) : Int → List Write → Bool
 | _, [] => true
 | e, y :: l => (decide (e < y.object ∧ 0 ≤ y.object ∧ y.object ≤ 255) && !spanHas x.blur y.object && vecHas x.end_ y.stamp) && writesFrom x y.object l
def noteFormed (x : Note) : Bool := vecFormed x.start && vecFormed x.end_ && coversB x.end_ x.start && spanFormed x.blur && writesFrom x (-1) x.writes
theorem noteObject (o : Int) (w : World) :
  Calls Tryz.prog 124 #[.int .i64 o] w fun e w' => e = .returned (.bool (decide (0 ≤ o ∧ o ≤ 255))) ∧ w = w' := by
 go_enter Tryz.func124, Tryz.ntmps124
 go_wp2_with fail
 all_goals (go_ret; refine ⟨ret_bool ?_, rfl⟩; first | (rw [eq_comm, decide_eq_true_eq]; omega) | (rw [eq_comm, decide_eq_false_iff_not]; omega) | (rw [Bool.eq_iff_iff]; simp <;> omega))
set_option maxHeartbeats 1600000 in
theorem noteFormedWalk (x : Note) (v0 v1 v2 v3 : Value) (w : World) (h : NoteV w w.heap.size v0 v1 v2 v3 x) (hT : TzTab w) :
  Calls Tryz.prog 41 #[.agg #[v0, v1, v2, v3]] w fun e w' => e = .returned (.bool (noteFormed x)) ∧ Below w.heap.size w w' := by
 have hle := h.writes.len_le
 obtain ⟨A0, c0, rfl, _⟩ := id h.start
 obtain ⟨A1, c1, rfl, _⟩ := id h.end_
 obtain ⟨A2, c2, rfl, _⟩ := id h.blur
 obtain ⟨A3, c3, rfl, _⟩ := id h.writes
 unfold noteFormed
 generalize hr0 : vecFormed x.start = r0
 generalize hr1 : vecFormed x.end_ = r1
 generalize hr2 : coversB x.end_ x.start = r2
 generalize hr3 : spanFormed x.blur = r3
 have H0 := Lib.hid hr0
 have H1 := Lib.hid hr1
 have H2 := Lib.hid hr2
 have H3 := Lib.hid hr3
 have HT := Lib.hid hT
 clear hr0 hr1 hr2 hr3 hT
 go_enter Tryz.func41, Tryz.ntmps41
 go_wp2_with fail
 generalize hv0 : Value.slice A0 x.start.length c0 = v0 at *
 generalize hv1 : Value.slice A1 x.end_.length c1 = v1 at *
 generalize hv2 : Value.slice A2 x.blur.length c2 = v2 at *
 generalize hv3 : Value.slice A3 x.writes.length c3 = v3 at *
 have Hv3 := Lib.hid hv3
 clear hv0 hv1 hv2 hv3
 have k := balloc (o := .cells #[v0, v1, v2, v3] 30) (Below.refl _ w)
 have B := Blk.new w 30 #[v0, v1, v2, v3]
 generalize hW0 : w.alloc (.cells #[v0, v1, v2, v3] 30) = W0 at *
 clear hW0
 have hn := h.next k
 have hT := Lib.hid (HT.out.next k)
 refine (vectorFormed x.start _ _ hn.start).mono ?_
 rw [H0.out]
 rintro e w1 ⟨rfl, hb1⟩
 replace k := bnext k hb1
 replace B := B.next hb1
 replace hn := hn.next hb1
 replace hT := Lib.hid (hT.out.next hb1)
 clear hb1
 have b0 := B.cell 0
 have b1 := B.cell 1
 have b2 := B.cell 2
 have b3 := B.cell 3
 simp only [List.getElem?_toArray, List.getElem?_cons_zero, List.getElem?_cons_succ] at b0 b1 b2 b3
 cases r0
 ·go_wp2_with fail
  go_ret
  exact ⟨rfl, k⟩
 go_wp2_with fail
 refine (vectorFormed x.end_ _ _ hn.end_).mono ?_
 rw [H1.out]
 rintro e w2 ⟨rfl, hb1⟩
 replace k := bnext k hb1
 replace B := B.next hb1
 replace hn := hn.next hb1
 replace hT := Lib.hid (hT.out.next hb1)
 replace b0 := kept_cell hb1 b0
 replace b1 := kept_cell hb1 b1
 replace b2 := kept_cell hb1 b2
 replace b3 := kept_cell hb1 b3
 clear hb1
 cases r1
 ·go_wp2_with fail
  go_ret
  exact ⟨rfl, k⟩
 go_wp2_with fail
 refine (vectorCovers x.end_ x.start _ _ _ hn.end_ hn.start hT.out).mono ?_
 rw [H2.out]
 rintro e w3 ⟨rfl, hb1⟩
 replace k := bnext k hb1
 replace B := B.next hb1
 replace hn := hn.next hb1
 replace hT := Lib.hid (hT.out.next hb1)
 replace b0 := kept_cell hb1 b0
 replace b1 := kept_cell hb1 b1
 replace b2 := kept_cell hb1 b2
 replace b3 := kept_cell hb1 b3
 clear hb1
 cases r2
 ·go_wp2_with fail
  go_ret
  exact ⟨rfl, k⟩
 go_wp2_with fail
 refine (spanFormedWalk x.blur _ _ hn.blur).mono ?_
 rw [H3.out]
 rintro e w4 ⟨rfl, hb1⟩
 replace k := bnext k hb1
 replace B := B.next hb1
 replace hn := hn.next hb1
 replace hT := Lib.hid (hT.out.next hb1)
 replace b0 := kept_cell hb1 b0
 replace b1 := kept_cell hb1 b1
 replace b2 := kept_cell hb1 b2
 replace b3 := kept_cell hb1 b3
 clear hb1
 cases r3
 ·go_wp2_with fail
  go_ret
  exact ⟨rfl, k⟩
 rw [← Hv3.out] at b3
 go_wp2_with fail
 have HB := Lib.hid B
 have HN := Lib.hid hn
 clear b0 b1 b2 b3 B hn HT H0 H1 H2 H3 h
 go_loopw [3, 33] (fun a i wr => ∃ (m : Nat) (e : Int), m ≤ x.writes.length ∧ i = .int .i64 m ∧ a = .int .i64 e ∧ writesFrom x (-1) x.writes = writesFrom x e (x.writes.drop m) ∧ Below w4.heap.size w4 wr) (fun _ i _ => x.writes.length - (intOf i).toNat)
 case atStart => exact ⟨0, -1, Nat.zero_le _, rfl, rfl, rfl, Below.refl _ _⟩
 case round =>
  obtain ⟨m, e, hm, rfl, rfl, hv, hb⟩ := hrel
  have hn := HN.out.next hb
  have B := HB.out.next hb
  replace k := bnext k hb
  by_cases hlt : m < x.writes.length
  ·obtain ⟨y, hy⟩ : ∃ y, x.writes[m]? = some y := ⟨x.writes[m], List.getElem?_eq_getElem hlt⟩
   obtain ⟨b, off, c', hv', hbb, e0, e1, e2, e3, _⟩ := writes_at hn.writes hy
   rw [← Hv3.out] at hv'
   injection hv' with hv1 hv2 hv3
   rw [drop_cons hy, writesFrom] at hv
   obtain ⟨⟨yc, yn⟩, yo, yg⟩ := y
   simp only at e0 e1 e2 e3 hv
   have HV := Lib.hid hv
   subst hv1
   have b1 := B.cell 1
   have b2 := B.cell 2
   simp only [List.getElem?_toArray, List.getElem?_cons_zero, List.getElem?_cons_succ] at b1 b2
   clear hv hv2 hv3 hy hbb
   by_cases p1 : yo ≤ e
   ·go_wp2_with fail
    go_ret
    refine ⟨ret_bool ?_, balloc k⟩
    rw [HV.out, decide_eq_false (p := e < yo ∧ 0 ≤ yo ∧ yo ≤ 255) (by omega)]
    rfl
   ·go_wp2_with fail
    have kB := balloc (o := .cells #[.int .i64 yc, .int .i64 yn, .int .i64 yo, .bool yg] 55) (Below.refl _ wr)
    have B5 := Blk.new wr 55 #[.int .i64 yc, .int .i64 yn, .int .i64 yo, .bool yg]
    replace hn := hn.next kB
    replace B := B.next kB
    have hT2 := Lib.hid ((hT.out.next hb).next kB)
    replace k := bnext k kB
    replace hb := bnext hb kB
    clear e0 e1 e2 e3 b1 b2
    have HVn := Lib.hid hn
    clear hn
    refine (noteObject yo _).mono ?_
    by_cases p2 : 0 ≤ yo ∧ yo ≤ 255
    ·rw [decide_eq_true p2]
     rintro e' w5 ⟨rfl, rfl⟩
     have hd : decide (e < yo ∧ 0 ≤ yo ∧ yo ≤ 255) = true := decide_eq_true (by omega)
     have HD := Lib.hid hd
     clear hd
     generalize hW5 : wr.alloc (.cells #[.int .i64 yc, .int .i64 yn, .int .i64 yo, .bool yg] 55) = w5 at *
     have d0 := B5.cell 0
     have d1 := B5.cell 1
     have d2 := B5.cell 2
     have b1 := B.cell 1
     have b2 := B.cell 2
     simp only [List.getElem?_toArray, List.getElem?_cons_zero, List.getElem?_cons_succ] at b1 b2 d0 d1 d2
     clear hW5 kB
     go_wp2_with fail
     refine (spanHasWalk x.blur yo _ _ HVn.out.blur).mono ?_
     generalize hq : spanHas x.blur yo = q at HV ⊢
     clear hq
     rintro e' w6 ⟨rfl, hb1⟩
     replace k := bnext k hb1
     replace hb := bnext hb hb1
     replace HVn := Lib.hid (HVn.out.next hb1)
     replace B5 := B5.next hb1
     replace b1 := kept_cell hb1 b1
     replace b2 := kept_cell hb1 b2
     replace d0 := kept_cell hb1 d0
     replace d1 := kept_cell hb1 d1
     replace d2 := kept_cell hb1 d2
     clear hb1
     cases q with
     | true =>
      go_wp2_with fail
      go_ret
      refine ⟨ret_bool ?_, k⟩
      rw [HV.out, HD.out]
      rfl
     | false =>
      go_wp2_with fail
      refine (vectorHas x.end_ ⟨yc, yn⟩ _ _ HVn.out.end_).mono ?_
      generalize hq : vecHas x.end_ ⟨yc, yn⟩ = q at HV ⊢
      clear hq
      rintro e' w7 ⟨rfl, hb1⟩
      replace k := bnext k hb1
      replace hb := bnext hb hb1
      replace d2 := kept_cell hb1 d2
      clear hb1
      cases q with
      | false =>
       go_wp2_with fail
       go_ret
       refine ⟨ret_bool ?_, k⟩
       rw [HV.out, HD.out]
       rfl
      | true =>
       go_wp2_with fail
       refine ⟨⟨m + 1, yo, by omega, by go_num, rfl, ?_, hb⟩, by simp [intOf]; omega⟩
       rw [HV.out, HD.out]
       rfl
    ·rw [decide_eq_false p2]
     rintro e' w5 ⟨rfl, rfl⟩
     go_wp2_with fail
     go_ret
     refine ⟨ret_bool ?_, k⟩
     rw [HV.out, decide_eq_false (p := e < yo ∧ 0 ≤ yo ∧ yo ≤ 255) (by omega)]
     rfl
  ·obtain rfl : m = x.writes.length := by omega
   rw [List.drop_length] at hv
   have HV := Lib.hid hv
   clear hv
   go_wp2_with fail
   go_ret
   exact ⟨ret_bool (by rw [HV.out]; rfl), k⟩
end Go.Proofs.YtkphfdmelfhnoaaGreatDoor
