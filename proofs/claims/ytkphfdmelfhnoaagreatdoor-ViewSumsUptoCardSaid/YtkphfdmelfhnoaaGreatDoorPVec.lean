/- Contracts of a vector's form, the program's and the reference's. -/
import Derived.Test.YtkphfdmelfhnoaaGreatDoorPRep
import Derived.Test.YtkphfdmelfhnoaaGreatDoorPRight
import Derived.Test.YtkphfdmelfhnoaaGreatDoorPArr
set_option linter.all false
set_option linter.unnecessarySimpa false
set_option linter.unusedSimpArgs false
set_option linter.unusedVariables false
namespace Go.Proofs.YtkphfdmelfhnoaaGreatDoor
open Go.ChangeShapes Go.WideShapes Go.ChangeAt Go.RowKit
structure Stamp where
 count : Int
 node : Int
 deriving DecidableEq
def StampR (cs : List Value) (s : Stamp) : Prop := cs = [.int .i64 s.count, .int .i64 s.node] ∧ I64 s.count ∧ I64 s.node
theorem opens_stamp {w : World} : Opens Tryz.prog w 49 2 StampR := by
 intro H enc fuel cs x h
 obtain ⟨hl, n, hf⟩ := struct_pieces Tryz.underlying49 h
 have hk : Tryz.prog.cellsOf 49 = 2 := by kernel_rfl
 have hi : Tryz.prog.cellsOf 3 = 1 := by kernel_rfl
 rw [hk] at hl
 refine ⟨hl, ?_⟩
 match cs, hl with
 | [v0, v1], _ =>
  obtain ⟨y0, h0⟩ := hf 0 3 0 1 rfl hi
  obtain ⟨y1, h1⟩ := hf 1 3 1 1 rfl hi
  obtain ⟨_, a, e0, ia⟩ := opens_int (w := w) Tryz.underlying3 H enc n _ _ h0
  obtain ⟨_, b, e1, ib⟩ := opens_int (w := w) Tryz.underlying3 H enc n _ _ h1
  simp at e0 e1
  subst e0 e1
  exact ⟨⟨a, b⟩, rfl, ia, ib⟩
abbrev Stamps := Sl StampR 2
theorem opens_stamps {w : World} : Opens Tryz.prog w 22 1 (fun cs l => ∃ v, cs = [v] ∧ Stamps w w.heap.size v l) :=
 opens_slice Tryz.underlying22 (by kernel_rfl) (by omega) opens_stamp
def vecFrom : Int → List Stamp → Bool
 | _, [] => true
 | e, s :: l => (rightB s.count s.node && decide (e < s.node)) && vecFrom s.node l
def vecFormed (l : List Stamp) : Bool := vecFrom (-1) l
theorem drop_cons {α : Type} {l : List α} {m : Nat} {x : α} (h : l[m]? = some x) : l.drop m = x :: l.drop (m + 1) := by
 obtain ⟨hm, rfl⟩ := List.getElem?_eq_some_iff.1 h
 exact List.drop_eq_getElem_cons hm
theorem take_snoc {α : Type} {l : List α} {m : Nat} {x : α} (h : l[m]? = some x) : l.take (m + 1) = l.take m ++ [x] := by
 rw [List.take_add_one, h]; rfl
theorem stampRightOf {b : Bool} (c n : Int) (w : World) (h : rightB c n = b) :
  Calls Tryz.prog 171 #[.agg #[.int .i64 c, .int .i64 n]] w fun e w' => e = .returned (.bool b) ∧ Below w.heap.size w w' := h ▸ stampRight c n w
theorem refRightOf {b : Bool} (c n : Int) (w : World) (h : rightB c n = b) :
  Calls Tryz.prog 97 #[.agg #[.int .i64 c, .int .i64 n]] w fun e w' => e = .returned (.bool b) ∧ Below w.heap.size w w' := h ▸ refRight c n w
theorem stamps_at {w : World} {B : Nat} {v : Value} {l : List Stamp} (h : Stamps w B v l) {m : Nat} {x : Stamp} (hx : l[m]? = some x) :
  ∃ b off c, v = .slice (some ⟨b, off, none⟩) l.length c ∧ b < B ∧ w.cell? ⟨b, off + m * 2, none⟩ = some (.int .i64 x.count) ∧ w.cell? ⟨b, off + m * 2 + 1, none⟩ = some (.int .i64 x.node) ∧ I64 x.count ∧ I64 x.node := by
 obtain ⟨A, c, rfl, _, _, h3⟩ := h
 obtain ⟨b, off, rfl, hb, h4⟩ := h3 (by rintro rfl; simp at hx)
 obtain ⟨cs, ⟨rfl, i1, i2⟩, _, h5⟩ := h4 m x hx
 exact ⟨b, off, c, rfl, hb, h5 0 _ rfl, h5 1 _ rfl, i1, i2⟩
theorem vectorFormed (l : List Stamp) (v : Value) (w : World) (h : Stamps w w.heap.size v l) :
  Calls Tryz.prog 89 #[v] w fun e w' => e = .returned (.bool (vecFormed l)) ∧ Below w.heap.size w w' := by
 have hle := h.len_le
 obtain ⟨A, c, rfl, _⟩ := id h
 go_enter Tryz.func89, Tryz.ntmps89
 go_wp2_with fail
 go_loopw [3, 8] (fun a k wr => ∃ (m : Nat) (e : Int), m ≤ l.length ∧ k = .int .i64 m ∧ a = .int .i64 e ∧ vecFormed l = vecFrom e (l.drop m) ∧ Below w.heap.size w wr) (fun _ k _ => l.length - (intOf k).toNat)
 case atStart => exact ⟨0, -1, Nat.zero_le _, rfl, rfl, rfl, Below.refl _ _⟩
 case round =>
  obtain ⟨m, e, hm, rfl, rfl, hv, hb⟩ := hrel
  by_cases hlt : m < l.length
  ·obtain ⟨x, hx⟩ : ∃ x, l[m]? = some x := ⟨l[m], List.getElem?_eq_getElem hlt⟩
   obtain ⟨b, off, c', hv', hbb, e0, e1, _, _⟩ := stamps_at h hx
   injection hv' with hv1 hv2 hv3
   subst hv1
   have f0 := (hb.cell (p := ⟨b, off + m * 2, none⟩) hbb).trans e0
   have f1 := (hb.cell (p := ⟨b, off + m * 2 + 1, none⟩) hbb).trans e1
   rw [drop_cons hx, vecFrom] at hv
   obtain ⟨xc, xn⟩ := x
   simp only at f0 f1 hv
   generalize hr : rightB xc xn = r at hv
   have HV := Lib.hid hv
   clear hv hv2 hv3 e0 e1 hx
   go_wp2_with fail
   refine (stampRightOf xc xn _ hr).mono ?_
   rintro e' w1 ⟨rfl, hb1⟩
   have B1 := (Blk.new wr 49 #[.int .i64 xc, .int .i64 xn]).next hb1
   have k1 := bnext (balloc hb) hb1
   have b0 := B1.cell 0
   have b1 := B1.cell 1
   simp only [List.getElem?_toArray, List.getElem?_cons_zero, List.getElem?_cons_succ] at b0 b1
   clear hb1 hr
   cases r <;> go_wp2_with fail
   ·go_ret
    exact ⟨ret_bool (by rw [HV.out]; rfl), k1⟩
   ·go_ret
    refine ⟨ret_bool ?_, k1⟩
    rw [HV.out, decide_eq_false (by omega)]; rfl
   ·refine ⟨⟨m + 1, xn, by omega, by go_num, rfl, ?_, k1⟩, by simp [intOf]; omega⟩
    rw [HV.out, decide_eq_true (by omega)]; rfl
  ·obtain rfl : m = l.length := by omega
   rw [List.drop_length] at hv
   have HV := Lib.hid hv
   clear hv
   go_wp2_with fail
   go_ret
   exact ⟨ret_bool HV.out.symm, hb⟩
theorem refVectorFormed (l : List Stamp) (v : Value) (w : World) (h : Stamps w w.heap.size v l) :
  Calls Tryz.prog 100 #[v] w fun e w' => e = .returned (.bool (vecFormed l)) ∧ Below w.heap.size w w' := by
 have hle := h.len_le
 obtain ⟨A, c, rfl, _⟩ := id h
 go_enter Tryz.func100, Tryz.ntmps100
 go_wp2_with fail
 go_loopw [3] (fun k wr => ∃ (m : Nat) (e : Int), m ≤ l.length ∧ k = .int .i64 m ∧ (m = 0 → e = -1) ∧ (∀ i x, m = i + 1 → l[i]? = some x → e = x.node) ∧ vecFormed l = vecFrom e (l.drop m) ∧ Below w.heap.size w wr) (fun k _ => l.length - (intOf k).toNat)
 case atStart => exact ⟨0, -1, Nat.zero_le _, rfl, fun _ => rfl, fun i x hi => by omega, rfl, Below.refl _ _⟩
 case round =>
  obtain ⟨m, e, hm, rfl, he0, he1, hv, hb⟩ := hrel
  by_cases hlt : m < l.length
  ·obtain ⟨x, hx⟩ : ∃ x, l[m]? = some x := ⟨l[m], List.getElem?_eq_getElem hlt⟩
   obtain ⟨b, off, c', hv', hbb, e0, e1, _, _⟩ := stamps_at h hx
   injection hv' with hv1 hv2 hv3
   subst hv1
   have f0 := (hb.cell (p := ⟨b, off + m * 2, none⟩) hbb).trans e0
   have f1 := (hb.cell (p := ⟨b, off + m * 2 + 1, none⟩) hbb).trans e1
   rw [drop_cons hx, vecFrom] at hv
   obtain ⟨xc, xn⟩ := x
   simp only at f0 f1 hv
   generalize hr : rightB xc xn = r at hv
   have HV := Lib.hid hv
   clear hv hv2 hv3 e0 e1
   cases m with
   | zero =>
    simp only [Nat.zero_mul, Nat.add_zero] at f0 f1
    cases r
    all_goals
     go_wp2_with fail
     have q0 : ∀ z : BW wr, z.val.cell? ⟨b, off, none⟩ = some (.int .i64 xc) := fun z => z.cell f0
     have q1 : ∀ z : BW wr, z.val.cell? ⟨b, off + 1, none⟩ = some (.int .i64 xn) := fun z => z.cell f1
     clear f0 f1
     refine region_below (by kernel_rfl) (by kernel_rfl) ?_
     repeat (go_big_quiet_step (first | (go_at_call 97; exact below_of (refRightOf _ _ _ hr))))
    all_goals
     refine wpQuiet_nil ?_
     intro w1 hb1
     have k1 := bnext hb hb1
     go_wp2_with fail
    ·go_ret
     exact ⟨ret_bool (by rw [HV.out]; rfl), k1⟩
    ·refine ⟨⟨1, xn, by omega, by go_num, fun h => by omega, fun i x hi hxi => ?_, ?_, k1⟩, by simp [intOf]; omega⟩
     ·obtain rfl : i = 0 := by omega
      rw [hx] at hxi
      injection hxi with hxi
      subst hxi
      rfl
     ·simp only [rightB, decide_eq_true_eq] at hr
      rw [HV.out, decide_eq_true (by have := he0 trivial; omega)]; rfl
   | succ i =>
    obtain ⟨y, hy⟩ : ∃ y, l[i]? = some y := ⟨l[i], List.getElem?_eq_getElem (by omega)⟩
    obtain rfl := he1 i y rfl hy
    obtain ⟨b', off', c'', hv', _, _, e1, _, _⟩ := stamps_at h hy
    injection hv' with hv1 hv2 hv3
    injection hv1 with hv1
    injection hv1 with hv4 hv5
    subst hv4 hv5
    have g1 := (hb.cell (p := ⟨b, off + i * 2 + 1, none⟩) hbb).trans e1
    have Hx := Lib.hid hx
    clear he1 he0 hy hv2 hv3 hx
    have i1 : (0 : Int) < (i : Int) + 1 := by omega
    have i2 : (i : Int) + 1 < (l.length : Int) := by omega
    have i3 : (i : Int) < (l.length : Int) := by omega
    have q0 : ∀ z : BW wr, z.val.cell? ⟨b, off + (i + 1) * 2, none⟩ = some (.int .i64 xc) := fun z => z.cell f0
    have q1 : ∀ z : BW wr, z.val.cell? ⟨b, off + (i + 1) * 2 + 1, none⟩ = some (.int .i64 xn) := fun z => z.cell f1
    have q2 : ∀ z : BW wr, z.val.cell? ⟨b, off + i * 2 + 1, none⟩ = some (.int .i64 y.node) := fun z => z.cell g1
    clear f0 f1 g1 e1
    have s1 : IntKind.i64.wrap ((i : Int) + 1) = (i : Int) + 1 := IntWalk.i64_in _ (by omega)
    have s2 : IntKind.i64.wrap (i : Int) = (i : Int) := IntWalk.i64_in _ (by omega)
    cases r
    all_goals
     go_wp2_with fail
     refine region_below (by kernel_rfl) (by kernel_rfl) ?_
     repeat (go_big_quiet_step (first | (go_at_call 97; exact below_of (refRightOf _ _ _ hr))))
     refine wpQuiet_nil ?_
     intro w1 hb1
     have k1 := bnext hb hb1
     clear s1 s2
     go_wp2_with fail
    ·go_ret
     exact ⟨ret_bool (by rw [HV.out]; rfl), k1⟩
    ·go_ret
     refine ⟨ret_bool ?_, k1⟩
     rw [HV.out, decide_eq_false (by omega)]; rfl
    ·refine ⟨⟨i + 1 + 1, xn, by omega, by go_num, fun h => by omega, fun i' x hi hxi => ?_, ?_, k1⟩, by simp [intOf]; omega⟩
     ·obtain rfl : i' = i + 1 := by omega
      rw [Hx.out] at hxi
      injection hxi with hxi
      subst hxi
      rfl
     ·rw [HV.out, decide_eq_true (by omega)]; rfl
  ·obtain rfl : m = l.length := by omega
   rw [List.drop_length] at hv
   have HV := Lib.hid hv
   clear hv he0 he1
   go_wp2_with fail
   go_ret
   exact ⟨ret_bool HV.out.symm, hb⟩
end Go.Proofs.YtkphfdmelfhnoaaGreatDoor
