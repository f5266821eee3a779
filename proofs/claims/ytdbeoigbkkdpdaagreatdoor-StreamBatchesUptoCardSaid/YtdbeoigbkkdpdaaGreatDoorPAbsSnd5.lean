/- The formula of an operation is enough: slices that are built; all kinds together. No program is known here. -/
import Derived.Test.YtdbeoigbkkdpdaaGreatDoorPAbsSnd2
set_option linter.all false
set_option linter.unnecessarySimpa false
set_option linter.unusedSimpArgs false
set_option linter.unusedVariables false
/- The formula of an operation is enough: kind by kind, the others. No program is known here. -/
namespace Go.Proofs.YtdbeoigbkkdpdaaGreatDoor
open Go.ChangeShapes Go.WideShapes Go.ChangeAt Go.RowKit

section
variable {P : Program} {G : World → Prop} {c : Nat} {L : Operand → AV} {B : Nat → Option BA} {K : AV → List BA → Prop}
variable {dst : Option Tmp} {ty : TypeId} {pos : String} {after : Array Edge} {gd : Option (Nat × Bool)}

/-- what an operand holds -/
theorem at_op {E : Env} {X : World} {a : Act} {x : Operand} {d : AV} (hL : ∀ x, RepA E X (a.eval x) (L x)) (hx : L x = d) : RepA E X (a.eval x) d := hx ▸ hL x
theorem at_val {E : Env} {X : World} {a : Act} {x : Operand} {v : Value} (hL : ∀ x, RepA E X (a.eval x) (L x)) (hx : nrm (L x) = .val v) : a.eval x = v := by
  have := (hL x).nrm_
  rw [hx] at this
  generalize a.eval x = u at this
  cases this; rfl
theorem e_nil {x : Operand} (h : match L x with
      | .ip cs => K (.ip cs) []
      | .bp b p => K (.bp b p) []
      | .rp b k i j => K (.rp b k i j) []
      | .fn f cs => K (.fn f cs) []
      | _ => False) : Enough P G ⟨dst, .nilCheck x, ty, pos, after, gd⟩ c L B K := by
  split at h
  case h_5 => exact h.elim
  all_goals
    rename_i hx
    refine ⟨_, _, h, QSnd.pure_ fun V w0 n E σ a w _ hL _ => ⟨a.eval x, ?_, at_op hL hx⟩⟩
    have := at_op hL hx
    generalize hu : a.eval x = u at this
    cases this <;> (simp only [execOp, hu]; rfl)
theorem run_bin {op : BinOp} {t tz : TypeId} {x y : Operand} {a : Act} {w : World} {p q r : Value} (hx : a.eval x = p) (hy : a.eval y = q) (h : (do eqGuard op t x y p q; binOp op t p q : Sem Value).run P w = .ok r w) :
    (execOp a.eval ⟨dst, .binOp op t x y tz, ty, pos, after, gd⟩).run P w = .ok (.value r) w := by
  simp only [execOp, hx, hy]
  exact run_v h
theorem valA_rep {E : Env} {X : World} {v : Value} {d : AV} {u : Value} (h : RepA E X v d) : valA d = some u → v = u := by
  induction h generalizing u with
  | any => simp [valA]
  | val => simp [valA]
  | iv h => cases h <;> simp [valA]
  | ip f h1 h2 => simp [valA]
  | bp => simp [valA]
  | rp => simp [valA]
  | own h => simp [valA]
  | aggI h => simp [valA]
  | tup h1 h2 => simp [valA]
  | fn h1 h2 => simp [valA]
  | @agg vs cs h1 h2 ih =>
    intro he
    simp only [valA, Option.map_eq_some_iff] at he
    obtain ⟨l, hl, rfl⟩ := he
    have key : ∀ (cs : List AV) (l : List Value), valA.valAs cs = some l → l.length = cs.length ∧ ∀ (j : Nat) d, cs[j]? = some d → ∃ u, l[j]? = some u ∧ valA d = some u := by
      intro cs
      induction cs with
      | nil => intro l h; simp [valA.valAs] at h; subst h; exact ⟨rfl, fun j d h => by simp at h⟩
      | cons c cs ih =>
        intro l h
        simp only [valA.valAs] at h
        split at h
        · rename_i v l' e1 e2
          obtain rfl := Option.some.inj h
          obtain ⟨i1, i2⟩ := ih l' e2
          refine ⟨by simp [i1], fun j d hd => ?_⟩
          cases j with
          | zero => simp at hd; subst hd; exact ⟨v, rfl, e1⟩
          | succ j => exact i2 j d (by simpa using hd)
        · cases h
    obtain ⟨k1, k2⟩ := key cs l hl
    congr 1
    apply Array.ext_getElem?
    intro j
    by_cases hj : j < vs.size
    · have hj2 : j < cs.length := by omega
      obtain ⟨u, u1, u2⟩ := k2 j _ (List.getElem?_eq_getElem hj2)
      rw [Array.getElem?_eq_getElem hj, ih j _ _ (Array.getElem?_eq_getElem hj) (List.getElem?_eq_getElem hj2) u2]
      simpa using u1.symm
    · rw [Array.getElem?_eq_none (by omega), Array.getElem?_eq_none (by simp; omega)]
theorem nrm_valA {d : AV} {u : Value} (h : valA (nrm d) = some u) : valA d = some u := by
  cases d with
  | iv i => cases i <;> exact h
  | _ => exact h
theorem e_bin {op : BinOp} {t tz : TypeId} {x y : Operand} (h : binQ P op t x y (L x) (L y) fun r => K r []) : Enough P G ⟨dst, .binOp op t x y tz, ty, pos, after, gd⟩ c L B K := by
  have done : ∀ {p q r : Value}, K (.val r) [] → nrm (L x) = .val p → nrm (L y) = .val q → (∀ w, (do eqGuard op t x y p q; binOp op t p q : Sem Value).run P w = .ok r w) → Enough P G ⟨dst, .binOp op t x y tz, ty, pos, after, gd⟩ c L B K := fun hK hx hy hr =>
    ⟨_, _, hK, QSnd.pure_ fun V w0 n E σ a w _ hL _ => ⟨_, run_bin (at_val hL hx) (at_val hL hy) (hr w), .val⟩⟩
  unfold binQ at h
  split at h
  case h_10 =>
    split at h
    · rename_i p q hp hq
      obtain ⟨r, h1, h2⟩ := h
      exact ⟨_, _, h2, QSnd.pure_ fun V w0 n E σ a w _ hL _ => ⟨_, run_bin (valA_rep (hL x) (nrm_valA hp)) (valA_rep (hL y) (nrm_valA hq)) (h1 w), .val⟩⟩
    · exact h.elim
  case h_7 | h_8 | h_9 =>
    rename_i hx hy
    obtain ⟨rfl, m, rfl, h⟩ := h
    exact done h hx hy fun w => by simp [eqGuard, binOp, Op.intArith]
  all_goals
    rename_i hx hy
    obtain ⟨rfl, h⟩ := h
    refine done h hx hy fun w => ?_
    simp [eqGuard, binOp, Op.intCmp]
    try rfl
theorem e_un {op : UnOp} {t : TypeId} {x : Operand} (h : match op, nrm (L x) with
    | .not, .val (.bool b) => K (.val (.bool !b)) []
    | .neg, .val (.int k m) => ∃ m', k.wrap (0 - m) = m' ∧ K (.val (.int k m')) []
    | _, _ => False) : Enough P G ⟨dst, .unOp op t x, ty, pos, after, gd⟩ c L B K := by
  split at h
  · rename_i b hx
    exact ⟨_, _, h, QSnd.pure_ fun V w0 n E σ a w _ hL _ => ⟨_, by simp only [execOp, at_val hL hx]; exact run_v (by simp [Op.unary]), .val⟩⟩
  · rename_i k m hx
    obtain ⟨m', rfl, h⟩ := h
    exact ⟨_, _, h, QSnd.pure_ fun V w0 n E σ a w _ hL _ => ⟨_, by simp only [execOp, at_val hL hx]; exact run_v (by simp [Op.unary, Op.intArith]), .val⟩⟩
  · exact h.elim
theorem e_pick {b x y : Operand} (h : match nrm (L b) with
    | .val (.bool true) => K (L x) []
    | .val (.bool false) => K (L y) []
    | _ => False) : Enough P G ⟨dst, .pick b x y, ty, pos, after, gd⟩ c L B K := by
  split at h
  · rename_i hb
    exact ⟨_, _, h, QSnd.pure_ fun V w0 n E σ a w _ hL _ => ⟨a.eval x, by simp [execOp, at_val hL hb, asBool], hL x⟩⟩
  · rename_i hb
    exact ⟨_, _, h, QSnd.pure_ fun V w0 n E σ a w _ hL _ => ⟨a.eval y, by simp [execOp, at_val hL hb, asBool], hL y⟩⟩
  · exact h.elim
theorem tyInt_run {t : TypeId} {k : IntKind} (h : tyInt P t = some k) : P.underlying t = some (.int k) := by
  unfold tyInt at h
  split at h
  · rename_i k' hu
    obtain rfl := Option.some.inj h
    exact hu
  · cases h
theorem e_conv {s d : TypeId} {x : Operand} (h : match tyInt P s, tyInt P d, nrm (L x) with
    | some _, some k, .val (.int _ m) => ∃ m', k.wrap m = m' ∧ K (.val (.int k m')) []
    | _, _, _ => False) : Enough P G ⟨dst, .convert s d x, ty, pos, after, gd⟩ c L B K := by
  split at h
  · rename_i k' k j m hs hd hx
    obtain ⟨m', rfl, h⟩ := h
    exact ⟨_, _, h, QSnd.pure_ fun V w0 n E σ a w _ hL _ => ⟨_, by simp only [execOp, at_val hL hx]; exact run_v (by simp [convert, run_underlying (tyInt_run hs), run_underlying (tyInt_run hd), Conv.intToInt]), .val⟩⟩
  · exact h.elim
theorem e_func {f : FuncId} {first caps : Array Operand} (h : first = #[] ∧ K (.fn f (caps.toList.map L)) []) : Enough P G ⟨dst, .makeFunc (.func f) first caps, ty, pos, after, gd⟩ c L B K := by
  obtain ⟨rfl, h⟩ := h
  refine ⟨_, _, h, QSnd.pure_ fun V w0 n E σ a w _ hL _ => ⟨.func (.func f) #[] (caps.map a.eval), by simp only [execOp]; exact run_v (by simp [Instr.makeFunc]), .fn (by simp) fun j v d h1 h2 => ?_⟩⟩
  rw [Array.getElem?_map, Option.map_eq_some_iff] at h1
  rw [List.getElem?_map, Option.map_eq_some_iff] at h2
  obtain ⟨y, e1, rfl⟩ := h1
  obtain ⟨y', e2, rfl⟩ := h2
  rw [Array.getElem?_toList, e1] at e2
  obtain rfl := Option.some.inj e2
  exact hL y
theorem e_fieldAddr {t : TypeId} {f : Nat} {x : Operand} (h : match tyF P t f with
    | some (off, _, s) => s ≠ 0 ∧ match L x with
      | .ip cs => K (.ip (cs.drop off)) []
      | .bp b p => K (.bp b (p + off)) []
      | .rp b k i j => K (.rp b k i (j + off)) []
      | _ => False
    | none => False) : Enough P G ⟨dst, .fieldAddr t x f, ty, pos, after, gd⟩ c L B K := by
  split at h
  · rename_i off q s hF
    obtain ⟨fs, fd, f1, f2, f3, f4⟩ := tyF_run hF
    obtain ⟨hs0, h⟩ := h
    have run : ∀ (a : Act) (w : World) {b p : Nat}, a.eval x = .pointer (some ⟨b, p, none⟩) → (execOp a.eval ⟨dst, .fieldAddr t x f, ty, pos, after, gd⟩).run P w = .ok (.value (.pointer (some ⟨b, p + off, none⟩))) w := fun a w b p hu => by
      obtain ⟨_, hz⟩ := tyK_run (w := w) f4
      simp only [execOp, hu]
      exact run_v (by simp [Instr.fieldAt, run_underlying f1, f2, Instr.sureAddr, fieldPlace, hz, hs0, f3, add_at])
    split at h
    · rename_i cs hx
      refine ⟨_, _, h, QSnd.pure_ fun V w0 n E σ a w _ hL _ => ?_⟩
      have := at_op hL hx
      generalize hu : a.eval x = u at this
      cases this with
      | @ip b o _ g p1 p2 =>
        refine ⟨_, run a w hu, .ip (fun j => g (off + j)) (fun j u hj => ?_) fun j u hj => ?_⟩
        · rw [List.getElem?_drop] at hj
          rw [Nat.add_assoc]; exact p1 _ u hj
        · rw [List.getElem?_drop] at hj
          exact p2 _ u hj
    · rename_i b p hx
      refine ⟨_, _, h, QSnd.pure_ fun V w0 n E σ a w _ hL _ => ?_⟩
      have := at_op hL hx
      generalize hu : a.eval x = u at this
      cases this
      exact ⟨_, run a w hu, .bp⟩
    · rename_i b k i j hx
      refine ⟨_, _, h, QSnd.pure_ fun V w0 n E σ a w _ hL _ => ?_⟩
      have := at_op hL hx
      generalize hu : a.eval x = u at this
      cases this
      exact ⟨_, run a w hu, by rw [Nat.add_assoc]; exact .rp⟩
    · exact h.elim
  · exact h.elim
theorem e_field {t : TypeId} {f : Nat} {x : Operand} (h : match tyF P t f, L x with
    | some (off, q, s), .agg cs => rdA q s (cs.drop off) fun r => K r []
    | _, _ => False) : Enough P G ⟨dst, .field t x f, ty, pos, after, gd⟩ c L B K := by
  split at h
  · rename_i off q s cs hF hx
    obtain ⟨fs, fd, f1, f2, f3, f4⟩ := tyF_run hF
    have run : ∀ (w : World) (a : Act) (vs : Array Value) {v : Value}, a.eval x = .agg vs → (part fd.type vs off).run P w = .ok v w → (execOp a.eval ⟨dst, .field t x f, ty, pos, after, gd⟩).run P w = .ok (.value v) w := fun w a vs v hu hp => by
      simp only [execOp, hu]
      exact run_v (by simp [Instr.field, run_underlying f1, f2, asAgg, f3, hp])
    match q, f4, h with
    | 0, f4, h =>
      cases hd : cs.drop off with
      | nil => rw [hd] at h; exact h.elim
      | cons d ds =>
        rw [hd] at h
        refine ⟨_, _, h, QSnd.pure_ fun V w0 n E σ a w _ hL _ => ?_⟩
        obtain ⟨ha, hz⟩ := tyK_run (w := w) f4
        have := at_op hL hx
        generalize hu : a.eval x = u at this
        cases this with
        | @agg vs _ p1 p2 =>
          have hoff : off < cs.length := by
            have := congrArg List.length hd
            simp at this; omega
          have hv : vs[off]? = some (vs[off]'(by omega)) := Array.getElem?_eq_getElem _
          refine ⟨_, run w a vs hu (v := vs[off]'(by omega)) (by simp [part, ha, hv]), p2 off _ _ hv ?_⟩
          have := congrArg (fun l => l[0]?) hd
          simpa using this
    | 1, f4, h =>
      refine ⟨_, _, h.2, QSnd.pure_ fun V w0 n E σ a w _ hL _ => ?_⟩
      obtain ⟨ha, hz⟩ := tyK_run (w := w) f4
      have := at_op hL hx
      generalize hu : a.eval x = u at this
      cases this with
      | @agg vs _ p1 p2 =>
        have hlen := h.1
        rw [List.length_drop] at hlen
        refine ⟨_, run w a vs hu (v := .agg (vs.extract off (off + s))) (by simp [part, ha, hz]), .agg (by simp; omega) fun j v d a b => ?_⟩
        have hj : j < s := by
          have := (List.getElem?_eq_some_iff.1 b).1
          simp at this; omega
        rw [List.getElem?_take_of_lt hj, List.getElem?_drop] at b
        rw [Array.getElem?_extract] at a
        split at a
        · exact p2 _ v d a b
        · cases a
    | _ + 2, _, h => exact h.elim
  · exact h.elim
theorem e_extract {x : Operand} {i : Nat} (h : match L x with
    | .tup cs => i < cs.length ∧ K (cs.getD i .any) []
    | _ => False) : Enough P G ⟨dst, .extract x i, ty, pos, after, gd⟩ c L B K := by
  split at h
  · rename_i cs hx
    refine ⟨_, _, h.2, QSnd.pure_ fun V w0 n E σ a w _ hL _ => ?_⟩
    have := at_op hL hx
    generalize hu : a.eval x = u at this
    cases this with
    | @tup vs _ p1 p2 =>
      have hv : vs[i]? = some (vs[i]'(by omega)) := Array.getElem?_eq_getElem _
      refine ⟨vs[i]'(by omega), by simp only [execOp, hu]; exact run_v (by simp [Instr.extract, hv]), p2 i _ _ hv ?_⟩
      rw [List.getD_eq_getElem?_getD, List.getElem?_eq_getElem h.1]; rfl
  · exact h.elim
theorem e_len {t : TypeId} {x : Operand} (h : lenQ P t B (L x) fun r => K r []) : Enough P G ⟨dst, .call { callee := .builtin .len, args := #[x], argTypes := #[t] }, ty, pos, after, gd⟩ c L B K := by
  have run : ∀ (a : Act) (w : World) {v : Value} {m : Int}, a.eval x = v → (Builtin.len_ #[t] ty #[v]).run P w = .ok (.int .i64 m) w → (execOp a.eval ⟨dst, .call { callee := .builtin .len, args := #[x], argTypes := #[t] }, ty, pos, after, gd⟩).run P w = .ok (.value (.int .i64 m)) w := fun a w v m hu hr => by
    simp [execOp, resolve, invoke, builtin, hu, hr]
  have slr : ∀ {A : Option Addr} {m cc : Nat} (w : World), (tySl P t).isSome = true → (Builtin.len_ #[t] ty #[.slice A m cc]).run P w = .ok (.int .i64 (m : Nat)) w := fun w hs => by
    obtain ⟨⟨e, k, y⟩, hq⟩ := Option.isSome_iff_exists.1 hs
    simp [Builtin.len_, run_underlying (tySl_run hq).1, goInt]
  unfold lenQ at h
  split at h
  · rename_i k l hx
    refine ⟨_, _, h.2, QSnd.pure_ fun V w0 n E σ a w _ hL _ => ?_⟩
    have := (hL x).nrm_
    rw [hx] at this
    generalize hu : a.eval x = u at this
    cases this with
    | iv hr =>
      obtain ⟨A, cc, rfl, _⟩ := hr.to_sl
      exact ⟨_, run a w hu (slr w h.1), .val⟩
  · rename_i b hx
    split at h
    · rename_i b' e k l hb
      refine ⟨_, _, h.2, QSnd.pure_ fun V w0 n E σ a w hs hL hB => ?_⟩
      have := (hL x).nrm_
      rw [hx] at this
      generalize hu : a.eval x = u at this
      cases this with
      | @own _ A m cc he =>
        obtain ⟨q1, q2⟩ := hB b _ hb
        obtain rfl : b' = b := q2
        obtain ⟨q3, _⟩ := hs.holds _ q1
        rw [he] at q3
        obtain ⟨A', c', e2⟩ := q3.form
        injection e2 with _ e3 _
        subst e3
        exact ⟨_, run a w hu (slr w h.1), .val⟩
    · exact h.elim
  · rename_i hx
    exact ⟨_, _, h.2, QSnd.pure_ fun V w0 n E σ a w _ hL _ => ⟨_, run a w (at_val hL hx) (by simpa using slr (A := none) (m := 0) (cc := 0) w h.1), .val⟩⟩
  · rename_i s hx
    refine ⟨_, _, h.2, QSnd.pure_ fun V w0 n E σ a w _ hL _ => ⟨_, run a w (at_val hL hx) ?_, .val⟩⟩
    have hs := h.1
    unfold tyStr at hs
    split at hs
    · rename_i hu
      simp [Builtin.len_, run_underlying hu, goInt]
    · cases hs
  · exact h.elim
theorem e_cap {t : TypeId} {x : Operand} (h : match nrm (L x) with
      | .val (.slice none 0 0) => (tySl P t).isSome = true ∧ K (.val (.int .i64 0)) []
      | _ => False) : Enough P G ⟨dst, .call { callee := .builtin .cap, args := #[x], argTypes := #[t] }, ty, pos, after, gd⟩ c L B K := by
  split at h
  · rename_i hx
    obtain ⟨hs, h⟩ := h
    obtain ⟨⟨e, k, y⟩, hq⟩ := Option.isSome_iff_exists.1 hs
    refine ⟨_, _, h, QSnd.pure_ fun V w0 n E σ a w _ hL _ => ⟨.int .i64 0, ?_, .val⟩⟩
    simp [execOp, resolve, invoke, builtin, at_val hL hx, Builtin.cap_, run_underlying (tySl_run hq).1, goInt]
  · exact h.elim
theorem e_max {x y : Operand} {at_ : Array TypeId} (h : match nrm (L x), nrm (L y) with
      | .val (.int k p), .val (.int _ q) => ∃ m, max p q = m ∧ K (.val (.int k m)) []
      | _, _ => False) : Enough P G ⟨dst, .call { callee := .builtin .max, args := #[x, y], argTypes := at_ }, ty, pos, after, gd⟩ c L B K := by
  split at h
  · rename_i k p j q hx hy
    obtain ⟨m, rfl, h⟩ := h
    refine ⟨_, _, h, QSnd.pure_ fun V w0 n E σ a w _ hL _ => ⟨.int k (if q > p then q else p), ?_, ?_⟩⟩
    · simp [execOp, resolve, invoke, builtin, at_val hL hx, at_val hL hy, Builtin.max_, Builtin.max2]
    · rw [show max p q = if q > p then q else p by split <;> omega]
      exact .val
  · exact h.elim
theorem e_min {x y : Operand} {at_ : Array TypeId} (h : match nrm (L x), nrm (L y) with
      | .val (.int k p), .val (.int _ q) => ∃ m, min p q = m ∧ K (.val (.int k m)) []
      | _, _ => False) : Enough P G ⟨dst, .call { callee := .builtin .min, args := #[x, y], argTypes := at_ }, ty, pos, after, gd⟩ c L B K := by
  split at h
  · rename_i k p j q hx hy
    obtain ⟨m, rfl, h⟩ := h
    refine ⟨_, _, h, QSnd.pure_ fun V w0 n E σ a w _ hL _ => ⟨.int k (if q < p then q else p), ?_, ?_⟩⟩
    · simp [execOp, resolve, invoke, builtin, at_val hL hx, at_val hL hy, Builtin.min_, Builtin.min2]
    · rw [show min p q = if q < p then q else p by split <;> omega]
      exact .val
  · exact h.elim
end
end Go.Proofs.YtdbeoigbkkdpdaaGreatDoor
/- The formula of an operation is enough: slices, indices, calls; and all kinds together. No program is known here. -/
namespace Go.Proofs.YtdbeoigbkkdpdaaGreatDoor
open Go.ChangeShapes Go.WideShapes Go.ChangeAt Go.RowKit

section
variable {P : Program} {G : World → Prop} {c : Nat} {L : Operand → AV} {B : Nat → Option BA} {K : AV → List BA → Prop}
variable {dst : Option Tmp} {ty : TypeId} {pos : String} {after : Array Edge} {gd : Option (Nat × Bool)}

/-- a part of a slice -/
theorem RepV.part {X : World} {A : Option Addr} {m cc k : Nat} {l : List (List IV)} (h : RepV X (.slice A m cc) (.sl k l)) {i j d : Nat} (hij : i ≤ j) (hj : j ≤ l.length) (A' : Option Addr) (hA : i < j → A' = A.map (·.add (i * k))) (hd : j - i ≤ d) (hd2 : d ≤ cc) :
    RepV X (.slice A' (j - i) d) (.sl k ((l.take j).drop i)) := by
  obtain ⟨A0, c0, e, ⟨h1, h2⟩, h3, h4⟩ := h.to_sl
  injection e with e1 e2 e3
  subst e1 e2 e3
  have hlen : ((l.take j).drop i).length = j - i := by rw [List.length_drop, List.length_take]; omega
  refine RepV.of_sl ⟨_, _, by rw [hlen], ⟨by rw [hlen]; exact hd, by rw [hlen]; omega⟩, by omega, fun hne => ?_⟩
  have hlt : i < j := by
    have := List.length_pos_iff.2 hne
    omega
  have hne0 : l ≠ [] := by intro e; rw [e] at hj; simp at hj; omega
  obtain ⟨b, off, rfl, hb, h5⟩ := h4 hne0
  rw [hA hlt]
  refine ⟨b, off + i * k, by simp [add_at], hb, fun q x hx => ?_⟩
  rw [List.getElem?_drop] at hx
  have hq : i + q < j := by
    have := (List.getElem?_eq_some_iff.1 hx).1
    rw [List.length_take] at this; omega
  rw [List.getElem?_take_of_lt hq] at hx
  obtain ⟨cs, p1, p2, p3⟩ := h5 _ x hx
  refine ⟨cs, p1, p2, fun jj u hu => ?_⟩
  have := p3 jj u hu
  rw [Nat.add_mul] at this
  rw [show off + i * k + q * k + jj = off + (i * k + q * k) + jj by omega]
  exact this
theorem e_slice {t : TypeId} {x : Operand} {lo hi mx : Option Operand} (h : match tySl P t, nrm (L x) with
    | some (_, k, _), .iv (.sl k' l) =>
      k = k' ∧ ∃ i j : Nat, (match lo with | none => i = 0 | some p => L p = .val (.int .i64 i)) ∧ (match hi with | none => j = l.length | some p => L p = .val (.int .i64 j)) ∧ i ≤ j ∧ j ≤ l.length ∧ mxQ L mx hi j l.length (K (.iv (.sl k ((l.take j).drop i))) [])
    | _, _ => False) : Enough P G ⟨dst, .slice t x lo hi mx, ty, pos, after, gd⟩ c L B K := by
  split at h
  · rename_i e k y k' l ht hx
    obtain ⟨rfl, i, j, hlo, hhi, hij, hj, hK⟩ := h
    obtain ⟨hu, inf, hi2, hi3, _⟩ := tySl_run ht
    have hK' : K (.iv (.sl k ((l.take j).drop i))) [] := by
      unfold mxQ at hK
      split at hK
      · exact hK
      · obtain ⟨_, m, _, _, _, h⟩ := hK; exact h
    refine ⟨_, _, hK', QSnd.pure_ fun V w0 n E σ a w _ hL _ => ?_⟩
    have := (hL x).nrm_
    rw [hx] at this
    generalize hxv : a.eval x = u at this
    cases this with
    | iv hr =>
      obtain ⟨A, cc, rfl, ⟨h1, h2⟩, h3, h4⟩ := hr.to_sl
      have hlo' : lo.map a.eval = none ∧ i = 0 ∨ lo.map a.eval = some (.int .i64 i) := by
        cases lo with
        | none => exact .inl ⟨rfl, hlo⟩
        | some p => exact .inr (by
            have := at_val hL (x := p) (v := .int .i64 i) (by rw [hlo]; rfl)
            simp [this])
      have hhi' : hi.map a.eval = none ∧ j = l.length ∨ hi.map a.eval = some (.int .i64 j) := by
        cases hi with
        | none => exact .inl ⟨rfl, hhi⟩
        | some p => exact .inr (by
            have := at_val hL (x := p) (v := .int .i64 j) (by rw [hhi]; rfl)
            simp [this])
      have hmx : ∃ m : Nat, j ≤ m ∧ m ≤ cc ∧ ((mx = none ∧ m = cc) ∨ (mx.map a.eval = some (.int .i64 m) ∧ mx.isSome = true ∧ hi.isSome = true)) := by
        unfold mxQ at hK
        split at hK
        · exact ⟨cc, by omega, Nat.le_refl _, .inl ⟨rfl, rfl⟩⟩
        · rename_i p
          obtain ⟨e0, m, e1, e2, e3, _⟩ := hK
          exact ⟨m, e2, by omega, .inr ⟨by
            have := at_val hL (x := p) (v := .int .i64 m) (by rw [e1]; rfl)
            simp [this], rfl, e0⟩⟩
      obtain ⟨m, hm1, hm2, hm⟩ := hmx
      refine ⟨.slice (if m = i then A else A.map (·.add (i * k))) (j - i) (m - i), ?_, .iv (hr.part hij hj _ (fun hne => by rw [if_neg (by omega)]) (by omega) (by omega))⟩
      have hb : (Instr.sliceBounds true l.length cc (lo.map a.eval) (hi.map a.eval) (mx.map a.eval)).run P w = .ok (i, j, m) w := by
        have i1 : (0 : Int) ≤ (i : Int) ∧ (i : Int) ≤ (j : Int) := by omega
        have i2 : (0 : Int) ≤ (j : Int) ∧ (j : Int) ≤ (m : Int) := by omega
        have i6 : (0 : Int) ≤ (m : Int) ∧ (m : Int) ≤ (cc : Int) := by omega
        have i3 : i ≤ j := hij
        have i4 : j ≤ m := hm1
        have i5 : l.length ≤ cc := h1
        rcases hm with ⟨rfl, rfl⟩ | ⟨e3, e4, e5⟩
        · rcases hlo' with ⟨e1, rfl⟩ | e1 <;> rcases hhi' with ⟨e2, rfl⟩ | e2 <;> rw [e1, e2] <;> simp [Instr.sliceBounds, Instr.sliceBound, asIntOf, i1, i2, i3, i4, i5]
        · rcases hhi' with ⟨e2, rfl⟩ | e2
          · cases hi <;> simp at e2 e5
          · rcases hlo' with ⟨e1, rfl⟩ | e1 <;> rw [e1, e2, e3] <;> simp [Instr.sliceBounds, Instr.sliceBound, asIntOf, i1, i2, i3, i4, i5, i6, hm2]
      simp only [execOp, hxv]
      refine run_v ?_
      simp [Instr.sliceAt, Instr.slice, run_underlying hu, hb, sizeOf, typeInfo, hi2, hi3]
  · exact h.elim
theorem e_indexAddr {t : TypeId} {x i : Operand} (h : match nrm (L i) with
    | .val (.int _ m) => match tySl P t with
      | some (_, k, _) => match nrm (L x) with
        | .iv (.sl k' l) => k = k' ∧ 0 ≤ m ∧ ∃ cs, l[m.toNat]? = some cs ∧ K (.ip cs) []
        | .own b => match B b with
          | some (.row _ _ k' l) => k = k' ∧ 0 ≤ m ∧ m.toNat < l.length ∧ K (.rp b k m.toNat 0) []
          | _ => False
        | _ => False
      | none => match tyAr P t, L x with
        | some (n, _, k), .bp b p => 0 ≤ m ∧ m < (n : Int) ∧ 0 < k ∧ K (.bp b (p + m.toNat * k)) []
        | some (n, _, k), .ip cs => 0 ≤ m ∧ m < (n : Int) ∧ 0 < k ∧ K (.ip (cs.drop (m.toNat * k))) []
        | _, _ => False
    | _ => False) : Enough P G ⟨dst, .indexAddr t x i, ty, pos, after, gd⟩ c L B K := by
  split at h
  · rename_i kk m hi
    split at h
    · rename_i e k y ht
      obtain ⟨hu, inf, hi2, hi3, _⟩ := tySl_run ht
      have run : ∀ (a : Act) (w : World) {A : Addr} {len cc : Nat}, a.eval i = .int kk m → a.eval x = .slice (some A) len cc → 0 ≤ m → m < (len : Int) → (execOp a.eval ⟨dst, .indexAddr t x i, ty, pos, after, gd⟩).run P w = .ok (.value (.pointer (some (A.add (m.toNat * k))))) w := fun a w A len cc h1 h2 h3 h4 => by
        simp only [execOp, h1, h2]
        refine run_v ?_
        have h5 : ¬ (m < 0) := by omega
        simp [Instr.indexAt, asIntOf, run_underlying hu, h3, h4, sizeOf, typeInfo, hi2, hi3]
      split at h
      · rename_i k' l hx
        obtain ⟨rfl, h0, cs, hcs, hK⟩ := h
        refine ⟨_, _, hK, QSnd.pure_ fun V w0 n E σ a w hs hL _ => ?_⟩
        have := (hL x).nrm_
        rw [hx] at this
        generalize hxv : a.eval x = u at this
        cases this with
        | iv hr =>
          obtain ⟨A, cc, rfl, ⟨h1, h2⟩, h3, h4⟩ := hr.to_sl
          have hlt := (List.getElem?_eq_some_iff.1 hcs).1
          obtain ⟨b, off, rfl, hb, h5⟩ := h4 (by intro e; rw [e] at hcs; simp at hcs)
          obtain ⟨vs, p1, p2, p3⟩ := h5 _ cs hcs
          refine ⟨_, run a w (at_val hL hi) hxv h0 (by omega), ?_⟩
          rw [add_at]
          refine .ip (fun j => (vs[j]?).getD undef) (fun j u hj => ?_) fun j u hj => ?_
          · have hj' : j < vs.length := by rw [p1.len]; exact (List.getElem?_eq_some_iff.1 hj).1
            rw [List.getElem?_eq_getElem hj']
            exact p3 j _ (List.getElem?_eq_getElem hj')
          · have hj' : j < vs.length := by rw [p1.len]; exact (List.getElem?_eq_some_iff.1 hj).1
            simp only [List.getElem?_eq_getElem hj', Option.getD_some]
            exact p1.get (List.getElem?_eq_getElem hj') hj
      · rename_i b hx
        split at h
        · rename_i b' e' k' l hb
          obtain ⟨rfl, h0, hlt, hK⟩ := h
          refine ⟨_, _, hK, QSnd.pure_ fun V w0 n E σ a w hs hL hB => ?_⟩
          have := (hL x).nrm_
          rw [hx] at this
          generalize hxv : a.eval x = u at this
          cases this with
          | @own _ A mm cc he =>
            obtain ⟨q1, q2⟩ := hB b _ hb
            obtain rfl : b' = b := q2
            obtain ⟨q3, q4⟩ := hs.holds _ q1
            rw [he] at q3 q4
            rcases q3.forms with ⟨_, e0⟩ | ⟨g, c2, hg, _, _⟩
            · rw [e0] at hlt; simp at hlt
            · injection hg with g1 g2 g3
              subst g1 g2 g3
              obtain rfl : g = E.blk b' := q4 g rfl
              refine ⟨_, run a w (at_val hL hi) hxv h0 (by omega), ?_⟩
              rw [add_at]
              have := RepA.rp (E := E) (X := vis V w0 w (owns E σ.bk)) (b := b') (k := k) (i := m.toNat) (j := 0)
              simpa using this
        · exact h.elim
      · exact h.elim
    · split at h
      · rename_i n q k b p ht hx
        obtain ⟨h0, h1, hk, hK⟩ := h
        refine ⟨_, _, hK, QSnd.pure_ fun V w0 n' E σ a w hs hL _ => ?_⟩
        obtain ⟨e, hu, hz⟩ := tyAr_run ht
        obtain ⟨_, hz⟩ := tyK_run (w := w) hz
        have := at_op hL hx
        generalize hxv : a.eval x = u at this
        cases this
        refine ⟨.pointer (some ⟨E.blk b, p + m.toNat * k, none⟩), ?_, .bp⟩
        simp only [execOp, at_val hL hi, hxv]
        refine run_v ?_
        simp [Instr.indexAt, asIntOf, run_underlying hu, Instr.sureAddr, h0, h1, hz, add_at]
      · rename_i n q k cs ht hx
        obtain ⟨h0, h1, hk, hK⟩ := h
        refine ⟨_, _, hK, QSnd.pure_ fun V w0 n' E σ a w hs hL _ => ?_⟩
        obtain ⟨e, hu, hz⟩ := tyAr_run ht
        obtain ⟨_, hz⟩ := tyK_run (w := w) hz
        have := at_op hL hx
        generalize hxv : a.eval x = u at this
        cases this with
        | @ip b o _ g p1 p2 =>
          refine ⟨.pointer (some ⟨b, o + m.toNat * k, none⟩), ?_, .ip (fun j => g (m.toNat * k + j)) (fun j u hj => ?_) fun j u hj => ?_⟩
          · simp only [execOp, at_val hL hi, hxv]
            refine run_v ?_
            simp [Instr.indexAt, asIntOf, run_underlying hu, Instr.sureAddr, h0, h1, hz, add_at]
          · rw [List.getElem?_drop] at hj
            rw [Nat.add_assoc]; exact p1 _ u hj
          · rw [List.getElem?_drop] at hj
            exact p2 _ u hj
      · exact h.elim
  · exact h.elim
theorem e_index {t : TypeId} {x i : Operand} (h : match nrm (L i), L x with
    | .val (.int _ m), .aggI cs => match tyAr P t with
      | some (n, 0, 1) => 0 ≤ m ∧ m < (n : Int) ∧ ∃ u, cs[m.toNat]? = some u ∧ K (nrm (.iv u)) []
      | _ => False
    | .val (.int _ m), .val (.string s) => tyStr P t = true ∧ 0 ≤ m ∧ ∃ b, s[m.toNat]? = some b ∧ K (.val (.int .u8 (b.toNat : Nat))) []
    | _, _ => False) : Enough P G ⟨dst, .index t x i, ty, pos, after, gd⟩ c L B K := by
  split at h
  · rename_i kk m cs hi hx
    split at h
    · rename_i n ht
      obtain ⟨h0, h1, u, hu', hK⟩ := h
      refine ⟨_, _, hK, QSnd.pure_ fun V w0 n' E σ a w hs hL _ => ?_⟩
      have := at_op hL hx
      generalize hxv : a.eval x = u' at this
      cases this with
      | @aggI vs _ hr =>
        obtain ⟨e, hu, hz⟩ := tyAr_run ht
        obtain ⟨ha, hz⟩ := tyK_run (w := w) hz
        have hlt := (List.getElem?_eq_some_iff.1 hu').1
        rw [← hr.len] at hlt
        have hv : vs[m.toNat]? = some (vs[m.toNat]'(by simpa using hlt)) := Array.getElem?_eq_getElem _
        refine ⟨vs[m.toNat]'(by simpa using hlt), ?_, (RepA.iv (hr.get (by rw [Array.getElem?_toList]; exact hv) hu')).nrm_⟩
        simp only [execOp, at_val hL hi, hxv]
        refine run_v ?_
        simp [Instr.index, asIntOf, run_underlying hu, h0, h1, hz, part, ha, hv]
    · exact h.elim
  · rename_i kk m s hi hx
    obtain ⟨ht, h0, b, hb, hK⟩ := h
    refine ⟨_, _, hK, QSnd.pure_ fun V w0 n' E σ a w hs hL _ => ⟨_, ?_, .val⟩⟩
    unfold tyStr at ht
    split at ht
    · rename_i hu
      simp only [execOp, at_val hL hi, at_val hL (x := x) (v := .string s) (by rw [hx]; rfl)]
      refine run_v ?_
      simp [Instr.index, asIntOf, run_underlying hu, h0, hb]
    · cases ht
  · exact h.elim
/-- a call -/
theorem e_call {f : FuncId} {fo : Operand} {args : Array Operand} {at_ : Array TypeId} {caps : List AV} (hfo : L fo = .fn f caps) (hen : ∀ vs (w : World), (callFunc f vs).run P w = .ok (.enter f vs) w) (h : callQ P G B f (args.toList.map L ++ caps) c K) :
    Enough P G ⟨dst, .call { callee := .value fo, args, argTypes := at_ }, ty, pos, after, gd⟩ c L B K := by
  obtain ⟨r, nb, args', hc, hsm, hK⟩ := h
  simp only [Bool.and_eq_true] at hsm
  refine ⟨_, _, hK, fun V w0 n E σ a w hs hG hL hB N Q hN => ?_⟩
  have hfv := at_op hL hfo
  generalize hfe : a.eval fo = u at hfv
  cases hfv with
  | @fn _ vs _ p1 p2 =>
    have hexec : (execOp a.eval ⟨dst, .call { callee := .value fo, args, argTypes := at_ }, ty, pos, after, gd⟩).run P w = .ok (.enter f (args.map a.eval ++ vs)) w := by
      simp [execOp, resolve, hfe, Deferred.ofValue, invoke, hen]
    have hargs : RepAs E (vis V w0 w (owns E σ.bk)) (args.map a.eval ++ vs).toList (args.toList.map L ++ caps) := by
      refine ⟨by simp [p1], fun j v d e1 e2 => ?_⟩
      by_cases hj : j < args.size
      · rw [List.getElem?_append_left (by simpa using hj), List.getElem?_map, Option.map_eq_some_iff] at e2
        obtain ⟨y, e3, rfl⟩ := e2
        rw [Array.getElem?_toList, Array.getElem?_append_left (by simpa using hj), Array.getElem?_map, Option.map_eq_some_iff] at e1
        obtain ⟨y', e4, rfl⟩ := e1
        rw [Array.getElem?_toList, e4] at e3
        obtain rfl := Option.some.inj e3
        exact hL _
      · rw [List.getElem?_append_right (by simp; omega)] at e2
        rw [Array.getElem?_toList, Array.getElem?_append_right (by simp; omega)] at e1
        simp only [List.length_map, Array.length_toList] at e2
        simp only [Array.size_map] at e1
        exact p2 _ v d e1 e2
    unfold Oper.wp
    rw [hexec, Oper.upon_enter]
    have hlt := hs.lt
    have h0 := hs.low.size
    -- what the callee gives, seen by the caller
    have fin : ∀ {gs : List Nat} (Vc : World), Vc = vis V w0 w gs → (∀ g ∈ gs, g < w.heap.size) → (∀ (E' : Env) (w' : World) (v : Value), (∀ b ∈ nb, b.holds E' (vis Vc w w' (owns E' nb)) w' w.heap.size) → RepA E' (vis Vc w w' (owns E' nb)) v r → (Ext (vis Vc w w' (owns E' nb)) (vis V w0 w' (owns E' nb ++ gs))) →
          (∀ b ∈ nb, b.holds E' (vis V w0 w' (owns E' nb ++ owns E σ.bk)) w' w.heap.size) ∧ RepA E' (vis V w0 w' (owns E' nb ++ owns E σ.bk)) v r) → ACalls P G f args' r nb → RepAs E Vc (args.map a.eval ++ vs).toList args' →
        Calls P f (args.map a.eval ++ vs) w fun
          | .returned v, w'' => N (a.put dst v) w''
          | .panicked chain, w'' => Q (.panic chain) a w''
          | .outgrown, _ => LetsOut Q := fun {gs} Vc hVc hgs hfl hcall hav => by
      subst hVc
      refine (hcall.2 _ w E _ (vis_in hs.ext hs.low) hG hav).mono ?_
      rintro e w' ⟨v, E', rfl, hb, hnd, hnew, hh, hv⟩
      obtain ⟨hh2, hv2⟩ := hfl E' w' v hh hv (vis_call hgs h0 hb hnew)
      have ho := shB_owns (E := E) (E' := E') (c := c) hsm.2
      refine hN v w' (Env.join E E' c) ⟨hb, ⟨Env.join_same E E' c, .inr rfl⟩, by rw [ho]; exact hnd, by rw [ho]; exact hnew, fun b hb' => ?_, by rw [ho]; exact hv2.sh hsm.1⟩
      obtain ⟨b0, hb0, rfl⟩ := shB_mem hb'
      rw [ho]
      exact BA.holds_base (BA.sh_holds (hh2 b0 hb0) (smallB_mem hsm.2 b0 hb0)) h0
    rcases hc with ⟨hsub, hcall⟩ | ⟨hl, hfr, hfb, hsub, hcall⟩
    · refine fin (gs := owns E σ.bk) _ rfl hlt (fun E' w' v hh hv hx => ⟨fun b hb => ?_, hv.mono hx⟩) hcall (hsub _ _ _ hargs)
      exact BA.holds_ext (Env.same_refl 0 0 E') hx (fun _ _ => rfl) b.off_none (hh b hb)
    · refine fin (gs := []) _ rfl (fun _ h => by cases h) (fun E' w' v hh hv hx => ⟨fun b hb => BA.flat_holds hfb hb (hh b hb), hv.flat hfr⟩) hcall (hsub _ _ _ ⟨by rw [viewAs_len]; exact hargs.1, fun j v d e1 e2 => ?_⟩)
      rw [viewAs_get, Option.map_eq_some_iff] at e2
      obtain ⟨d', e3, rfl⟩ := e2
      exact hs.view hB hl (hargs.2 j v d' e1 e3)
end
end Go.Proofs.YtdbeoigbkkdpdaaGreatDoor
namespace Go.Proofs.YtdbeoigbkkdpdaaGreatDoor
open Go.ChangeShapes Go.WideShapes Go.ChangeAt Go.RowKit

def setR (cells : Array Value) (off : Nat) : List Value → Array Value
  | [] => cells
  | v :: vs => setR (cells.setIfInBounds off v) (off + 1) vs
theorem setR_size (off : Nat) : ∀ (vs : List Value) (cells : Array Value), (setR cells off vs).size = cells.size := by
  intro vs
  induction vs generalizing off with
  | nil => exact fun _ => rfl
  | cons v vs ih => intro cells; simp [setR, ih]
theorem setR_get (i : Nat) : ∀ (vs : List Value) (off : Nat) (cells : Array Value), (setR cells off vs)[i]? = if off ≤ i ∧ i < off + vs.length ∧ i < cells.size then vs[i - off]? else cells[i]? := by
  intro vs
  induction vs with
  | nil => intro off cells; simp [setR]; omega
  | cons v vs ih =>
    intro off cells
    simp only [setR, ih, Array.size_setIfInBounds, Array.getElem?_setIfInBounds, List.length_cons]
    by_cases h1 : off = i
    · subst h1
      by_cases h2 : off < cells.size
      · rw [if_neg (by omega), if_pos (by omega)]; simp [h2]
      · rw [if_neg (by omega)]; simp [h2]
    · by_cases h2 : off ≤ i ∧ i < off + (vs.length + 1) ∧ i < cells.size
      · rw [if_pos (by omega), if_pos h2, show i - off = (i - (off + 1)) + 1 by omega, List.getElem?_cons_succ]
      · rw [if_neg (by omega), if_neg h2, if_neg h1]
theorem fold_setR (off : Nat) : ∀ (l : List Value) (j : Nat) (cells : Array Value), (l.zipIdx j).foldl (fun cs (x : Value × Nat) => cs.setIfInBounds (off + x.2) x.1) cells = setR cells (off + j) l := by
  intro l
  induction l with
  | nil => exact fun _ _ => rfl
  | cons v l ih => intro j cells; simp only [List.zipIdx_cons, List.foldl_cons, ih, setR]; rfl
theorem fill_step {place : Nat → Option (Nat × Nat)} {cells : Array Value} {i off size : Nat} {v : Value} {rest : List (Nat × Value)} (h : place i = some (off, size)) (h1 : v.cells.size = size) (h2 : off + size ≤ cells.size) :
    Instr.fill place cells ((i, v) :: rest) = Instr.fill place (setR cells off v.cells.toList) rest := by
  have e : v.cells.zipIdx.foldl (fun cs (x : Value × Nat) => cs.setIfInBounds (off + x.2) x.1) cells = setR cells off v.cells.toList := by
    rw [← Array.foldl_toList, Array.toList_zipIdx]
    exact fold_setR off _ 0 cells
  conv => lhs; unfold Instr.fill
  simp only [h]
  rw [if_neg (by simp only [Bool.or_eq_true, decide_eq_true_eq]; omega)]
  exact congrArg (fun c => Instr.fill place c rest) e
/-- all elements given, one after the other -/
theorem fill_all (k : Nat) : ∀ (xs : List Value) (s : Nat) (cells : Array Value), (∀ v ∈ xs, v.cells.size = k) → cells.size = (s + xs.length) * k →
    ∃ out : Array Value, Instr.fill (fun i => some (i * k, k)) cells (xs.zipIdx s |>.map fun x => (x.2, x.1)) = some out ∧ out.size = cells.size ∧
      (∀ j, j < s * k → out[j]? = cells[j]?) ∧ ∀ (i : Nat) v, xs[i]? = some v → ∀ j u, v.cells[j]? = some u → out[(s + i) * k + j]? = some u := by
  intro xs
  induction xs with
  | nil => exact fun s cells _ _ => ⟨cells, rfl, rfl, fun _ _ => rfl, fun i v h => by simp at h⟩
  | cons v xs ih =>
    intro s cells hk hs
    have hvk := hk v (by simp)
    have hsz : s * k + k ≤ cells.size := by
      rw [hs, List.length_cons, Nat.add_mul]
      have : k ≤ (xs.length + 1) * k := by rw [Nat.add_mul]; omega
      omega
    simp only [List.zipIdx_cons, List.map_cons]
    rw [fill_step (off := s * k) (size := k) rfl hvk hsz]
    obtain ⟨out, o1, o2, o3, o4⟩ := ih (s + 1) (setR cells (s * k) v.cells.toList) (fun u hu => hk u (List.mem_cons_of_mem _ hu)) (by rw [setR_size, hs, List.length_cons]; congr 1; omega)
    refine ⟨out, o1, by rw [o2, setR_size], fun j hj => ?_, fun i u hu j c hc => ?_⟩
    · rw [o3 j (by rw [Nat.add_mul]; omega), setR_get, if_neg (by omega)]
    · cases i with
      | zero =>
        simp at hu
        subst hu
        have hj : j < k := by rw [← hvk]; exact (Array.getElem?_eq_some_iff.1 hc).1
        rw [Nat.add_zero, o3 _ (by rw [Nat.add_mul]; omega), setR_get, if_pos (by simp [hvk]; omega), Nat.add_sub_cancel_left]
        simpa using hc
      | succ i =>
        have := o4 i u (by simpa using hu) j c hc
        rwa [show s + 1 + i = s + (i + 1) by omega] at this

section
variable {P : Program} {G : World → Prop} {c : Nat} {L : Operand → AV} {B : Nat → Option BA} {K : AV → List BA → Prop}
variable {dst : Option Tmp} {ty : TypeId} {pos : String} {after : Array Edge} {gd : Option (Nat × Bool)}

theorem chunks_of {α : Type} {R : List Value → α → Prop} {k : Nat} : ∀ (l : List α) (s : Nat) (xs : List Value), xs.length = (s + l.length) * k → (∀ i x, l[i]? = some x → ∃ cs, R cs x ∧ cs.length = k ∧ ∀ j u, cs[j]? = some u → xs[(s + i) * k + j]? = some u) → Chunks R k (xs.drop (s * k)) l := by
  intro l
  induction l with
  | nil => intro s xs hl _; simp only [Chunks]; exact List.drop_eq_nil_of_le (by rw [hl]; simp)
  | cons x l ih =>
    intro s xs hl h
    obtain ⟨cs, h1, h2, h3⟩ := h 0 x rfl
    refine ⟨cs, xs.drop ((s + 1) * k), ?_, h2, h1, ih (s + 1) xs (by rw [hl, List.length_cons]; congr 1; omega) fun i y hy => ?_⟩
    · apply List.ext_getElem?
      intro j
      rw [List.getElem?_drop]
      by_cases hj : j < k
      · have h5 := h3 j _ (List.getElem?_eq_getElem (by omega))
        rw [Nat.add_zero] at h5
        rw [List.getElem?_append_left (by omega), h5, List.getElem?_eq_getElem (by omega)]
      · rw [List.getElem?_append_right (by omega), List.getElem?_drop, h2]
        congr 1
        rw [Nat.add_mul]; omega
    · have := h (i + 1) y (by simpa using hy)
      rwa [show s + (i + 1) = s + 1 + i by omega] at this
theorem build_run {t : TypeId} {len e k y : Nat} {parts : Array (Nat × Operand)} {l : List (List IV)} (ht : tySl P t = some (e, k, y)) (hz : (tyZ P e).isSome = true) (hlen : l.length = len) (hk : 0 < k) (hbig : len * k ≤ 16777216)
    (hparts : ∀ (i : Nat) (cs : List IV), l[i]? = some cs → cs.length = k ∧ ∃ x, parts[i]? = some (i, x) ∧ okC (L x) = true ∧ toIs (cellsA (L x)) = some cs ∧ okAs (cellsA (L x))) (hps : parts.size = len)
    {V w0 : World} {n : Fm} {E : Env} {σ : AState} {a : Act} {w : World} (hL : ∀ x, RepA E (vis V w0 w (owns E σ.bk)) (a.eval x) (L x)) :
    ∃ out : Array Value, out.size = len * k ∧ (∀ (i : Nat) (cs : List IV), l[i]? = some cs → ∃ vs : List Value, RepVs (vis V w0 w (owns E σ.bk)) vs cs ∧ vs.length = k ∧ ∀ (j : Nat) u, vs[j]? = some u → out.toList[i * k + j]? = some u) ∧
      (execOp a.eval ⟨dst, .buildSlice t len parts, ty, pos, after, gd⟩).run P w = .ok (.value (.slice (some ⟨w.heap.size, 0, none⟩) len len)) (w.alloc (.cells out e)) := by
    obtain ⟨hu, inf, hi2, hi3, _⟩ := tySl_run ht
    obtain ⟨⟨zq, zs⟩, hz⟩ := Option.isSome_iff_exists.1 hz
    obtain ⟨z, z1, z2, _⟩ := tyZ_run (w := w) hz
    -- the parts' values
    have hval : ∀ i, i < len → ∃ x cs, parts[i]? = some (i, x) ∧ l[i]? = some cs ∧ RepVs (vis V w0 w (owns E σ.bk)) (a.eval x).cells.toList cs ∧ (a.eval x).cells.size = k := fun i hi => by
      have hi' : i < l.length := by omega
      obtain ⟨p0, x, p1, p2, p3, p4⟩ := hparts i _ (List.getElem?_eq_getElem hi')
      have hr := RepAs.toIs ((hL x).cells p2).1 p3 p4
      refine ⟨x, _, p1, List.getElem?_eq_getElem hi', hr, ?_⟩
      have := hr.len
      rw [p0] at this
      simpa using this
    have hvs : (parts.map fun (i, x) => (i, a.eval x)).toList = ((parts.toList.map fun p => a.eval p.2).zipIdx 0).map fun x => (x.2, x.1) := by
      apply List.ext_getElem?
      intro i
      rw [Array.toList_map, List.getElem?_map, List.getElem?_map, List.getElem?_zipIdx, List.getElem?_map, Array.getElem?_toList]
      by_cases hi : i < len
      · obtain ⟨x, cs, p1, _⟩ := hval i hi
        rw [p1]; simp
      · rw [Array.getElem?_eq_none (by omega)]; rfl
    obtain ⟨out, o1, o2, _, o4⟩ := fill_all k (parts.toList.map fun p => a.eval p.2) 0 ((Array.range (len * k)).map (z.cells[· % z.cells.size]!)) (fun v hv => by
      obtain ⟨p, hp, rfl⟩ := List.mem_map.1 hv
      obtain ⟨i, hi⟩ := List.mem_iff_getElem?.1 hp
      have hi2 : i < len := by have := (List.getElem?_eq_some_iff.1 hi).1; simp at this; omega
      obtain ⟨x, cs, p1, _, _, p4⟩ := hval i hi2
      rw [Array.getElem?_toList, p1] at hi
      obtain rfl := Option.some.inj hi
      exact p4) (by simp [hps])
    simp only [Array.size_map, Array.size_range] at o2
    have hexec : (execOp a.eval ⟨dst, .buildSlice t len parts, ty, pos, after, gd⟩).run P w = .ok (.value (.slice (some ⟨w.heap.size, 0, none⟩) len len)) (w.alloc (.cells out e)) := by
      simp only [execOp]
      refine run_v ?_
      have hb : ¬ (len * k > 2 ^ 24) := by omega
      simp only [Instr.buildSlice, hvs]
      by_cases h0 : len * k = 0
      · have hl0 : len = 0 := by
          rcases Nat.mul_eq_zero.1 h0 with h | h
          · exact h
          · omega
        subst hl0
        have hp0 : parts = #[] := Array.eq_empty_of_size_eq_zero hps
        subst hp0
        simp only [Nat.zero_mul] at o1 o2
        have hout : out = #[] := Array.eq_empty_of_size_eq_zero o2
        subst hout
        simp only [Sem.run_bind, run_underlying hu, Result.andThen_ok, sizeOf, run_typeInfo w hi2, Sem.run_pure, newRow, newObj, hi3, if_neg hb, if_pos h0]
        simp [Instr.fill, Sem.run]
        have e0 : Array.map (fun _ => (default : Value)) (Array.range 0) = #[] := Array.eq_empty_of_size_eq_zero (by simp)
        rw [e0]
      · simp only [Sem.run_bind, run_underlying hu, Result.andThen_ok, sizeOf, run_typeInfo w hi2, Sem.run_pure, newRow, newObj, hi3, if_neg hb, if_neg h0, z1, o1]
        rfl
    refine ⟨out, o2, fun i cs hi => ?_, hexec⟩
    have hil : i < len := by rw [← hlen]; exact (List.getElem?_eq_some_iff.1 hi).1
    obtain ⟨x, cs', p1, p2, p3, p4⟩ := hval i hil
    rw [p2] at hi
    obtain rfl := Option.some.inj hi
    refine ⟨_, p3, by simpa using p4, fun j u hj => ?_⟩
    have := o4 i (a.eval x) (by rw [List.getElem?_map, Array.getElem?_toList, p1]; rfl) j u (by simpa using hj)
    simpa using this
/-- a new slice: a row of one's own, or data from here on -/
theorem e_build {t : TypeId} {len : Nat} {parts : Array (Nat × Operand)} (h : match tySl P t with
    | some (e, k, _) => (tyZ P e).isSome = true ∧ ∃ l : List (List IV), l.length = len ∧ 0 < k ∧ len * k ≤ 16777216 ∧ (∀ (i : Nat) (cs : List IV), l[i]? = some cs → cs.length = k ∧ ∃ x, parts[i]? = some (i, x) ∧ okC (L x) = true ∧ toIs (cellsA (L x)) = some cs ∧ okAs (cellsA (L x))) ∧ parts.size = len ∧ (K (.own c) [.row c e k l] ∨ K (.iv (.sl k l)) [])
    | none => False) : Enough P G ⟨dst, .buildSlice t len parts, ty, pos, after, gd⟩ c L B K := by
  split at h
  · rename_i e k y ht
    obtain ⟨hz, l, hlen, hk, hbig, hparts, hps, hK⟩ := h
    have hle : len ≤ len * k := Nat.le_mul_of_pos_right _ hk
    rcases hK with hK | hK
    · refine ⟨_, _, hK, fun V w0 n E σ a w hs hG hL _ N Q hN => ?_⟩
      obtain ⟨out, o2, o4, hexec⟩ := build_run (dst := dst) (ty := ty) (pos := pos) (after := after) (gd := gd) ht hz hlen hk hbig hparts hps (n := n) hL
      unfold Oper.wp
      rw [hexec, Oper.upon_value]
      have hE : Env.same c (c + 100) E ⟨fun b => if b = c then w.heap.size else E.blk b, fun b => if b = c then .slice (some ⟨w.heap.size, 0, none⟩) len len else E.row b⟩ := fun b hb => by
        have : ¬ b = c := by omega
        simp [this]
      have hbel := balloc (o := .cells out e) (Below.refl _ w)
      have ho : owns ⟨fun b => if b = c then w.heap.size else E.blk b, fun b => if b = c then .slice (some ⟨w.heap.size, 0, none⟩) len len else E.row b⟩ [.row c e k l] = [w.heap.size] := by
        simp [owns, BA.owned, Value.ownBlock]
      have hx : Ext (vis V w0 w (owns E σ.bk)) (vis V w0 (w.alloc (.cells out e)) ([w.heap.size] ++ owns E σ.bk)) := vis_ext hbel.size fun p u _ h4 h5 h6 => ⟨fun hm => by
        rcases List.mem_append.1 hm with hm | hm
        · simp at hm; omega
        · exact h5 hm, kept_cell hbel h6⟩
      have hch : Chunks (RepVs (vis V w0 (w.alloc (.cells out e)) ([w.heap.size] ++ owns E σ.bk))) k out.toList l := by
        have := chunks_of (R := RepVs (vis V w0 (w.alloc (.cells out e)) ([w.heap.size] ++ owns E σ.bk))) (k := k) l 0 out.toList (by simp [o2, hlen]) fun i cs hi => by
          obtain ⟨vs, p3, p4, p5⟩ := o4 i cs hi
          exact ⟨vs, p3.ext hx, p4, fun j u hj => by simpa using p5 j u hj⟩
        simpa using this
      refine hN _ _ ⟨fun b => if b = c then w.heap.size else E.blk b, fun b => if b = c then .slice (some ⟨w.heap.size, 0, none⟩) len len else E.row b⟩ ⟨hbel, ⟨hE, .inr rfl⟩, by rw [ho]; simp, fun g hg => by rw [ho] at hg; simp at hg; omega, fun b' hb' => ?_, ?_⟩
      · rw [ho]
        simp only [List.mem_singleton] at hb'
        subst hb'
        refine ⟨?_, fun g hg => by simp [Value.ownBlock] at hg; simp [hg]⟩
        simp only [if_true]
        have hbl := OwnSl.of_blk (w := w.alloc (.cells out e)) (g := w.heap.size) (e := e) (cs := out) (l := l) (Blk.new _ _ _) hch (by omega)
        rw [hlen] at hbl
        exact hbl.base hs.low.size
      · refine .own (E := ⟨fun b => if b = c then w.heap.size else E.blk b, fun b => if b = c then .slice (some ⟨w.heap.size, 0, none⟩) len len else E.row b⟩) ?_
        simp
    · refine ⟨_, _, hK, fun V w0 n E σ a w hs hG hL _ N Q hN => ?_⟩
      obtain ⟨out, o2, o4, hexec⟩ := build_run (dst := dst) (ty := ty) (pos := pos) (after := after) (gd := gd) ht hz hlen hk hbig hparts hps (n := n) hL
      unfold Oper.wp
      rw [hexec, Oper.upon_value]
      have hbel := balloc (o := .cells out e) (Below.refl _ w)
      have hx : Ext (vis V w0 w (owns E σ.bk)) (vis V w0 (w.alloc (.cells out e)) (owns E σ.bk)) := vis_ext hbel.size fun p u _ _ h5 h6 => ⟨h5, kept_cell hbel h6⟩
      have hnot : w.heap.size ∉ owns E σ.bk := fun hm => absurd (hs.lt _ hm) (Nat.lt_irrefl _)
      refine hN _ _ E ⟨hbel, ⟨Env.same_refl _ _ E, .inl rfl⟩, List.nodup_nil, (fun g hg => by cases hg), (fun b' hb' => by cases hb'), ?_⟩
      refine .iv (RepV.of_sl ⟨some ⟨w.heap.size, 0, none⟩, len, by rw [hlen], ⟨by omega, by omega⟩, by unfold maxLen; omega, fun _ => ⟨w.heap.size, 0, rfl, ?_, fun i cs hi => ?_⟩⟩)
      · show w.heap.size < (vis V w0 (w.alloc (.cells out e)) _).heap.size
        rw [vis_size]; simp
      · obtain ⟨vs, p3, p4, p5⟩ := o4 i cs hi
        refine ⟨vs, p3.ext hx, p4, fun j u hj => ?_⟩
        show (vis V w0 (w.alloc (.cells out e)) (owns E σ.bk)).cell? _ = some u
        rw [vis_new hs.low.size, if_neg hnot, (Blk.new w e out).cell]
        simpa using p5 j u hj
  · exact h.elim
theorem setR_rep {E : Env} {X : World} : ∀ (vs : List Value) (ds : List AV) (off : Nat) (cells : Array Value) (cs : List AV), RepAs E X cells.toList cs → RepAs E X vs ds → RepAs E X (setR cells off vs).toList (setsL cs off ds)
  | [], [], off, cells, cs, h, _ => h
  | v :: vs, d :: ds, off, cells, cs, h, hr => by
    obtain ⟨v', vs', e, h1, h2⟩ := RepAs.cons_iff.1 hr
    injection e with e1 e2
    subst e1 e2
    refine setR_rep vs ds (off + 1) _ _ ?_ h2
    rw [Array.toList_setIfInBounds]
    exact h.set_ h1 off
  | [], _ :: _, _, _, _, _, hr => absurd hr.1 (by simp)
  | _ :: _, [], _, _, _, _, hr => absurd hr.1 (by simp)
theorem fillA_run {E : Env} {X : World} {L : Operand → AV} {a : Act} (hL : ∀ x, RepA E X (a.eval x) (L x)) {places : List (Nat × Nat)} : ∀ (parts : List (Nat × Operand)) (cells : Array Value) (cs out : List AV), RepAs E X cells.toList cs →
    fillA places cs (parts.map fun p => (p.1, L p.2)) = some out → ∃ C, Instr.fill (places.toArray[·]?) cells (parts.map fun p => (p.1, a.eval p.2)) = some C ∧ RepAs E X C.toList out
  | [], cells, cs, out, h, hf => by
    simp only [List.map_nil, fillA, Option.some.injEq] at hf
    subst hf
    exact ⟨cells, rfl, h⟩
  | p :: parts, cells, cs, out, h, hf => by
    simp only [List.map_cons, fillA] at hf
    split at hf
    · cases hf
    · rename_i off size hp
      split at hf
      · rename_i hc
        obtain ⟨c1, c2, c3⟩ := hc
        obtain ⟨hv, _⟩ := (hL p.2).cells c2
        have hsz : (a.eval p.2).cells.size = size := by
          have := hv.1
          rw [c1] at this
          simpa using this
        have hcs : off + size ≤ cells.size := by
          have := h.1
          simp at this; omega
        obtain ⟨C, h1, h2⟩ := fillA_run hL parts (setR cells off (a.eval p.2).cells.toList) _ out (setR_rep _ _ off cells cs h hv) hf
        refine ⟨C, ?_, h2⟩
        rw [List.map_cons, fill_step (off := off) (size := size) (by simpa using hp) hsz hcs]
        exact h1
      · cases hf
theorem mapM_opt {P : Program} {w : World} : ∀ {fs : List Field} {l : List (Nat × Nat)}, (fs.mapM fun f => (P.info? f.type).map fun i => (f.offset, i.size)) = some l → (fs.mapM fun f => (do return (f.offset, ← sizeOf f.type) : Sem (Nat × Nat))).run P w = .ok l w
  | [], l, h => by simp at h; subst h; rfl
  | f :: fs, l, h => by
    simp only [List.mapM_cons, Option.bind_eq_bind, Option.bind_eq_some_iff, Option.map_eq_some_iff, Option.pure_def, Option.some.injEq] at h
    obtain ⟨x, ⟨i, hi, rfl⟩, l', h1, rfl⟩ := h
    have h2 := mapM_opt h1 (w := w)
    rw [List.mapM_cons]
    simp only [Sem.run_bind, sizeOf, run_typeInfo w hi, Result.andThen_ok, Sem.run_pure] at h2 ⊢
    rw [h2]
    rfl
theorem e_struct {t : TypeId} {parts : Array (Nat × Operand)} (h : match tyBld P t with
    | some (zs, places) => match fillA places (zs.map AV.val) (parts.toList.map fun p => (p.1, L p.2)) with
      | some cs => K (.agg cs) []
      | none => False
    | none => False) : Enough P G ⟨dst, .build t parts, ty, pos, after, gd⟩ c L B K := by
  split at h
  · rename_i zs places hb
    split at h
    · rename_i cs hf
      refine ⟨_, _, h, QSnd.pure_ fun V w0 n E σ a w hs hL _ => ?_⟩
      unfold tyBld at hb
      split at hb
      · rename_i fs z hu hz
        simp only [Option.map_eq_some_iff, Prod.mk.injEq] at hb
        obtain ⟨l, hl, rfl, rfl⟩ := hb
        obtain ⟨i, hi, hz⟩ := Option.bind_eq_some_iff.1 hz
        obtain ⟨C, h1, h2⟩ := fillA_run hL parts.toList z.cells _ cs (RepAs.ofVals z.cells.toList) hf
        refine ⟨.agg C, ?_, .agg (by simpa using h2.1) fun j v d a b => h2.2 j v d (by rw [Array.getElem?_toList]; exact a) b⟩
        simp only [execOp]
        refine run_v ?_
        have hzr : (zeroValue t).run P w = .ok z w := by simp [zeroValue, run_typeInfo w hi, hz]
        have hm : (fs.mapM fun f => (do return (f.offset, ← sizeOf f.type) : Sem (Nat × Nat))).run P w = .ok l.toArray w := by
          have h3 := mapM_opt hl (w := w)
          rw [Array.mapM_eq_mapM_toList]
          simp only [Sem.run_bind, Sem.run_map, h3, Result.andThen_ok, Sem.run_pure]
        have hp : (parts.map fun (i, x) => (i, a.eval x)).toList = parts.toList.map fun p => (p.1, a.eval p.2) := by simp
        simp only [Instr.build, Sem.run_bind, hzr, Result.andThen_ok, run_underlying hu, Sem.run_pure, hm, hp, h1]
      · cases hb
    · exact h.elim
  · exact h.elim
/-- ALL KINDS: the formula is enough -/
theorem qop_enough {o : Oper} (hf : makes o = true → ∀ x, (L x).off c (c + 100) = true) (h : qop P G L B o c K) : Enough P G o c L B K := by
  obtain ⟨dst, op, ty, pos, after, gd⟩ := o
  unfold qop at h
  cases op with
  | move x => exact e_move h
  | assign x => exact e_assign h
  | pick b x y => exact e_pick h
  | alloc e =>
    simp only at h
    split at h
    · rename_i zs hz
      exact e_alloc hz (.inl ⟨rfl, h⟩)
    · rename_i q zs _ hz
      exact e_alloc hz (.inr h)
    · exact h.elim
  | box e x => exact e_box (hf rfl x) h
  | load t x =>
    simp only at h
    split at h
    · rename_i q s ht
      exact e_load ht h
    · exact h.elim
  | nilCheck x => exact e_nil h
  | binOp op t x y tz => exact e_bin h
  | unOp op t x => exact e_un h
  | convert s d x => exact e_conv h
  | makeFunc fn first caps => cases fn <;> first | exact e_func h | exact h.elim
  | slice t x lo hi mx => exact e_slice h
  | fieldAddr t x f => exact e_fieldAddr h
  | field t x f => exact e_field h
  | indexAddr t x i => exact e_indexAddr h
  | index t x i => exact e_index h
  | extract x i => exact e_extract h
  | build t parts => exact e_struct h
  | buildSlice t len parts => exact e_build h
  | call cl =>
    obtain ⟨callee, args, at_⟩ := cl
    cases callee with
    | value fo =>
      simp only at h
      split at h
      · rename_i f caps hfo
        have h' := h
        obtain ⟨r, nb, args', hc, _⟩ := h'
        refine e_call hfo (fun vs w => ?_) h
        rcases hc with ⟨_, hc⟩ | ⟨_, _, _, _, hc⟩ <;> exact hc.1 vs w
      · exact h.elim
    | invoke r m => exact h.elim
    | builtin b =>
      cases b <;> simp only at h <;> first | exact h.elim | skip
      case len =>
        split at h
        · rename_i x t h1 h2
          obtain rfl : args = #[x] := by rw [← Array.toArray_toList (xs := args), h1]
          obtain rfl : at_ = #[t] := by rw [← Array.toArray_toList (xs := at_), h2]
          exact e_len h
        · exact h.elim
      case cap =>
        split at h
        · rename_i x t h1 h2
          obtain rfl : args = #[x] := by rw [← Array.toArray_toList (xs := args), h1]
          obtain rfl : at_ = #[t] := by rw [← Array.toArray_toList (xs := at_), h2]
          exact e_cap h
        · exact h.elim
      case max =>
        split at h
        · rename_i x y h1
          obtain rfl : args = #[x, y] := by rw [← Array.toArray_toList (xs := args), h1]
          exact e_max h
        · exact h.elim
      case min =>
        split at h
        · rename_i x y h1
          obtain rfl : args = #[x, y] := by rw [← Array.toArray_toList (xs := args), h1]
          exact e_min h
        · exact h.elim
  | _ => exact h.elim
end
end Go.Proofs.YtdbeoigbkkdpdaaGreatDoor
