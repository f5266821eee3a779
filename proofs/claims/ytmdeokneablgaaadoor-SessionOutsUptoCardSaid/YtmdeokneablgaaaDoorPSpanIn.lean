/- Contracts of the program's membership in a set: the closure, the library's IndexFunc and ContainsFunc at spans. -/
import Derived.Test.YtmdeokneablgaaaDoorPSpan
/- Contracts of the reference's sets: which objects are in a list, and the list of a set. -/
namespace Go.Proofs.YtmdeokneablgaaaDoor
open Go.ChangeShapes Go.WideShapes Go.ChangeAt Go.RowKit

def setRow (f : Nat → Bool) : Array Value := rowOf 256 fun n => .bool (f n)
theorem setRow_size (f : Nat → Bool) : (setRow f).size = 256 := rowOf_size _ _
theorem setRow_one (f : Nat → Bool) : (setRow f).all (·.oneCell') = true := rowOf_one fun _ => rfl
theorem infoSet (f : Nat → Bool) : (Tryd.prog.info? 84).map (·.size) = some (setRow f).size := by rw [setRow_size]; kernel_rfl
theorem zeroSet : ∀ w, (zeroValue 84).run Tryd.prog w = .ok (.agg (setRow fun _ => false)) w := (zero_of_info (n := 256) (by kernel_rfl)).1
theorem setRow_set (f : Nat → Bool) (i : Nat) (b : Bool) : (setRow f).setIfInBounds i (.bool b) = setRow fun k => if k = i then b else f k := by
  rw [setRow, rowOf_set, setRow]
  refine rowOf_congr fun k _ => ?_
  by_cases h : k = i <;> simp [h]
theorem setRow_congr {f g : Nat → Bool} (h : ∀ o, o < 256 → f o = g o) : setRow f = setRow g := rowOf_congr fun o ho => by rw [h o ho]
theorem memB_nil (o : Int) : memB [] o = false := rfl

set_option maxRecDepth 100000 in
theorem refSet (l : List Span) (v : Value) (w : World) (h : Spans w w.heap.size v l) :
    Calls Tryd.prog 51 #[v] w fun e w' => e = .returned (.agg (setRow fun o => memB l o)) ∧ Below w.heap.size w w' := by
  have hle := h.len_le
  obtain ⟨A, c, rfl, _⟩ := id h
  have hz := zeroSet
  go_enter Tryd.func51, Tryd.ntmps51
  go_wp2_with fail
  clear hz
  go_loopw [4] (fun k wr => ∃ m : Nat, m ≤ l.length ∧ k = .int .i64 m ∧ Below w.heap.size w wr ∧ Blk wr w.heap.size 84 (setRow fun _ => false) ∧ Blk wr (w.heap.size + 1) 84 (setRow fun o => memB (l.take m) o)) (fun k _ => l.length - (intOf k).toNat)
  case atStart =>
    refine ⟨0, Nat.zero_le _, rfl, balloc (balloc (Below.refl _ _)), (Blk.new _ _ _).alloc, Blk.new_at (by simp)⟩
  case round =>
    obtain ⟨m, hm, rfl, hb, hB, hC⟩ := hrel
    by_cases hlt : m < l.length
    · obtain ⟨x, hx⟩ : ∃ x, l[m]? = some x := ⟨l[m], List.getElem?_eq_getElem hlt⟩
      obtain ⟨b, off, c', hv', hbb, e0, e1, r1, r2⟩ := spans_at h hx
      injection hv' with hv1 hv2 hv3
      subst hv1
      have f0 := (hb.cell (p := ⟨b, off + m * 2, none⟩) hbb).trans e0
      have f1 := (hb.cell (p := ⟨b, off + m * 2 + 1, none⟩) hbb).trans e1
      have ht := take_snoc hx
      obtain ⟨lo, hi⟩ := x
      simp only at f0 f1 ht r1 r2
      have r3 := r1.hi
      have r4 := r2.hi
      have r5 := r1.lo
      have r6 := r2.lo
      have Ht := Lib.hid ht
      have E0 := Lib.hid e0
      have E1 := Lib.hid e1
      clear ht hv2 hv3 e0 e1 hx r1 r2
      go_wp2_with fail
      all_goals
        clear f0 f1
        go_loopw [5] (fun k w2 => ∃ q : Int, 0 ≤ q ∧ lo ≤ q ∧ (q ≤ 0 ∨ q ≤ lo ∨ q ≤ hi + 1) ∧ q ≤ 9223372036854775807 ∧ k = .int .i64 q ∧ Below w.heap.size w w2 ∧ Blk w2 w.heap.size 84 (setRow fun _ => false) ∧ Blk w2 (w.heap.size + 1) 84 (setRow fun o => memB (l.take m) o || (decide (lo ≤ o) && decide ((o : Int) < q)))) (fun k _ => (256 - intOf k).toNat)
        case atStart =>
          refine ⟨_, ?_, ?_, ?_, ?_, rfl, hb, hB, ?_⟩
          · omega
          · omega
          · omega
          · omega
          · refine Eq.mp (congrArg (Blk wr (w.heap.size + 1) 84) (setRow_congr fun o _ => ?_)) hC
            rw [Bool.and_eq_false_imp.2 (fun h1 => by simp only [decide_eq_true_eq] at h1; exact decide_eq_false (by omega)), Bool.or_false]
        case round =>
          obtain ⟨q, q1, q2, q3, q4, rfl, hb2, hB2, hC2⟩ := hrel
          have f0 := (hb2.cell (p := ⟨b, off + m * 2, none⟩) hbb).trans E0.out
          have f1 := (hb2.cell (p := ⟨b, off + m * 2 + 1, none⟩) hbb).trans E1.out
          by_cases hgo : q ≤ 255 ∧ q ≤ hi
          · obtain ⟨g1, g2⟩ := hgo
            obtain ⟨n, rfl⟩ : ∃ n : Nat, q = n := ⟨q.toNat, by omega⟩
            have hn : n < 256 := by omega
            have c0 := (hC2.cell n).trans (rowOf_at hn)
            have d0 := hC2.frozen n
            go_wp2_with fail
            all_goals
              refine ⟨⟨(n : Int) + 1, by omega, by omega, by omega, by omega, rfl, bset hb2 (by simp), hB2.far (by simp) _, ?_⟩, by simp [intOf]; omega⟩
              have := hC2.set_ n (.bool true)
              rw [setRow_set] at this
              refine Eq.mp (congrArg _ (setRow_congr fun o _ => ?_)) this
              by_cases ho : o = n
              · subst ho
                rw [if_pos rfl, decide_eq_true (p := lo ≤ (o : Int)) (by omega), decide_eq_true (p := (o : Int) < (o : Int) + 1) (by omega)]
                simp
              · rw [if_neg ho]
                congr 2
                exact decide_eq_decide.2 ⟨fun _ => by omega, fun _ => by omega⟩
          · have hC3 : Blk wr (w.heap.size + 1) 84 (setRow fun o => memB (l.take (m + 1)) o) := by
              refine Eq.mp (congrArg _ (setRow_congr fun o ho => ?_)) hC2
              rw [Ht.out, memB_append]
              congr 1
              simp only [memB, List.any_cons, List.any_nil, Bool.or_false]
              by_cases hlo : lo ≤ (o : Int)
              · rw [decide_eq_true hlo, Bool.true_and, Bool.true_and]
                exact decide_eq_decide.2 ⟨fun _ => by omega, fun _ => by omega⟩
              · rw [decide_eq_false hlo]; rfl
            clear hC2
            have hcs : hi < q ∨ (255 < q ∧ q ≤ hi) := by omega
            clear hgo
            rcases hcs with g1 | ⟨g1, g2⟩
            all_goals
              go_wp2_with fail
              all_goals first
                | (exfalso; omega)
                | exact ⟨⟨m + 1, by omega, by go_num, hb2, hB2, hC3⟩, by simp [intOf]; omega⟩
    · obtain rfl : m = l.length := by omega
      rw [List.take_length] at hC
      go_wp2_with (first
        | (refine wpList_load_row rfl 84 (.tmp 3) rfl (w.heap.size + 1) rfl 84 _ (0, 0) _ hC.raw Tryd.underlying84 rfl (infoSet _) ?_)
        | (refine wpList_store_row rfl 84 (.tmp 2) (.tmp 30) rfl w.heap.size _ rfl rfl 84 _ hB.raw (infoSet _) ((setRow_size _).trans (setRow_size _).symm) (setRow_one _) ?_))
      exact bodyPost_ret (results_cell_row Tryd.results51 _ _ w.heap.size 84 _ (0, 0) _ rfl (hB.setRow (cs' := setRow fun o => memB l o)).raw Tryd.underlying84 rfl (infoSet _)) rfl ⟨rfl, bsetRow hb (by simp)⟩

/-- one span more, laid behind a row of one's own -/
theorem append_span {ops : Array Oper} {rest : List Oper} {o : Oper} {a : Act} {Q : Exit → Act → World → Prop} {wr : World} (hgd : o.guard = none) (s x : Operand)
    (ho : o.op = .call { callee := .builtin .append, args := #[s, x], argTypes := #[28, 28] }) (base : Nat) (v : Value) (l : List Span) (hs : a.eval s = v)
    (hown : OwnSl SpanR 2 wr base 33 v l) (lo hi : Int) (i1 : I64 lo) (i2 : I64 hi) (hlen : l.length ≤ 1000000) (hx : a.eval x = .slice (some ⟨wr.heap.size, 0, none⟩) 1 1) (hbase : base ≤ wr.heap.size)
    (h : ∀ v' w', OwnSl SpanR 2 w' base 33 v' (l ++ [⟨lo, hi⟩]) → (∀ g t cs, g < base → Blk wr g t cs → Blk w' g t cs) → (∀ u : World, u.heap.size ≤ base → Below u.heap.size u wr → Below u.heap.size u w') → wpList Tryd.prog ops Q rest (a.put o.dst v') w') :
    wpList Tryd.prog ops Q (o :: rest) a (wr.alloc (.cells #[.int .i64 lo, .int .i64 hi] 33)) := by
  obtain ⟨i0, hi0, hz0, hz1, hz2⟩ := info_parts infoSpan
  have hB : Blk (wr.alloc (.cells #[.int .i64 lo, .int .i64 hi] 33)) wr.heap.size 33 #[.int .i64 lo, .int .i64 hi] := Blk.new _ _ _
  have hsl : Sl SpanR 2 (wr.alloc (.cells #[.int .i64 lo, .int .i64 hi] 33)) (wr.alloc (.cells #[.int .i64 lo, .int .i64 hi] 33)).heap.size (.slice (some ⟨wr.heap.size, 0, none⟩) 1 1) [⟨lo, hi⟩] :=
    (OwnSl.of_blk (R := SpanR) (k := 2) (l := [(⟨lo, hi⟩ : Span)]) hB (Chunks.one (R := SpanR) (x := ⟨lo, hi⟩) rfl ⟨rfl, i1, i2⟩) (by simp)).sl
  refine wpList_append_sl _ spanR_one hgd s x 28 ho base 33 i0 _ 16 Tryd.underlying28 hi0 hz0 hz1 hz2 rfl (by omega) v l hs (hown.next (balloc (Below.refl _ _))) _ _ [⟨lo, hi⟩] hx hsl (by simp only [List.length_singleton]; omega) (by omega) (by show base ≤ (wr.alloc _).heap.size; simp; omega) ?_
  intro v' w' h1 h2 _
  have hlt := hown.lt
  refine h v' w' h1 (fun g t cs hg hb => (hb.alloc).grown h2 (fun e => ?_)) (fun u hu hb => (balloc hb).grown h2 (balloc hb).size fun k hk => ?_)
  · have := (hlt g e.symm).1; omega
  · have := (hlt k hk).1; omega

set_option maxRecDepth 100000 in
theorem refOf (f : Nat → Bool) (w : World) :
    Calls Tryd.prog 50 #[.agg (setRow f)] w fun e w' => (∃ v, e = .returned v ∧ OwnSl SpanR 2 w' w.heap.size 33 v (ofSet f)) ∧ Below w.heap.size w w' := by
  obtain ⟨i0, hi, hz0, hz1, hz2⟩ := info_parts infoSpan
  go_enter Tryd.func50, Tryd.ntmps50
  go_wp2_with fail
  have Hi := Lib.hid hi
  have Hz0 := Lib.hid hz0
  have Hz1 := Lib.hid hz1
  have Hz2 := Lib.hid hz2
  clear hi hz0 hz1 hz2
  go_loopw [3, 4] (fun v k wr => ∃ n : Nat, n ≤ 256 ∧ k = .int .i64 n ∧ OwnSl SpanR 2 wr (w.heap.size + 1) 33 v (ofUpto f n) ∧ Blk wr w.heap.size 84 (setRow f) ∧ Below w.heap.size w wr) (fun _ k _ => 256 - (intOf k).toNat)
  case atStart => exact ⟨0, by omega, rfl, OwnSl.nil_ _ _ _, Blk.new _ _ _, balloc (Below.refl _ _)⟩
  case round =>
    rename_i v0 k0
    obtain ⟨n, hn, rfl, hown, hB, hb⟩ := hrel
    by_cases hlt : n < 256
    · have hstep : ofUpto f (n + 1) = ofStep f (ofUpto f n) n := rfl
      have hinv := ofUpto_inv f n hn
      have c0 := (hB.cell n).trans (rowOf_at hlt)
      have hnI : (n : Int) < 256 := by omega
      rw [ofStep] at hstep
      cases hf : f n with
      | false =>
        rw [hf, if_neg (by simp)] at hstep
        simp only [hf] at c0
        have Hstep := Lib.hid hstep
        clear hstep hf hinv
        go_wp2_with fail
        refine ⟨⟨n + 1, by omega, by go_num, ?_, hB, hb⟩, by simp [intOf]; omega⟩
        rw [Hstep.out]
        exact hown
      | true =>
        simp only [hf] at c0
        rw [hf, if_pos rfl] at hstep
        have hlen : (ofUpto f n).length ≤ 256 := by
          have := formed_length hinv.formed (by omega) (by omega)
          omega
        by_cases hp : 0 < n ∧ f (n - 1) = true
        · rw [if_pos hp] at hstep
          obtain ⟨p, rfl⟩ : ∃ p, n = p + 1 := ⟨n - 1, by omega⟩
          have c1 := (hB.cell p).trans (rowOf_at (by omega))
          have hfp := hp.2
          simp only [Nat.add_sub_cancel] at hfp
          simp only [hfp] at c1
          obtain ⟨l', s, hl, hs⟩ : ∃ l' s, ofUpto f (p + 1) = l' ++ [s] ∧ s.hi = ((p + 1 : Nat) : Int) - 1 := by
            rcases hinv.ends with ⟨_, _, l', s, h1, h2⟩ | ⟨h1, _⟩
            · exact ⟨l', s, h1, h2⟩
            · simp [hfp] at h1
          rw [hl] at hstep hown hlen
          simp only [List.dropLast_concat, List.getLast?_append, List.getLast?_singleton, Option.some_or, Option.getD_some] at hstep
          have Hstep := Lib.hid hstep
          rcases hown.forms with ⟨_, h0⟩ | ⟨g, c, rfl, hg1, hg2⟩
          · simp at h0
          have hat : (l' ++ [s])[l'.length]? = some s := by simp
          obtain ⟨cs, ⟨rfl, i1, i2⟩, _, hcs⟩ := hown.at_ hat
          have e0 := hcs 0 _ rfl
          have e1 := hcs 1 _ rfl
          have fz := hown.frozen (l'.length * 2 + 1)
          have hne : w.heap.size < g := by omega
          have Hhat := Lib.hid hat
          clear hstep hf hinv hp hfp hl hs hcs hat
          simp only [List.length_append, List.length_singleton] at hlen
          have hL : (((l' ++ [s]).length : Nat) : Int) = (l'.length : Int) + 1 := by simp
          have Hown := Lib.hid hown
          clear hown
          rw [List.length_append, List.length_singleton] at *
          go_wp2_with fail
          have h2 : OwnSl SpanR 2 wr (w.heap.size + 1) 33 (.slice (some ⟨g, 0, none⟩) (l' ++ [s]).length c) (l' ++ [s]) := by
            rw [List.length_append, List.length_singleton]; exact Hown.out
          have h3 := h2.set_ (i := l'.length) (j := 1) (u := .int .i64 ((p : Int) + 1)) (x' := ⟨s.lo, (p : Int) + 1⟩) Hhat.out (by omega) (by
            rintro cs ⟨rfl, j1, j2⟩ _
            exact ⟨rfl, j1, I64.of (by simp only; omega) (by simp only; omega)⟩)
          rw [List.length_append, List.length_singleton, List.set_append_right _ _ (Nat.le_refl _), Nat.sub_self, List.set_cons_zero] at h3
          refine ⟨⟨p + 1 + 1, by omega, by go_num, ?_, hB.far (by simp only; omega) _, bset hb (by simp only; omega)⟩, by simp [intOf]; omega⟩
          rw [Hstep.out]
          exact h3
        · rw [if_neg hp] at hstep
          have Hstep := Lib.hid hstep
          have hguard : n = 0 ∨ f (n - 1) = false := by
            rcases Nat.eq_zero_or_pos n with h | h
            · exact Or.inl h
            · right
              cases hq : f (n - 1) with
              | false => rfl
              | true => exact absurd ⟨h, hq⟩ hp
          have Hown := Lib.hid hown
          obtain ⟨A0, c0', rfl⟩ := hown.form
          clear hstep hf hinv hp hown
          have hw0 := hB.lt
          rcases hguard with rfl | hg0
          · go_wp2_with (at_builtin; (refine append_span (wr := wr) rfl (.tmp 28) (.tmp 32) rfl (w.heap.size + 1) (.slice A0 (ofUpto f 0).length c0') (ofUpto f 0) rfl Hown.out 0 0 (I64.of (by omega) (by omega)) (I64.of (by omega) (by omega)) (by omega) rfl (by omega) ?_); intro v1 w1 hown1 hblk hbel; obtain ⟨A1, c1, rfl⟩ := hown1.form)
            have H1 := Lib.hid hown1
            have Hk := Lib.hid hblk
            have Hl := Lib.hid hbel
            clear hown1 hblk hbel
            go_wp2_with fail
            refine ⟨⟨1, by omega, by go_num, ?_, Hk.out _ _ _ (by omega) hB, Hl.out w (by omega) hb⟩, by simp [intOf]⟩
            rw [Hstep.out]
            exact H1.out
          · rcases Nat.eq_zero_or_pos n with rfl | hpos
            · go_wp2_with (at_builtin; (refine append_span (wr := wr) rfl (.tmp 28) (.tmp 32) rfl (w.heap.size + 1) (.slice A0 (ofUpto f 0).length c0') (ofUpto f 0) rfl Hown.out 0 0 (I64.of (by omega) (by omega)) (I64.of (by omega) (by omega)) (by omega) rfl (by omega) ?_); intro v1 w1 hown1 hblk hbel; obtain ⟨A1, c1, rfl⟩ := hown1.form)
              have H1 := Lib.hid hown1
              have Hk := Lib.hid hblk
              have Hl := Lib.hid hbel
              clear hown1 hblk hbel
              go_wp2_with fail
              refine ⟨⟨1, by omega, by go_num, ?_, Hk.out _ _ _ (by omega) hB, Hl.out w (by omega) hb⟩, by simp [intOf]⟩
              rw [Hstep.out]
              exact H1.out
            · obtain ⟨p, rfl⟩ : ∃ p, n = p + 1 := ⟨n - 1, by omega⟩
              have c1 := (hB.cell p).trans (rowOf_at (by omega))
              simp only [Nat.add_sub_cancel] at hg0
              simp only [hg0] at c1
              clear hg0
              go_wp2_with (at_builtin; (refine append_span (wr := wr) rfl (.tmp 28) (.tmp 32) rfl (w.heap.size + 1) (.slice A0 (ofUpto f (p + 1)).length c0') (ofUpto f (p + 1)) rfl Hown.out ((p : Int) + 1) ((p : Int) + 1) (I64.of (by omega) (by omega)) (I64.of (by omega) (by omega)) (by omega) rfl (by omega) ?_); intro v1 w1 hown1 hblk hbel; obtain ⟨A1, c1, rfl⟩ := hown1.form)
              have H1 := Lib.hid hown1
              have Hk := Lib.hid hblk
              have Hl := Lib.hid hbel
              clear hown1 hblk hbel
              go_wp2_with fail
              refine ⟨⟨p + 1 + 1, by omega, by go_num, ?_, Hk.out _ _ _ (by omega) hB, Hl.out w (by omega) hb⟩, by simp [intOf]; omega⟩
              rw [Hstep.out, show ((p + 1 : Nat) : Int) = (p : Int) + 1 by omega]
              simpa using H1.out
    · obtain rfl : n = 256 := by omega
      have Hown := Lib.hid hown
      obtain ⟨A0, c0', rfl⟩ := hown.form
      clear hown
      go_wp2_with fail
      go_ret
      exact ⟨⟨_, rfl, Hown.out.base (by omega)⟩, hb⟩
end Go.Proofs.YtmdeokneablgaaaDoor
/- Contracts of sets of objects: the reference's form and membership, a copy; the program's membership. -/
namespace Go.Proofs.YtmdeokneablgaaaDoor
open Go.ChangeShapes Go.WideShapes Go.ChangeAt Go.RowKit

theorem refSpanFormed (l : List Span) (v : Value) (w : World) (h : Spans w w.heap.size v l) :
    Calls Tryd.prog 28 #[v] w fun e w' => e = .returned (.bool (spanFormed l)) ∧ Below w.heap.size w w' := by
  have hle := h.len_le
  obtain ⟨A, c, rfl, _⟩ := id h
  by_cases hlt : l.length ≤ 128
  · have hres : decide (l = ofSet fun o => memB l o) = spanFormed l := by
      rw [Bool.eq_iff_iff, spanFormed_iff, decide_eq_true_eq]
      exact ⟨fun h => ⟨hlt, h⟩, fun h => h.2⟩
    have Hres := Lib.hid hres
    have hi : (l.length : Int) ≤ 128 := by omega
    clear hres
    go_enter Tryd.func28, Tryd.ntmps28
    go_wp2_with fail
    refine (refSet l _ _ h).mono ?_
    rintro e w1 ⟨rfl, hb1⟩
    go_wp2_with fail
    refine (refOf _ _).mono ?_
    rintro e w2 ⟨⟨v2, rfl, hown⟩, hb2⟩
    go_wp2_with fail
    refine (refSpanSame l _ _ _ _ ((h.next hb1).next hb2) hown.sl).mono ?_
    rintro e w3 ⟨rfl, hb3⟩
    have k3 := bnext (bnext hb1 hb2) hb3
    clear hown hb1 hb2 hb3 h
    rw [Hres.out]
    go_wp2_with fail
    go_ret
    exact ⟨rfl, k3⟩
  · have Hres : Hid (spanFormed l = false) := by
      rw [Bool.eq_false_iff]
      intro h
      exact hlt ((spanFormed_iff l).1 h).1
    have hi : 128 < (l.length : Int) := by omega
    go_enter Tryd.func28, Tryd.ntmps28
    go_wp2_with fail
    go_ret
    exact ⟨ret_bool Hres.out.symm, Below.refl _ _⟩

/-- is an object in it? -/
def spanHas (l : List Span) (o : Int) : Bool := decide (0 ≤ o ∧ o ≤ 255) && memB l o

set_option maxRecDepth 100000 in
theorem refSpanHas (l : List Span) (o : Int) (v : Value) (w : World) (h : Spans w w.heap.size v l) :
    Calls Tryd.prog 30 #[v, .int .i64 o] w fun e w' => e = .returned (.bool (spanHas l o)) ∧ Below w.heap.size w w' := by
  obtain ⟨A, c, rfl, _⟩ := id h
  by_cases h0 : 0 ≤ o ∧ o ≤ 255
  · obtain ⟨h1, h2⟩ := h0
    have Hres := Lib.hid (show spanHas l o = memB l o by rw [spanHas, decide_eq_true ⟨h1, h2⟩, Bool.true_and])
    obtain ⟨n, rfl⟩ : ∃ n : Nat, o = n := ⟨o.toNat, by omega⟩
    have hX : ∀ u : World, (Instr.index 84 (.agg (setRow fun o => memB l o)) (.int .i64 n)).run Tryd.prog u = .ok (.bool (memB l n)) u :=
      run_index_one Tryd.underlying84 Tryd.underlying4 rfl (by kernel_rfl) (by omega) (rowOf_at (by omega))
    go_enter Tryd.func30, Tryd.ntmps30
    go_wp2_with fail
    refine (refSet l _ _ h).mono ?_
    rintro e w1 ⟨rfl, hb1⟩
    go_wp2_with fail
    go_ret
    exact ⟨ret_bool Hres.out.symm, hb1⟩
  · have Hres := Lib.hid (show spanHas l o = false by rw [spanHas, decide_eq_false h0, Bool.false_and])
    have hc : o < 0 ∨ (0 ≤ o ∧ 255 < o) := by omega
    clear h0
    rcases hc with h1 | ⟨h1, h2⟩
    all_goals
      go_enter Tryd.func30, Tryd.ntmps30
      go_wp2_with fail
      go_ret
      exact ⟨ret_bool Hres.out.symm, Below.refl _ _⟩

theorem spans_empty (w : World) : OwnSl SpanR 2 (w.alloc (.cells #[] 33)) w.heap.size 33 (.slice (some ⟨w.heap.size, 0, none⟩) 0 0) [] :=
  ⟨[], ⟨rfl, .inr ⟨_, 0, #[], rfl, Nat.le_refl _, heap_alloc_new w _, Nat.le_refl _, Nat.zero_le _, rfl, rfl⟩⟩, rfl, Nat.zero_le _⟩

theorem refSpanCopy (l : List Span) (v : Value) (w : World) (h : Spans w w.heap.size v l) :
    Calls Tryd.prog 34 #[v] w fun e w' => (∃ v', e = .returned v' ∧ OwnSl SpanR 2 w' w.heap.size 33 v' l) ∧ Below w.heap.size w w' := by
  have hle := h.len_le
  obtain ⟨i0, hi, hz0, hz1, hz2⟩ := info_parts infoSpan
  obtain ⟨A, c, rfl, _⟩ := id h
  go_enter Tryd.func34, Tryd.ntmps34
  go_wp2_with (at_builtin; refine wpList_append_sl _ spanR_one rfl (.tmp 3) (.tmp 4) 28 rfl w.heap.size 33 i0 _ 16 Tryd.underlying28 hi hz0 hz1 hz2 rfl (by omega) _ [] rfl (spans_empty w) w.heap.size _ l rfl (h.keep (fun _ _ h => h) (Nat.le_refl _) (fun p hp => World.cell?_alloc_lt _ _ _ hp)) (by simp only [List.length_nil]; omega) (by omega) (by simp) ?_; intro v1 w1 hown hgr hat)
  simp only [List.nil_append] at hown
  have hb1 : Below w.heap.size w w1 := (balloc (Below.refl _ _)).grown hgr (by simp) (fun k hk => Nat.le_of_eq (Option.some.inj hk))
  have H1 := Lib.hid hown
  clear hown hgr hat hi hz0 hz1 hz2
  go_wp2_with fail
  go_ret
  exact ⟨⟨_, rfl, H1.out⟩, hb1⟩
end Go.Proofs.YtmdeokneablgaaaDoor
namespace Go.Proofs.YtmdeokneablgaaaDoor
open Go.ChangeShapes Go.WideShapes Go.ChangeAt Go.RowKit

/-- the first place, from i on, at which p holds; or -1 -/
def idxFrom {α : Type} (p : α → Bool) : Nat → List α → Int
  | _, [] => -1
  | i, x :: l => if p x then i else idxFrom p (i + 1) l
theorem idxFrom_any {α : Type} (p : α → Bool) : ∀ (l : List α) (i : Nat), decide (0 ≤ idxFrom p i l) = l.any p
  | [], _ => rfl
  | x :: l, i => by
    rw [idxFrom, List.any_cons]
    cases h : p x with
    | true => rw [if_pos rfl, Bool.true_or, decide_eq_true (by omega)]
    | false => rw [if_neg (by simp), Bool.false_or]; exact idxFrom_any p l (i + 1)

def inSpan (o : Int) (s : Span) : Bool := decide (s.lo ≤ o) && decide (o ≤ s.hi)
theorem memB_any (l : List Span) (o : Int) : memB l o = l.any (inSpan o) := rfl

theorem spanHas1 (o : Int) (s : Span) (B : Nat) (w : World) (h : w.cell? ⟨B, 0, none⟩ = some (.int .i64 o)) :
    Calls Tryd.prog 79 #[.agg #[.int .i64 s.lo, .int .i64 s.hi], .pointer (some ⟨B, 0, none⟩)] w fun e w' => e = .returned (.bool (inSpan o s)) ∧ Below w.heap.size w w' := by
  obtain ⟨lo, hi⟩ := s
  have c0 := kept_cell (balloc (o := .cells #[.int .i64 lo, .int .i64 hi] 33) (Below.refl _ w)) h
  have hB := World.block_lt_of_cell? _ _ h
  simp only at hB
  go_enter Tryd.func79, Tryd.ntmps79
  go_wp2_with fail
  all_goals
    go_ret
    refine ⟨ret_bool ?_, balloc (Below.refl _ _)⟩
    simp [inSpan] <;> omega

def hasFn (B : Nat) : Value := .func (.func 79) #[] #[.pointer (some ⟨B, 0, none⟩)]

theorem spanIndexFunc (o : Int) (l : List Span) (B : Nat) (v : Value) (w : World) (h : Spans w w.heap.size v l) (ho : w.cell? ⟨B, 0, none⟩ = some (.int .i64 o)) :
    Calls Tryd.prog 83 #[v, hasFn B] w fun e w' => e = .returned (.int .i64 (idxFrom (inSpan o) 0 l)) ∧ Below w.heap.size w w' := by
  have hle := h.len_le
  obtain ⟨A, c, rfl, _⟩ := id h
  have Ho := Lib.hid ho
  clear ho
  unfold hasFn
  go_enter Tryd.func83, Tryd.ntmps83
  go_wp2_with fail
  go_loopw [8] (fun k wr => ∃ m : Nat, m ≤ l.length ∧ k = .int .i64 m ∧ idxFrom (inSpan o) 0 l = idxFrom (inSpan o) m (l.drop m) ∧ Below w.heap.size w wr) (fun k _ => l.length - (intOf k).toNat)
  case atStart => exact ⟨0, Nat.zero_le _, rfl, rfl, Below.refl _ _⟩
  case round =>
    obtain ⟨m, hm, rfl, hv, hb⟩ := hrel
    by_cases hlt : m < l.length
    · obtain ⟨x, hx⟩ : ∃ x, l[m]? = some x := ⟨l[m], List.getElem?_eq_getElem hlt⟩
      obtain ⟨b, off, c', hv', hbb, e0, e1, _, _⟩ := spans_at h hx
      injection hv' with hv1 hv2 hv3
      subst hv1
      have f0 := (hb.cell (p := ⟨b, off + m * 2, none⟩) hbb).trans e0
      have f1 := (hb.cell (p := ⟨b, off + m * 2 + 1, none⟩) hbb).trans e1
      rw [drop_cons hx, idxFrom] at hv
      have HC := Lib.hid (spanHas1 o x B wr (kept_cell hb Ho.out))
      generalize inSpan o x = r at hv HC
      obtain ⟨lo, hi⟩ := x
      simp only at f0 f1 HC
      have HV := Lib.hid hv
      clear hv hv2 hv3 e0 e1 hx
      go_wp2_with fail
      refine HC.out.mono ?_
      rintro e w1 ⟨rfl, hb1⟩
      have k1 := bnext hb hb1
      clear hb1 HC f0 f1
      cases r <;> go_wp2_with fail
      · refine ⟨⟨m + 1, by omega, by go_num, ?_, k1⟩, by simp [intOf]; omega⟩
        rw [HV.out, if_neg (by simp)]
      · go_ret
        exact ⟨ret_int (by rw [HV.out]; simp), k1⟩
    · obtain rfl : m = l.length := by omega
      rw [List.drop_length] at hv
      have HV := Lib.hid hv
      clear hv
      go_wp2_with fail
      go_ret
      exact ⟨ret_int HV.out.symm, hb⟩

theorem spanContainsFunc (o : Int) (l : List Span) (B : Nat) (v : Value) (w : World) (h : Spans w w.heap.size v l) (ho : w.cell? ⟨B, 0, none⟩ = some (.int .i64 o)) :
    Calls Tryd.prog 78 #[v, hasFn B] w fun e w' => e = .returned (.bool (memB l o)) ∧ Below w.heap.size w w' := by
  obtain ⟨A, c, rfl, _⟩ := id h
  have hany := idxFrom_any (inSpan o) l 0
  rw [← memB_any] at hany
  have HC := Lib.hid (spanIndexFunc o l B _ w h ho)
  generalize idxFrom (inSpan o) 0 l = k at hany HC
  rw [← hany]
  clear hany ho h
  unfold hasFn at *
  go_enter Tryd.func78, Tryd.ntmps78
  go_wp2_with fail
  refine HC.out.mono ?_
  rintro e w1 ⟨rfl, hb1⟩
  go_wp2_with fail
  go_ret
  exact ⟨rfl, hb1⟩

theorem spanHasWalk (l : List Span) (o : Int) (v : Value) (w : World) (h : Spans w w.heap.size v l) :
    Calls Tryd.prog 72 #[v, .int .i64 o] w fun e w' => e = .returned (.bool (spanHas l o)) ∧ Below w.heap.size w w' := by
  obtain ⟨A, c, rfl, _⟩ := id h
  have B0 := Blk.new w 3 #[.int .i64 o]
  have c0 := B0.cell 0
  simp only [List.getElem?_toArray, List.getElem?_cons_zero] at c0
  by_cases h0 : 0 ≤ o ∧ o ≤ 255
  · obtain ⟨h1, h2⟩ := h0
    have Hres := Lib.hid (show spanHas l o = memB l o by rw [spanHas, decide_eq_true ⟨h1, h2⟩, Bool.true_and])
    have HC := Lib.hid (spanContainsFunc o l w.heap.size _ _ (h.next (balloc (o := .cells #[.int .i64 o] 3) (Below.refl _ _))) c0)
    unfold hasFn at HC
    clear h B0
    go_enter Tryd.func72, Tryd.ntmps72
    go_wp2_with fail
    refine HC.out.mono ?_
    rintro e w1 ⟨rfl, hb1⟩
    go_wp2_with fail
    go_ret
    exact ⟨ret_bool Hres.out.symm, bnext (balloc (Below.refl _ _)) hb1⟩
  · have Hres := Lib.hid (show spanHas l o = false by rw [spanHas, decide_eq_false h0, Bool.false_and])
    have hc : o < 0 ∨ (0 ≤ o ∧ 255 < o) := by omega
    clear h0 h B0
    rcases hc with h1 | ⟨h1, h2⟩
    all_goals
      go_enter Tryd.func72, Tryd.ntmps72
      go_wp2_with fail
      go_ret
      exact ⟨ret_bool Hres.out.symm, balloc (Below.refl _ _)⟩
end Go.Proofs.YtmdeokneablgaaaDoor
