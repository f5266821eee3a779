/- What others subscribed to is cut behind a checkpoint: the program's and the reference's. -/
import Derived.Test.YtmdeokneablgaaaDoorPOutsForm
import Derived.Test.YtmdeokneablgaaaDoorPOutsOwn
/- Contract of the reference's test of subscriptions at their sender. -/
namespace Go.Proofs.YtmdeokneablgaaaDoor
open Go.ChangeShapes Go.WideShapes Go.ChangeAt Go.RowKit

set_option maxRecDepth 100000 in
set_option maxHeartbeats 3200000 in
theorem refFormedOuts (l : List Out) (n : Int) (v : Value) (w : World) (h : Outs w w.heap.size v l) :
    Calls Tryd.prog 25 #[v, .int .i64 n] w fun e w' => e = .returned (.bool (outsFormed n l)) ∧ Below w.heap.size w w' := by
  have hle := h.len_le
  have HH := Lib.hid h
  obtain ⟨A, c, rfl, -⟩ := id h
  unfold outsFormed
  generalize hr : outsFrom n (-1) l = V
  have HV0 := Lib.hid hr
  clear h hr
  go_enter Tryd.func25, Tryd.ntmps25
  go_wp2_with fail
  go_loopw [5] (fun i wr => ∃ (m : Nat) (e : Int) (z : BW w), m ≤ l.length ∧ i = .int .i64 m ∧ (m = 0 → e = -1) ∧ (∀ i y, m = i + 1 → l[i]? = some y → e = y.to_) ∧ V = outsFrom n e (l.drop m) ∧ wr = z.val) (fun i _ => l.length - (intOf i).toNat)
  case atStart => exact ⟨0, -1, BW.self w, Nat.zero_le _, rfl, fun _ => rfl, fun i _ hi => by omega, HV0.out.symm, rfl⟩
  case round =>
    obtain ⟨m, e, z, hm, rfl, he0, he1, hv, rfl⟩ := hrel
    by_cases hlt : m < l.length
    · obtain ⟨y, hy⟩ : ∃ y, l[m]? = some y := ⟨l[m], List.getElem?_eq_getElem hlt⟩
      obtain ⟨b, off, _, vi, hv', hbb, e0, e1, e2, e3, e4, hs, -, -, -, -⟩ := outs_at (HH.out.next z.below) hy
      injection hv' with hv1 hv2 hv3
      subst hv1
      rw [drop_cons hy, outsFrom] at hv
      have Hy := Lib.hid hy
      obtain ⟨yf, ys, yi, ya, yq⟩ := y
      simp only at e0 e1 e2 e3 e4 hv hs
      generalize hr1 : (nodeB yf && wantB yi) = r1 at hv
      generalize hr2 : numB ys = r2 at hv
      generalize hr3 : numB yq = r3 at hv
      have HV := Lib.hid hv
      have He0 := Lib.hid he0
      have He1 := Lib.hid he1
      obtain ⟨A4, c4, rfl, -⟩ := id hs
      have HS := Lib.hid hs
      have hf0 : nodeB yf = true → 0 ≤ yf := fun h => by simp only [nodeB, decide_eq_true_eq] at h; exact h.1
      have HF := Lib.hid (fun h : r1 = true => hf0 (by rw [h] at hr1; simp only [Bool.and_eq_true] at hr1; exact hr1.1))
      have H1 := Lib.hid hr1
      have H2 := Lib.hid hr2
      have H3 := Lib.hid hr3
      have i2 : (m : Int) < (l.length : Int) := by omega
      clear hv hv2 hv3 hy hr1 hr2 hr3 hs he0 he1 hf0
      go_wp2_with fail
      have kB := balloc (o := .cells #[.int .i64 yf, .int .i64 ys, .slice A4 yi.length c4, .int .i64 ya, .int .i64 yq] 54) (Below.refl _ z.val)
      have B := Blk.new z.val 54 #[.int .i64 yf, .int .i64 ys, .slice A4 yi.length c4, .int .i64 ya, .int .i64 yq]
      generalize hW : z.val.alloc _ = W at *
      have HB := Lib.hid B
      clear hW B e0 e1 e2 e3 e4
      have q0 : ∀ z' : BW W, z'.val.cell? ⟨z.val.heap.size, 0, none⟩ = some (.int .i64 yf) := fun z' => z'.cell (HB.out.cell 0)
      have q1 : ∀ z' : BW W, z'.val.cell? ⟨z.val.heap.size, 1, none⟩ = some (.int .i64 ys) := fun z' => z'.cell (HB.out.cell 1)
      have q2 : ∀ z' : BW W, z'.val.cell? ⟨z.val.heap.size, 2, none⟩ = some (.slice A4 yi.length c4) := fun z' => z'.cell (HB.out.cell 2)
      have q3 : ∀ z' : BW W, z'.val.cell? ⟨z.val.heap.size, 3, none⟩ = some (.int .i64 ya) := fun z' => z'.cell (HB.out.cell 3)
      have q4 : ∀ z' : BW W, z'.val.cell? ⟨z.val.heap.size, 4, none⟩ = some (.int .i64 yq) := fun z' => z'.cell (HB.out.cell 4)
      have HC1 := Lib.hid (fun z' : BW W => H1.out ▸ refRight17 yf yi (.slice A4 yi.length c4) z'.val ((HS.out.next kB).next z'.below))
      have HC2 := Lib.hid (fun z' : BW W => H2.out ▸ refNumber17 ys z'.val)
      have HC3 := Lib.hid (fun z' : BW W => H3.out ▸ refNumber17 yq z'.val)
      have kz := Lib.hid (bnext z.below kB)
      have hat : (ya < -1 ∧ decide (ya < -1) = true ∧ Hid (decide (-1 ≤ ya ∧ ya ≤ n) = false)) ∨ (-1 ≤ ya ∧ n < ya ∧ decide (ya < -1) = false ∧ decide (n < ya) = true ∧ Hid (decide (-1 ≤ ya ∧ ya ≤ n) = false)) ∨ (-1 ≤ ya ∧ ya ≤ n ∧ decide (ya < -1) = false ∧ decide (n < ya) = false ∧ Hid (decide (-1 ≤ ya ∧ ya ≤ n) = true)) := by
        by_cases p : ya < -1
        · exact .inl ⟨p, by simpa using p, decide_eq_false (by omega)⟩
        · by_cases p2 : n < ya
          · exact .inr (.inl ⟨by omega, p2, by simpa using p, by simpa using p2, decide_eq_false (by omega)⟩)
          · exact .inr (.inr ⟨by omega, by omega, by simpa using p, by simpa using p2, decide_eq_true (by omega)⟩)
      cases m with
      | zero =>
        have hcs : r1 = false ∨ (r1 = true ∧ r2 = false) ∨ (r1 = true ∧ r2 = true ∧ r3 = false) ∨ (r1 = true ∧ r2 = true ∧ r3 = true) := by cases r1 <;> cases r2 <;> cases r3 <;> simp
        rcases hcs with rfl | ⟨rfl, rfl⟩ | ⟨rfl, rfl, rfl⟩ | ⟨rfl, rfl, rfl⟩
        all_goals (try (rcases hat with ⟨a1, a2, HA⟩ | ⟨a1, a2, a3, a4, HA⟩ | ⟨a1, a2, a3, a4, HA⟩))
        all_goals
          refine region_below (by kernel_rfl) (by kernel_rfl) ?_
          repeat (go_big_quiet_step (first | (go_at_call 41; exact below_of (HC1.out _)) | (go_at_call 42; first | (with_reducible exact below_of_same (HC2.out _)) | (with_reducible exact below_of_same (HC3.out _)))))
          refine wpQuiet_nil ?_
          intro w2 hb2
          go_wp2_with fail
        all_goals first
          | (go_ret
             exact ⟨ret_bool (by rw [HV.out]; first | (simp; done) | (rw [HA.out]; simp; done)), (bnext kz.out hb2)⟩)
          | (refine ⟨⟨1, yf, z.to (bnext kB hb2), by omega, by go_num, fun h => by omega, fun i' y hi hyi => ?_, ?_, rfl⟩, by simp [intOf]; omega⟩
             · obtain rfl : i' = 0 := by omega
               rw [Hy.out] at hyi
               injection hyi with hyi
               subst hyi
               rfl
             · rw [HV.out, HA.out, decide_eq_true (p := e < yf) (by have := HF.out rfl; have := He0.out rfl; omega)]
               simp)
      | succ i =>
        obtain ⟨y', hy'⟩ : ∃ y', l[i]? = some y' := ⟨l[i], List.getElem?_eq_getElem (by omega)⟩
        obtain rfl := He1.out i y' rfl hy'
        obtain ⟨b', off', _, vi', hv', hbb', e2, -⟩ := outs_at (HH.out.next z.below) hy'
        injection hv' with hv1 hv2 hv3
        injection hv1 with hv1
        injection hv1 with hv4 hv5
        subst hv4 hv5
        have q6 : ∀ z' : BW W, z'.val.cell? ⟨b, off + i * 5, none⟩ = some (.int .i64 y'.to_) := fun z' => z'.cell (kept_cell kB e2)
        have i1 : (0 : Int) < (i : Int) + 1 := by omega
        have i3 : (i : Int) < (l.length : Int) := by omega
        have s1 : IntKind.i64.wrap ((i : Int) + 1) = (i : Int) + 1 := IntWalk.i64_in _ (by omega)
        have s2 : IntKind.i64.wrap (i : Int) = (i : Int) := IntWalk.i64_in _ (by omega)
        clear hv2 hv3 hy' e2 hbb'
        have hcs : r1 = false ∨ (r1 = true ∧ yf ≤ y'.to_ ∧ decide (yf ≤ y'.to_) = true ∧ Hid (decide (y'.to_ < yf) = false)) ∨ (r1 = true ∧ r2 = false ∧ y'.to_ < yf ∧ decide (yf ≤ y'.to_) = false) ∨ (r1 = true ∧ r2 = true ∧ r3 = false ∧ y'.to_ < yf ∧ decide (yf ≤ y'.to_) = false) ∨ (r1 = true ∧ r2 = true ∧ r3 = true ∧ y'.to_ < yf ∧ decide (yf ≤ y'.to_) = false) := by
          by_cases p : yf ≤ y'.to_
          · have h1 : decide (yf ≤ y'.to_) = true := decide_eq_true p
            have h2 : Hid (decide (y'.to_ < yf) = false) := decide_eq_false (by omega)
            cases r1
            · exact .inl rfl
            · exact .inr (.inl ⟨rfl, p, h1, h2⟩)
          · have h1 : decide (yf ≤ y'.to_) = false := decide_eq_false p
            have h2 : y'.to_ < yf := by omega
            cases r1 <;> cases r2 <;> cases r3 <;> simp [h1, h2]
        rcases hcs with rfl | ⟨rfl, h1, g1, HD⟩ | ⟨rfl, rfl, h1, g1⟩ | ⟨rfl, rfl, rfl, h1, g1⟩ | ⟨rfl, rfl, rfl, h1, g1⟩
        all_goals (try (rcases hat with ⟨a1, a2, HA⟩ | ⟨a1, a2, a3, a4, HA⟩ | ⟨a1, a2, a3, a4, HA⟩))
        all_goals
          refine region_below (by kernel_rfl) (by kernel_rfl) ?_
          repeat (go_big_quiet_step (first | (go_at_call 41; exact below_of (HC1.out _)) | (go_at_call 42; first | (with_reducible exact below_of_same (HC2.out _)) | (with_reducible exact below_of_same (HC3.out _)))))
          refine wpQuiet_nil ?_
          intro w2 hb2
          clear s1 s2
          go_wp2_with fail
        all_goals first
          | (go_ret
             exact ⟨ret_bool (by rw [HV.out]; first | (simp; done) | (rw [HA.out]; simp; done) | (rw [HD.out]; simp; done)), (bnext kz.out hb2)⟩)
          | (refine ⟨⟨i + 1 + 1, yf, z.to (bnext kB hb2), by omega, by go_num, fun h => by omega, fun i' y hi hyi => ?_, ?_, rfl⟩, by simp [intOf]; omega⟩
             · obtain rfl : i' = i + 1 := by omega
               rw [Hy.out] at hyi
               injection hyi with hyi
               subst hyi
               rfl
             · rw [HV.out, HA.out, decide_eq_true (p := y'.to_ < yf) (by omega)]
               simp)
    · obtain rfl : m = l.length := by omega
      rw [List.drop_length, outsFrom] at hv
      have HV := Lib.hid hv
      clear hv he0 he1
      go_wp2_with fail
      go_ret
      exact ⟨ret_bool HV.out.symm, z.below⟩
end Go.Proofs.YtmdeokneablgaaaDoor
namespace Go.Proofs.YtmdeokneablgaaaDoor
open Go.ChangeShapes Go.WideShapes Go.ChangeAt Go.RowKit

def RetOuts (r : List Out × Int) (V w : World) (e : Ending) (w' : World) : Prop := ∃ v, e = .returned (.tuple #[v, .int .i64 r.2]) ∧ Outs (mixW V w w') (mixW V w w').heap.size v r.1 ∧ Below w.heap.size w w'
theorem RetOuts.nil_ {n : Int} {r : List Out × Int} {V w w' : World} (hr : r = ([], n)) (hb : Below w.heap.size w w') : RetOuts r V w (.returned (.tuple #[.slice none 0 0, .int .i64 n])) w' := by
  subst hr
  exact ⟨_, rfl, Sl.nil_ (by unfold maxLen; omega) _, hb⟩
theorem OwnOuts.setB {V w0 w : World} {base : Nat} {e : TypeId} {g c i j : Nat} {l : List Out} {u : Value} {x x' : Out} (h : OwnOuts V w0 w base e (.slice (some ⟨g, 0, none⟩) l.length c) l) (hi : l[i]? = some x) (hj : j < 5)
    (hR : ∀ W cs, OutR W W.heap.size cs x → cs.length = 5 → OutR W W.heap.size (cs.set j u) x') : OwnOuts V w0 (w.setCell ⟨g, i * 5 + j, none⟩ u) base e (.slice (some ⟨g, 0, none⟩) (l.set i x').length c) (l.set i x') :=
  OwnN.set_ h hi hj fun cs => hR _ cs
def outCut (n : Int) (x : Out) : Out := { x with at_ := if x.at_ = n then 0 else -1 }
def cutS (l : List Out) (n : Int) : List Out × Int := if outsFormed n l = true then (l.map (outCut n), 0) else ([], 1)
def cutUpto (n : Int) (l : List Out) (m : Nat) : List Out := (l.take m).map (outCut n) ++ l.drop m
theorem cutUpto_at {n : Int} {l : List Out} {m : Nat} (h : m ≤ l.length) : (cutUpto n l m)[m]? = l[m]? := by
  unfold cutUpto
  rw [List.getElem?_append_right (by rw [List.length_map, List.length_take]; exact Nat.min_le_left _ _), List.length_map, List.length_take, Nat.min_eq_left h, Nat.sub_self, List.getElem?_drop, Nat.add_zero]
theorem cutUpto_len {n : Int} {l : List Out} {m : Nat} : (cutUpto n l m).length = l.length := by
  unfold cutUpto
  simp
  omega
theorem cutUpto_set {n : Int} {l : List Out} {m : Nat} {x : Out} (h : l[m]? = some x) : (cutUpto n l m).set m (outCut n x) = cutUpto n l (m + 1) := by
  have hm := (List.getElem?_eq_some_iff.1 h).1
  unfold cutUpto
  rw [take_snoc h, List.map_append, List.map_cons, List.map_nil, drop_cons h, List.append_assoc]
  rw [List.set_append_right _ _ (by simp; omega)]
  simp [Nat.min_eq_left (Nat.le_of_lt hm)]

set_option maxRecDepth 100000 in
set_option maxHeartbeats 1600000 in
theorem sessionCut (n : Int) (l : List Out) (v : Value) (V w : World) (hV : Ext V w) (h : Outs V V.heap.size v l) :
    Calls Tryd.prog 21 #[v, .int .i64 n] w fun e w' => RetOuts (cutS l n) V w e w' := by
  have hle := h.len_le
  have HH0 := Lib.hid h
  have HH := Lib.hid (Outs.ext h hV)
  obtain ⟨A, c, rfl, -⟩ := id h
  generalize hr : outsFormed n l = r
  have HR := Lib.hid hr
  generalize hs : cutS l n = res
  have HS := Lib.hid hs
  clear h hr hs
  go_enter Tryd.func21, Tryd.ntmps21
  go_wp2_with fail
  refine BW.callR (z := BW.self w) (sessionFormedOuts l n _ _ HH.out) (congrArg Value.bool HR.out) ?_
  intro z
  cases r
  · go_wp2_with fail
    go_ret2
    exact RetOuts.nil_ (by rw [← HS.out, cutS, if_neg (by rw [HR.out]; simp)]) z.below
  go_wp2_with fail
  refine (sessionOuts l _ V _ (hV.trans z.ext) HH0.out).mono ?_
  rintro e w2 ⟨⟨v2, rfl, hown⟩, hb2⟩
  have HX := Lib.hid (HS.out.symm.trans (show cutS l n = (l.map (outCut n), 0) by rw [cutS, if_pos HR.out]))
  have hb := bnext z.below hb2
  have hwz := z.size
  rcases hown.forms with ⟨rfl, rfl⟩ | ⟨g, c1, rfl, hg1, hg2⟩
  · clear hown
    go_wp2_with fail
    go_loopw [16] (fun i wr => i = .int .i64 0 ∧ wr = w2) (fun _ _ => 0)
    case atStart => exact ⟨rfl, rfl⟩
    case round =>
      obtain ⟨rfl, rfl⟩ := hrel
      go_wp2_with fail
      go_ret2
      exact RetOuts.nil_ HX.out hb
  · have HO : Hid (OwnOuts V z.val w2 z.val.heap.size 54 (.slice (some ⟨g, 0, none⟩) l.length c1) (cutUpto n l 0)) := by
      show OwnOuts _ _ _ _ _ _ _
      simpa [cutUpto] using hown
    clear hown
    go_wp2_with fail
    go_loopw [16] (fun i wr => ∃ m : Nat, m ≤ l.length ∧ i = .int .i64 m ∧ OwnOuts V z.val wr z.val.heap.size 54 (.slice (some ⟨g, 0, none⟩) l.length c1) (cutUpto n l m) ∧ Below w.heap.size w wr) (fun i _ => l.length - (intOf i).toNat)
    case atStart => exact ⟨0, Nat.zero_le _, rfl, HO.out, hb⟩
    case round =>
      clear hb hb2 hg2
      obtain ⟨m, hm, rfl, hn, hb⟩ := hrel
      by_cases hlt : m < l.length
      · obtain ⟨y, hy⟩ : ∃ y, l[m]? = some y := ⟨l[m], List.getElem?_eq_getElem hlt⟩
        have hn' : OwnOuts V z.val wr z.val.heap.size 54 (.slice (some ⟨g, 0, none⟩) (cutUpto n l m).length c1) (cutUpto n l m) := by rw [cutUpto_len]; exact hn
        have hy' : (cutUpto n l m)[m]? = some y := by rw [cutUpto_at hm]; exact hy
        obtain ⟨cs, ⟨vi, rfl, i1, i2, i3, i4, hs⟩, _, hc⟩ := OwnSl.at_ hn' hy'
        have e3 := hc 3 _ rfl
        have z3 := OwnSl.frozen hn' (m * 5 + 3)
        have HN := Lib.hid hn'
        have HY := Lib.hid hy
        have HY' := Lib.hid hy'
        clear hc hs hn hn' hy hy'
        have hb3 : ∀ u, Below w.heap.size w (wr.setCell ⟨g, m * 5 + 3, none⟩ u) := fun u => bset hb (by simp; omega)
        have HB3 := Lib.hid hb3
        clear hb3
        have hset : ∀ u : Int, u = (outCut n y).at_ → OwnOuts V z.val (wr.setCell ⟨g, m * 5 + 3, none⟩ (.int .i64 u)) z.val.heap.size 54 (.slice (some ⟨g, 0, none⟩) l.length c1) (cutUpto n l (m + 1)) := by
          intro u hu
          have h3 := OwnOuts.setB (j := 3) (u := .int .i64 u) (x' := outCut n y) HN.out HY'.out (by omega) (by
            rintro W cs ⟨vi, rfl, i1, i2, i3, i4, hs⟩ _
            subst hu
            exact ⟨vi, rfl, i1, i2, by simp only [outCut]; split <;> exact I64.of (by omega) (by omega), i4, hs⟩)
          rw [cutUpto_set HY.out] at h3
          rwa [cutUpto_len] at h3
        have HSET := Lib.hid hset
        clear hset
        by_cases hf : y.at_ = n
        · have h0 := Lib.hid (HSET.out 0 (by simp [outCut, hf]))
          have hf1 : (y.at_ != n) = false := by simpa using hf
          have hf2 : (y.at_ == n) = true := by simpa using hf
          clear hf
          go_wp2_with fail
          exact ⟨⟨m + 1, by omega, by go_num, h0.out, HB3.out _⟩, by simp [intOf]; omega⟩
        · have h0 := Lib.hid (HSET.out (-1) (by simp [outCut, hf]))
          have hf1 : (y.at_ != n) = true := by simpa using hf
          have hf2 : (y.at_ == n) = false := by simpa using hf
          clear hf
          go_wp2_with fail
          exact ⟨⟨m + 1, by omega, by go_num, h0.out, HB3.out _⟩, by simp [intOf]; omega⟩
      · obtain rfl : m = l.length := by omega
        have HN : Hid (Outs (mixW V w wr) (mixW V w wr).heap.size (.slice (some ⟨g, 0, none⟩) l.length c1) (l.map (outCut n))) := by
          have h1 := Outs.ext (OwnN.sl hn extOut (Nat.le_refl _)) (mix_later hV z.size)
          have e : cutUpto n l l.length = l.map (outCut n) := by simp [cutUpto]
          rw [e] at h1
          exact h1
        clear hn
        go_wp2_with fail
        go_ret2
        exact ⟨.slice (some ⟨g, 0, none⟩) l.length c1, by rw [HX.out]; rfl, by rw [HX.out]; exact HN.out, hb⟩

set_option maxRecDepth 100000 in
set_option maxHeartbeats 1600000 in
theorem refCut (n : Int) (l : List Out) (v : Value) (V w : World) (hV : Ext V w) (h : Outs V V.heap.size v l) :
    Calls Tryd.prog 22 #[v, .int .i64 n] w fun e w' => RetOuts (cutS l n) V w e w' := by
  have hle := h.len_le
  have HH0 := Lib.hid h
  have HH := Lib.hid (Outs.ext h hV)
  obtain ⟨A, c, rfl, -⟩ := id h
  generalize hr : outsFormed n l = r
  have HR := Lib.hid hr
  generalize hs : cutS l n = res
  have HS := Lib.hid hs
  clear h hr hs
  go_enter Tryd.func22, Tryd.ntmps22
  go_wp2_with fail
  refine BW.callR (z := BW.self w) (refFormedOuts l n _ _ HH.out) (congrArg Value.bool HR.out) ?_
  intro z
  cases r
  · go_wp2_with fail
    go_ret2
    exact RetOuts.nil_ (by rw [← HS.out, cutS, if_neg (by rw [HR.out]; simp)]) z.below
  go_wp2_with fail
  refine (refOuts l _ V _ (hV.trans z.ext) HH0.out).mono ?_
  rintro e w2 ⟨⟨v2, rfl, hown⟩, hb2⟩
  have HX := Lib.hid (HS.out.symm.trans (show cutS l n = (l.map (outCut n), 0) by rw [cutS, if_pos HR.out]))
  have hb := bnext z.below hb2
  have hwz := z.size
  rcases hown.forms with ⟨rfl, rfl⟩ | ⟨g, c1, rfl, hg1, hg2⟩
  · clear hown
    go_wp2_with fail
    go_loopw [7] (fun i wr => i = .int .i64 0 ∧ wr = w2) (fun _ _ => 0)
    case atStart => exact ⟨rfl, rfl⟩
    case round =>
      obtain ⟨rfl, rfl⟩ := hrel
      go_wp2_with fail
      go_ret2
      exact RetOuts.nil_ HX.out hb
  · have HO : Hid (OwnOuts V z.val w2 z.val.heap.size 54 (.slice (some ⟨g, 0, none⟩) l.length c1) (cutUpto n l 0)) := by
      show OwnOuts _ _ _ _ _ _ _
      simpa [cutUpto] using hown
    clear hown
    go_wp2_with fail
    go_loopw [7] (fun i wr => ∃ m : Nat, m ≤ l.length ∧ i = .int .i64 m ∧ OwnOuts V z.val wr z.val.heap.size 54 (.slice (some ⟨g, 0, none⟩) l.length c1) (cutUpto n l m) ∧ Below w.heap.size w wr) (fun i _ => l.length - (intOf i).toNat)
    case atStart => exact ⟨0, Nat.zero_le _, rfl, HO.out, hb⟩
    case round =>
      clear hb hb2 hg2
      obtain ⟨m, hm, rfl, hn, hb⟩ := hrel
      by_cases hlt : m < l.length
      · obtain ⟨y, hy⟩ : ∃ y, l[m]? = some y := ⟨l[m], List.getElem?_eq_getElem hlt⟩
        have hn' : OwnOuts V z.val wr z.val.heap.size 54 (.slice (some ⟨g, 0, none⟩) (cutUpto n l m).length c1) (cutUpto n l m) := by rw [cutUpto_len]; exact hn
        have hy' : (cutUpto n l m)[m]? = some y := by rw [cutUpto_at hm]; exact hy
        obtain ⟨cs, ⟨vi, rfl, i1, i2, i3, i4, hs⟩, _, hc⟩ := OwnSl.at_ hn' hy'
        have e3 := hc 3 _ rfl
        have z3 := OwnSl.frozen hn' (m * 5 + 3)
        have HN := Lib.hid hn'
        have HY := Lib.hid hy
        have HY' := Lib.hid hy'
        clear hc hs hn hn' hy hy'
        have hb3 : ∀ u, Below w.heap.size w (wr.setCell ⟨g, m * 5 + 3, none⟩ u) := fun u => bset hb (by simp; omega)
        have HB3 := Lib.hid hb3
        clear hb3
        have hset : ∀ u : Int, u = (outCut n y).at_ → OwnOuts V z.val (wr.setCell ⟨g, m * 5 + 3, none⟩ (.int .i64 u)) z.val.heap.size 54 (.slice (some ⟨g, 0, none⟩) l.length c1) (cutUpto n l (m + 1)) := by
          intro u hu
          have h3 := OwnOuts.setB (j := 3) (u := .int .i64 u) (x' := outCut n y) HN.out HY'.out (by omega) (by
            rintro W cs ⟨vi, rfl, i1, i2, i3, i4, hs⟩ _
            subst hu
            exact ⟨vi, rfl, i1, i2, by simp only [outCut]; split <;> exact I64.of (by omega) (by omega), i4, hs⟩)
          rw [cutUpto_set HY.out] at h3
          rwa [cutUpto_len] at h3
        have HSET := Lib.hid hset
        clear hset
        by_cases hf : y.at_ = n
        · have h0 := Lib.hid (HSET.out 0 (by simp [outCut, hf]))
          have hf1 : (y.at_ != n) = false := by simpa using hf
          have hf2 : (y.at_ == n) = true := by simpa using hf
          clear hf
          go_wp2_with fail
          exact ⟨⟨m + 1, by omega, by go_num, h0.out, HB3.out _⟩, by simp [intOf]; omega⟩
        · have h0 := Lib.hid (HSET.out (-1) (by simp [outCut, hf]))
          have hf1 : (y.at_ != n) = true := by simpa using hf
          have hf2 : (y.at_ == n) = false := by simpa using hf
          clear hf
          go_wp2_with fail
          exact ⟨⟨m + 1, by omega, by go_num, h0.out, HB3.out _⟩, by simp [intOf]; omega⟩
      · obtain rfl : m = l.length := by omega
        have HN : Hid (Outs (mixW V w wr) (mixW V w wr).heap.size (.slice (some ⟨g, 0, none⟩) l.length c1) (l.map (outCut n))) := by
          have h1 := Outs.ext (OwnN.sl hn extOut (Nat.le_refl _)) (mix_later hV z.size)
          have e : cutUpto n l l.length = l.map (outCut n) := by simp [cutUpto]
          rw [e] at h1
          exact h1
        clear hn
        go_wp2_with fail
        go_ret2
        exact ⟨.slice (some ⟨g, 0, none⟩) l.length c1, by rw [HX.out]; rfl, by rw [HX.out]; exact HN.out, hb⟩
end Go.Proofs.YtmdeokneablgaaaDoor
