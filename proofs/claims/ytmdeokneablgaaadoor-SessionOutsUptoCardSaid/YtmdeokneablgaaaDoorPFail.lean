/- A session fails: the program's and the reference's. -/
import Derived.Test.YtmdeokneablgaaaDoorPSubsOwn
import Derived.Test.YtmdeokneablgaaaDoorPSpanIn
import Derived.Test.YtmdeokneablgaaaDoorPMsgSpec
import Derived.Test.YtmdeokneablgaaaDoorPSubsForm
/- Where the subscription of a node stands: the program's search. -/
namespace Go.Proofs.YtmdeokneablgaaaDoor
open Go.ChangeShapes Go.WideShapes Go.ChangeAt Go.RowKit

def isFrom (n : Int) (s : Sub) : Bool := decide (s.from_ = n)
theorem idxFrom_spec {α : Type} (p : α → Bool) : ∀ (l : List α) (i : Nat), (idxFrom p i l = -1 ∧ ∀ x ∈ l, p x = false) ∨ ∃ j x, l[j]? = some x ∧ p x = true ∧ idxFrom p i l = ((i + j : Nat) : Int) ∧ ∀ k y, k < j → l[k]? = some y → p y = false
  | [], i => .inl ⟨rfl, fun x h => by cases h⟩
  | x :: l, i => by
    by_cases h : p x = true
    · refine .inr ⟨0, x, rfl, h, by simp [idxFrom, h], fun k y hk => by omega⟩
    · have h' : p x = false := by simpa using h
      rcases idxFrom_spec p l (i + 1) with ⟨h1, h2⟩ | ⟨j, y, h1, h2, h3, h4⟩
      · refine .inl ⟨by simp [idxFrom, h', h1], fun y hy => ?_⟩
        rcases List.mem_cons.1 hy with rfl | hy
        · exact h'
        · exact h2 y hy
      · refine .inr ⟨j + 1, y, by simpa using h1, h2, by simp [idxFrom, h', h3]; omega, fun k z hk hz => ?_⟩
        cases k with
        | zero => simp at hz; subst hz; exact h'
        | succ k => exact h4 k z (by omega) (by simpa using hz)

theorem sessionFrom1 (n yf ys yq : Int) (A : Option Addr) (k cp : Nat) (yl yh yd : Bool) (B : Nat) (w : World) (h : w.cell? ⟨B, 0, none⟩ = some (.int .i64 n)) :
    Calls Tryd.prog 59 #[.agg #[.int .i64 yf, .slice A k cp, .int .i64 ys, .int .i64 yq, .bool yl, .bool yh, .bool yd], .pointer (some ⟨B, 0, none⟩)] w fun e w' => e = .returned (.bool (decide (yf = n))) ∧ Below w.heap.size w w' := by
  have c0 := kept_cell (balloc (o := .cells #[.int .i64 yf, .slice A k cp, .int .i64 ys, .int .i64 yq, .bool yl, .bool yh, .bool yd] 35) (Below.refl _ w)) h
  have hB := World.block_lt_of_cell? _ _ h
  simp only at hB
  go_enter Tryd.func59, Tryd.ntmps59
  go_wp2_with fail
  all_goals
    go_ret
    refine ⟨ret_bool (Bool.eq_iff_iff.2 ?_), balloc (Below.refl _ _)⟩
    simp

def fromFn (B : Nat) : Value := .func (.func 59) #[] #[.pointer (some ⟨B, 0, none⟩)]

set_option maxRecDepth 100000 in
theorem subsIndexFunc (n : Int) (l : List Sub) (B : Nat) (v : Value) (w : World) (h : Subs w w.heap.size v l) (ho : w.cell? ⟨B, 0, none⟩ = some (.int .i64 n)) :
    Calls Tryd.prog 58 #[v, fromFn B] w fun e w' => e = .returned (.int .i64 (idxFrom (isFrom n) 0 l)) ∧ Below w.heap.size w w' := by
  have hle := h.len_le
  obtain ⟨A, c, rfl, -⟩ := id h
  have Ho := Lib.hid ho
  have HH := Lib.hid h
  clear ho h
  unfold fromFn
  go_enter Tryd.func58, Tryd.ntmps58
  go_wp2_with fail
  go_loopw [8] (fun k wr => ∃ (m : Nat) (z : BW w), m ≤ l.length ∧ k = .int .i64 m ∧ idxFrom (isFrom n) 0 l = idxFrom (isFrom n) m (l.drop m) ∧ wr = z.val) (fun k _ => l.length - (intOf k).toNat)
  case atStart => exact ⟨0, BW.self w, Nat.zero_le _, rfl, rfl, rfl⟩
  case round =>
    obtain ⟨m, z, hm, rfl, hv, rfl⟩ := hrel
    by_cases hlt : m < l.length
    · obtain ⟨y, hy⟩ : ∃ y, l[m]? = some y := ⟨l[m], List.getElem?_eq_getElem hlt⟩
      obtain ⟨b, off, _, vi, hv', hbb, e0, e1, e2, e3, e4, e5, e6, hs, -, -, -⟩ := subs_at (HH.out.next z.below) hy
      injection hv' with hv1 hv2 hv3
      subst hv1
      rw [drop_cons hy, idxFrom] at hv
      obtain ⟨yf, yi, ys, yq, yl, yh, yd⟩ := y
      obtain ⟨A4, c4, rfl, -⟩ := id hs
      unfold isFrom at hv
      simp only at e0 e1 e2 e3 e4 e5 e6 hv
      have HC := Lib.hid (sessionFrom1 n yf ys yq A4 yi.length c4 yl yh yd B z.val (z.cell Ho.out))
      generalize decide (yf = n) = r at hv HC
      have HV := Lib.hid hv
      clear hv hv2 hv3 hy hs
      go_wp2_with fail
      refine BW.call (z := z) HC.out ?_
      clear HC e0 e1 e2 e3 e4 e5 e6
      intro z1
      cases r <;> go_wp2_with fail
      · refine ⟨⟨m + 1, z1, by omega, by go_num, ?_, rfl⟩, by simp [intOf]; omega⟩
        exact HV.out.trans (by rw [if_neg (by simp)]; rfl)
      · go_ret
        exact ⟨ret_int (HV.out.trans (by simp)).symm, z1.below⟩
    · obtain rfl : m = l.length := by omega
      rw [List.drop_length] at hv
      have HV := Lib.hid hv
      clear hv
      go_wp2_with fail
      go_ret
      exact ⟨ret_int HV.out.symm, z.below⟩

theorem sessionFrom (n : Int) (l : List Sub) (v : Value) (w : World) (h : Subs w w.heap.size v l) :
    Calls Tryd.prog 32 #[v, .int .i64 n] w fun e w' => e = .returned (.int .i64 (idxFrom (isFrom n) 0 l)) ∧ Below w.heap.size w w' := by
  have kB := balloc (o := .cells #[.int .i64 n] 3) (Below.refl _ w)
  have HC := Lib.hid (subsIndexFunc n l w.heap.size v _ (h.next kB) ((Blk.new w 3 #[.int .i64 n]).cell 0))
  generalize idxFrom (isFrom n) 0 l = k at HC ⊢
  unfold fromFn at HC
  obtain ⟨A, c, rfl, -⟩ := id h
  clear h
  go_enter Tryd.func32, Tryd.ntmps32
  go_wp2_with fail
  refine BW.call (z := (BW.self w).alloc _) HC.out ?_
  intro z
  go_wp2_with fail
  go_ret
  exact ⟨rfl, z.below⟩
end Go.Proofs.YtmdeokneablgaaaDoor
/- What hearing a message and failing a session come to. -/
namespace Go.Proofs.YtmdeokneablgaaaDoor
open Go.ChangeShapes Go.WideShapes Go.ChangeAt Go.RowKit

theorem findIdx_some {α : Type} {p : α → Bool} {l : List α} {i : Nat} {x : α} (h : l[i]? = some x) (hp : p x = true) (hn : ∀ k y, k < i → l[k]? = some y → p y = false) : l.findIdx? p = some i := by
  obtain ⟨h1, h2⟩ := List.getElem?_eq_some_iff.1 h
  rw [List.findIdx?_eq_some_iff_getElem]
  refine ⟨h1, by rw [h2]; exact hp, fun j hj => ?_⟩
  rw [hn j l[j] hj (List.getElem?_eq_getElem (by omega))]
  simp
theorem findIdx_none {α : Type} {p : α → Bool} {l : List α} (h : ∀ x ∈ l, p x = false) : l.findIdx? p = none := by
  rw [List.findIdx?_eq_none_iff]
  exact h
def subFail (s : Sub) : Sub := { s with live := false, heard := false }
def failS (l : List Sub) (n : Int) : List Sub × Int :=
  if subsFormed l = true then (match l.findIdx? (isFrom n) with
    | none => ([], 16)
    | some i => match l[i]? with
      | none => ([], 16)
      | some s => (l.set i (subFail s), 0)) else ([], 1)
theorem failS_at {l : List Sub} {n : Int} {i : Nat} {x : Sub} (hf : subsFormed l = true) (h : l[i]? = some x) (hp : isFrom n x = true) (hn : ∀ k y, k < i → l[k]? = some y → isFrom n y = false) : failS l n = (l.set i (subFail x), 0) := by
  rw [failS, if_pos hf, findIdx_some h hp hn]
  simp only [h]
theorem failS_none {l : List Sub} {n : Int} (hf : subsFormed l = true) (h : ∀ x ∈ l, isFrom n x = false) : failS l n = ([], 16) := by
  rw [failS, if_pos hf, findIdx_none h]
def isSess (m : Msg) (s : Sub) : Bool := decide (s.from_ = m.from_) && decide (s.session = m.session)
def subHear (m : Msg) (s : Sub) : Sub := { s with seq := nextN m.seq, live := true, heard := true, idle := decide (m.notes.length = 0) }
def hearOk (l : List Sub) (m : Msg) : Bool := subsFormed l && msgFormed m && decide (m.kind = 3)
def hearAt (l : List Sub) (m : Msg) (i : Nat) (s : Sub) : List Sub × Int := if m.seq < s.seq then ([], 13) else if s.seq < m.seq then ([], 3) else (l.set i (subHear m s), 0)
def hearS (l : List Sub) (m : Msg) : List Sub × Int :=
  if hearOk l m = true then (match l.findIdx? (isSess m) with
    | none => ([], 13)
    | some i => match l[i]? with
      | none => ([], 13)
      | some s => hearAt l m i s) else ([], 1)
theorem hearS_bad {l : List Sub} {m : Msg} (h : hearOk l m = false) : hearS l m = ([], 1) := by rw [hearS, if_neg (by simp [h])]
theorem hearS_at {l : List Sub} {m : Msg} {i : Nat} {x : Sub} (hf : hearOk l m = true) (h : l[i]? = some x) (hp : isSess m x = true) (hn : ∀ k y, k < i → l[k]? = some y → isSess m y = false) : hearS l m = hearAt l m i x := by
  rw [hearS, if_pos hf, findIdx_some h hp hn]
  simp only [h]
theorem hearS_none {l : List Sub} {m : Msg} (hf : hearOk l m = true) (h : ∀ x ∈ l, isSess m x = false) : hearS l m = ([], 13) := by
  rw [hearS, if_pos hf, findIdx_none h]
/-- nodes rise, so that each stands once -/
theorem subsFrom_above : ∀ {l : List Sub} {e : Int}, subsFrom e l = true → ∀ {x : Sub}, x ∈ l → e < x.from_
  | [], _, _, _, hx => by cases hx
  | y :: l, e, h, x, hx => by
    simp only [subsFrom, Bool.and_eq_true, decide_eq_true_eq] at h
    rcases List.mem_cons.1 hx with rfl | hx
    · exact h.1.1.1.1
    · have := subsFrom_above h.2 hx
      omega
theorem subsFrom_once : ∀ {l : List Sub} {e : Int}, subsFrom e l = true → ∀ {i j : Nat} {x y : Sub}, l[i]? = some x → l[j]? = some y → x.from_ = y.from_ → i = j
  | [], _, _, i, _, _, _, h, _, _ => by simp at h
  | z :: l, e, h, i, j, x, y, hx, hy, he => by
    simp only [subsFrom, Bool.and_eq_true, decide_eq_true_eq] at h
    cases i with
    | zero =>
      cases j with
      | zero => rfl
      | succ j =>
        simp at hx hy
        subst hx
        have := subsFrom_above h.2 (List.mem_of_getElem? hy)
        omega
    | succ i =>
      cases j with
      | zero =>
        simp at hx hy
        subst hy
        have := subsFrom_above h.2 (List.mem_of_getElem? hx)
        omega
      | succ j => exact congrArg (· + 1) (subsFrom_once h.2 (i := i) (j := j) (x := x) (y := y) (by simpa using hx) (by simpa using hy) he)
theorem subsFormed_num {l : List Sub} (h : subsFormed l = true) {x : Sub} (hx : x ∈ l) : numB x.seq = true ∧ numB x.session = true ∧ nodeB x.from_ = true := by
  have : ∀ {l : List Sub} {e : Int}, subsFrom e l = true → x ∈ l → numB x.seq = true ∧ numB x.session = true ∧ nodeB x.from_ = true := by
    intro l
    induction l with
    | nil => intro e _ hx; cases hx
    | cons y l ih =>
      intro e h hx
      simp only [subsFrom, Bool.and_eq_true] at h
      rcases List.mem_cons.1 hx with rfl | hx
      · exact ⟨h.1.2, h.1.1.2, h.1.1.1.2.1⟩
      · exact ih h.2 hx
  simp only [subsFormed, Bool.and_eq_true] at h
  exact this h.1 hx
theorem sess_none {l : List Sub} {m : Msg} {i : Nat} {x : Sub} (hf : subsFormed l = true) (h : l[i]? = some x) (h1 : x.from_ = m.from_) (h2 : ¬ x.session = m.session) : ∀ y ∈ l, isSess m y = false := by
  intro y hy
  simp only [subsFormed, Bool.and_eq_true] at hf
  obtain ⟨j, hj⟩ := List.mem_iff_getElem?.1 hy
  by_cases e : y.from_ = m.from_
  · have := subsFrom_once hf.1 h hj (by rw [h1, e])
    subst this
    rw [h] at hj
    injection hj with hj
    subst hj
    simp [isSess, h2]
  · simp [isSess, e]

/-- a list of subscriptions and a number of an error come back; the list lies in what V shows and in new blocks -/
def RetSubs (r : List Sub × Int) (V w : World) (e : Ending) (w' : World) : Prop := ∃ v, e = .returned (.tuple #[v, .int .i64 r.2]) ∧ Subs (mixW V w w') (mixW V w w').heap.size v r.1 ∧ Below w.heap.size w w'
theorem RetSubs.nil_ {n : Int} {r : List Sub × Int} {V w w' : World} (hr : r = ([], n)) (hb : Below w.heap.size w w') : RetSubs r V w (.returned (.tuple #[.slice none 0 0, .int .i64 n])) w' := by
  subst hr
  exact ⟨_, rfl, Sl.nil_ (by unfold maxLen; omega) _, hb⟩
end Go.Proofs.YtmdeokneablgaaaDoor
/- Contract of the reference's test of subscriptions. -/
namespace Go.Proofs.YtmdeokneablgaaaDoor
open Go.ChangeShapes Go.WideShapes Go.ChangeAt Go.RowKit

set_option maxHeartbeats 1600000 in
theorem refFormedSubs (l : List Sub) (v : Value) (w : World) (h : Subs w w.heap.size v l) :
    Calls Tryd.prog 15 #[v] w fun e w' => e = .returned (.bool (subsFormed l)) ∧ Below w.heap.size w w' := by
  have hle := h.len_le
  obtain ⟨A, c, rfl, _⟩ := id h
  unfold subsFormed
  go_enter Tryd.func15, Tryd.ntmps15
  go_wp2_with fail
  go_loopw [3] (fun i wr => ∃ (m : Nat) (e : Int), m ≤ l.length ∧ i = .int .i64 m ∧ (m = 0 → e = -1) ∧ (∀ i y, m = i + 1 → l[i]? = some y → e = y.from_) ∧ subsFrom (-1) l = subsFrom e (l.drop m) ∧ Below w.heap.size w wr) (fun i _ => l.length - (intOf i).toNat)
  case atStart => exact ⟨0, -1, Nat.zero_le _, rfl, fun _ => rfl, fun i _ hi => by omega, rfl, Below.refl _ _⟩
  case round =>
    obtain ⟨m, e, hm, rfl, he0, he1, hv, hb⟩ := hrel
    have hn := h.next hb
    by_cases hlt : m < l.length
    · obtain ⟨y, hy⟩ : ∃ y, l[m]? = some y := ⟨l[m], List.getElem?_eq_getElem hlt⟩
      obtain ⟨b, off, c', vi, hv', hbb, e0, e1, e2, e3, e4, e5, e6, hs, _, _, _⟩ := subs_at hn hy
      injection hv' with hv1 hv2 hv3
      rw [drop_cons hy, subsFrom] at hv
      have Hy := Lib.hid hy
      obtain ⟨yf, yi, ys, yq, yl, yh, yd⟩ := y
      simp only at e0 e1 e2 e3 e4 e5 e6 hv hs
      subst hv1
      have i2 : (m : Int) < (l.length : Int) := by omega
      have He0 := Lib.hid he0
      have He1 := Lib.hid he1
      have HV := Lib.hid hv
      have HN := Lib.hid hn
      obtain ⟨A4, c4, rfl, _⟩ := id hs
      have HS := Lib.hid hs
      clear hv hv2 hv3 hy hbb hn hs he0 he1
      go_wp2_with fail
      have kB := balloc (o := .cells #[.int .i64 yf, .slice A4 yi.length c4, .int .i64 ys, .int .i64 yq, .bool yl, .bool yh, .bool yd] 35) (Below.refl _ wr)
      have B5 := Blk.new wr 35 #[.int .i64 yf, .slice A4 yi.length c4, .int .i64 ys, .int .i64 yq, .bool yl, .bool yh, .bool yd]
      have hs2 := HS.out.next kB
      have hb2 := bnext hb kB
      generalize hW : wr.alloc (.cells #[.int .i64 yf, .slice A4 yi.length c4, .int .i64 ys, .int .i64 yq, .bool yl, .bool yh, .bool yd] 35) = W at *
      have KB := Lib.hid kB
      have q0 : ∀ z : BW W, z.val.cell? ⟨wr.heap.size, 0, none⟩ = some (.int .i64 yf) := fun z => z.cell (B5.cell 0)
      have q1 : ∀ z : BW W, z.val.cell? ⟨wr.heap.size, 1, none⟩ = some (.slice A4 yi.length c4) := fun z => z.cell (B5.cell 1)
      have q2 : ∀ z : BW W, z.val.cell? ⟨wr.heap.size, 2, none⟩ = some (.int .i64 ys) := fun z => z.cell (B5.cell 2)
      have q3 : ∀ z : BW W, z.val.cell? ⟨wr.heap.size, 3, none⟩ = some (.int .i64 yq) := fun z => z.cell (B5.cell 3)
      generalize hr1 : (nodeB yf && wantB yi) = r1 at HV
      generalize hr2 : numB ys = r2 at HV
      generalize hr3 : numB yq = r3 at HV
      have HC1 := Lib.hid (fun z : BW W => hr1 ▸ refRight17 yf yi _ z.val (hs2.next z.below))
      have HC2 := Lib.hid (fun z : BW W => hr2 ▸ refNumber17 ys z.val)
      have HC3 := Lib.hid (fun z : BW W => hr3 ▸ refNumber17 yq z.val)
      have hf0 : nodeB yf = true → 0 ≤ yf := fun h => by simp only [nodeB, decide_eq_true_eq] at h; exact h.1
      have HF := Lib.hid (fun h : r1 = true => hf0 (by rw [h] at hr1; simp only [Bool.and_eq_true] at hr1; exact hr1.1))
      clear e0 e1 e2 e3 e4 e5 e6 hr1 hr2 hr3 hW hs2 B5 kB hf0
      cases m with
      | zero =>
        have hcs : r1 = false ∨ (r1 = true ∧ r2 = false) ∨ (r1 = true ∧ r2 = true ∧ r3 = false) ∨ (r1 = true ∧ r2 = true ∧ r3 = true) := by cases r1 <;> cases r2 <;> cases r3 <;> simp
        rcases hcs with rfl | ⟨rfl, rfl⟩ | ⟨rfl, rfl, rfl⟩ | ⟨rfl, rfl, rfl⟩
        all_goals
          refine region_below (by kernel_rfl) (by kernel_rfl) ?_
          repeat (go_big_quiet_step (first | (go_at_call 41; exact below_of (HC1.out _)) | (go_at_call 42; first | (with_reducible exact below_of_same (HC2.out _)) | (with_reducible exact below_of_same (HC3.out _)))))
          refine wpQuiet_nil ?_
          intro w5 hb5
          have hb6 := bnext hb2 hb5
          go_wp2_with fail
        all_goals first
          | (go_ret
             refine ⟨ret_bool ?_, hb6⟩
             rw [HV.out]; simp; done)
          | (refine ⟨⟨1, yf, by omega, by go_num, fun h => by omega, fun i' y hi hyi => ?_, ?_, hb6⟩, by simp [intOf]; omega⟩
             · obtain rfl : i' = 0 := by omega
               rw [Hy.out] at hyi
               injection hyi with hyi
               subst hyi
               rfl
             · rw [HV.out, decide_eq_true (p := e < yf) (by have := HF.out rfl; have := He0.out rfl; omega)]
               rfl)
      | succ i =>
        obtain ⟨y', hy'⟩ : ∃ y', l[i]? = some y' := ⟨l[i], List.getElem?_eq_getElem (by omega)⟩
        obtain rfl := He1.out i y' rfl hy'
        obtain ⟨b', off', c'', vi', hv', hbb', e2, _⟩ := subs_at HN.out hy'
        injection hv' with hv1 hv2 hv3
        injection hv1 with hv1
        injection hv1 with hv4 hv5
        subst hv4 hv5
        have q6 : ∀ z : BW W, z.val.cell? ⟨b, off + i * 7, none⟩ = some (.int .i64 y'.from_) := fun z => z.cell (kept_cell KB.out e2)
        have i1 : (0 : Int) < (i : Int) + 1 := by omega
        have i3 : (i : Int) < (l.length : Int) := by omega
        have s1 : IntKind.i64.wrap ((i : Int) + 1) = (i : Int) + 1 := IntWalk.i64_in _ (by omega)
        have s2 : IntKind.i64.wrap (i : Int) = (i : Int) := IntWalk.i64_in _ (by omega)
        clear hv2 hv3 hy' e2 hbb'
        have hcs : r1 = false ∨ (r1 = true ∧ yf ≤ y'.from_ ∧ decide (yf ≤ y'.from_) = true) ∨ (r1 = true ∧ r2 = false ∧ y'.from_ < yf ∧ decide (yf ≤ y'.from_) = false) ∨ (r1 = true ∧ r2 = true ∧ r3 = false ∧ y'.from_ < yf ∧ decide (yf ≤ y'.from_) = false) ∨ (r1 = true ∧ r2 = true ∧ r3 = true ∧ y'.from_ < yf ∧ decide (yf ≤ y'.from_) = false) := by
          simp only [decide_eq_true_eq, decide_eq_false_iff_not]
          cases r1 <;> cases r2 <;> cases r3 <;> simp <;> omega
        rcases hcs with rfl | ⟨rfl, h1, g1⟩ | ⟨rfl, rfl, h1, g1⟩ | ⟨rfl, rfl, rfl, h1, g1⟩ | ⟨rfl, rfl, rfl, h1, g1⟩
        all_goals
          refine region_below (by kernel_rfl) (by kernel_rfl) ?_
          repeat (go_big_quiet_step (first | (go_at_call 41; exact below_of (HC1.out _)) | (go_at_call 42; first | (with_reducible exact below_of_same (HC2.out _)) | (with_reducible exact below_of_same (HC3.out _)))))
          refine wpQuiet_nil ?_
          intro w5 hb5
          have hb6 := bnext hb2 hb5
          clear s1 s2
          go_wp2_with fail
        all_goals first
          | (go_ret
             refine ⟨ret_bool ?_, hb6⟩
             first
               | (rw [HV.out]; simp; done)
               | (rw [HV.out, decide_eq_false (p := y'.from_ < yf) (by omega)]; rfl))
          | (refine ⟨⟨i + 1 + 1, yf, by omega, by go_num, fun h => by omega, fun i' y hi hyi => ?_, ?_, hb6⟩, by simp [intOf]; omega⟩
             · obtain rfl : i' = i + 1 := by omega
               rw [Hy.out] at hyi
               injection hyi with hyi
               subst hyi
               rfl
             · rw [HV.out, decide_eq_true (p := y'.from_ < yf) (by omega)]
               rfl)
    · obtain rfl : m = l.length := by omega
      rw [List.drop_length] at hv
      have HV := Lib.hid hv
      clear hv he0 he1
      go_wp2_with fail
      go_ret
      refine ⟨ret_bool ?_, hb⟩
      rw [HV.out, subsFrom, Bool.true_and]
      exact decide_eq_decide.2 (by omega)
end Go.Proofs.YtmdeokneablgaaaDoor
namespace Go.Proofs.YtmdeokneablgaaaDoor
open Go.ChangeShapes Go.WideShapes Go.ChangeAt Go.RowKit

theorem OwnSubs.setB {V w0 w : World} {base : Nat} {e : TypeId} {g c i j : Nat} {l : List Sub} {u : Value} {x x' : Sub} (h : OwnSubs V w0 w base e (.slice (some ⟨g, 0, none⟩) l.length c) l) (hi : l[i]? = some x) (hj : j < 7)
    (hR : ∀ W cs, SubR W W.heap.size cs x → cs.length = 7 → SubR W W.heap.size (cs.set j u) x') : OwnSubs V w0 (w.setCell ⟨g, i * 7 + j, none⟩ u) base e (.slice (some ⟨g, 0, none⟩) (l.set i x').length c) (l.set i x') :=
  OwnN.set_ h hi hj fun cs => hR _ cs

set_option maxRecDepth 100000 in
set_option maxHeartbeats 1600000 in
theorem sessionFail (n : Int) (l : List Sub) (v : Value) (V w : World) (hV : Ext V w) (h : Subs V V.heap.size v l) :
    Calls Tryd.prog 11 #[v, .int .i64 n] w fun e w' => RetSubs (failS l n) V w e w' := by
  have hle := h.len_le
  have HH0 := Lib.hid h
  have HH := Lib.hid (Subs.ext h hV)
  obtain ⟨A, c, rfl, -⟩ := id h
  generalize hr : subsFormed l = r
  have HR := Lib.hid hr
  generalize hs : failS l n = res
  have HS := Lib.hid hs
  clear h hr hs
  go_enter Tryd.func11, Tryd.ntmps11
  go_wp2_with fail
  refine BW.callR (z := BW.self w) (sessionFormedSubs l _ _ HH.out) (congrArg Value.bool HR.out) ?_
  intro z
  cases r
  · go_wp2_with fail
    go_ret2
    exact RetSubs.nil_ (by rw [← HS.out, failS, if_neg (by rw [HR.out]; simp)]) z.below
  go_wp2_with fail
  refine BW.call (z := z) (sessionFrom n l _ _ (HH.out.next z.below)) ?_
  intro z1
  rcases idxFrom_spec (isFrom n) l 0 with ⟨hk, hno⟩ | ⟨i, x, hx, hp, hk, hno⟩
  · rw [hk]
    have HX := Lib.hid (HS.out.symm.trans (failS_none HR.out hno))
    clear hk hno
    go_wp2_with fail
    go_ret2
    exact RetSubs.nil_ HX.out z1.below
  · rw [hk]
    have HX := Lib.hid (HS.out.symm.trans (failS_at HR.out hx hp hno))
    have hil := (List.getElem?_eq_some_iff.1 hx).1
    have HI := Lib.hid hx
    rw [Nat.zero_add]
    clear hk hno hp hx
    go_wp2_with fail
    refine (sessionSubs l _ V _ (hV.trans z1.ext) HH0.out).mono ?_
    rintro e w2 ⟨⟨v2, rfl, hown⟩, hb2⟩
    rcases hown.forms with ⟨rfl, rfl⟩ | ⟨g, c1, rfl, hg1, hg2⟩
    · simp at hil
    · obtain ⟨cs, ⟨vi, rfl, -, -, -, -⟩, -, hc⟩ := OwnSl.at_ hown HI.out
      have e4 := hc 4 _ rfl
      have e5 := hc 5 _ rfl
      have z4 := OwnSl.frozen hown (i * 7 + 4)
      have z5 := OwnSl.frozen hown (i * 7 + 5)
      have h3 := OwnSubs.setB (j := 4) (u := .bool false) (x' := { x with live := false }) hown HI.out (by omega) (by
        rintro W cs ⟨vi, rfl, i1, i2, i3, hs⟩ _
        exact ⟨vi, rfl, i1, i2, i3, hs⟩)
      have h4 := OwnSubs.setB (i := i) (j := 5) (u := .bool false) (x := { x with live := false }) (x' := subFail x) h3 (by simp [hil]) (by omega) (by
        rintro W cs ⟨vi, rfl, i1, i2, i3, hs⟩ _
        exact ⟨vi, rfl, i1, i2, i3, hs⟩)
      rw [List.set_set] at h4
      have hb4 := bset (u := .bool false) (p := ⟨g, i * 7 + 5, none⟩) (bset (u := .bool false) (p := ⟨g, i * 7 + 4, none⟩) (bnext z1.below hb2) (by have := z1.size; simp; omega)) (by have := z1.size; simp; omega)
      have H4 := Lib.hid (Subs.ext (OwnN.sl h4 extSub (Nat.le_refl _)) (mix_later hV z1.size))
      have hi3 : (i : Int) < (l.length : Int) := by omega
      clear h3 h4 hown hc
      go_wp2_with fail
      go_ret2
      refine ⟨.slice (some ⟨g, 0, none⟩) l.length c1, by rw [HX.out]; rfl, ?_, hb4⟩
      rw [HX.out]
      have := H4.out
      rwa [List.length_set] at this

set_option maxRecDepth 100000 in
set_option maxHeartbeats 1600000 in
theorem refFail (n : Int) (l : List Sub) (v : Value) (V w : World) (hV : Ext V w) (h : Subs V V.heap.size v l) :
    Calls Tryd.prog 12 #[v, .int .i64 n] w fun e w' => RetSubs (failS l n) V w e w' := by
  have hle := h.len_le
  have HH0 := Lib.hid h
  have HH := Lib.hid (Subs.ext h hV)
  obtain ⟨A, c, rfl, -⟩ := id h
  generalize hr : subsFormed l = r
  have HR := Lib.hid hr
  generalize hs : failS l n = res
  have HS := Lib.hid hs
  clear h hr hs
  go_enter Tryd.func12, Tryd.ntmps12
  go_wp2_with fail
  refine BW.callR (z := BW.self w) (refFormedSubs l _ _ HH.out) (congrArg Value.bool HR.out) ?_
  intro z
  cases r
  · go_wp2_with fail
    go_ret2
    exact RetSubs.nil_ (by rw [← HS.out, failS, if_neg (by rw [HR.out]; simp)]) z.below
  go_wp2_with fail
  refine (refOwn l _ V _ (hV.trans z.ext) HH0.out).mono ?_
  rintro e w2 ⟨⟨v2, rfl, hown⟩, hb2⟩
  have HO := Lib.hid hown
  have hb := bnext z.below hb2
  obtain ⟨A2, c2, rfl⟩ := hown.form
  have hwz := z.size
  clear hown
  go_wp2_with fail
  go_loopw [7] (fun i wr => ∃ m : Nat, m ≤ l.length ∧ i = .int .i64 m ∧ (∀ k y, k < m → l[k]? = some y → isFrom n y = false) ∧ wr = w2) (fun i _ => l.length - (intOf i).toNat)
  case atStart => exact ⟨0, Nat.zero_le _, rfl, fun k y hk => by omega, rfl⟩
  case round =>
    obtain ⟨m, hm, rfl, hno, rfl⟩ := hrel
    have HN := Lib.hid hno
    clear hno
    by_cases hlt : m < l.length
    · obtain ⟨x, hx⟩ : ∃ y, l[m]? = some y := ⟨l[m], List.getElem?_eq_getElem hlt⟩
      have HI := Lib.hid hx
      have hown := HO.out
      rcases hown.forms with ⟨h1, rfl⟩ | ⟨g, c1, h1, hg1, hg2⟩
      · simp at hlt
      injection h1 with h1 h2 h3
      subst h1 h3
      obtain ⟨cs, ⟨vi, rfl, -, -, -, -⟩, -, hc⟩ := OwnSl.at_ hown hx
      have e0 : wr.cell? ⟨g, m * 7, none⟩ = some (.int .i64 x.from_) := hc 0 _ rfl
      have e4 := hc 4 _ rfl
      have e5 := hc 5 _ rfl
      have z4 := OwnSl.frozen hown (m * 7 + 4)
      have z5 := OwnSl.frozen hown (m * 7 + 5)
      have hi3 : (m : Int) < (l.length : Int) := by omega
      clear h2 hx
      by_cases hf : x.from_ = n
      · have h3 := OwnSubs.setB (j := 4) (u := .bool false) (x' := { x with live := false }) hown HI.out (by omega) (by
          rintro W cs ⟨vi, rfl, i1, i2, i3, hs⟩ _
          exact ⟨vi, rfl, i1, i2, i3, hs⟩)
        have h4 := OwnSubs.setB (i := m) (j := 5) (u := .bool false) (x := { x with live := false }) (x' := subFail x) h3 (by simp [hlt]) (by omega) (by
          rintro W cs ⟨vi, rfl, i1, i2, i3, hs⟩ _
          exact ⟨vi, rfl, i1, i2, i3, hs⟩)
        rw [List.set_set] at h4
        have hb4 := bset (u := .bool false) (p := ⟨g, m * 7 + 5, none⟩) (bset (u := .bool false) (p := ⟨g, m * 7 + 4, none⟩) hb (by simp; omega)) (by simp; omega)
        have H4 := Lib.hid (Subs.ext (OwnN.sl h4 extSub (Nat.le_refl _)) (mix_later hV z.size))
        have HX := Lib.hid (HS.out.symm.trans (failS_at HR.out HI.out (by simp [isFrom, hf]) HN.out))
        obtain rfl : n = x.from_ := hf.symm
        clear h3 h4 hown hc
        go_wp2_with fail
        go_ret2
        refine ⟨.slice (some ⟨g, 0, none⟩) l.length c2, by rw [HX.out]; rfl, ?_, hb4⟩
        rw [HX.out]
        have := H4.out
        rwa [List.length_set] at this
      · have hf' : (x.from_ == n) = false := by simpa using hf
        clear hown hc
        go_wp2_with fail
        refine ⟨⟨m + 1, by omega, by go_num, fun k y hk hy => ?_, trivial⟩, by simp [intOf]; omega⟩
        by_cases e : k < m
        · exact HN.out k y e hy
        · obtain rfl : k = m := by omega
          rw [HI.out] at hy
          injection hy with hy
          subst hy
          simp [isFrom, hf]
    · obtain rfl : m = l.length := by omega
      have HX := Lib.hid (HS.out.symm.trans (failS_none HR.out fun x hx => by
        obtain ⟨j, hj⟩ := List.mem_iff_getElem?.1 hx
        exact HN.out j x (List.getElem?_eq_some_iff.1 hj).1 hj))
      go_wp2_with fail
      go_ret2
      exact RetSubs.nil_ HX.out hb
end Go.Proofs.YtmdeokneablgaaaDoor
