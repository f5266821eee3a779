/- What hearing a message and failing a session come to. -/
import Derived.Test.YtmdeokneablgaaaDoorSubsFrom
import Derived.Test.YtmdeokneablgaaaDoorMsgSpec
namespace Go.Proofs.YtmdeokneablgaaaDoor
open Go.ChangeShapes Go.WideShapes Go.ChangeAt Go.RowKit

theorem findIdx_some {α : Type} {p : α → Bool} {l : List α} {i : Nat} {x : α} (h : l[i]? = some x) (hp : p x = true) (hn : ∀ k y, k < i → l[k]? = some y → p y = false) : l.findIdx? p = some i := by
  obtain ⟨h1, h2⟩ := List.getElem?_eq_some_iff.1 h
  rw [List.findIdx?_eq_some_iff_getElem]
  refine ⟨h1, by rw [h2]; exact hp, fun j hj => ?_⟩
  rw [hn j l[j] hj (List.getElem?_eq_getElem (by omega))]
  simp
theorem findIdx_none {α : Type} {p : α → Bool} {l : List α} (h : ∀ x ∈ l, p x = false) : l.findIdx? p = none := by
  rw [List.findIdx?_eq_none_iff]
  exact h
def subFail (s : Sub) : Sub := { s with live := false, heard := false }
def failS (l : List Sub) (n : Int) : List Sub × Int :=
  if subsFormed l = true then (match l.findIdx? (isFrom n) with
    | none => ([], 16)
    | some i => match l[i]? with
      | none => ([], 16)
      | some s => (l.set i (subFail s), 0)) else ([], 1)
theorem failS_at {l : List Sub} {n : Int} {i : Nat} {x : Sub} (hf : subsFormed l = true) (h : l[i]? = some x) (hp : isFrom n x = true) (hn : ∀ k y, k < i → l[k]? = some y → isFrom n y = false) : failS l n = (l.set i (subFail x), 0) := by
  rw [failS, if_pos hf, findIdx_some h hp hn]
  simp only [h]
theorem failS_none {l : List Sub} {n : Int} (hf : subsFormed l = true) (h : ∀ x ∈ l, isFrom n x = false) : failS l n = ([], 16) := by
  rw [failS, if_pos hf, findIdx_none h]
def isSess (m : Msg) (s : Sub) : Bool := decide (s.from_ = m.from_) && decide (s.session = m.session)
def subHear (m : Msg) (s : Sub) : Sub := { s with seq := nextN m.seq, live := true, heard := true, idle := decide (m.notes.length = 0) }
def hearOk (l : List Sub) (m : Msg) : Bool := subsFormed l && msgFormed m && decide (m.kind = 3)
def hearAt (l : List Sub) (m : Msg) (i : Nat) (s : Sub) : List Sub × Int := if m.seq < s.seq then ([], 13) else if s.seq < m.seq then ([], 3) else (l.set i (subHear m s), 0)
def hearS (l : List Sub) (m : Msg) : List Sub × Int :=
  if hearOk l m = true then (match l.findIdx? (isSess m) with
    | none => ([], 13)
    | some i => match l[i]? with
      | none => ([], 13)
      | some s => hearAt l m i s) else ([], 1)
theorem hearS_bad {l : List Sub} {m : Msg} (h : hearOk l m = false) : hearS l m = ([], 1) := by rw [hearS, if_neg (by simp [h])]
theorem hearS_at {l : List Sub} {m : Msg} {i : Nat} {x : Sub} (hf : hearOk l m = true) (h : l[i]? = some x) (hp : isSess m x = true) (hn : ∀ k y, k < i → l[k]? = some y → isSess m y = false) : hearS l m = hearAt l m i x := by
  rw [hearS, if_pos hf, findIdx_some h hp hn]
  simp only [h]
theorem hearS_none {l : List Sub} {m : Msg} (hf : hearOk l m = true) (h : ∀ x ∈ l, isSess m x = false) : hearS l m = ([], 13) := by
  rw [hearS, if_pos hf, findIdx_none h]
/-- nodes rise, so that each stands once -/
theorem subsFrom_above : ∀ {l : List Sub} {e : Int}, subsFrom e l = true → ∀ {x : Sub}, x ∈ l → e < x.from_
  | [], _, _, _, hx => by cases hx
  | y :: l, e, h, x, hx => by
    simp only [subsFrom, Bool.and_eq_true, decide_eq_true_eq] at h
    rcases List.mem_cons.1 hx with rfl | hx
    · exact h.1.1.1.1
    · have := subsFrom_above h.2 hx
      omega
theorem subsFrom_once : ∀ {l : List Sub} {e : Int}, subsFrom e l = true → ∀ {i j : Nat} {x y : Sub}, l[i]? = some x → l[j]? = some y → x.from_ = y.from_ → i = j
  | [], _, _, i, _, _, _, h, _, _ => by simp at h
  | z :: l, e, h, i, j, x, y, hx, hy, he => by
    simp only [subsFrom, Bool.and_eq_true, decide_eq_true_eq] at h
    cases i with
    | zero =>
      cases j with
      | zero => rfl
      | succ j =>
        simp at hx hy
        subst hx
        have := subsFrom_above h.2 (List.mem_of_getElem? hy)
        omega
    | succ i =>
      cases j with
      | zero =>
        simp at hx hy
        subst hy
        have := subsFrom_above h.2 (List.mem_of_getElem? hx)
        omega
      | succ j => exact congrArg (· + 1) (subsFrom_once h.2 (i := i) (j := j) (x := x) (y := y) (by simpa using hx) (by simpa using hy) he)
theorem subsFormed_num {l : List Sub} (h : subsFormed l = true) {x : Sub} (hx : x ∈ l) : numB x.seq = true ∧ numB x.session = true ∧ nodeB x.from_ = true := by
  have : ∀ {l : List Sub} {e : Int}, subsFrom e l = true → x ∈ l → numB x.seq = true ∧ numB x.session = true ∧ nodeB x.from_ = true := by
    intro l
    induction l with
    | nil => intro e _ hx; cases hx
    | cons y l ih =>
      intro e h hx
      simp only [subsFrom, Bool.and_eq_true] at h
      rcases List.mem_cons.1 hx with rfl | hx
      · exact ⟨h.1.2, h.1.1.2, h.1.1.1.2.1⟩
      · exact ih h.2 hx
  simp only [subsFormed, Bool.and_eq_true] at h
  exact this h.1 hx
theorem sess_none {l : List Sub} {m : Msg} {i : Nat} {x : Sub} (hf : subsFormed l = true) (h : l[i]? = some x) (h1 : x.from_ = m.from_) (h2 : ¬ x.session = m.session) : ∀ y ∈ l, isSess m y = false := by
  intro y hy
  simp only [subsFormed, Bool.and_eq_true] at hf
  obtain ⟨j, hj⟩ := List.mem_iff_getElem?.1 hy
  by_cases e : y.from_ = m.from_
  · have := subsFrom_once hf.1 h hj (by rw [h1, e])
    subst this
    rw [h] at hj
    injection hj with hj
    subst hj
    simp [isSess, h2]
  · simp [isSess, e]

/-- a list of subscriptions and a number of an error come back; the list lies in what V shows and in new blocks -/
def RetSubs (r : List Sub × Int) (V w : World) (e : Ending) (w' : World) : Prop := ∃ v, e = .returned (.tuple #[v, .int .i64 r.2]) ∧ Subs (mixW V w w') (mixW V w w').heap.size v r.1 ∧ Below w.heap.size w w'
theorem RetSubs.nil_ {n : Int} {r : List Sub × Int} {V w w' : World} (hr : r = ([], n)) (hb : Below w.heap.size w w') : RetSubs r V w (.returned (.tuple #[.slice none 0 0, .int .i64 n])) w' := by
  subst hr
  exact ⟨_, rfl, Sl.nil_ (by unfold maxLen; omega) _, hb⟩
end Go.Proofs.YtmdeokneablgaaaDoor
