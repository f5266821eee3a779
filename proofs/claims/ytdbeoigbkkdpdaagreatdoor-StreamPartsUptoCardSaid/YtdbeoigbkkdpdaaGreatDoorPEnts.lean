/- The entries of a row from a place on, with their places. No program is known here. -/
import Derived.Test.YtdbeoigbkkdpdaaGreatDoorPStreamSpec
set_option linter.all false
set_option linter.unnecessarySimpa false
set_option linter.unusedSimpArgs false
set_option linter.unusedVariables false
namespace Go.Proofs.YtdbeoigbkkdpdaaGreatDoor
variable {α : Type}
def preL (l : List α) (a i : Nat) : List (α × Nat) := ((l.take i).drop a).zipIdx a
def allL (l : List α) (a : Nat) : List (α × Nat) := (l.drop a).zipIdx a
theorem preL_self (l : List α) (a : Nat) : preL l a a = [] := by
  unfold preL
  rw [List.drop_of_length_le (by rw [List.length_take]; omega)]
  rfl
theorem preL_len {l : List α} {a i : Nat} (h : i ≤ l.length) : (preL l a i).length = i - a := by simp [preL]; omega
theorem preL_succ {l : List α} {a i : Nat} (ha : a ≤ i) (hi : i < l.length) : preL l a (i + 1) = preL l a i ++ [(l[i], i)] := by
  unfold preL
  rw [List.take_succ_eq_append_getElem hi, List.drop_append_of_le_length (by rw [List.length_take]; omega), List.zipIdx_append]
  have : a + ((l.take i).drop a).length = i := by rw [List.length_drop, List.length_take]; omega
  rw [this]
  rfl
theorem preL_all {l : List α} {a i : Nat} (h : l.length ≤ i) : preL l a i = allL l a := by
  unfold preL allL
  rw [List.take_of_length_le h]
theorem zipIdx_pre {l m : List α} (h : l <+: m) (a : Nat) : l.zipIdx a <+: m.zipIdx a := by
  obtain ⟨t, rfl⟩ := h
  rw [List.zipIdx_append]
  exact List.prefix_append _ _
theorem preL_prefix (l : List α) (a i : Nat) : preL l a i <+: allL l a := by
  refine zipIdx_pre ?_ a
  rw [List.drop_take]
  exact List.take_prefix _ _
theorem allL_at {l : List α} {a j : Nat} {p : α × Nat} (h : (allL l a)[j]? = some p) : p.2 = a + j ∧ l[a + j]? = some p.1 := by
  unfold allL at h
  rw [List.getElem?_zipIdx, Option.map_eq_some_iff] at h
  obtain ⟨x, h1, rfl⟩ := h
  rw [List.getElem?_drop] at h1
  exact ⟨rfl, h1⟩
/-- the entry behind those that came -/
theorem pre_next {l : List α} {a : Nat} {pre : List (α × Nat)} {x : α × Nat} (h : pre ++ [x] <+: allL l a) : pre = preL l a (a + pre.length) ∧ x.2 = a + pre.length ∧ l[a + pre.length]? = some x.1 := by
  have hx : (allL l a)[pre.length]? = some x := by
    obtain ⟨t, ht⟩ := h
    rw [← ht, List.append_assoc, List.getElem?_append_right (Nat.le_refl _), Nat.sub_self]; rfl
  obtain ⟨h1, h2⟩ := allL_at hx
  refine ⟨?_, h1, h2⟩
  have hlt := (List.getElem?_eq_some_iff.1 h2).1
  have p1 : pre <+: allL l a := (List.prefix_append pre [x]).trans h
  have p2 := preL_prefix l a (a + pre.length)
  rw [List.prefix_iff_eq_take] at p1 p2
  rw [preL_len (by omega), Nat.add_sub_cancel_left] at p2
  exact p1.trans p2.symm
end Go.Proofs.YtdbeoigbkkdpdaaGreatDoor
