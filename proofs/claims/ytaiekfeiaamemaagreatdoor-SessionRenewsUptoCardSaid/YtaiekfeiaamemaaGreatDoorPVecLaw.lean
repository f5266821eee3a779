/- Plain laws on vectors as counts: the list of counts, and what is joined. -/
import Derived.Test.YtaiekfeiaamemaaGreatDoorPRead
set_option linter.all false
set_option linter.unnecessarySimpa false
set_option linter.unusedSimpArgs false
set_option linter.unusedVariables false
namespace Go.Proofs.YtaiekfeiaamemaaGreatDoor
open Go.ChangeShapes Go.WideShapes Go.ChangeAt Go.RowKit

theorem countOf_nonneg (l : List Stamp) (n : Int) : 0 ≤ countOf l n := by
  by_cases h : countOf l n = 0
  · omega
  · have := countOf_pos h; omega
/-- the vector of counts, nodes below k -/
def vecUpto (c : Nat → Int) : Nat → List Stamp
  | 0 => []
  | k + 1 => if 0 < c k then vecUpto c k ++ [⟨c k, k⟩] else vecUpto c k
def vecOf (c : Nat → Int) : List Stamp := vecUpto c 64
theorem vecUpto_len (c : Nat → Int) : ∀ k, (vecUpto c k).length ≤ k
  | 0 => by simp [vecUpto]
  | k + 1 => by
    have := vecUpto_len c k
    unfold vecUpto
    split
    · simp; omega
    · omega
theorem vecUpto_congr {c d : Nat → Int} : ∀ {k : Nat}, (∀ n, n < k → c n = d n) → vecUpto c k = vecUpto d k
  | 0, _ => rfl
  | k + 1, h => by rw [vecUpto, vecUpto, vecUpto_congr (k := k) (fun n hn => h n (by omega)), h k (by omega)]
/-- the least counts of a row of vectors that isn't empty -/
def meetC : List (List Stamp) → Nat → Int
  | [], _ => 0
  | l :: ls, n => ls.foldl (fun a l => min a (countOf l n)) (countOf l n)
def meetS (ls : List (List Stamp)) : List Stamp := vecOf (meetC ls)
theorem meetC_snoc (l : List Stamp) (ls : List (List Stamp)) (m : List Stamp) (n : Nat) : meetC (l :: ls ++ [m]) n = min (meetC (l :: ls) n) (countOf m n) := by simp [meetC]
end Go.Proofs.YtaiekfeiaamemaaGreatDoor
