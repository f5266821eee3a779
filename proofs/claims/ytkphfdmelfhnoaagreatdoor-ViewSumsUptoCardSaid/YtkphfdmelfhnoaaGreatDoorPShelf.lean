/- Shelves: formed, an object's write, all of them (the program's and the reference's). -/
import Derived.Test.YtkphfdmelfhnoaaGreatDoorPZones
import Derived.Test.YtkphfdmelfhnoaaGreatDoorPRight
set_option linter.all false
set_option linter.unnecessarySimpa false
set_option linter.unusedSimpArgs false
set_option linter.unusedVariables false
namespace Go.Proofs.YtkphfdmelfhnoaaGreatDoor
open Go.ChangeShapes Go.WideShapes Go.ChangeAt Go.RowKit
attribute [local irreducible] AW AWY vops vopsY vop vopL vdraw callW qop binQ lenQ storeQ appendQ callQ ACalls AIter setI
attribute [local go_sem] enW_eq wrI_eq wA_eq storeQ_bp storeQ_rp
theorem right_call (c n : Int) : ACalls Tryz.prog TzTab 171 [.agg [.val (.int .i64 c), .val (.int .i64 n)]] (.val (.bool (rightB c n))) [] :=
 bridge_val Tryz.func171 rfl (by kernel_rfl) fun V w E vs hV hG hr => by
  obtain ⟨v0, rfl, h0⟩ := args1 hr
  obtain rfl := agg_two h0
  exact stampRight c n w
theorem rright_call (c n : Int) : ACalls Tryz.prog TzTab 97 [.agg [.val (.int .i64 c), .val (.int .i64 n)]] (.val (.bool (rightB c n))) [] :=
 bridge_val Tryz.func97 rfl (by kernel_rfl) fun V w E vs hV hG hr => by
  obtain ⟨v0, rfl, h0⟩ := args1 hr
  obtain rfl := agg_two h0
  exact refRight c n w
theorem wright_call (w : Write) : ACalls Tryz.prog TzTab 161 [wA w] (.val (.bool (rightW w))) [] := by
 refine ACalls.of (n := 16) (rs := [.tmp 2]) Tryz.func161 rfl (by kernel_rfl) Tryz.ntmps161 (by kernel_rfl) (by simp) (fun _ _ => TzTab.later) ?_
 intro hok V w0
 obtain ⟨B, hB⟩ : ∃ B, rightW w = B := ⟨_, rfl⟩
 rw [hB]
 unfold rightW rightO at hB
 refine g ?_
 repeat' (first | refine st_ rfl (g ?_) | (refine vops_ifd rfl rfl (fun h e => ?_) (fun h e => ?_) <;> simp only [e] <;> clear e <;> refine g ?_) | refine call_ (right_call _ _) rfl (g ?_))
 all_goals (rw [← hB, Bool.eq_iff_iff]; simp [*]; try omega)
theorem rwright_call (w : Write) : ACalls Tryz.prog TzTab 169 [wA w] (.val (.bool (rightW w))) [] := by
 refine ACalls.of (n := 16) (rs := [.tmp 2]) Tryz.func169 rfl (by kernel_rfl) Tryz.ntmps169 (by kernel_rfl) (by simp) (fun _ _ => TzTab.later) ?_
 intro hok V w0
 obtain ⟨B, hB⟩ : ∃ B, rightW w = B := ⟨_, rfl⟩
 rw [hB]
 unfold rightW rightO at hB
 refine g ?_
 repeat' (first | refine st_ rfl (g ?_) | (refine vops_ifd rfl rfl (fun h e => ?_) (fun h e => ?_) <;> simp only [e] <;> clear e <;> refine g ?_) | refine call_ (rright_call _ _) rfl (g ?_))
 all_goals (rw [← hB, Bool.eq_iff_iff]; simp [*]; try omega)
set_option maxRecDepth 100000 in
theorem shformed_call (l : List Write) : ACalls Tryz.prog TzTab 91 [.iv (wrI l)] (.val (.bool (shelfFormed l))) [] := by
 refine ACalls.of (n := 24) (rs := [.tmp 2]) Tryz.func91 rfl (by kernel_rfl) Tryz.ntmps91 (by kernel_rfl) (by simp) (fun _ _ => TzTab.later) ?_
 intro hok V w0
 have hlen : l.length ≤ 1073741824 := by simpa [wrI] using hok.1.1
 obtain ⟨B, hB⟩ : ∃ B, shelfFormed l = B := ⟨_, rfl⟩
 rw [hB]
 refine g ?_
 repeat' refine st_ rfl (g ?_)
 refine AW.loop (fun m : {m : Nat // m ≤ l.length ∧ shelfFrom (-1) (l.take m) = true} => ⟨[(3, .val (.int .i64 (shelfEnd (-1) (l.take m.1)))), (6, .iv (wrI l)), (7, .val (.int .i64 (l.length : Nat))), (8, .val (.int .i64 (m.1 : Nat)))], []⟩) (fun m => l.length - m.1) ⟨0, Nat.zero_le _, rfl⟩ id ⟨⟨rfl, rfl, rfl, rfl, trivial⟩, trivial, List.nodup_nil⟩ fun ⟨m, hm, ht⟩ => ?_
 refine g ?_
 repeat' (first | refine st_ rfl (g ?_) | refine cond_d (fun h => g ?_) (fun h => g ?_) | (refine vops_if rfl rfl (fun h => ?_) (fun h => ?_) <;> simp only [h] <;> refine g ?_) | refine ix_ (by omega) (g ?_) | refine call_ (wright_call _) rfl (g ?_))
 ·rw [← hB, shelf_at (by omega) ht]; simp at h; simp [h]
 ·rw [← hB, shelf_at (by omega) ht, decide_eq_false (by omega)]; simp
 ·obtain ⟨g1, g2⟩ := shelf_step (by omega) ht (by simp at *; assumption) (by omega)
  refine ⟨⟨m + 1, by omega, g1⟩, id, ⟨⟨by rw [g2]; rfl, rfl, rfl, rfl, trivial⟩, trivial, List.nodup_nil⟩, by show l.length - (m + 1) < l.length - m; omega⟩
 ·obtain rfl : m = l.length := by omega
  rw [List.take_length] at ht
  rw [← hB]; exact ht.symm
set_option maxRecDepth 100000 in
theorem rshformed_call (l : List Write) : ACalls Tryz.prog TzTab 126 [.iv (wrI l)] (.val (.bool (shelfFormed l))) [] := by
 refine ACalls.of (n := 34) (rs := [.tmp 2]) Tryz.func126 rfl (by kernel_rfl) Tryz.ntmps126 (by kernel_rfl) (by simp) (fun _ _ => TzTab.later) ?_
 intro hok V w0
 have hlen : l.length ≤ 1073741824 := by simpa [wrI] using hok.1.1
 obtain ⟨B, hB⟩ : ∃ B, shelfFormed l = B := ⟨_, rfl⟩
 rw [hB]
 refine g ?_
 repeat' refine st_ rfl (g ?_)
 refine AW.loop (fun m : {m : Nat // m ≤ l.length ∧ shelfFrom (-1) (l.take m) = true} => ⟨[(0, .iv (wrI l)), (3, .val (.int .i64 (m.1 : Nat)))], []⟩) (fun m => l.length - m.1) ⟨0, Nat.zero_le _, rfl⟩ id ⟨⟨rfl, rfl, trivial⟩, trivial, List.nodup_nil⟩ fun ⟨m, hm, ht⟩ => ?_
 refine g ?_
 repeat' (first | refine st_ rfl (g ?_) | refine cond_d (fun h => g ?_) (fun h => g ?_))
 ·refine AW.drawn (ds := [10, 11, 12, 13, 14, 15, 16, 17, 18, 19, 20, 21, 22, 23, 24, 25, 26, 27, 28, 29, 30, 31, 32, 33]) (fin := []) (bs := [0, 0, 0, 0, 0, 0, 0, 0, 0, 0, 0, 0, 0, 0, 0, 0, 0, 0, 0, 0, 0, 0, 0, 0]) [⟨[], [], [], [], 0⟩, ⟨[], [], [], [], 0⟩, ⟨[(10, 0), (11, 1)], [], [], [], 0⟩, ⟨[(12, 2)], [], [], [], 0⟩, ⟨[(13, 3)], [], [], [], 0⟩, ⟨[(14, 4)], [], [], [], 0⟩, ⟨[(15, 5)], [], [], [], 0⟩, ⟨[], [], [], [], 0⟩, ⟨[(17, 7)], [], [], [], 0⟩, ⟨[(18, 8)], [], [], [], 0⟩, ⟨[], [], [], [], 0⟩, ⟨[], [], [], [], 0⟩, ⟨[(21, 11)], [], [], [], 0⟩, ⟨[(20, 10), (22, 12)], [], [], [], 0⟩, ⟨[(23, 13)], [], [], [], 0⟩, ⟨[(24, 14)], [], [], [], 0⟩, ⟨[], [], [], [], 0⟩, ⟨[], [], [], [], 0⟩, ⟨[(26, 16), (27, 17)], [], [], [], 0⟩, ⟨[(28, 18)], [], [], [], 0⟩, ⟨[(29, 19)], [], [], [], 0⟩, ⟨[(25, 15), (30, 20)], [], [], [], 0⟩, ⟨[(19, 9), (31, 21)], [], [], [], 0⟩, ⟨[(16, 6), (32, 22)], [], [], [], 0⟩] (by kernel_rfl) rfl (by kernel_rfl) rfl rfl rfl fun KD hKD => ?_
  refine g ?_
  repeat' (first | refine st_ rfl (g ?_) | refine cond_d (fun h => g ?_) (fun h => g ?_) | (refine hKD _ _ ⟨rfl, g ?_⟩; clear hKD KD) | (refine vdraw_ifd rfl rfl (fun h e => ?_) (fun h e => ?_) <;> simp only [e] <;> clear e <;> refine g ?_) | (refine vdraw_if rfl rfl (fun h => ?_) (fun h => ?_) <;> simp only [h] <;> refine g ?_) | refine ix_ (by omega) (g ?_) | refine call_ (rwright_call _) rfl (g ?_) | (refine ixm (m - 1) (by omega) (by omega) (by omega) ?_) <;> refine g ?_)
  ·rw [← hB, shelf_at (by omega) ht]; simp at h; simp [h]
  ·rw [← hB, shelf_at (by omega) ht, shelfEnd_at (by omega) (by omega), decide_eq_false (by omega)]; simp
  ·obtain ⟨g1, g2⟩ := shelf_step (m := m) (by omega) ht (by simp at *; assumption) (by rw [shelfEnd_at (by omega) (by omega)]; omega)
   refine ⟨⟨m + 1, by omega, g1⟩, id, ⟨⟨rfl, rfl, trivial⟩, trivial, List.nodup_nil⟩, by show l.length - (m + 1) < l.length - m; omega⟩
  ·have hw : rightW l[m] = true := by simp at *; assumption
   obtain ⟨g1, g2⟩ := shelf_step (m := m) (by omega) ht hw (by
    rw [show l.take m = [] by rw [show m = 0 by omega]; rfl]
    simp only [rightW, rightO, Bool.and_eq_true, decide_eq_true_eq] at hw
    show (-1 : Int) < _
    omega)
   refine ⟨⟨m + 1, by omega, g1⟩, id, ⟨⟨rfl, rfl, trivial⟩, trivial, List.nodup_nil⟩, by show l.length - (m + 1) < l.length - m; omega⟩
 ·obtain rfl : m = l.length := by omega
  rw [List.take_length] at ht
  rw [← hB]; exact ht.symm
set_option maxRecDepth 100000 in
theorem rat_call (l : List Write) (o : Int) : ACalls Tryz.prog TzTab 111 [.iv (wrI l), .val (.int .i64 o)] (.tup [wA ((getW l o).getD noW), .val (.bool (getW l o).isSome)]) [] := by
 refine ACalls.of (n := 25) (rs := [.cell 4 55, .tmp 5]) Tryz.func111 rfl (by kernel_rfl) Tryz.ntmps111 (by kernel_rfl) (by simp) (fun _ _ => TzTab.later) ?_
 intro hok V w0
 have hlen : l.length ≤ 1073741824 := by simpa [wrI] using hok.1.1
 refine g ?_
 repeat' refine st_ rfl (g ?_)
 refine AW.loop (fun m : {m : Nat // m ≤ l.length ∧ ∀ w ∈ l.take m, ¬ w.object = o} => ⟨[(0, .iv (wrI l)), (1, .val (.int .i64 o)), (4, .bp 500 0), (6, .val (.int .i64 (m.1 : Nat)))], [.box 500 [.val (.int .i64 0), .val (.int .i64 0), .val (.int .i64 0), .val (.bool false)]]⟩) (fun m => l.length - m.1) ⟨0, Nat.zero_le _, fun w hw => by simp at hw⟩ id ⟨⟨rfl, rfl, rfl, rfl, trivial⟩, ⟨rfl, trivial⟩, by simp [idsOf, BA.id]⟩ fun ⟨m, hm, ht⟩ => ?_
 refine g ?_
 repeat' (first | refine st_ rfl (g ?_) | refine cond_d (fun h => g ?_) (fun h => g ?_) | refine ix_ (by omega) (g ?_))
 ·rw [getW_some ht (by omega) h]; rfl
 ·refine ⟨⟨m + 1, by omega, getW_step (by omega) ht h⟩, id, ⟨⟨rfl, rfl, rfl, rfl, trivial⟩, ⟨rfl, trivial⟩, by simp [idsOf, BA.id]⟩, by show l.length - (m + 1) < l.length - m; omega⟩
 ·obtain rfl : m = l.length := by omega
  rw [List.take_length] at ht
  rw [getW_none ht]; rfl
end Go.Proofs.YtkphfdmelfhnoaaGreatDoor
