/- A part of a log, as it is seen, told in batches (the reference's). -/
import Derived.Test.YtdbeoigbkkdpdaaGreatDoorPRefThr
import Derived.Test.YtdbeoigbkkdpdaaGreatDoorPNoteMerge
import Derived.Test.YtdbeoigbkkdpdaaGreatDoorPRefNote
import Derived.Test.YtdbeoigbkkdpdaaGreatDoorPRefLog
import Derived.Test.YtdbeoigbkkdpdaaGreatDoorPBatch
set_option linter.all false
set_option linter.unnecessarySimpa false
set_option linter.unusedSimpArgs false
set_option linter.unusedVariables false
/- One note for two dull ones of which the second goes on where the first ends (the reference's). -/
namespace Go.Proofs.YtdbeoigbkkdpdaaGreatDoor
open Go.ChangeShapes Go.WideShapes Go.ChangeAt Go.RowKit
attribute [local irreducible] setI c64I
attribute [local irreducible] AW AWY vops vopsY vop vopL vdraw callW qop binQ lenQ storeQ appendQ callQ ACalls AIter
attribute [local go_sem] noteA_eq storeQ_agg storeQ_val storeQ_iv storeQ_own wrI_eq List.map_nil nilW_eq List.length_nil

theorem rvofD (c : Nat → Int) (hc : ∀ n, n < 64 → I64 (c n)) : ACalls Tryz.prog TzTab 111 [.aggI (c64I c)] (.iv (stI (vecOf c))) [] := (rvof_call c hc).frz trivial
theorem rvtwoE (l m : List Stamp) : ACalls Tryz.prog TzTab 54 [.iv (stI l), .iv (stI m)] (.iv (stI (joinS [l, m]))) [] := (rvtwo_call l m).frz trivial
theorem rstwoD (l m : List Span) : ACalls Tryz.prog TzTab 112 [.iv (spI l), .iv (spI m)] (.iv (spI (tidyS (l ++ m)))) [] := (rstwo_call l m).frz trivial
theorem countOf_i64 : ∀ {l : List Stamp} (_ : ∀ s ∈ l, I64 s.count) (n : Int), I64 (countOf l n)
  | [], _, _ => rfl
  | s :: l, h, n => by
    unfold countOf
    split
    · exact h s (by simp)
    · exact countOf_i64 (fun t ht => h t (List.mem_cons_of_mem _ ht)) n
theorem rat_nil (o : Int) : ACalls Tryz.prog TzTab 113 [nilW, .val (.int .i64 o)] (.tup [.agg [.val (.int .i64 0), .val (.int .i64 0), .val (.int .i64 0), .val (.bool false)], .val (.bool false)]) [] := by
  refine ACalls.of (n := 25) (rs := [.cell 4 77, .tmp 5]) Tryz.func113 rfl (by kernel_rfl) Tryz.ntmps113 (by kernel_rfl) (by simp) (fun _ _ => TzTab.later) ?_
  intro hok V w0
  simp -implicitDefEqProofs (disch := first | with_unfolding_all exact Eq.trans rfl rfl | omega) only [go_sem, seval]
  try simp -implicitDefEqProofs (disch := first | with_unfolding_all exact Eq.trans rfl rfl | omega) only [go_sem, seval]
  repeat' ((first | refine st_ rfl ?_ | refine hold_ ?_ | refine cond_ (fun h => ?_) (fun h => ?_) | (refine hKD _ _ ⟨rfl, ?_⟩; clear hKD KD)) <;> try simp -implicitDefEqProofs (disch := first | with_unfolding_all exact Eq.trans rfl rfl | omega) only [go_sem, seval])
  refine AW.loop (fun _ : Unit => ⟨[(0, nilW), (4, .bp 500 0), (6, .val (.int .i64 0))], [.box 500 [.val (.int .i64 0), .val (.int .i64 0), .val (.int .i64 0), .val (.bool false)]]⟩) (fun _ => 0) () id ⟨⟨rfl, rfl, rfl, trivial⟩, ⟨rfl, trivial⟩, by simp [idsOf, BA.id]⟩ fun _ => ?_
  try simp -implicitDefEqProofs (disch := first | with_unfolding_all exact Eq.trans rfl rfl | omega) only [go_sem, seval]
  repeat' ((first | refine st_ rfl ?_ | refine hold_ ?_ | refine cond_ (fun h => ?_) (fun h => ?_) | (refine hKD _ _ ⟨rfl, ?_⟩; clear hKD KD)) <;> try simp -implicitDefEqProofs (disch := first | with_unfolding_all exact Eq.trans rfl rfl | omega) only [go_sem, seval])
  first | exact ⟨.inl trivial, id, List.nodup_nil⟩ | exact ⟨.inl trivial, id, rfl, List.nodup_nil⟩
set_option maxHeartbeats 3200000 in
set_option maxRecDepth 100000 in
theorem rmerge_call (a b : Note) (ha : noteFormed a = true) (hb : noteFormed b = true) (hwa : a.writes = []) (hwb : b.writes = []) (he : a.end_ = b.start) : ACalls Tryz.prog TzTab 48 [noteA a, noteA b] (.tup [noteA (mergeN a b), .val (.int .i64 0)]) [] := by
  have hva := rnformed_call a
  have hvb := rnformed_call b
  rw [ha] at hva
  rw [hb] at hvb
  have hsa := (noteFormed_iff.1 ha).1
  obtain ⟨sa, ea, ba, wa⟩ := a
  obtain ⟨sb, eb, bb, wb⟩ := b
  simp only at hwa hwb he hsa
  subst hwa hwb he
  refine ACalls.ofS (n := 116) (rs := [.cell 4 79, .tmp 5]) Tryz.func48 rfl (by kernel_rfl) Tryz.ntmps48 (by kernel_rfl) (by simp) (fun _ _ => TzTab.later) ?_
  intro hok V w0
  have hsi : ∀ s ∈ sa, I64 s.count := fun s hs => by
    obtain ⟨-, h1, -⟩ := okR_mem hok.1.1.2 (enSt s) (List.mem_map_of_mem hs)
    exact h1
  simp -implicitDefEqProofs (disch := first | with_unfolding_all exact Eq.trans rfl rfl | omega) only [go_sem, seval]
  refine AW.seq ?_
  refine AW.reg rfl fun KK hKK => ?_
  try simp -implicitDefEqProofs (disch := first | with_unfolding_all exact Eq.trans rfl rfl | omega) only [go_sem, seval]
  repeat' ((first | refine hold_ ?_ | (refine hKK _ ?_; clear hKK KK)) <;> try simp -implicitDefEqProofs (disch := first | with_unfolding_all exact Eq.trans rfl rfl | omega) only [go_sem, seval])
  refine AW.freeze 300 _ rfl ⟨trivial, trivial, trivial, trivial, trivial⟩ ?_
  simp only [go_sem, reduceIte, Nat.reduceEqDiff]
  refine AW.freeze 400 _ rfl ⟨trivial, trivial, trivial, trivial, trivial⟩ ?_
  simp only [go_sem, reduceIte, Nat.reduceEqDiff]
  try simp -implicitDefEqProofs (disch := first | with_unfolding_all exact Eq.trans rfl rfl | omega) only [go_sem, seval]
  repeat' ((first | refine st_ rfl ?_ | refine hold_ ?_ | refine cond_ (fun h => ?_) (fun h => ?_) | (refine hKD _ _ ⟨rfl, ?_⟩; clear hKD KD)) <;> try simp -implicitDefEqProofs (disch := first | with_unfolding_all exact Eq.trans rfl rfl | omega) only [go_sem, seval])
  refine call_ hva rfl ?_
  try simp -implicitDefEqProofs (disch := first | with_unfolding_all exact Eq.trans rfl rfl | omega) only [go_sem, seval]
  repeat' ((first | refine st_ rfl ?_ | refine hold_ ?_ | refine cond_ (fun h => ?_) (fun h => ?_) | (refine hKD _ _ ⟨rfl, ?_⟩; clear hKD KD)) <;> try simp -implicitDefEqProofs (disch := first | with_unfolding_all exact Eq.trans rfl rfl | omega) only [go_sem, seval])
  refine call_ hvb rfl ?_
  try simp -implicitDefEqProofs (disch := first | with_unfolding_all exact Eq.trans rfl rfl | omega) only [go_sem, seval]
  repeat' ((first | refine st_ rfl ?_ | refine hold_ ?_ | refine cond_ (fun h => ?_) (fun h => ?_) | (refine hKD _ _ ⟨rfl, ?_⟩; clear hKD KD)) <;> try simp -implicitDefEqProofs (disch := first | with_unfolding_all exact Eq.trans rfl rfl | omega) only [go_sem, seval])
  refine AW.drawn (ds := [26, 27, 28, 29, 30, 31, 32, 33, 34, 6, 7, 8]) (fin := [0, 4, 5, 6]) (bs := [1, 1, 1, 1, 1, 1, 1, 1, 1, 1, 2, 3, 4, 5, 6]) [⟨[], [], [], [], 0⟩, ⟨[(26, 0)], [], [0], [], 0⟩, ⟨[(27, 1)], [], [0], [], 0⟩, ⟨[], [], [], [], 0⟩, ⟨[(29, 3)], [], [0], [], 0⟩, ⟨[(30, 4)], [], [0], [], 0⟩, ⟨[], [], [], [], 0⟩, ⟨[(32, 6)], [], [0], [], 0⟩, ⟨[(33, 7)], [], [0], [], 0⟩, ⟨[], [], [], [], 1⟩, ⟨[], [], [], [], 1⟩, ⟨[], [], [], [], 1⟩, ⟨[(6, 9), (28, 2)], [], [], [1], 1⟩, ⟨[(7, 10), (31, 5)], [], [], [2], 1⟩, ⟨[(8, 11), (34, 8)], [], [], [3], 1⟩] (by kernel_rfl) rfl (by kernel_rfl) rfl rfl rfl fun KD hKD => ?_
  try simp -implicitDefEqProofs (disch := first | with_unfolding_all exact Eq.trans rfl rfl | omega) only [go_sem, seval]
  repeat' ((first | refine hold_ ?_ | (refine hKD _ _ ⟨rfl, ?_⟩; clear hKD KD)) <;> try simp -implicitDefEqProofs (disch := first | with_unfolding_all exact Eq.trans rfl rfl | omega) only [go_sem, seval])
  refine call_ (rcounts_call sa) rfl ?_
  try simp -implicitDefEqProofs (disch := first | with_unfolding_all exact Eq.trans rfl rfl | omega) only [go_sem, seval]
  repeat' ((first | refine hold_ ?_ | (refine hKD _ _ ⟨rfl, ?_⟩; clear hKD KD)) <;> try simp -implicitDefEqProofs (disch := first | with_unfolding_all exact Eq.trans rfl rfl | omega) only [go_sem, seval])
  refine call_ (rcounts_call ea) rfl ?_
  try simp -implicitDefEqProofs (disch := first | with_unfolding_all exact Eq.trans rfl rfl | omega) only [go_sem, seval]
  repeat' ((first | refine hold_ ?_ | (refine hKD _ _ ⟨rfl, ?_⟩; clear hKD KD)) <;> try simp -implicitDefEqProofs (disch := first | with_unfolding_all exact Eq.trans rfl rfl | omega) only [go_sem, seval])
  refine call_ (rcounts_call ea) rfl ?_
  try simp -implicitDefEqProofs (disch := first | with_unfolding_all exact Eq.trans rfl rfl | omega) only [go_sem, seval]
  repeat' ((first | refine hold_ ?_ | (refine hKD _ _ ⟨rfl, ?_⟩; clear hKD KD)) <;> try simp -implicitDefEqProofs (disch := first | with_unfolding_all exact Eq.trans rfl rfl | omega) only [go_sem, seval])
  refine store_ar (q := 2) (s := 64) (by kernel_rfl) (c64I_len _) rfl (by simp [rep]) ?_
  try simp -implicitDefEqProofs (disch := first | with_unfolding_all exact Eq.trans rfl rfl | omega) only [go_sem, seval]
  repeat' ((first | refine hold_ ?_ | (refine hKD _ _ ⟨rfl, ?_⟩; clear hKD KD)) <;> try simp -implicitDefEqProofs (disch := first | with_unfolding_all exact Eq.trans rfl rfl | omega) only [go_sem, seval])
  refine store_ar (q := 2) (s := 64) (by kernel_rfl) (c64I_len _) rfl (by simp [rep]) ?_
  try simp -implicitDefEqProofs (disch := first | with_unfolding_all exact Eq.trans rfl rfl | omega) only [go_sem, seval]
  repeat' ((first | refine hold_ ?_ | (refine hKD _ _ ⟨rfl, ?_⟩; clear hKD KD)) <;> try simp -implicitDefEqProofs (disch := first | with_unfolding_all exact Eq.trans rfl rfl | omega) only [go_sem, seval])
  refine store_ar (q := 2) (s := 64) (by kernel_rfl) (c64I_len _) rfl (by simp [rep]) ?_
  try simp -implicitDefEqProofs (disch := first | with_unfolding_all exact Eq.trans rfl rfl | omega) only [go_sem, seval]
  repeat' ((first | refine hold_ ?_ | (refine hKD _ _ ⟨rfl, ?_⟩; clear hKD KD)) <;> try simp -implicitDefEqProofs (disch := first | with_unfolding_all exact Eq.trans rfl rfl | omega) only [go_sem, seval])
  refine AW.freeze 700 _ rfl trivial ?_
  simp only [go_sem, reduceIte, Nat.reduceEqDiff]
  refine AW.freeze 800 _ rfl trivial ?_
  simp only [go_sem, reduceIte, Nat.reduceEqDiff]
  refine AW.freeze 900 _ rfl trivial ?_
  simp only [go_sem, reduceIte, Nat.reduceEqDiff]
  try simp -implicitDefEqProofs (disch := first | with_unfolding_all exact Eq.trans rfl rfl | omega) only [go_sem, seval]
  repeat' ((first | refine st_ rfl ?_ | refine hold_ ?_ | refine cond_ (fun h => ?_) (fun h => ?_) | (refine hKD _ _ ⟨rfl, ?_⟩; clear hKD KD)) <;> try simp -implicitDefEqProofs (disch := first | with_unfolding_all exact Eq.trans rfl rfl | omega) only [go_sem, seval])
  refine AW.loop (fun m : {m : Nat // m ≤ 64} => ⟨[(2, .ip [stI sa, stI ea, spI ba, .sl 4 []]), (3, .ip [stI ea, stI eb, spI bb, .sl 4 []]), (4, .bp 500 0), (5, .val (.int .i64 0)), (6, .ip (c64I fun n => countOf sa n)), (7, .ip (c64I fun n => countOf ea n)), (8, .ip (c64I fun n => countOf ea n)), (9, .val (.int .i64 (m.1 : Nat)))], [.box 500 [.val (.slice none 0 0), .val (.slice none 0 0), .val (.slice none 0 0), .val (.slice none 0 0)]]⟩) (fun m => 64 - m.1) ⟨0, Nat.zero_le _⟩ id ⟨⟨rfl, rfl, rfl, rfl, rfl, rfl, rfl, rfl, trivial⟩, ⟨rfl, trivial⟩, by simp [idsOf, BA.id]⟩ fun ⟨m, hm⟩ => ?_
  try simp -implicitDefEqProofs (disch := first | with_unfolding_all exact Eq.trans rfl rfl | omega) only [go_sem, seval]
  repeat' ((first | refine st_ rfl ?_ | refine hold_ ?_ | refine cond_ (fun h => ?_) (fun h => ?_) | (refine hKD _ _ ⟨rfl, ?_⟩; clear hKD KD)) <;> try simp -implicitDefEqProofs (disch := first | with_unfolding_all exact Eq.trans rfl rfl | omega) only [go_sem, seval])
  · have hlt : m < 64 := by have := of_decide_eq_true h; omega
    refine AW.drawn (ds := [39, 40, 41, 42, 43, 44, 45]) (fin := [0]) (bs := [1, 1, 1, 1, 1, 1, 1]) [⟨[], [], [], [], 0⟩, ⟨[(39, 0)], [], [0], [], 0⟩, ⟨[(40, 1)], [], [0], [], 0⟩, ⟨[], [], [], [], 0⟩, ⟨[(42, 3)], [], [0], [], 0⟩, ⟨[(43, 4)], [], [0], [], 0⟩, ⟨[(41, 2), (44, 5)], [], [], [], 0⟩] (by kernel_rfl) rfl (by kernel_rfl) rfl rfl rfl fun KD hKD => ?_
    try simp -implicitDefEqProofs (disch := first | with_unfolding_all exact Eq.trans rfl rfl | omega) only [go_sem, seval]
    repeat' ((first | refine hold_ ?_ | (refine hKD _ _ ⟨rfl, ?_⟩; clear hKD KD)) <;> try simp -implicitDefEqProofs (disch := first | with_unfolding_all exact Eq.trans rfl rfl | omega) only [go_sem, seval])
    refine ⟨by omega, by omega, ?_⟩
    rw [Nat.mul_one]
    try simp -implicitDefEqProofs (disch := first | with_unfolding_all exact Eq.trans rfl rfl | omega) only [go_sem, seval]
    repeat' ((first | refine hold_ ?_ | (refine hKD _ _ ⟨rfl, ?_⟩; clear hKD KD)) <;> try simp -implicitDefEqProofs (disch := first | with_unfolding_all exact Eq.trans rfl rfl | omega) only [go_sem, seval])
    refine rdI_drop (c64I_at hlt) ?_
    try simp -implicitDefEqProofs (disch := first | with_unfolding_all exact Eq.trans rfl rfl | omega) only [go_sem, seval]
    repeat' ((first | refine hold_ ?_ | (refine hKD _ _ ⟨rfl, ?_⟩; clear hKD KD)) <;> try simp -implicitDefEqProofs (disch := first | with_unfolding_all exact Eq.trans rfl rfl | omega) only [go_sem, seval])
    refine ⟨by omega, by omega, ?_⟩
    rw [Nat.mul_one]
    try simp -implicitDefEqProofs (disch := first | with_unfolding_all exact Eq.trans rfl rfl | omega) only [go_sem, seval]
    repeat' ((first | refine hold_ ?_ | (refine hKD _ _ ⟨rfl, ?_⟩; clear hKD KD)) <;> try simp -implicitDefEqProofs (disch := first | with_unfolding_all exact Eq.trans rfl rfl | omega) only [go_sem, seval])
    refine rdI_drop (c64I_at hlt) ?_
    try simp -implicitDefEqProofs (disch := first | with_unfolding_all exact Eq.trans rfl rfl | omega) only [go_sem, seval]
    repeat' ((first | refine hold_ ?_ | (refine hKD _ _ ⟨rfl, ?_⟩; clear hKD KD)) <;> try simp -implicitDefEqProofs (disch := first | with_unfolding_all exact Eq.trans rfl rfl | omega) only [go_sem, seval])
    try simp -implicitDefEqProofs (disch := first | with_unfolding_all exact Eq.trans rfl rfl | omega) only [go_sem, seval]
    repeat' ((first | refine st_ rfl ?_ | refine hold_ ?_ | refine cond_ (fun h => ?_) (fun h => ?_) | (refine hKD _ _ ⟨rfl, ?_⟩; clear hKD KD)) <;> try simp -implicitDefEqProofs (disch := first | with_unfolding_all exact Eq.trans rfl rfl | omega) only [go_sem, seval])
    · exact absurd (of_decide_eq_true h) (Int.lt_irrefl _)
    exact ⟨⟨m + 1, hlt⟩, id, ⟨⟨rfl, rfl, rfl, rfl, rfl, rfl, rfl, rfl, trivial⟩, ⟨rfl, trivial⟩, by simp [idsOf, BA.id]⟩, by show 64 - (m + 1) < 64 - m; omega⟩
  · clear hm h
    refine AW.drawn (ds := [51, 52, 53, 54, 55, 56, 57, 58, 59, 60, 61, 62, 63, 10]) (fin := [0, 2]) (bs := [1, 1, 1, 1, 1, 1, 1, 1, 1, 1, 1, 1, 1, 1, 2]) [⟨[], [], [0], [], 0⟩, ⟨[(51, 0)], [], [0], [], 0⟩, ⟨[], [], [], [], 0⟩, ⟨[(53, 2)], [], [0], [], 0⟩, ⟨[], [], [], [], 0⟩, ⟨[(55, 4)], [], [0], [], 0⟩, ⟨[(54, 3), (56, 5)], [], [0], [], 0⟩, ⟨[], [], [], [], 0⟩, ⟨[(58, 7)], [], [0], [], 0⟩, ⟨[], [], [], [], 0⟩, ⟨[(60, 9)], [], [0], [], 0⟩, ⟨[(59, 8), (61, 10)], [], [0], [], 0⟩, ⟨[(52, 1), (57, 6), (62, 11)], [], [], [], 0⟩, ⟨[], [], [], [], 1⟩, ⟨[(10, 13), (63, 12)], [], [], [1], 1⟩] (by kernel_rfl) rfl (by kernel_rfl) rfl rfl rfl fun KD hKD => ?_
    try simp -implicitDefEqProofs (disch := first | with_unfolding_all exact Eq.trans rfl rfl | omega) only [go_sem, seval]
    repeat' ((first | refine hold_ ?_ | (refine hKD _ _ ⟨rfl, ?_⟩; clear hKD KD)) <;> try simp -implicitDefEqProofs (disch := first | with_unfolding_all exact Eq.trans rfl rfl | omega) only [go_sem, seval])
    refine ⟨Nat.le_of_eq (c64I_len _).symm, ?_⟩
    rw [List.take_of_length_le (Nat.le_of_eq (c64I_len _))]
    refine call_ (rvofD (fun n => countOf sa n) (fun n _ => countOf_i64 hsi n)) rfl ?_
    try simp -implicitDefEqProofs (disch := first | with_unfolding_all exact Eq.trans rfl rfl | omega) only [go_sem, seval]
    repeat' ((first | refine hold_ ?_ | (refine hKD _ _ ⟨rfl, ?_⟩; clear hKD KD)) <;> try simp -implicitDefEqProofs (disch := first | with_unfolding_all exact Eq.trans rfl rfl | omega) only [go_sem, seval])
    refine call_ (rvtwoE ea eb) rfl ?_
    try simp -implicitDefEqProofs (disch := first | with_unfolding_all exact Eq.trans rfl rfl | omega) only [go_sem, seval]
    repeat' ((first | refine hold_ ?_ | (refine hKD _ _ ⟨rfl, ?_⟩; clear hKD KD)) <;> try simp -implicitDefEqProofs (disch := first | with_unfolding_all exact Eq.trans rfl rfl | omega) only [go_sem, seval])
    refine call_ (rstwoD ba bb) rfl ?_
    try simp -implicitDefEqProofs (disch := first | with_unfolding_all exact Eq.trans rfl rfl | omega) only [go_sem, seval]
    repeat' ((first | refine hold_ ?_ | (refine hKD _ _ ⟨rfl, ?_⟩; clear hKD KD)) <;> try simp -implicitDefEqProofs (disch := first | with_unfolding_all exact Eq.trans rfl rfl | omega) only [go_sem, seval])
    try simp -implicitDefEqProofs (disch := first | with_unfolding_all exact Eq.trans rfl rfl | omega) only [go_sem, seval]
    repeat' ((first | refine st_ rfl ?_ | refine hold_ ?_ | refine cond_ (fun h => ?_) (fun h => ?_) | (refine hKD _ _ ⟨rfl, ?_⟩; clear hKD KD)) <;> try simp -implicitDefEqProofs (disch := first | with_unfolding_all exact Eq.trans rfl rfl | omega) only [go_sem, seval])
    refine call_ (rset_call (tidyS (ba ++ bb))) rfl ?_
    try simp -implicitDefEqProofs (disch := first | with_unfolding_all exact Eq.trans rfl rfl | omega) only [go_sem, seval]
    repeat' ((first | refine st_ rfl ?_ | refine hold_ ?_ | refine cond_ (fun h => ?_) (fun h => ?_) | (refine hKD _ _ ⟨rfl, ?_⟩; clear hKD KD)) <;> try simp -implicitDefEqProofs (disch := first | with_unfolding_all exact Eq.trans rfl rfl | omega) only [go_sem, seval])
    refine store_ar (q := 2) (s := 256) (by kernel_rfl) (setI_len _) rfl (by simp [rep]) ?_
    try simp -implicitDefEqProofs (disch := first | with_unfolding_all exact Eq.trans rfl rfl | omega) only [go_sem, seval]
    repeat' ((first | refine hold_ ?_ | (refine hKK _ ?_; clear hKK KK)) <;> try simp -implicitDefEqProofs (disch := first | with_unfolding_all exact Eq.trans rfl rfl | omega) only [go_sem, seval])
    refine AW.freeze 1200 _ rfl trivial ?_
    simp only [go_sem, reduceIte, Nat.reduceEqDiff]
    try simp -implicitDefEqProofs (disch := first | with_unfolding_all exact Eq.trans rfl rfl | omega) only [go_sem, seval]
    repeat' ((first | refine st_ rfl ?_ | refine hold_ ?_ | refine cond_ (fun h => ?_) (fun h => ?_) | (refine hKD _ _ ⟨rfl, ?_⟩; clear hKD KD)) <;> try simp -implicitDefEqProofs (disch := first | with_unfolding_all exact Eq.trans rfl rfl | omega) only [go_sem, seval])
    refine AW.loop (fun m : {m : Nat // m ≤ 256} => ⟨[(2, .ip [stI sa, stI ea, spI ba, .sl 4 []]), (3, .ip [stI ea, stI eb, spI bb, .sl 4 []]), (4, .bp 500 0), (5, .val (.int .i64 0)), (10, .bp 1100 0), (11, .ip (setI fun o => memB (tidyS (ba ++ bb)) o)), (12, .val (.int .i64 (m.1 : Nat)))], [.box 1100 [.iv (stI (vecOf fun n => countOf sa n)), .iv (stI (joinS [ea, eb])), .iv (spI (tidyS (ba ++ bb))), .val (.slice none 0 0)], .box 500 [.val (.slice none 0 0), .val (.slice none 0 0), .val (.slice none 0 0), .val (.slice none 0 0)]]⟩) (fun m => 256 - m.1) ⟨0, Nat.zero_le _⟩ id ⟨⟨rfl, rfl, rfl, rfl, rfl, rfl, rfl, trivial⟩, ⟨rfl, rfl, trivial⟩, by simp [idsOf, BA.id]⟩ fun ⟨m, hm⟩ => ?_
    try simp -implicitDefEqProofs (disch := first | with_unfolding_all exact Eq.trans rfl rfl | omega) only [go_sem, seval]
    repeat' ((first | refine st_ rfl ?_ | refine hold_ ?_ | refine cond_ (fun h => ?_) (fun h => ?_) | (refine hKD _ _ ⟨rfl, ?_⟩; clear hKD KD)) <;> try simp -implicitDefEqProofs (disch := first | with_unfolding_all exact Eq.trans rfl rfl | omega) only [go_sem, seval])
    · have hlt : m < 256 := by have := of_decide_eq_true h; omega
      refine call_ (rat_nil (m : Nat)) rfl ?_
      try simp -implicitDefEqProofs (disch := first | with_unfolding_all exact Eq.trans rfl rfl | omega) only [go_sem, seval]
      repeat' ((first | refine st_ rfl ?_ | refine hold_ ?_ | refine cond_ (fun h => ?_) (fun h => ?_) | (refine hKD _ _ ⟨rfl, ?_⟩; clear hKD KD)) <;> try simp -implicitDefEqProofs (disch := first | with_unfolding_all exact Eq.trans rfl rfl | omega) only [go_sem, seval])
      refine call_ (rat_nil (m : Nat)) rfl ?_
      try simp -implicitDefEqProofs (disch := first | with_unfolding_all exact Eq.trans rfl rfl | omega) only [go_sem, seval]
      repeat' ((first | refine st_ rfl ?_ | refine hold_ ?_ | refine cond_ (fun h => ?_) (fun h => ?_) | (refine hKD _ _ ⟨rfl, ?_⟩; clear hKD KD)) <;> try simp -implicitDefEqProofs (disch := first | with_unfolding_all exact Eq.trans rfl rfl | omega) only [go_sem, seval])
      exact ⟨⟨m + 1, hlt⟩, id, ⟨⟨rfl, rfl, rfl, rfl, rfl, rfl, rfl, trivial⟩, ⟨rfl, rfl, trivial⟩, by simp [idsOf, BA.id]⟩, by show 256 - (m + 1) < 256 - m; omega⟩
    · rw [vecOf_count hsa]
      refine ⟨.inl trivial, id, tup_sub rfl fun p hp => ?_, List.nodup_nil⟩
      simp only [List.zip_cons_cons, List.zip_nil_right, List.mem_cons, List.not_mem_nil, or_false] at hp
      rcases hp with rfl | rfl
      · refine agg_sub rfl fun p hp => ?_
        simp only [List.zip_cons_cons, List.zip_nil_right, List.mem_cons, List.not_mem_nil, or_false] at hp
        rcases hp with rfl | rfl | rfl | rfl
        · exact Sub1.rfl_ _
        · exact Sub1.rfl_ _
        · exact Sub1.rfl_ _
        · exact nil_sub 4
      · exact Sub1.rfl_ _
end Go.Proofs.YtdbeoigbkkdpdaaGreatDoor
/- Whether a dull note goes on with another one (the reference's). -/
namespace Go.Proofs.YtdbeoigbkkdpdaaGreatDoor
open Go.ChangeShapes Go.WideShapes Go.ChangeAt Go.RowKit
attribute [local irreducible] AW AWY vops vopsY vop vopL vdraw callW qop binQ lenQ storeQ appendQ callQ ACalls AIter
attribute [local go_sem] wrI_eq noteA_eq storeQ_bp storeQ_rp

theorem rsmeetD (l m : List Span) : ACalls Tryz.prog TzTab 78 [.iv (spI l), .iv (spI m)] (.iv (spI (meetS2 l m))) [] := (rsmeet_call l m).frz trivial
set_option maxHeartbeats 1600000 in
set_option maxRecDepth 100000 in
theorem rgoes_call (a b : Note) (it : List Span) : ACalls Tryz.prog TzTab 47 [noteA a, noteA b, .iv (spI it)] (.val (.bool (goesS it a b))) [] := by
  refine ACalls.of (n := 35) (rs := [.tmp 6]) Tryz.func47 rfl (by kernel_rfl) Tryz.ntmps47 (by kernel_rfl) (by simp) (fun _ _ => TzTab.later) ?_
  intro hok V w0
  have hla : a.writes.length ≤ 1073741824 := by simpa using hok.1.2.2.2.1.1
  have hlb : b.writes.length ≤ 1073741824 := by simpa using hok.2.1.2.2.2.1.1
  obtain ⟨B, hB⟩ : ∃ B, goesS it a b = B := ⟨_, rfl⟩
  rw [hB]
  unfold goesS at hB
  simp -implicitDefEqProofs (disch := first | with_unfolding_all exact Eq.trans rfl rfl | omega) only [go_sem, seval]
  refine AW.seq ?_
  refine AW.reg rfl fun KK hKK => ?_
  try simp -implicitDefEqProofs (disch := first | with_unfolding_all exact Eq.trans rfl rfl | omega) only [go_sem, seval]
  repeat' ((first | refine hold_ ?_ | (refine hKK _ ?_; clear hKK KK)) <;> try simp -implicitDefEqProofs (disch := first | with_unfolding_all exact Eq.trans rfl rfl | omega) only [go_sem, seval])
  refine AW.freeze 400 _ rfl ⟨trivial, trivial, trivial, trivial, trivial⟩ ?_
  simp only [go_sem, reduceIte, Nat.reduceEqDiff]
  refine AW.freeze 500 _ rfl ⟨trivial, trivial, trivial, trivial, trivial⟩ ?_
  simp only [go_sem, reduceIte, Nat.reduceEqDiff]
  try simp -implicitDefEqProofs (disch := first | with_unfolding_all exact Eq.trans rfl rfl | omega) only [go_sem, seval]
  repeat' ((first | refine st_ rfl ?_ | refine hold_ ?_ | refine cond_ (fun h => ?_) (fun h => ?_) | (refine hKD _ _ ⟨rfl, ?_⟩; clear hKD KD)) <;> try simp -implicitDefEqProofs (disch := first | with_unfolding_all exact Eq.trans rfl rfl | omega) only [go_sem, seval])
  refine AW.drawn (ds := [7, 8, 9, 10, 11, 12, 13, 14, 15, 16, 17, 18, 19, 20, 21, 22, 23, 24, 25, 26, 27, 28, 29, 30, 31, 32, 33, 34, 6]) (fin := []) (bs := [0, 0, 0, 0, 0, 0, 0, 0, 0, 0, 0, 0, 0, 0, 0, 0, 0, 0, 0, 0, 0, 0, 0, 0, 0, 0, 0, 0, 0]) [⟨[], [], [], [], 0⟩, ⟨[(7, 0)], [], [], [], 0⟩, ⟨[(8, 1)], [], [], [], 0⟩, ⟨[(9, 2)], [], [], [], 0⟩, ⟨[(10, 3)], [], [], [], 0⟩, ⟨[], [], [], [], 0⟩, ⟨[(12, 5)], [], [], [], 0⟩, ⟨[(13, 6)], [], [], [], 0⟩, ⟨[(14, 7)], [], [], [], 0⟩, ⟨[(11, 4), (15, 8)], [], [], [], 0⟩, ⟨[(16, 9)], [], [], [], 0⟩, ⟨[], [], [], [], 0⟩, ⟨[(18, 11)], [], [], [], 0⟩, ⟨[], [], [], [], 0⟩, ⟨[(20, 13)], [], [], [], 0⟩, ⟨[(19, 12), (21, 14)], [], [], [], 0⟩, ⟨[(17, 10), (22, 15)], [], [], [], 0⟩, ⟨[(23, 16)], [], [], [], 0⟩, ⟨[], [], [], [], 0⟩, ⟨[(25, 18)], [], [], [], 0⟩, ⟨[], [], [], [], 0⟩, ⟨[(26, 19), (27, 20)], [], [], [], 0⟩, ⟨[], [], [], [], 0⟩, ⟨[(29, 22)], [], [], [], 0⟩, ⟨[], [], [], [], 0⟩, ⟨[(30, 23), (31, 24)], [], [], [], 0⟩, ⟨[(28, 21), (32, 25)], [], [], [], 0⟩, ⟨[(24, 17), (33, 26)], [], [], [], 0⟩, ⟨[(34, 27)], [], [], [], 0⟩] (by kernel_rfl) rfl (by kernel_rfl) rfl rfl rfl fun KD hKD => ?_
  try simp -implicitDefEqProofs (disch := first | with_unfolding_all exact Eq.trans rfl rfl | omega) only [go_sem, seval]
  repeat' ((first | refine hold_ ?_ | (refine hKD _ _ ⟨rfl, ?_⟩; clear hKD KD)) <;> try simp -implicitDefEqProofs (disch := first | with_unfolding_all exact Eq.trans rfl rfl | omega) only [go_sem, seval])
  by_cases wa : a.writes = []
  · have d1 : decide ((a.writes.length : Int) = 0) = true := by simp [wa]
    rw [decide_eq_true wa, Bool.true_and] at hB
    simp only [d1]
    try simp -implicitDefEqProofs (disch := first | with_unfolding_all exact Eq.trans rfl rfl | omega) only [go_sem, seval]
    repeat' ((first | refine hold_ ?_ | (refine hKD _ _ ⟨rfl, ?_⟩; clear hKD KD)) <;> try simp -implicitDefEqProofs (disch := first | with_unfolding_all exact Eq.trans rfl rfl | omega) only [go_sem, seval])
    by_cases wb : b.writes = []
    · have d2 : decide ((b.writes.length : Int) = 0) = true := by simp [wb]
      rw [decide_eq_true wb, Bool.true_and] at hB
      simp only [d2]
      try simp -implicitDefEqProofs (disch := first | with_unfolding_all exact Eq.trans rfl rfl | omega) only [go_sem, seval]
      repeat' ((first | refine hold_ ?_ | (refine hKD _ _ ⟨rfl, ?_⟩; clear hKD KD)) <;> try simp -implicitDefEqProofs (disch := first | with_unfolding_all exact Eq.trans rfl rfl | omega) only [go_sem, seval])
      refine call_ (rvsame_call b.start a.end_) rfl ?_
      by_cases he : b.start = a.end_
      · rw [decide_eq_true he.symm, Bool.true_and] at hB
        simp only [decide_eq_true he]
        try simp -implicitDefEqProofs (disch := first | with_unfolding_all exact Eq.trans rfl rfl | omega) only [go_sem, seval]
        repeat' ((first | refine hold_ ?_ | (refine hKD _ _ ⟨rfl, ?_⟩; clear hKD KD)) <;> try simp -implicitDefEqProofs (disch := first | with_unfolding_all exact Eq.trans rfl rfl | omega) only [go_sem, seval])
        refine call_ (rsmeetD a.blur it) rfl ?_
        try simp -implicitDefEqProofs (disch := first | with_unfolding_all exact Eq.trans rfl rfl | omega) only [go_sem, seval]
        repeat' ((first | refine hold_ ?_ | (refine hKD _ _ ⟨rfl, ?_⟩; clear hKD KD)) <;> try simp -implicitDefEqProofs (disch := first | with_unfolding_all exact Eq.trans rfl rfl | omega) only [go_sem, seval])
        refine call_ (rsmeetD b.blur it) rfl ?_
        try simp -implicitDefEqProofs (disch := first | with_unfolding_all exact Eq.trans rfl rfl | omega) only [go_sem, seval]
        repeat' ((first | refine hold_ ?_ | (refine hKD _ _ ⟨rfl, ?_⟩; clear hKD KD)) <;> try simp -implicitDefEqProofs (disch := first | with_unfolding_all exact Eq.trans rfl rfl | omega) only [go_sem, seval])
        refine call_ (rssame_call (meetS2 a.blur it) (meetS2 b.blur it)) rfl ?_
        rw [hB]
        try simp -implicitDefEqProofs (disch := first | with_unfolding_all exact Eq.trans rfl rfl | omega) only [go_sem, seval]
        repeat' ((first | refine hold_ ?_ | (refine hKD _ _ ⟨rfl, ?_⟩; clear hKD KD)) <;> try simp -implicitDefEqProofs (disch := first | with_unfolding_all exact Eq.trans rfl rfl | omega) only [go_sem, seval])
        try simp -implicitDefEqProofs (disch := first | with_unfolding_all exact Eq.trans rfl rfl | omega) only [go_sem, seval]
        repeat' ((first | refine st_ rfl ?_ | refine hold_ ?_ | refine cond_ (fun h => ?_) (fun h => ?_) | (refine hKD _ _ ⟨rfl, ?_⟩; clear hKD KD)) <;> try simp -implicitDefEqProofs (disch := first | with_unfolding_all exact Eq.trans rfl rfl | omega) only [go_sem, seval])
        first | exact ⟨.inl trivial, id, List.nodup_nil⟩ | exact ⟨.inl trivial, id, rfl, List.nodup_nil⟩
      · obtain rfl : B = false := by rw [← hB, decide_eq_false (fun e => he e.symm), Bool.false_and]
        simp only [decide_eq_false he]
        try simp -implicitDefEqProofs (disch := first | with_unfolding_all exact Eq.trans rfl rfl | omega) only [go_sem, seval]
        repeat' ((first | refine hold_ ?_ | (refine hKD _ _ ⟨rfl, ?_⟩; clear hKD KD)) <;> try simp -implicitDefEqProofs (disch := first | with_unfolding_all exact Eq.trans rfl rfl | omega) only [go_sem, seval])
        try simp -implicitDefEqProofs (disch := first | with_unfolding_all exact Eq.trans rfl rfl | omega) only [go_sem, seval]
        repeat' ((first | refine st_ rfl ?_ | refine hold_ ?_ | refine cond_ (fun h => ?_) (fun h => ?_) | (refine hKD _ _ ⟨rfl, ?_⟩; clear hKD KD)) <;> try simp -implicitDefEqProofs (disch := first | with_unfolding_all exact Eq.trans rfl rfl | omega) only [go_sem, seval])
        first | exact ⟨.inl trivial, id, List.nodup_nil⟩ | exact ⟨.inl trivial, id, rfl, List.nodup_nil⟩
    · have d2 : decide ((b.writes.length : Int) = 0) = false := by simp [wb]
      obtain rfl : B = false := by rw [← hB, decide_eq_false wb]; rfl
      simp only [d2]
      try simp -implicitDefEqProofs (disch := first | with_unfolding_all exact Eq.trans rfl rfl | omega) only [go_sem, seval]
      repeat' ((first | refine hold_ ?_ | (refine hKD _ _ ⟨rfl, ?_⟩; clear hKD KD)) <;> try simp -implicitDefEqProofs (disch := first | with_unfolding_all exact Eq.trans rfl rfl | omega) only [go_sem, seval])
      try simp -implicitDefEqProofs (disch := first | with_unfolding_all exact Eq.trans rfl rfl | omega) only [go_sem, seval]
      repeat' ((first | refine st_ rfl ?_ | refine hold_ ?_ | refine cond_ (fun h => ?_) (fun h => ?_) | (refine hKD _ _ ⟨rfl, ?_⟩; clear hKD KD)) <;> try simp -implicitDefEqProofs (disch := first | with_unfolding_all exact Eq.trans rfl rfl | omega) only [go_sem, seval])
      first | exact ⟨.inl trivial, id, List.nodup_nil⟩ | exact ⟨.inl trivial, id, rfl, List.nodup_nil⟩
  · have d1 : decide ((a.writes.length : Int) = 0) = false := by simp [wa]
    obtain rfl : B = false := by rw [← hB, decide_eq_false wa]; rfl
    simp only [d1]
    try simp -implicitDefEqProofs (disch := first | with_unfolding_all exact Eq.trans rfl rfl | omega) only [go_sem, seval]
    repeat' ((first | refine hold_ ?_ | (refine hKD _ _ ⟨rfl, ?_⟩; clear hKD KD)) <;> try simp -implicitDefEqProofs (disch := first | with_unfolding_all exact Eq.trans rfl rfl | omega) only [go_sem, seval])
    try simp -implicitDefEqProofs (disch := first | with_unfolding_all exact Eq.trans rfl rfl | omega) only [go_sem, seval]
    repeat' ((first | refine st_ rfl ?_ | refine hold_ ?_ | refine cond_ (fun h => ?_) (fun h => ?_) | (refine hKD _ _ ⟨rfl, ?_⟩; clear hKD KD)) <;> try simp -implicitDefEqProofs (disch := first | with_unfolding_all exact Eq.trans rfl rfl | omega) only [go_sem, seval])
    first | exact ⟨.inl trivial, id, List.nodup_nil⟩ | exact ⟨.inl trivial, id, rfl, List.nodup_nil⟩
end Go.Proofs.YtdbeoigbkkdpdaaGreatDoor
namespace Go.Proofs.YtdbeoigbkkdpdaaGreatDoor
open Go.ChangeShapes Go.WideShapes Go.ChangeAt Go.RowKit
attribute [local irreducible] AW AWY vops vopsY vop vopL vdraw callW qop binQ lenQ storeQ appendQ callQ ACalls AIter
attribute [local go_sem] noI_eq enN_eq logA_eq noteA_eq storeQ_bp storeQ_rp logP_eq

set_option maxHeartbeats 3200000 in
set_option maxRecDepth 100000 in
theorem rbatch_call (l : Log) (a : Int) (it : List Span) (m : Int) (iS : I64 l.sure) (iA : I64 a) (iM : I64 m) : ACalls Tryz.prog TzTab 16 [logA l, .val (.int .i64 a), .iv (spI it), .val (.int .i64 m)] (batchR l a it m) [] := by
  refine ACalls.ofS (n := 89) (rs := [.tmp 8, .tmp 9, .tmp 10]) Tryz.func16 rfl (by kernel_rfl) Tryz.ntmps16 (by kernel_rfl) (by simp) (fun _ _ => TzTab.later) ?_
  intro hok V w0
  have hlen : l.notes.length ≤ 1073741824 := by simpa using hok.1.2.1.1
  obtain ⟨⟨O, k, e⟩, hq⟩ : ∃ q, batchS l a it m = q := ⟨_, rfl⟩
  unfold batchR
  rw [hq]
  unfold batchS askB at hq
  simp -implicitDefEqProofs (disch := first | with_unfolding_all exact Eq.trans rfl rfl | omega) only [go_sem, seval]
  refine AW.seq ?_
  refine AW.reg rfl fun KK hKK => ?_
  try simp -implicitDefEqProofs (disch := first | with_unfolding_all exact Eq.trans rfl rfl | omega) only [go_sem, seval]
  repeat' ((first | refine hold_ ?_ | (refine hKK _ ?_; clear hKK KK)) <;> try simp -implicitDefEqProofs (disch := first | with_unfolding_all exact Eq.trans rfl rfl | omega) only [go_sem, seval])
  refine AW.freeze 500 _ rfl ⟨trivial, trivial, iS, trivial⟩ ?_
  simp only [go_sem, reduceIte, Nat.reduceEqDiff]
  try simp -implicitDefEqProofs (disch := first | with_unfolding_all exact Eq.trans rfl rfl | omega) only [go_sem, seval]
  repeat' ((first | refine st_ rfl ?_ | refine hold_ ?_ | refine cond_ (fun h => ?_) (fun h => ?_) | (refine hKD _ _ ⟨rfl, ?_⟩; clear hKD KD)) <;> try simp -implicitDefEqProofs (disch := first | with_unfolding_all exact Eq.trans rfl rfl | omega) only [go_sem, seval])
  refine call_ (rlformed_call l iS) rfl ?_
  cases hF : logFormed l
  · rw [if_neg (by simp [hF])] at hq
    cases hq
    try simp -implicitDefEqProofs (disch := first | with_unfolding_all exact Eq.trans rfl rfl | omega) only [go_sem, seval]
    repeat' ((first | refine st_ rfl ?_ | refine hold_ ?_ | refine cond_ (fun h => ?_) (fun h => ?_) | (refine hKD _ _ ⟨rfl, ?_⟩; clear hKD KD)) <;> try simp -implicitDefEqProofs (disch := first | with_unfolding_all exact Eq.trans rfl rfl | omega) only [go_sem, seval])
    exact ⟨.inl trivial, id, tup_nil, List.nodup_nil⟩
  try simp -implicitDefEqProofs (disch := first | with_unfolding_all exact Eq.trans rfl rfl | omega) only [go_sem, seval]
  repeat' ((first | refine st_ rfl ?_ | refine hold_ ?_ | refine cond_ (fun h => ?_) (fun h => ?_) | (refine hKD _ _ ⟨rfl, ?_⟩; clear hKD KD)) <;> try simp -implicitDefEqProofs (disch := first | with_unfolding_all exact Eq.trans rfl rfl | omega) only [go_sem, seval])
  by_cases h0 : a < 0
  · rw [if_neg fun h => by simp only [Bool.and_eq_true, decide_eq_true_eq] at h; omega] at hq
    cases hq
    simp only [decide_eq_true h0]
    try simp -implicitDefEqProofs (disch := first | with_unfolding_all exact Eq.trans rfl rfl | omega) only [go_sem, seval]
    repeat' ((first | refine st_ rfl ?_ | refine hold_ ?_ | refine cond_ (fun h => ?_) (fun h => ?_) | (refine hKD _ _ ⟨rfl, ?_⟩; clear hKD KD)) <;> try simp -implicitDefEqProofs (disch := first | with_unfolding_all exact Eq.trans rfl rfl | omega) only [go_sem, seval])
    exact ⟨.inl trivial, id, tup_nil, List.nodup_nil⟩
  simp only [decide_eq_false h0]
  try simp -implicitDefEqProofs (disch := first | with_unfolding_all exact Eq.trans rfl rfl | omega) only [go_sem, seval]
  repeat' ((first | refine st_ rfl ?_ | refine hold_ ?_ | refine cond_ (fun h => ?_) (fun h => ?_) | (refine hKD _ _ ⟨rfl, ?_⟩; clear hKD KD)) <;> try simp -implicitDefEqProofs (disch := first | with_unfolding_all exact Eq.trans rfl rfl | omega) only [go_sem, seval])
  by_cases h1 : l.sure < a
  · rw [if_neg fun h => by simp only [Bool.and_eq_true, decide_eq_true_eq] at h; omega] at hq
    cases hq
    simp only [decide_eq_true h1]
    try simp -implicitDefEqProofs (disch := first | with_unfolding_all exact Eq.trans rfl rfl | omega) only [go_sem, seval]
    repeat' ((first | refine st_ rfl ?_ | refine hold_ ?_ | refine cond_ (fun h => ?_) (fun h => ?_) | (refine hKD _ _ ⟨rfl, ?_⟩; clear hKD KD)) <;> try simp -implicitDefEqProofs (disch := first | with_unfolding_all exact Eq.trans rfl rfl | omega) only [go_sem, seval])
    exact ⟨.inl trivial, id, tup_nil, List.nodup_nil⟩
  simp only [decide_eq_false h1]
  try simp -implicitDefEqProofs (disch := first | with_unfolding_all exact Eq.trans rfl rfl | omega) only [go_sem, seval]
  repeat' ((first | refine st_ rfl ?_ | refine hold_ ?_ | refine cond_ (fun h => ?_) (fun h => ?_) | (refine hKD _ _ ⟨rfl, ?_⟩; clear hKD KD)) <;> try simp -implicitDefEqProofs (disch := first | with_unfolding_all exact Eq.trans rfl rfl | omega) only [go_sem, seval])
  · have h2 : m < 1 := of_decide_eq_true h
    rw [if_neg fun h => by simp only [Bool.and_eq_true, decide_eq_true_eq] at h; omega] at hq
    cases hq
    exact ⟨.inl trivial, id, tup_nil, List.nodup_nil⟩
  have h2 : ¬ m < 1 := by simpa using h
  rw [if_pos (by simp [hF]; omega)] at hq
  obtain ⟨a, rfl⟩ : ∃ n : Nat, a = n := ⟨a.toNat, by omega⟩
  unfold batchN at hq
  simp only [Int.toNat_natCast] at hq
  have hX : (toldX l it).length = l.sure.toNat := by
    have := (logFormed_sure hF).2
    unfold toldX
    rw [List.length_map, List.length_take]; omega
  refine AW.adopt 11 9900 79 4 rfl rfl ?_
  have hs1 := (logFormed_sure hF).2
  refine AW.loop (fun i : {i : Nat // a ≤ i ∧ (i : Int) ≤ l.sure ∧ BatchAt it m (toldX l it) a (preL (toldX l it) a i)} => ⟨[(2, .iv (spI it)), (3, .val (.int .i64 m)), (4, .ip [stI l.base, noI l.notes, .val (.int .i64 l.sure)]), (11, .own 9900), (12, .val (.int .i64 (i.1 : Nat)))], [.row 9900 79 4 ((outB it (preL (toldX l it) a i.1)).map enN)]⟩) (fun i => l.sure.toNat - i.1) ⟨a, Nat.le_refl _, by omega, by rw [preL_self]; exact BatchAt.nil⟩ id ⟨⟨rfl, rfl, rfl, rfl, rfl, trivial⟩, ⟨by rw [preL_self]; rfl, trivial⟩, by simp [idsOf]⟩ fun ⟨i, hi1, hi2, hI⟩ => ?_
  clear h
  repeat (refine AW.seq ?_)
  refine AW.reg rfl fun KK hKK => ?_
  try simp -implicitDefEqProofs (disch := first | with_unfolding_all exact Eq.trans rfl rfl | omega) only [go_sem, seval]
  repeat' ((first | refine hold_ ?_ | (refine hKK _ ?_; clear hKK KK)) <;> try simp -implicitDefEqProofs (disch := first | with_unfolding_all exact Eq.trans rfl rfl | omega) only [go_sem, seval])
  repeat (refine AW.seq ?_)
  refine st_ rfl ?_
  simp -implicitDefEqProofs (disch := first | with_unfolding_all exact Eq.trans rfl rfl | omega) only [go_sem, seval]
  refine cond_ (fun h => ?_) (fun h => ?_)
  · have hlt : (i : Int) < l.sure := of_decide_eq_true h
    have hin : i < l.notes.length := by omega
    have hfn0 : noteFormed l.notes[i] = true := logFormed_mem hF _ (List.getElem_mem hin)
    obtain ⟨n, hn⟩ : ∃ n, throughN l.notes[i] it = n := ⟨_, rfl⟩
    have hfn : noteFormed n = true := hn ▸ through_formed it hfn0
    have hiX : i < (toldX l it).length := by omega
    have hXs : (toldX l it)[i]? = some n := by
      unfold toldX
      rw [List.getElem?_map, List.getElem?_take_of_lt (by omega), List.getElem?_eq_getElem hin, Option.map_some, hn]
    have hXi : (toldX l it)[i] = n := (List.getElem?_eq_some_iff.1 hXs).2
    have hpl : (preL (toldX l it) a i).length = i - a := preL_len (by omega)
    have hp3 : (toldX l it)[a + (preL (toldX l it) a i).length]? = some ((n, i) : Note × Nat).1 := by
      rw [hpl, show a + (i - a) = i by omega]; exact hXs
    have hnx : preL (toldX l it) a (i + 1) = preL (toldX l it) a i ++ [(n, i)] := by rw [preL_succ hi1 hiX, hXi]
    have hai : a + (preL (toldX l it) a i).length = i := by omega
    have hol := hI.len
    rw [hpl] at hol
    obtain ⟨o, ho⟩ : ∃ o, outB it (preL (toldX l it) a i) = o := ⟨_, rfl⟩
    have hos : outB it (preL (toldX l it) a (i + 1)) = stepB it o n := by rw [hnx, outB_snoc, ho]
    rw [ho] at hol
    have hthr := rthrough_call l.notes[i] it hfn0
    rw [hn] at hthr
    try simp -implicitDefEqProofs (disch := first | with_unfolding_all exact Eq.trans rfl rfl | omega) only [go_sem, seval]
    repeat' ((first | refine st_ rfl ?_ | refine hold_ ?_ | refine cond_ (fun h => ?_) (fun h => ?_) | (refine hKD _ _ ⟨rfl, ?_⟩; clear hKD KD)) <;> try simp -implicitDefEqProofs (disch := first | with_unfolding_all exact Eq.trans rfl rfl | omega) only [go_sem, seval])
    refine ⟨by omega, _, get_map (List.getElem?_eq_getElem hin), ?_⟩
    try simp -implicitDefEqProofs (disch := first | with_unfolding_all exact Eq.trans rfl rfl | omega) only [go_sem, seval]
    repeat' ((first | refine st_ rfl ?_ | refine hold_ ?_ | refine cond_ (fun h => ?_) (fun h => ?_) | (refine hKD _ _ ⟨rfl, ?_⟩; clear hKD KD)) <;> try simp -implicitDefEqProofs (disch := first | with_unfolding_all exact Eq.trans rfl rfl | omega) only [go_sem, seval])
    refine call_ hthr rfl ?_
    rw [ho]
    try simp -implicitDefEqProofs (disch := first | with_unfolding_all exact Eq.trans rfl rfl | omega) only [go_sem, seval]
    repeat' ((first | refine st_ rfl ?_ | refine hold_ ?_ | refine cond_ (fun h => ?_) (fun h => ?_) | (refine hKD _ _ ⟨rfl, ?_⟩; clear hKD KD)) <;> try simp -implicitDefEqProofs (disch := first | with_unfolding_all exact Eq.trans rfl rfl | omega) only [go_sem, seval])
    rcases List.eq_nil_or_concat o with rfl | ⟨d, z, rfl⟩
    · obtain ⟨g1, g2⟩ := step_first (it := it) (m := m) (x := n) (by omega)
      refine AW.drawn (ds := [53, 54, 55, 56, 57, 58, 59, 60, 61, 62, 63]) (fin := [0, 1]) (bs := [2, 2, 2, 2, 2, 2, 2, 2, 2, 2, 2]) [⟨[], [], [], [], 0⟩, ⟨[(53, 0)], [], [], [], 0⟩, ⟨[(54, 1)], [], [], [], 0⟩, ⟨[], [], [], [], 0⟩, ⟨[], [], [], [], 0⟩, ⟨[(56, 3), (57, 4)], [], [0, 1], [], 0⟩, ⟨[(58, 5)], [], [0, 1], [], 0⟩, ⟨[], [], [0, 1], [], 0⟩, ⟨[], [], [], [], 0⟩, ⟨[(59, 6), (60, 7), (61, 8)], [], [0, 1], [], 0⟩, ⟨[(55, 2), (62, 9)], [], [], [], 0⟩] (by kernel_rfl) rfl (by kernel_rfl) rfl rfl rfl fun KD hKD => ?_
      try simp -implicitDefEqProofs (disch := first | with_unfolding_all exact Eq.trans rfl rfl | omega) only [go_sem, seval]
      repeat' ((first | refine hold_ ?_ | (refine hKD _ _ ⟨rfl, ?_⟩; clear hKD KD)) <;> try simp -implicitDefEqProofs (disch := first | with_unfolding_all exact Eq.trans rfl rfl | omega) only [go_sem, seval])
      try simp -implicitDefEqProofs (disch := first | with_unfolding_all exact Eq.trans rfl rfl | omega) only [go_sem, seval]
      repeat' ((first | ((fail_if_success refine AW.ret ?_); refine st_ rfl ?_) | refine hold_ ?_ | refine cond_ (fun h => ?_) (fun h => ?_) | (refine hKD _ _ ⟨rfl, ?_⟩; clear hKD KD)) <;> try simp -implicitDefEqProofs (disch := first | with_unfolding_all exact Eq.trans rfl rfl | omega) only [go_sem, seval])
      · exfalso
        have := of_decide_eq_true h
        try simp at this
        omega
      refine bs1 (by omega) rfl rfl rfl ⟨trivial, trivial, trivial, trivial, trivial⟩ ?_
      try simp -implicitDefEqProofs (disch := first | with_unfolding_all exact Eq.trans rfl rfl | omega) only [go_sem, seval]
      repeat' ((first | refine st_ rfl ?_ | refine hold_ ?_ | refine cond_ (fun h => ?_) (fun h => ?_) | (refine hKD _ _ ⟨rfl, ?_⟩; clear hKD KD)) <;> try simp -implicitDefEqProofs (disch := first | with_unfolding_all exact Eq.trans rfl rfl | omega) only [go_sem, seval])
      refine append_own rfl (by kernel_rfl) (by omega) (by kernel_rfl) rfl (by first | (simp; done) | (simp at hol ⊢; omega)) ?_
      try simp -implicitDefEqProofs (disch := first | with_unfolding_all exact Eq.trans rfl rfl | omega) only [go_sem, seval]
      repeat' ((first | refine st_ rfl ?_ | refine hold_ ?_ | refine cond_ (fun h => ?_) (fun h => ?_) | (refine hKD _ _ ⟨rfl, ?_⟩; clear hKD KD)) <;> try simp -implicitDefEqProofs (disch := first | with_unfolding_all exact Eq.trans rfl rfl | omega) only [go_sem, seval])
      refine ⟨⟨i + 1, by omega, by omega, ?_⟩, fun b => if b = 9900 then 8600 else b, ⟨⟨rfl, rfl, rfl, rfl, rfl, trivial⟩, ⟨?_, trivial⟩, by simp [idsOf]⟩, by show l.sure.toNat - (i + 1) < l.sure.toNat - i; omega⟩
      · rw [hnx]; exact hI.step hp3 hfn (by rw [ho]; exact g2)
      · rw [hos, g1]; rfl
    · rw [List.concat_eq_append] at *
      have hlast : (((d ++ [z]).length : Nat) : Int) - 1 = (d.length : Nat) := by simp
      have hgl : (d ++ [z]).getLast? = some z := by simp
      have hfz : noteFormed z = true := hI.formed z (by rw [ho]; simp)
      have hix : (d ++ [z])[d.length]? = some z := by simp
      simp only [hlast]
      refine AW.drawn (ds := [53, 54, 55, 56, 57, 58, 59, 60, 61, 62, 63]) (fin := [0, 1]) (bs := [2, 2, 2, 2, 2, 2, 2, 2, 2, 2, 2]) [⟨[], [], [], [], 0⟩, ⟨[(53, 0)], [], [], [], 0⟩, ⟨[(54, 1)], [], [], [], 0⟩, ⟨[], [], [], [], 0⟩, ⟨[], [], [], [], 0⟩, ⟨[(56, 3), (57, 4)], [], [0, 1], [], 0⟩, ⟨[(58, 5)], [], [0, 1], [], 0⟩, ⟨[], [], [0, 1], [], 0⟩, ⟨[], [], [], [], 0⟩, ⟨[(59, 6), (60, 7), (61, 8)], [], [0, 1], [], 0⟩, ⟨[(55, 2), (62, 9)], [], [], [], 0⟩] (by kernel_rfl) rfl (by kernel_rfl) rfl rfl rfl fun KD hKD => ?_
      try simp -implicitDefEqProofs (disch := first | with_unfolding_all exact Eq.trans rfl rfl | omega) only [go_sem, seval]
      repeat' ((first | refine hold_ ?_ | (refine hKD _ _ ⟨rfl, ?_⟩; clear hKD KD)) <;> try simp -implicitDefEqProofs (disch := first | with_unfolding_all exact Eq.trans rfl rfl | omega) only [go_sem, seval])
      refine ⟨by omega, by simp, ?_⟩
      try simp -implicitDefEqProofs (disch := first | with_unfolding_all exact Eq.trans rfl rfl | omega) only [go_sem, seval]
      repeat' ((first | refine hold_ ?_ | (refine hKD _ _ ⟨rfl, ?_⟩; clear hKD KD)) <;> try simp -implicitDefEqProofs (disch := first | with_unfolding_all exact Eq.trans rfl rfl | omega) only [go_sem, seval])
      refine ⟨_, get_map hix, ?_⟩
      try simp -implicitDefEqProofs (disch := first | with_unfolding_all exact Eq.trans rfl rfl | omega) only [go_sem, seval]
      repeat' ((first | refine hold_ ?_ | (refine hKD _ _ ⟨rfl, ?_⟩; clear hKD KD)) <;> try simp -implicitDefEqProofs (disch := first | with_unfolding_all exact Eq.trans rfl rfl | omega) only [go_sem, seval])
      refine call_ (rgoes_call z n it) rfl ?_
      cases hg : goesS it z n
      · obtain ⟨g1, g2⟩ := step_new (m := m) hgl hg
        try simp -implicitDefEqProofs (disch := first | with_unfolding_all exact Eq.trans rfl rfl | omega) only [go_sem, seval]
        repeat' ((first | refine hold_ ?_ | (refine hKD _ _ ⟨rfl, ?_⟩; clear hKD KD)) <;> try simp -implicitDefEqProofs (disch := first | with_unfolding_all exact Eq.trans rfl rfl | omega) only [go_sem, seval])
        try simp -implicitDefEqProofs (disch := first | with_unfolding_all exact Eq.trans rfl rfl | omega) only [go_sem, seval]
        repeat' ((first | ((fail_if_success refine AW.ret ?_); refine st_ rfl ?_) | refine hold_ ?_ | refine cond_ (fun h => ?_) (fun h => ?_) | (refine hKD _ _ ⟨rfl, ?_⟩; clear hKD KD)) <;> try simp -implicitDefEqProofs (disch := first | with_unfolding_all exact Eq.trans rfl rfl | omega) only [go_sem, seval])
        · refine AW.freeze 9900 _ rfl trivial ?_
          simp only [go_sem, reduceIte, Nat.reduceEqDiff]
          try simp -implicitDefEqProofs (disch := first | with_unfolding_all exact Eq.trans rfl rfl | omega) only [go_sem, seval]
          repeat' ((first | refine st_ rfl ?_ | refine hold_ ?_ | refine cond_ (fun h => ?_) (fun h => ?_) | (refine hKD _ _ ⟨rfl, ?_⟩; clear hKD KD)) <;> try simp -implicitDefEqProofs (disch := first | with_unfolding_all exact Eq.trans rfl rfl | omega) only [go_sem, seval])
          rw [hI.stop (x := (n, i)) hp3 (by rw [ho, g2]; exact h), ho, hai] at hq
          cases hq
          exact ⟨.inl trivial, id, fun _ _ _ h => h, List.nodup_nil⟩
        · refine bs1 (by omega) rfl rfl rfl ⟨trivial, trivial, trivial, trivial, trivial⟩ ?_
          try simp -implicitDefEqProofs (disch := first | with_unfolding_all exact Eq.trans rfl rfl | omega) only [go_sem, seval]
          repeat' ((first | refine st_ rfl ?_ | refine hold_ ?_ | refine cond_ (fun h => ?_) (fun h => ?_) | (refine hKD _ _ ⟨rfl, ?_⟩; clear hKD KD)) <;> try simp -implicitDefEqProofs (disch := first | with_unfolding_all exact Eq.trans rfl rfl | omega) only [go_sem, seval])
          refine append_own rfl (by kernel_rfl) (by omega) (by kernel_rfl) rfl (by first | (simp; done) | (simp at hol ⊢; omega)) ?_
          try simp -implicitDefEqProofs (disch := first | with_unfolding_all exact Eq.trans rfl rfl | omega) only [go_sem, seval]
          repeat' ((first | refine st_ rfl ?_ | refine hold_ ?_ | refine cond_ (fun h => ?_) (fun h => ?_) | (refine hKD _ _ ⟨rfl, ?_⟩; clear hKD KD)) <;> try simp -implicitDefEqProofs (disch := first | with_unfolding_all exact Eq.trans rfl rfl | omega) only [go_sem, seval])
          refine ⟨⟨i + 1, by omega, by omega, ?_⟩, fun b => if b = 9900 then 8600 else b, ⟨⟨rfl, rfl, rfl, rfl, rfl, trivial⟩, ⟨?_, trivial⟩, by simp [idsOf]⟩, by show l.sure.toNat - (i + 1) < l.sure.toNat - i; omega⟩
          · rw [hnx]; exact hI.step hp3 hfn (by rw [ho, g2]; exact h)
          · rw [hos, g1, List.map_append]; rfl
      · obtain ⟨g1, g2⟩ := step_goes (m := m) hgl hg
        obtain ⟨⟨⟨w1, w2⟩, w3⟩, -⟩ : ((z.writes = [] ∧ n.writes = []) ∧ z.end_ = n.start) ∧ _ := by
          have := hg
          unfold goesS at this
          simpa only [Bool.and_eq_true, decide_eq_true_eq] using this
        try simp -implicitDefEqProofs (disch := first | with_unfolding_all exact Eq.trans rfl rfl | omega) only [go_sem, seval]
        repeat' ((first | refine hold_ ?_ | (refine hKD _ _ ⟨rfl, ?_⟩; clear hKD KD)) <;> try simp -implicitDefEqProofs (disch := first | with_unfolding_all exact Eq.trans rfl rfl | omega) only [go_sem, seval])
        try simp -implicitDefEqProofs (disch := first | with_unfolding_all exact Eq.trans rfl rfl | omega) only [go_sem, seval]
        repeat' ((first | ((fail_if_success refine AW.ret ?_); refine st_ rfl ?_) | refine hold_ ?_ | refine cond_ (fun h => ?_) (fun h => ?_) | (refine hKD _ _ ⟨rfl, ?_⟩; clear hKD KD)) <;> try simp -implicitDefEqProofs (disch := first | with_unfolding_all exact Eq.trans rfl rfl | omega) only [go_sem, seval])
        refine AW.drawn (ds := [65, 66, 67, 68, 69, 70, 71, 72, 64, 73, 74, 75]) (fin := [0, 2]) (bs := [2, 2, 2, 2, 2, 2, 2, 2, 2, 2, 2, 2, 2]) [⟨[], [], [], [], 0⟩, ⟨[], [], [], [], 0⟩, ⟨[], [], [], [], 0⟩, ⟨[], [], [], [], 0⟩, ⟨[(67, 2), (68, 3)], [], [0, 1], [], 0⟩, ⟨[(69, 4)], [], [0, 1], [], 0⟩, ⟨[], [], [0, 1], [], 0⟩, ⟨[(70, 5), (71, 6)], [], [0, 1], [], 0⟩, ⟨[(72, 7)], [], [], [], 0⟩, ⟨[(64, 8)], [], [], [], 0⟩, ⟨[(64, 8)], [], [], [], 0⟩, ⟨[(65, 0), (66, 1)], [], [0, 1], [], 0⟩, ⟨[(75, 11), (73, 9)], [], [], [1], 1⟩] (by kernel_rfl) rfl (by kernel_rfl) rfl rfl rfl fun KD hKD => ?_
        try simp -implicitDefEqProofs (disch := first | with_unfolding_all exact Eq.trans rfl rfl | omega) only [go_sem, seval]
        repeat' ((first | refine hold_ ?_ | (refine hKD _ _ ⟨rfl, ?_⟩; clear hKD KD)) <;> try simp -implicitDefEqProofs (disch := first | with_unfolding_all exact Eq.trans rfl rfl | omega) only [go_sem, seval])
        refine ⟨by omega, by simp, ?_⟩
        try simp -implicitDefEqProofs (disch := first | with_unfolding_all exact Eq.trans rfl rfl | omega) only [go_sem, seval]
        repeat' ((first | refine hold_ ?_ | (refine hKD _ _ ⟨rfl, ?_⟩; clear hKD KD)) <;> try simp -implicitDefEqProofs (disch := first | with_unfolding_all exact Eq.trans rfl rfl | omega) only [go_sem, seval])
        refine ⟨_, get_map hix, ?_⟩
        try simp -implicitDefEqProofs (disch := first | with_unfolding_all exact Eq.trans rfl rfl | omega) only [go_sem, seval]
        repeat' ((first | refine hold_ ?_ | (refine hKD _ _ ⟨rfl, ?_⟩; clear hKD KD)) <;> try simp -implicitDefEqProofs (disch := first | with_unfolding_all exact Eq.trans rfl rfl | omega) only [go_sem, seval])
        refine call_ (rmerge_call z n hfz hfn w1 w2 w3) rfl ?_
        try simp -implicitDefEqProofs (disch := first | with_unfolding_all exact Eq.trans rfl rfl | omega) only [go_sem, seval]
        repeat' ((first | refine hold_ ?_ | (refine hKD _ _ ⟨rfl, ?_⟩; clear hKD KD)) <;> try simp -implicitDefEqProofs (disch := first | with_unfolding_all exact Eq.trans rfl rfl | omega) only [go_sem, seval])
        refine ⟨by omega, by simp, ?_⟩
        try simp -implicitDefEqProofs (disch := first | with_unfolding_all exact Eq.trans rfl rfl | omega) only [go_sem, seval]
        repeat' ((first | refine hold_ ?_ | (refine hKD _ _ ⟨rfl, ?_⟩; clear hKD KD)) <;> try simp -implicitDefEqProofs (disch := first | with_unfolding_all exact Eq.trans rfl rfl | omega) only [go_sem, seval])
        refine ⟨_, _, rfl, by simp [okAs, okA], get_map hix, ?_⟩
        try simp -implicitDefEqProofs (disch := first | with_unfolding_all exact Eq.trans rfl rfl | omega) only [go_sem, seval]
        repeat' ((first | refine hold_ ?_ | (refine hKD _ _ ⟨rfl, ?_⟩; clear hKD KD)) <;> try simp -implicitDefEqProofs (disch := first | with_unfolding_all exact Eq.trans rfl rfl | omega) only [go_sem, seval])
        try simp -implicitDefEqProofs (disch := first | with_unfolding_all exact Eq.trans rfl rfl | omega) only [go_sem, seval]
        repeat' ((first | ((fail_if_success refine AW.ret ?_); refine st_ rfl ?_) | refine hold_ ?_ | refine cond_ (fun h => ?_) (fun h => ?_) | (refine hKD _ _ ⟨rfl, ?_⟩; clear hKD KD)) <;> try simp -implicitDefEqProofs (disch := first | with_unfolding_all exact Eq.trans rfl rfl | omega) only [go_sem, seval])
        refine ⟨⟨i + 1, by omega, by omega, ?_⟩, id, ⟨⟨rfl, rfl, rfl, rfl, rfl, trivial⟩, ⟨?_, trivial⟩, by simp [idsOf]⟩, by show l.sure.toNat - (i + 1) < l.sure.toNat - i; omega⟩
        · rw [hnx]; exact hI.step hp3 hfn (by rw [ho]; exact g2)
        · rw [hos, g1, List.map_set, List.length_append, List.length_singleton, Nat.add_sub_cancel]
          rfl
  · have hge : ¬ (i : Int) < l.sure := of_decide_eq_false h
    obtain rfl : i = l.sure.toNat := by omega
    have hpl : (preL (toldX l it) a l.sure.toNat).length = l.sure.toNat - a := preL_len (by omega)
    rw [hI.done (by omega), show a + (preL (toldX l it) a l.sure.toNat).length = l.sure.toNat by omega, show ((l.sure.toNat : Nat) : Int) = l.sure by omega] at hq
    generalize outB it (preL (toldX l it) a l.sure.toNat) = o at hq ⊢
    cases hq
    refine AW.freeze 9900 _ rfl trivial ?_
    simp only [go_sem, reduceIte, Nat.reduceEqDiff]
    try simp -implicitDefEqProofs (disch := first | with_unfolding_all exact Eq.trans rfl rfl | omega) only [go_sem, seval]
    repeat' ((first | refine st_ rfl ?_ | refine hold_ ?_ | refine cond_ (fun h => ?_) (fun h => ?_) | (refine hKD _ _ ⟨rfl, ?_⟩; clear hKD KD)) <;> try simp -implicitDefEqProofs (disch := first | with_unfolding_all exact Eq.trans rfl rfl | omega) only [go_sem, seval])
    refine AW.drawn (ds := [86, 87, 88, 8, 9, 10]) (fin := []) (bs := [0, 0, 0, 0, 0, 0]) [⟨[], [], [], [], 0⟩, ⟨[], [], [], [], 0⟩, ⟨[(87, 1)], [], [], [], 0⟩, ⟨[(86, 0)], [], [], [], 0⟩, ⟨[(88, 2)], [], [], [], 0⟩, ⟨[], [], [], [], 0⟩] (by kernel_rfl) rfl (by kernel_rfl) rfl rfl rfl fun KD hKD => ?_
    try simp -implicitDefEqProofs (disch := first | with_unfolding_all exact Eq.trans rfl rfl | omega) only [go_sem, seval]
    repeat' ((first | refine hold_ ?_ | (refine hKD _ _ ⟨rfl, ?_⟩; clear hKD KD)) <;> try simp -implicitDefEqProofs (disch := first | with_unfolding_all exact Eq.trans rfl rfl | omega) only [go_sem, seval])
    try simp -implicitDefEqProofs (disch := first | with_unfolding_all exact Eq.trans rfl rfl | omega) only [go_sem, seval]
    repeat' ((first | refine st_ rfl ?_ | refine hold_ ?_ | refine cond_ (fun h => ?_) (fun h => ?_) | (refine hKD _ _ ⟨rfl, ?_⟩; clear hKD KD)) <;> try simp -implicitDefEqProofs (disch := first | with_unfolding_all exact Eq.trans rfl rfl | omega) only [go_sem, seval])
    exact ⟨.inl trivial, id, fun _ _ _ h => h, List.nodup_nil⟩
end Go.Proofs.YtdbeoigbkkdpdaaGreatDoor
