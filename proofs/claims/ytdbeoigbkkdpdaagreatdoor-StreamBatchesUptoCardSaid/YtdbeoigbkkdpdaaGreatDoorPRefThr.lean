/- A formed note, as one sees it who has an interest (the reference's). -/
import Derived.Test.YtdbeoigbkkdpdaaGreatDoorPRefNote
import Derived.Test.YtdbeoigbkkdpdaaGreatDoorPStreamSpec
set_option linter.all false
set_option linter.unnecessarySimpa false
set_option linter.unusedSimpArgs false
set_option linter.unusedVariables false
namespace Go.Proofs.YtdbeoigbkkdpdaaGreatDoor
open Go.ChangeShapes Go.WideShapes Go.ChangeAt Go.RowKit
section
attribute [local irreducible] rowOf
theorem setI_len (f : Nat → Bool) : (setI f).length = 256 := by unfold setI; rw [List.length_map, Array.length_toList, setRow_size]
theorem setI_at {f : Nat → Bool} {o : Nat} (h : o < 256) : (setI f)[o]? = some (.val (.bool (f o))) := by
  unfold setI setRow
  rw [List.getElem?_map, Array.getElem?_toList, rowOf_at h]; rfl
theorem c64I_len (c : Nat → Int) : (c64I c).length = 64 := by unfold c64I; rw [List.length_map, Array.length_toList, row64_size]
theorem c64I_at {c : Nat → Int} {n : Nat} (h : n < 64) : (c64I c)[n]? = some (.val (.int .i64 (c n))) := by
  unfold c64I row64
  rw [List.getElem?_map, Array.getElem?_toList, rowOf_at h]; rfl
end
attribute [local irreducible] setI c64I
theorem setI_congr {f g : Nat → Bool} (h : ∀ o, o < 256 → f o = g o) : setI f = setI g := List.ext_getElem? fun o => by
  by_cases ho : o < 256
  · rw [setI_at ho, setI_at ho, h o ho]
  · rw [List.getElem?_eq_none (by rw [setI_len]; omega), List.getElem?_eq_none (by rw [setI_len]; omega)]
theorem setI_set {f : Nat → Bool} {p : Nat} (hp : p < 256) : (setI f).set p (.val (.bool true)) = setI fun o => f o || decide (o = p) := List.ext_getElem? fun o => by
  rw [List.getElem?_set]
  by_cases e : p = o
  · subst e; rw [if_pos rfl, setI_len, if_pos hp, setI_at hp]; simp
  · rw [if_neg e]
    by_cases ho : o < 256
    · rw [setI_at ho, setI_at ho, decide_eq_false (fun h => e h.symm), Bool.or_false]
    · rw [List.getElem?_eq_none (by rw [setI_len]; omega), List.getElem?_eq_none (by rw [setI_len]; omega)]
theorem store_ar {P : Program} {t q s b : Nat} {cells C : List IV} {bk : List BA} {K : List BA → Prop} (ht : tyK P t = some (q, s)) (hs : C.length = s) (hb : findB b bk = some (.arr b cells)) (hl : cells.length = s) (hK : K (replB b [.arr b C] bk)) : storeQ P t (.bp b 0) (.aggI C) bk K := by
  rw [storeQ_bp, ht]
  refine ⟨rfl, by rw [cellsA_aggI, List.length_map]; exact hs, ?_⟩
  rw [hb]
  refine ⟨C, by rw [cellsA_aggI, toIs_map], by rw [cellsA_aggI]; exact okAs_map C, by omega, ?_⟩
  rw [setsL_all (by omega)]
  exact hold_ hK
attribute [local irreducible] AW AWY vops vopsY vop vopL vdraw callW qop binQ lenQ storeQ appendQ callQ ACalls AIter
attribute [local go_sem] wrI_eq enW_eq noteA_eq storeQ_agg storeQ_val storeQ_iv storeQ_own

def blurAt (x : Note) (it : List Span) (m : Nat) (o : Nat) : Bool := memB x.blur o || (unseenW it (x.writes.take m)).any fun p => decide (p = (o : Int))
theorem rsofD (f : Nat → Bool) : ACalls Tryz.prog TzTab 80 [.aggI (setI f)] (.iv (spI (ofSet f))) [] := (rsof_call f).frz trivial
set_option maxHeartbeats 3200000 in
set_option maxRecDepth 100000 in
theorem rthrough_call (x : Note) (it : List Span) (hF : noteFormed x = true) : ACalls Tryz.prog TzTab 46 [noteA x, .iv (spI it)] (.tup [noteA (throughN x it), .val (.int .i64 0)]) [] := by
  refine ACalls.of (n := 62) (rs := [.cell 4 79, .tmp 5]) Tryz.func46 rfl (by kernel_rfl) Tryz.ntmps46 (by kernel_rfl) (by simp) (fun _ _ => TzTab.later) ?_
  intro hok V w0
  have hlen : x.writes.length ≤ 1073741824 := by simpa using hok.1.2.2.2.1.1
  have hrf := rnformed_call x
  rw [hF] at hrf
  simp -implicitDefEqProofs (disch := first | with_unfolding_all exact Eq.trans rfl rfl | omega) only [go_sem, seval]
  refine AW.seq ?_
  refine AW.reg rfl fun KK hKK => ?_
  try simp -implicitDefEqProofs (disch := first | with_unfolding_all exact Eq.trans rfl rfl | omega) only [go_sem, seval]
  repeat' ((first | refine hold_ ?_ | (refine hKK _ ?_; clear hKK KK)) <;> try simp -implicitDefEqProofs (disch := first | with_unfolding_all exact Eq.trans rfl rfl | omega) only [go_sem, seval])
  refine AW.freeze 300 _ rfl ⟨trivial, trivial, trivial, trivial, trivial⟩ ?_
  simp only [go_sem, reduceIte, Nat.reduceEqDiff]
  try simp -implicitDefEqProofs (disch := first | with_unfolding_all exact Eq.trans rfl rfl | omega) only [go_sem, seval]
  repeat' ((first | refine st_ rfl ?_ | refine hold_ ?_ | refine cond_ (fun h => ?_) (fun h => ?_) | (refine hKD _ _ ⟨rfl, ?_⟩; clear hKD KD)) <;> try simp -implicitDefEqProofs (disch := first | with_unfolding_all exact Eq.trans rfl rfl | omega) only [go_sem, seval])
  refine call_ hrf rfl ?_
  try simp -implicitDefEqProofs (disch := first | with_unfolding_all exact Eq.trans rfl rfl | omega) only [go_sem, seval]
  repeat' ((first | refine st_ rfl ?_ | refine hold_ ?_ | refine cond_ (fun h => ?_) (fun h => ?_) | (refine hKD _ _ ⟨rfl, ?_⟩; clear hKD KD)) <;> try simp -implicitDefEqProofs (disch := first | with_unfolding_all exact Eq.trans rfl rfl | omega) only [go_sem, seval])
  refine call_ (rset_call it) rfl ?_
  try simp -implicitDefEqProofs (disch := first | with_unfolding_all exact Eq.trans rfl rfl | omega) only [go_sem, seval]
  repeat' ((first | refine st_ rfl ?_ | refine hold_ ?_ | refine cond_ (fun h => ?_) (fun h => ?_) | (refine hKD _ _ ⟨rfl, ?_⟩; clear hKD KD)) <;> try simp -implicitDefEqProofs (disch := first | with_unfolding_all exact Eq.trans rfl rfl | omega) only [go_sem, seval])
  refine store_ar (q := 2) (s := 256) (by kernel_rfl) (setI_len _) rfl (by simp [rep]) ?_
  try simp -implicitDefEqProofs (disch := first | with_unfolding_all exact Eq.trans rfl rfl | omega) only [go_sem, seval]
  repeat' ((first | refine st_ rfl ?_ | refine hold_ ?_ | refine cond_ (fun h => ?_) (fun h => ?_) | (refine hKD _ _ ⟨rfl, ?_⟩; clear hKD KD)) <;> try simp -implicitDefEqProofs (disch := first | with_unfolding_all exact Eq.trans rfl rfl | omega) only [go_sem, seval])
  refine call_ (rset_call x.blur) rfl ?_
  try simp -implicitDefEqProofs (disch := first | with_unfolding_all exact Eq.trans rfl rfl | omega) only [go_sem, seval]
  repeat' ((first | refine st_ rfl ?_ | refine hold_ ?_ | refine cond_ (fun h => ?_) (fun h => ?_) | (refine hKD _ _ ⟨rfl, ?_⟩; clear hKD KD)) <;> try simp -implicitDefEqProofs (disch := first | with_unfolding_all exact Eq.trans rfl rfl | omega) only [go_sem, seval])
  refine store_ar (q := 2) (s := 256) (by kernel_rfl) (setI_len _) rfl (by simp [rep]) ?_
  try simp -implicitDefEqProofs (disch := first | with_unfolding_all exact Eq.trans rfl rfl | omega) only [go_sem, seval]
  repeat' ((first | refine hold_ ?_ | (refine hKK _ ?_; clear hKK KK)) <;> try simp -implicitDefEqProofs (disch := first | with_unfolding_all exact Eq.trans rfl rfl | omega) only [go_sem, seval])
  refine AW.freeze 700 _ rfl trivial ?_
  simp only [go_sem, reduceIte, Nat.reduceEqDiff]
  try simp -implicitDefEqProofs (disch := first | with_unfolding_all exact Eq.trans rfl rfl | omega) only [go_sem, seval]
  repeat' ((first | refine st_ rfl ?_ | refine hold_ ?_ | refine cond_ (fun h => ?_) (fun h => ?_) | (refine hKD _ _ ⟨rfl, ?_⟩; clear hKD KD)) <;> try simp -implicitDefEqProofs (disch := first | with_unfolding_all exact Eq.trans rfl rfl | omega) only [go_sem, seval])
  refine AW.drawn (ds := [19, 20, 21, 22, 23, 24, 25, 8]) (fin := [0, 1, 3]) (bs := [2, 2, 2, 2, 2, 2, 2, 2, 3]) [⟨[], [], [], [], 0⟩, ⟨[(19, 0)], [], [0, 1], [], 0⟩, ⟨[(20, 1)], [], [0, 1], [], 0⟩, ⟨[], [], [], [], 0⟩, ⟨[(22, 3)], [], [0, 1], [], 0⟩, ⟨[(23, 4)], [], [0, 1], [], 0⟩, ⟨[(21, 2), (24, 5)], [], [], [], 0⟩, ⟨[], [], [], [], 1⟩, ⟨[(8, 7), (25, 6)], [], [], [2], 1⟩] (by kernel_rfl) rfl (by kernel_rfl) rfl rfl rfl fun KD hKD => ?_
  try simp -implicitDefEqProofs (disch := first | with_unfolding_all exact Eq.trans rfl rfl | omega) only [go_sem, seval]
  repeat' ((first | refine hold_ ?_ | (refine hKD _ _ ⟨rfl, ?_⟩; clear hKD KD)) <;> try simp -implicitDefEqProofs (disch := first | with_unfolding_all exact Eq.trans rfl rfl | omega) only [go_sem, seval])
  refine call_ (rvcopyD x.start) rfl ?_
  try simp -implicitDefEqProofs (disch := first | with_unfolding_all exact Eq.trans rfl rfl | omega) only [go_sem, seval]
  repeat' ((first | refine hold_ ?_ | (refine hKD _ _ ⟨rfl, ?_⟩; clear hKD KD)) <;> try simp -implicitDefEqProofs (disch := first | with_unfolding_all exact Eq.trans rfl rfl | omega) only [go_sem, seval])
  refine call_ (rvcopyD x.end_) rfl ?_
  try simp -implicitDefEqProofs (disch := first | with_unfolding_all exact Eq.trans rfl rfl | omega) only [go_sem, seval]
  repeat' ((first | refine hold_ ?_ | (refine hKD _ _ ⟨rfl, ?_⟩; clear hKD KD)) <;> try simp -implicitDefEqProofs (disch := first | with_unfolding_all exact Eq.trans rfl rfl | omega) only [go_sem, seval])
  try simp -implicitDefEqProofs (disch := first | with_unfolding_all exact Eq.trans rfl rfl | omega) only [go_sem, seval]
  repeat' ((first | refine st_ rfl ?_ | refine hold_ ?_ | refine cond_ (fun h => ?_) (fun h => ?_) | (refine hKD _ _ ⟨rfl, ?_⟩; clear hKD KD)) <;> try simp -implicitDefEqProofs (disch := first | with_unfolding_all exact Eq.trans rfl rfl | omega) only [go_sem, seval])
  have e0 : setI (blurAt x it 0) = setI (fun o => memB x.blur o) := setI_congr fun o ho => by simp [blurAt, unseenW]
  refine AW.adoptC 900 3 9900 77 4 rfl rfl rfl ?_
  refine AW.loop (fun m : {m : Nat // m ≤ x.writes.length} => ⟨[(2, .ip [stI x.start, stI x.end_, spI x.blur, wrI x.writes]), (4, .bp 500 0), (5, .val (.int .i64 0)), (6, .ip (setI fun o => memB it o)), (7, .bp 800 0), (8, .bp 900 0), (9, .val (.int .i64 (m.1 : Nat)))], [.row 9900 77 4 ((seenW it (x.writes.take m.1)).map enW), .arr 800 (setI (blurAt x it m.1)), .box 900 [.iv (stI x.start), .iv (stI x.end_), .val (.slice none 0 0), .own 9900], .box 500 [.val (.slice none 0 0), .val (.slice none 0 0), .val (.slice none 0 0), .val (.slice none 0 0)]]⟩) (fun m => x.writes.length - m.1) ⟨0, Nat.zero_le _⟩ id ⟨⟨rfl, rfl, rfl, rfl, rfl, rfl, rfl, trivial⟩, ⟨rfl, ?_, rfl, rfl, trivial⟩, by simp [idsOf, BA.id]⟩ fun ⟨m, hm⟩ => ?_
  · exact congrArg (fun C => some (BA.arr 800 C)) e0.symm
  repeat (refine AW.seq ?_)
  refine AW.reg rfl fun KK hKK => ?_
  try simp -implicitDefEqProofs (disch := first | with_unfolding_all exact Eq.trans rfl rfl | omega) only [go_sem, seval]
  repeat' ((first | refine hold_ ?_ | (refine hKK _ ?_; clear hKK KK)) <;> try simp -implicitDefEqProofs (disch := first | with_unfolding_all exact Eq.trans rfl rfl | omega) only [go_sem, seval])
  repeat (refine AW.seq ?_)
  refine st_ rfl ?_
  simp -implicitDefEqProofs (disch := first | with_unfolding_all exact Eq.trans rfl rfl | omega) only [go_sem, seval]
  refine cond_ (fun h => ?_) (fun h => ?_)
  · have hlt : m < x.writes.length := by simpa using h
    obtain ⟨-, o1, o2, o3, o4, -⟩ := okR_mem hok.1.2.2.2.1.2 (enW x.writes[m]) (List.mem_map_of_mem (List.getElem_mem hlt))
    obtain ⟨-, y0, y1, -⟩ := (writesFrom_iff.1 (noteFormed_iff.1 hF).2.2.2.2).1 x.writes[m] (List.getElem_mem hlt)
    have hto : ((x.writes[m].object.toNat : Nat) : Int) = x.writes[m].object := by omega
    have hsh : spanHas it x.writes[m].object = memB it x.writes[m].object := by unfold spanHas; simp [y0, y1]
    have hs1 := seenW_snoc it (x.writes.take m) x.writes[m]
    have hs2 := unseenW_snoc it (x.writes.take m) x.writes[m]
    rw [← List.take_succ_eq_append_getElem hlt] at hs1 hs2
    try simp -implicitDefEqProofs (disch := first | with_unfolding_all exact Eq.trans rfl rfl | omega) only [go_sem, seval]
    repeat' ((first | refine st_ rfl ?_ | refine hold_ ?_ | refine cond_ (fun h => ?_) (fun h => ?_) | (refine hKD _ _ ⟨rfl, ?_⟩; clear hKD KD)) <;> try simp -implicitDefEqProofs (disch := first | with_unfolding_all exact Eq.trans rfl rfl | omega) only [go_sem, seval])
    refine ⟨by omega, _, get_map (List.getElem?_eq_getElem hlt), ?_⟩
    try simp -implicitDefEqProofs (disch := first | with_unfolding_all exact Eq.trans rfl rfl | omega) only [go_sem, seval]
    repeat' ((first | refine st_ rfl ?_ | refine hold_ ?_ | refine cond_ (fun h => ?_) (fun h => ?_) | (refine hKD _ _ ⟨rfl, ?_⟩; clear hKD KD)) <;> try simp -implicitDefEqProofs (disch := first | with_unfolding_all exact Eq.trans rfl rfl | omega) only [go_sem, seval])
    refine ⟨by omega, by omega, ?_⟩
    rw [Nat.mul_one]
    try simp -implicitDefEqProofs (disch := first | with_unfolding_all exact Eq.trans rfl rfl | omega) only [go_sem, seval]
    repeat' ((first | refine st_ rfl ?_ | refine hold_ ?_ | refine cond_ (fun h => ?_) (fun h => ?_) | (refine hKD _ _ ⟨rfl, ?_⟩; clear hKD KD)) <;> try simp -implicitDefEqProofs (disch := first | with_unfolding_all exact Eq.trans rfl rfl | omega) only [go_sem, seval])
    refine rdI_drop (setI_at (by omega)) ?_
    rw [hto, ← hsh]
    cases hh : spanHas it x.writes[m].object
    · rw [hh] at hs1 hs2
      try simp -implicitDefEqProofs (disch := first | with_unfolding_all exact Eq.trans rfl rfl | omega) only [go_sem, seval]
      repeat' ((first | refine st_ rfl ?_ | refine hold_ ?_ | refine cond_ (fun h => ?_) (fun h => ?_) | (refine hKD _ _ ⟨rfl, ?_⟩; clear hKD KD)) <;> try simp -implicitDefEqProofs (disch := first | with_unfolding_all exact Eq.trans rfl rfl | omega) only [go_sem, seval])
      refine ⟨by omega, _, get_map (List.getElem?_eq_getElem hlt), ?_⟩
      try simp -implicitDefEqProofs (disch := first | with_unfolding_all exact Eq.trans rfl rfl | omega) only [go_sem, seval]
      repeat' ((first | refine st_ rfl ?_ | refine hold_ ?_ | refine cond_ (fun h => ?_) (fun h => ?_) | (refine hKD _ _ ⟨rfl, ?_⟩; clear hKD KD)) <;> try simp -implicitDefEqProofs (disch := first | with_unfolding_all exact Eq.trans rfl rfl | omega) only [go_sem, seval])
      refine ⟨by omega, by omega, ?_⟩
      rw [Nat.mul_one, Nat.zero_add]
      try simp -implicitDefEqProofs (disch := first | with_unfolding_all exact Eq.trans rfl rfl | omega) only [go_sem, seval]
      repeat' ((first | refine st_ rfl ?_ | refine hold_ ?_ | refine cond_ (fun h => ?_) (fun h => ?_) | (refine hKD _ _ ⟨rfl, ?_⟩; clear hKD KD)) <;> try simp -implicitDefEqProofs (disch := first | with_unfolding_all exact Eq.trans rfl rfl | omega) only [go_sem, seval])
      refine ⟨_, rfl, ⟨trivial, trivial⟩, by rw [setI_len]; omega, ?_⟩
      try simp -implicitDefEqProofs (disch := first | with_unfolding_all exact Eq.trans rfl rfl | omega) only [go_sem, seval]
      repeat' ((first | refine st_ rfl ?_ | refine hold_ ?_ | refine cond_ (fun h => ?_) (fun h => ?_) | (refine hKD _ _ ⟨rfl, ?_⟩; clear hKD KD)) <;> try simp -implicitDefEqProofs (disch := first | with_unfolding_all exact Eq.trans rfl rfl | omega) only [go_sem, seval])
      refine ⟨⟨m + 1, hlt⟩, id, ⟨⟨rfl, rfl, rfl, rfl, rfl, rfl, rfl, trivial⟩, ⟨?_, ?_, rfl, rfl, trivial⟩, by simp [idsOf, BA.id]⟩, by show x.writes.length - (m + 1) < x.writes.length - m; omega⟩
      · rw [hs1]; rfl
      · refine congrArg (fun C => some (BA.arr 800 C)) ((setI_set (by omega)).trans (setI_congr fun o ho => ?_))
        unfold blurAt
        rw [hs2, if_neg (by decide), List.any_append, Bool.or_assoc]
        congr 2
        simp
        omega
    · rw [hh] at hs1 hs2
      try simp -implicitDefEqProofs (disch := first | with_unfolding_all exact Eq.trans rfl rfl | omega) only [go_sem, seval]
      repeat' ((first | refine st_ rfl ?_ | refine hold_ ?_ | refine cond_ (fun h => ?_) (fun h => ?_) | (refine hKD _ _ ⟨rfl, ?_⟩; clear hKD KD)) <;> try simp -implicitDefEqProofs (disch := first | with_unfolding_all exact Eq.trans rfl rfl | omega) only [go_sem, seval])
      refine AW.drawn (ds := [41, 42, 43, 44, 45, 46, 47, 48, 49, 50]) (fin := [1, 3, 4, 5, 6]) (bs := [4, 4, 4, 4, 4, 4, 4, 4, 5, 6, 6]) [⟨[], [], [], [], 0⟩, ⟨[(41, 0)], [], [0, 1, 2, 3], [], 0⟩, ⟨[], [], [], [], 0⟩, ⟨[(43, 2)], [], [0, 1, 2, 3], [], 0⟩, ⟨[], [], [], [], 0⟩, ⟨[(44, 3), (45, 4)], [], [0, 1, 2, 3], [], 0⟩, ⟨[(46, 5)], [], [0, 1, 2, 3], [], 0⟩, ⟨[(47, 6)], [], [], [], 1⟩, ⟨[(42, 1), (48, 7)], [], [1, 2, 3, 4], [0], 1⟩, ⟨[], [], [], [], 0⟩, ⟨[(50, 9), (49, 8)], [], [], [2], 1⟩] (by kernel_rfl) rfl (by kernel_rfl) rfl rfl rfl fun KD hKD => ?_
      try simp -implicitDefEqProofs (disch := first | with_unfolding_all exact Eq.trans rfl rfl | omega) only [go_sem, seval]
      repeat' ((first | refine hold_ ?_ | (refine hKD _ _ ⟨rfl, ?_⟩; clear hKD KD)) <;> try simp -implicitDefEqProofs (disch := first | with_unfolding_all exact Eq.trans rfl rfl | omega) only [go_sem, seval])
      refine ⟨by omega, _, get_map (List.getElem?_eq_getElem hlt), ?_⟩
      try simp -implicitDefEqProofs (disch := first | with_unfolding_all exact Eq.trans rfl rfl | omega) only [go_sem, seval]
      repeat' ((first | refine hold_ ?_ | (refine hKD _ _ ⟨rfl, ?_⟩; clear hKD KD)) <;> try simp -implicitDefEqProofs (disch := first | with_unfolding_all exact Eq.trans rfl rfl | omega) only [go_sem, seval])
      refine bs1 (by omega) rfl rfl rfl ⟨o1, o2, o3, o4, trivial⟩ ?_
      try simp -implicitDefEqProofs (disch := first | with_unfolding_all exact Eq.trans rfl rfl | omega) only [go_sem, seval]
      repeat' ((first | refine hold_ ?_ | (refine hKD _ _ ⟨rfl, ?_⟩; clear hKD KD)) <;> try simp -implicitDefEqProofs (disch := first | with_unfolding_all exact Eq.trans rfl rfl | omega) only [go_sem, seval])
      have hl2 := seenW_len it (x.writes.take m)
      rw [List.length_take] at hl2
      refine append_own rfl (by kernel_rfl) (by omega) (by kernel_rfl) rfl (by simp; omega) ?_
      try simp -implicitDefEqProofs (disch := first | with_unfolding_all exact Eq.trans rfl rfl | omega) only [go_sem, seval]
      repeat' ((first | refine hold_ ?_ | (refine hKD _ _ ⟨rfl, ?_⟩; clear hKD KD)) <;> try simp -implicitDefEqProofs (disch := first | with_unfolding_all exact Eq.trans rfl rfl | omega) only [go_sem, seval])
      try simp -implicitDefEqProofs (disch := first | with_unfolding_all exact Eq.trans rfl rfl | omega) only [go_sem, seval]
      repeat' ((first | refine st_ rfl ?_ | refine hold_ ?_ | refine cond_ (fun h => ?_) (fun h => ?_) | (refine hKD _ _ ⟨rfl, ?_⟩; clear hKD KD)) <;> try simp -implicitDefEqProofs (disch := first | with_unfolding_all exact Eq.trans rfl rfl | omega) only [go_sem, seval])
      refine ⟨⟨m + 1, hlt⟩, fun b => if b = 9900 then 5000 else b, ⟨⟨rfl, rfl, rfl, rfl, rfl, rfl, rfl, trivial⟩, ⟨?_, ?_, rfl, rfl, trivial⟩, by simp [idsOf, BA.id]⟩, by show x.writes.length - (m + 1) < x.writes.length - m; omega⟩
      · rw [hs1, if_pos rfl, List.map_append]; rfl
      · refine congrArg (fun C => some (BA.arr 800 C)) (setI_congr fun o ho => ?_)
        unfold blurAt
        rw [hs2, if_pos rfl]
  · obtain rfl : m = x.writes.length := by simp at h; omega
    refine AW.freeze 9900 _ rfl trivial ?_
    simp only [go_sem, reduceIte, Nat.reduceEqDiff]
    try simp -implicitDefEqProofs (disch := first | with_unfolding_all exact Eq.trans rfl rfl | omega) only [go_sem, seval]
    repeat' ((first | refine st_ rfl ?_ | refine hold_ ?_ | refine cond_ (fun h => ?_) (fun h => ?_) | (refine hKD _ _ ⟨rfl, ?_⟩; clear hKD KD)) <;> try simp -implicitDefEqProofs (disch := first | with_unfolding_all exact Eq.trans rfl rfl | omega) only [go_sem, seval])
    refine ⟨(setI_len _).symm, ?_⟩
    refine call_ (rsofD _) rfl ?_
    try simp -implicitDefEqProofs (disch := first | with_unfolding_all exact Eq.trans rfl rfl | omega) only [go_sem, seval]
    repeat' ((first | refine st_ rfl ?_ | refine hold_ ?_ | refine cond_ (fun h => ?_) (fun h => ?_) | (refine hKD _ _ ⟨rfl, ?_⟩; clear hKD KD)) <;> try simp -implicitDefEqProofs (disch := first | with_unfolding_all exact Eq.trans rfl rfl | omega) only [go_sem, seval])
    rw [List.take_length, show ofSet (blurAt x it x.writes.length) = throughBlur x it by rw [throughBlur_set]; unfold blurAt; rw [List.take_length]]
    first | exact ⟨.inl trivial, id, rfl, List.nodup_nil⟩ | exact ⟨.inl trivial, id, trivial, List.nodup_nil⟩
end Go.Proofs.YtdbeoigbkkdpdaaGreatDoor
