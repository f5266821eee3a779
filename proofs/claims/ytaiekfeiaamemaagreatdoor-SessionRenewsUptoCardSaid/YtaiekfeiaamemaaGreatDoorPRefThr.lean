/- A formed note, as one sees it who has an interest (the reference's). -/
import Derived.Test.YtaiekfeiaamemaaGreatDoorPLogWalk
import Derived.Test.YtaiekfeiaamemaaGreatDoorPAbsArr
set_option linter.all false
set_option linter.unnecessarySimpa false
set_option linter.unusedSimpArgs false
set_option linter.unusedVariables false
/- Notes copied, and compared (the reference's). -/
namespace Go.Proofs.YtaiekfeiaamemaaGreatDoor
open Go.ChangeShapes Go.WideShapes Go.ChangeAt Go.RowKit
attribute [local irreducible] AW AWY vops vopsY vop vopL vdraw callW qop binQ lenQ storeQ appendQ callQ ACalls AIter
attribute [local go_sem] noI_eq enN_eq noteA_eq storeQ_bp storeQ_rp

theorem rvcopyD (l : List Stamp) : ACalls Tryz.prog TzTab 86 [.iv (stI l)] (.iv (stI l)) [] := (rvcopy_call l).frz trivial
theorem rscopyD (l : List Span) : ACalls Tryz.prog TzTab 69 [.iv (spI l)] (.iv (spI l)) [] := (rscopy_call l).frz trivial
theorem rnsame_call (x : Note) : ACalls Tryz.prog TzTab 32 [noteA x, noteA x] (.val (.bool true)) [] :=
  bridge_val Tryz.func32 rfl (by kernel_rfl) fun V w E vs hV hG hr => by
    obtain ⟨v0, v1, rfl, h0, h1⟩ := args2 hr
    obtain ⟨n0, n1, n2, n3, rfl, H0⟩ := rep_note hV h0
    obtain ⟨m0, m1, m2, m3, rfl, H1⟩ := rep_note hV h1
    exact refNoteSameT x _ _ _ _ _ _ _ _ w H0 H1
theorem rall_call (l : List Note) : ACalls Tryz.prog TzTab 25 [.iv (noI l), .iv (noI l)] (.val (.bool true)) [] := by
  refine ACalls.of (n := 27) (rs := [.tmp 4]) Tryz.func25 rfl (by kernel_rfl) Tryz.ntmps25 (by kernel_rfl) (by simp) (fun _ _ => TzTab.later) ?_
  intro hok V w0
  have hlen : l.length ≤ 1073741824 := by simpa using hok.1.1
  refine g ?_
  refine g ?_
  repeat' (first | refine st_ rfl (g ?_) | refine hold_ (g ?_) | exact trivial | refine cond_ (fun h => g ?_) (fun h => g ?_) | (refine hKD _ _ ⟨rfl, g ?_⟩; clear hKD KD))
  refine AW.loop (fun m : {m : Nat // m ≤ l.length} => ⟨[(0, .iv (noI l)), (1, .iv (noI l)), (5, .val (.int .i64 (m.1 : Nat)))], []⟩) (fun m => l.length - m.1) ⟨0, Nat.zero_le _⟩ id ⟨⟨rfl, rfl, rfl, trivial⟩, trivial, List.nodup_nil⟩ fun ⟨m, hm⟩ => ?_
  refine g ?_
  repeat' (first | refine st_ rfl (g ?_) | refine hold_ (g ?_) | exact trivial | refine cond_ (fun h => g ?_) (fun h => g ?_) | (refine hKD _ _ ⟨rfl, g ?_⟩; clear hKD KD))
  · have hlt : m < l.length := by simpa using h
    refine AW.drawn (ds := [17, 18, 19, 20, 21, 22, 23, 24, 25, 26]) (fin := []) (bs := [0, 0, 0, 0, 0, 0, 0, 0, 0, 0]) [⟨[], [], [], [], 0⟩, ⟨[], [], [], [], 0⟩, ⟨[(17, 0), (18, 1)], [], [], [], 0⟩, ⟨[(19, 2)], [], [], [], 0⟩, ⟨[], [], [], [], 0⟩, ⟨[], [], [], [], 0⟩, ⟨[(21, 4), (22, 5)], [], [], [], 0⟩, ⟨[(23, 6)], [], [], [], 0⟩, ⟨[(20, 3), (24, 7)], [], [], [], 0⟩, ⟨[(25, 8)], [], [], [], 0⟩] (by kernel_rfl) rfl (by kernel_rfl) rfl rfl rfl fun KD hKD => ?_
    refine g ?_
    repeat' (first | refine hold_ (g ?_) | (refine hKD _ _ ⟨rfl, g ?_⟩; clear hKD KD) | exact trivial)
    refine ⟨by omega, _, get_map (List.getElem?_eq_getElem hlt), ?_⟩
    refine g ?_
    repeat' (first | refine hold_ (g ?_) | (refine hKD _ _ ⟨rfl, g ?_⟩; clear hKD KD) | exact trivial)
    refine ⟨by omega, _, get_map (List.getElem?_eq_getElem hlt), ?_⟩
    refine g ?_
    repeat' (first | refine hold_ (g ?_) | (refine hKD _ _ ⟨rfl, g ?_⟩; clear hKD KD) | exact trivial)
    refine call_ (rnsame_call l[m]) rfl ?_
    refine g ?_
    repeat' (first | refine hold_ (g ?_) | (refine hKD _ _ ⟨rfl, g ?_⟩; clear hKD KD) | exact trivial)
    refine g ?_
    repeat' (first | refine st_ rfl (g ?_) | refine hold_ (g ?_) | exact trivial | refine cond_ (fun h => g ?_) (fun h => g ?_) | (refine hKD _ _ ⟨rfl, g ?_⟩; clear hKD KD))
    exact ⟨⟨m + 1, hlt⟩, id, ⟨⟨rfl, rfl, rfl, trivial⟩, trivial, List.nodup_nil⟩, by show l.length - (m + 1) < l.length - m; omega⟩
  · exact ⟨.inl trivial, id, List.nodup_nil⟩
end Go.Proofs.YtaiekfeiaamemaaGreatDoor
namespace Go.Proofs.YtaiekfeiaamemaaGreatDoor
open Go.ChangeShapes Go.WideShapes Go.ChangeAt Go.RowKit
section
attribute [local irreducible] rowOf
theorem setI_len (f : Nat → Bool) : (setI f).length = 256 := by unfold setI; rw [List.length_map, Array.length_toList, setRow_size]
theorem setI_at {f : Nat → Bool} {o : Nat} (h : o < 256) : (setI f)[o]? = some (.val (.bool (f o))) := by
  unfold setI setRow
  rw [List.getElem?_map, Array.getElem?_toList, rowOf_at h]; rfl
theorem c64I_len (c : Nat → Int) : (c64I c).length = 64 := by unfold c64I; rw [List.length_map, Array.length_toList, row64_size]
theorem c64I_at {c : Nat → Int} {n : Nat} (h : n < 64) : (c64I c)[n]? = some (.val (.int .i64 (c n))) := by
  unfold c64I row64
  rw [List.getElem?_map, Array.getElem?_toList, rowOf_at h]; rfl
end
attribute [local irreducible] setI c64I
theorem setI_congr {f g : Nat → Bool} (h : ∀ o, o < 256 → f o = g o) : setI f = setI g := List.ext_getElem? fun o => by
  by_cases ho : o < 256
  · rw [setI_at ho, setI_at ho, h o ho]
  · rw [List.getElem?_eq_none (by rw [setI_len]; omega), List.getElem?_eq_none (by rw [setI_len]; omega)]
theorem store_ar {P : Program} {t q s b : Nat} {cells C : List IV} {bk : List BA} {K : List BA → Prop} (ht : tyK P t = some (q, s)) (hs : C.length = s) (hb : findB b bk = some (.arr b cells)) (hl : cells.length = s) (hK : K (replB b [.arr b C] bk)) : storeQ P t (.bp b 0) (.aggI C) bk K := by
  rw [storeQ_bp, ht]
  refine ⟨rfl, by rw [cellsA_aggI, List.length_map]; exact hs, ?_⟩
  rw [hb]
  refine ⟨C, by rw [cellsA_aggI, toIs_map], by rw [cellsA_aggI]; exact okAs_map C, by omega, ?_⟩
  rw [setsL_all (by omega)]
  exact hold_ hK
attribute [local irreducible] AW AWY vops vopsY vop vopL vdraw callW qop binQ lenQ storeQ appendQ callQ ACalls AIter
attribute [local go_sem] wrI_eq enW_eq noteA_eq storeQ_agg storeQ_val storeQ_iv storeQ_own

theorem rsofD (f : Nat → Bool) : ACalls Tryz.prog TzTab 165 [.aggI (setI f)] (.iv (spI (ofSet f))) [] := (rsof_call f).frz trivial
end Go.Proofs.YtaiekfeiaamemaaGreatDoor
