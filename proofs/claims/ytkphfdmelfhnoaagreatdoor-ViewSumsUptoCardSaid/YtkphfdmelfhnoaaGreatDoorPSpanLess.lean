/- What a set lacks; what is in the first alone (the program's). -/
import Derived.Test.YtkphfdmelfhnoaaGreatDoorPNoteMerge
import Derived.Test.YtkphfdmelfhnoaaGreatDoorPBridge2
import Derived.Test.YtkphfdmelfhnoaaGreatDoorPTouch
import Derived.Test.YtkphfdmelfhnoaaGreatDoorPTakeLaw
set_option linter.all false
set_option linter.unnecessarySimpa false
set_option linter.unusedSimpArgs false
set_option linter.unusedVariables false
namespace Go.Proofs.YtkphfdmelfhnoaaGreatDoor
open Go.ChangeShapes Go.WideShapes Go.ChangeAt Go.RowKit
attribute [local irreducible] AW AWY vops vopsY vop vopL vdraw callW qop binQ lenQ storeQ appendQ callQ ACalls AIter
attribute [local go_sem] wrI_eq noteA_eq storeQ_bp storeQ_rp
theorem smeet_D (l m : List Span) : ACalls Tryz.prog TzTab 119 [.iv (spI l), .iv (spI m)] (.iv (spI (meetS2 l m))) [] := (smeet_call l m).frz trivial
end Go.Proofs.YtkphfdmelfhnoaaGreatDoor
namespace Go.Proofs.YtkphfdmelfhnoaaGreatDoor
open Go.ChangeShapes Go.WideShapes Go.ChangeAt Go.RowKit
attribute [local irreducible] AW AWY vops vopsY vop vopL vdraw callW qop binQ lenQ storeQ appendQ callQ ACalls AIter
attribute [local go_sem] storeQ_bp storeQ_rp
theorem spI_eq_SpanLess (l : List Span) : spI l = .sl 2 (l.map enSp) := rfl
attribute [local go_sem] spI_eq_SpanLess enSp_eq
def gapS (n : Int) (s : Span) : List Span := if n < s.lo then [⟨n, s.lo - 1⟩] else []
def restF (n : Int) : List Span → List Span × Int
 | [] => ([], n)
 | s :: l => (gapS n s ++ (restF (s.hi + 1) l).1, (restF (s.hi + 1) l).2)
theorem restF_snoc : ∀ (l : List Span) (n : Int) (s : Span), restF n (l ++ [s]) = ((restF n l).1 ++ gapS (restF n l).2 s, s.hi + 1)
 | [], n, s => by simp [restF]
 | t :: l, n, s => by rw [List.cons_append, restF, restF_snoc l]; simp [restF]
def tailS (n : Int) : List Span := if n ≤ 255 then [⟨n, 255⟩] else []
theorem restF_all : ∀ (l : List Span) (n : Int), restL n l = (restF n l).1 ++ tailS (restF n l).2
 | [], n => by rw [restL, restF, tailS, List.nil_append]
 | s :: l, n => by rw [restL, restF, restF_all l]; simp [gapS]
theorem restF_len : ∀ (l : List Span) (n : Int), (restF n l).1.length ≤ l.length
 | [], n => Nat.le_refl _
 | s :: l, n => by
  have := restF_len l (s.hi + 1)
  have h2 : (gapS n s).length ≤ 1 := by unfold gapS; split <;> simp
  rw [restF, List.length_append, List.length_cons]
  omega
def restS (l : List Span) : List Span := ofSet fun o => !memB l o
set_option maxRecDepth 100000 in
set_option maxHeartbeats 800000 in
theorem srest_call (l : List Span) : ACalls Tryz.prog TzTab 185 [.iv (spI l)] (.iv (spI (restS l))) [] := by
 refine ACalls.ofS (n := 38) (rs := [.tmp 2]) Tryz.func185 rfl (by kernel_rfl) Tryz.ntmps185 (by kernel_rfl) (by simp) (fun _ _ => TzTab.later) ?_
 intro hok V w0
 obtain ⟨T, hT⟩ : ∃ T, tidyS l = T := ⟨_, rfl⟩
 have hin : ∀ s ∈ T, 0 ≤ s.lo ∧ s.lo ≤ s.hi ∧ s.hi ≤ 255 := fun s hs => by
  have := formed_all (e := -2) (by rw [← hT]; exact ofSet_formed _) s hs
  omega
 have hTl : T.length ≤ 128 := by rw [← hT]; exact ofSet_len _
 have hres : restS l = (restF 0 T).1 ++ tailS (restF 0 T).2 := by rw [← restF_all, ← hT, restL_tidy]; rfl
 have hst := stidyD l
 rw [hT] at hst
 rw [hres]
 refine g ?_
 repeat' (first | refine st_ rfl (g ?_) | refine call_ (hst) rfl (g ?_))
 refine AW.adopt 3 9900 78 2 rfl rfl ?_
 refine AW.loop (fun m : {m : Nat // m ≤ T.length ∧ 0 ≤ (restF 0 (T.take m)).2 ∧ (restF 0 (T.take m)).2 ≤ 256} => ⟨[(3, .own 9900), (4, .val (.int .i64 (restF 0 (T.take m.1)).2)), (8, .iv (spI T)), (9, .val (.int .i64 (T.length : Nat))), (10, .val (.int .i64 (m.1 : Nat)))], [.row 9900 78 2 ((restF 0 (T.take m.1)).1.map enSp)]⟩) (fun m => T.length - m.1) ⟨0, Nat.zero_le _, by simp [restF], by simp [restF]⟩ id ⟨⟨rfl, rfl, rfl, ?_, rfl, trivial⟩, ⟨rfl, trivial⟩, by simp [idsOf, BA.id]⟩ fun ⟨m, hm, h0, h1⟩ => ?_
 ·simp [AV.ren, look]
 simp only
 have hl1 := restF_len (T.take m) 0
 rw [List.length_take] at hl1
 obtain ⟨fr, hfr⟩ : ∃ fr, (restF 0 (T.take m)).2 = fr := ⟨_, rfl⟩
 obtain ⟨O, hO⟩ : ∃ O, (restF 0 (T.take m)).1 = O := ⟨_, rfl⟩
 simp only [hfr, hO] at h0 h1 hl1 ⊢
 repeat (refine AW.seq ?_)
 refine AW.reg rfl fun KK hKK => ?_
 refine g ?_
 repeat' (refine hKK _ (g ?_); clear hKK KK)
 repeat (refine AW.seq ?_)
 refine st_ rfl ?_
 refine g ?_
 refine cond_ (fun h => ?_) (fun h => ?_)
 ·have hlt : m < T.length := by have := of_decide_eq_true h; omega
  obtain ⟨x, hx⟩ : ∃ x, T[m] = x := ⟨_, rfl⟩
  have hi := hin x (hx ▸ List.getElem_mem hlt)
  have hget := get_map (f := enSp) (List.getElem?_eq_getElem hlt)
  have hs := restF_snoc (T.take m) 0 T[m]
  rw [← List.take_succ_eq_append_getElem hlt, hfr, hO] at hs
  rw [hx] at hs hget
  have w1 : I64 x.lo := I64.of (by omega) (by omega)
  have w2 : I64 x.hi := I64.of (by omega) (by omega)
  have w3 : I64 fr := I64.of (by omega) (by omega)
  have w4 : I64 (x.lo - 1) := I64.of (by omega) (by omega)
  refine g ?_
  repeat' refine st_ rfl (g ?_)
  refine ⟨by omega, _, hget, ?_⟩
  refine g ?_
  repeat' (first | refine st_ rfl (g ?_) | refine hold_ (g ?_) | refine cond_d (fun h => g ?_) (fun h => g ?_))
  ·refine bs1 (by omega) rfl rfl rfl ⟨w3, w4, trivial⟩ ?_
   refine g ?_
   refine append_own rfl (by kernel_rfl) (by omega) (by kernel_rfl) rfl (by simp; omega) ?_
   refine g ?_
   repeat' refine st_ rfl (g ?_)
   refine ⟨⟨m + 1, hlt, by rw [hs]; show 0 ≤ x.hi + 1; omega, by rw [hs]; show x.hi + 1 ≤ 256; omega⟩, fun b => if b = 9900 then 2600 else b, ⟨⟨rfl, by rw [hs]; rfl, rfl, rfl, rfl, trivial⟩, ⟨?_, trivial⟩, by simp [idsOf, BA.id]⟩, by show T.length - (m + 1) < T.length - m; omega⟩
   rw [hs, gapS, if_pos h, List.map_append]
   rfl
  ·refine ⟨⟨m + 1, hlt, by rw [hs]; show 0 ≤ x.hi + 1; omega, by rw [hs]; show x.hi + 1 ≤ 256; omega⟩, id, ⟨⟨rfl, by rw [hs]; rfl, rfl, rfl, rfl, trivial⟩, ⟨?_, trivial⟩, by simp [idsOf, BA.id]⟩, by show T.length - (m + 1) < T.length - m; omega⟩
   rw [hs, gapS, if_neg h, List.append_nil]
   rfl
 ·obtain rfl : m = T.length := by have := of_decide_eq_false h; omega
  rw [List.take_length] at hfr hO
  have w3 : I64 fr := I64.of (by omega) (by omega)
  refine AW.exit ?_
  simp only [reduceIte, hfr, hO]
  unfold tailS
  repeat (refine AW.seq ?_)
  refine AW.reg rfl fun KK hKK => ?_
  refine g ?_
  repeat' (refine hKK _ (g ?_); clear hKK KK)
  repeat (refine AW.seq ?_)
  refine st_ rfl ?_
  refine g ?_
  refine cond_d (fun h => ?_) (fun h => ?_)
  ·rw [if_pos h]
   refine g ?_
   repeat' refine st_ rfl (g ?_)
   refine bs1 (by omega) rfl rfl rfl ⟨w3, rfl, trivial⟩ ?_
   refine g ?_
   refine append_own rfl (by kernel_rfl) (by omega) (by kernel_rfl) rfl (by simp; omega) ?_
   refine g ?_
   refine AW.freeze 3700 _ rfl trivial ?_
   simp only [go_sem, reduceIte, Nat.reduceEqDiff]
   refine g ?_
   repeat' refine st_ rfl (g ?_)
   rw [List.map_append]
   exact Sub1.rfl_ _
  ·rw [if_neg h, List.append_nil]
   refine AW.freeze 9900 _ rfl trivial ?_
   simp only [go_sem, reduceIte, Nat.reduceEqDiff]
   refine g ?_
   repeat' refine st_ rfl (g ?_)
   exact Sub1.rfl_ _
theorem sless_D (l m : List Span) : ACalls Tryz.prog TzTab 115 [.iv (spI l), .iv (spI m)] (.iv (spI (lessS2 l m))) [] := by
 have he : lessS2 l m = meetS2 l (restS m) := by
  unfold lessS2 meetS2 restS
  exact ofSet_congr fun o ho => by rw [memB_ofSet _ ho]
 rw [he]
 refine ACalls.of (n := 9) (rs := [.tmp 4]) Tryz.func115 rfl (by kernel_rfl) Tryz.ntmps115 (by kernel_rfl) (by simp) (fun _ _ => TzTab.later) ?_
 intro hok V w0
 refine g ?_
 repeat' (first | refine st_ rfl (g ?_) | exact trivial | refine call_ (srest_call _) rfl (g ?_) | refine call_ (smeet_D _ _) rfl (g ?_))
end Go.Proofs.YtkphfdmelfhnoaaGreatDoor
