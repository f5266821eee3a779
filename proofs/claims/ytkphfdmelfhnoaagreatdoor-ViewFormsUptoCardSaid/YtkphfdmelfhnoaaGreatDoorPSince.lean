/- Up to where all of an interest is known sharply (the program's). -/
import Derived.Test.YtkphfdmelfhnoaaGreatDoorPPieces
set_option linter.all false
set_option linter.unnecessarySimpa false
set_option linter.unusedSimpArgs false
set_option linter.unusedVariables false
namespace Go.Proofs.YtkphfdmelfhnoaaGreatDoor
open Go.ChangeShapes Go.WideShapes Go.ChangeAt Go.RowKit
attribute [local irreducible] AW AWY vops vopsY vop vopL vdraw callW qop binQ lenQ storeQ appendQ callQ ACalls AIter setI
attribute [local go_sem] storeQ_bp storeQ_rp
theorem i64_litS {n : Int} (h : (-9223372036854775808 ≤ n && n ≤ 9223372036854775807) = true) : I64 n := by
 simp only [Bool.and_eq_true, decide_eq_true_eq] at h
 exact I64.of h.1 h.2
def MeetOk : Prop := ∀ ls : List (List Stamp), (∀ l ∈ ls, vecFormed l = true) → ACalls Tryz.prog TzTab 217 [.iv (stsI ls)] (.iv (stI (meetS ls))) []
def reachT (it : List Span) (ps : List Zone) : List (List Stamp) := (ps.filter fun x => touchS it [x.span]).map (·.vec)
def sinceT (z : List Zone) (known : List Stamp) (it : List Span) : List Stamp := if zonesFormed z = true ∧ vecFormed known = true then (if (reachT it (piecesZ z known)).length = 0 then known else meetS (reachT it (piecesZ z known))) else []
theorem pieces_len (z : List Zone) (known : List Stamp) : (piecesZ z known).length ≤ 2 * z.length + 1 := by
 have h : ∀ i, (uptoZ z known i).length ≤ 2 * i := fun i => by
  induction i with
  | zero => exact Nat.le_refl _
  | succ i ih =>
   rw [uptoZ, List.length_append]
   split
   ·unfold gapZ
    split <;> simp <;> omega
   ·simp; omega
 have := h z.length
 rw [piecesZ, List.length_append]
 have : (tailZ z known).length ≤ 1 := by unfold tailZ; split <;> simp
 omega
theorem zones_len : ∀ {l : List Zone} {p : Option Zone}, zonesFrom p l = true → zoneEnd p ≤ 255 → (l.length : Int) ≤ 255 - zoneEnd p
 | [], p, _, hp => by simp; omega
 | y :: l, p, h, hp => by
  simp only [zonesFrom, zoneNext, zoneOk, Bool.and_eq_true, decide_eq_true_eq] at h
  obtain ⟨⟨⟨h1, _⟩, ⟨h2, h3⟩, _⟩, h4⟩ := h
  have h5 : (l.length : Int) ≤ 255 - y.span.hi := zones_len h4 h3
  rw [List.length_cons]
  omega
theorem reachT_snoc (it : List Span) (ps : List Zone) (x : Zone) : reachT it (ps ++ [x]) = reachT it ps ++ if touchS it [x.span] = true then [x.vec] else [] := by
 unfold reachT
 rw [List.filter_append, List.map_append]
 congr 1
 cases h : touchS it [x.span] <;> simp [h]
theorem upto_in {z : List Zone} {known : List Stamp} (hF : zonesFormed z = true) (hk : vecFormed known = true) : ∀ i, ∀ x ∈ uptoZ z known i, (0 ≤ x.span.lo ∧ x.span.lo ≤ 255 ∧ 0 ≤ x.span.hi ∧ x.span.hi ≤ 255) ∧ vecFormed x.vec = true
 | 0, x, hx => by simp [uptoZ] at hx
 | i + 1, x, hx => by
  rw [uptoZ, List.mem_append] at hx
  rcases hx with hx | hx
  ·exact upto_in hF hk i x hx
  ·cases hc : z[i]? with
   | none => rw [hc] at hx; simp at hx
   | some y =>
    rw [hc] at hx
    have hy : y ∈ z := List.mem_of_getElem? hc
    have h1 := zones_each hF (by decide) y hy
    have h2 := zonesFrom_mem hF y hy
    simp only [zoneOk, Bool.and_eq_true] at h2
    have h3 := zoneEnd_at (zones_pre hF i)
    simp only [List.mem_append, List.mem_singleton] at hx
    rcases hx with hx | rfl
    ·unfold gapZ at hx
     split at hx
     ·rw [List.mem_singleton] at hx
      subst hx
      exact ⟨⟨by show 0 ≤ zoneEnd _ + 1; omega, by show zoneEnd _ + 1 ≤ 255; omega, by show 0 ≤ y.span.lo - 1; omega, by show y.span.lo - 1 ≤ 255; omega⟩, hk⟩
     ·simp at hx
    ·exact ⟨by omega, h2.2⟩
theorem pieces_in {z : List Zone} {known : List Stamp} (hF : zonesFormed z = true) (hk : vecFormed known = true) : ∀ x ∈ piecesZ z known, (0 ≤ x.span.lo ∧ x.span.lo ≤ 255 ∧ 0 ≤ x.span.hi ∧ x.span.hi ≤ 255) ∧ vecFormed x.vec = true := fun x hx => by
 rw [piecesZ, List.mem_append] at hx
 rcases hx with hx | hx
 ·exact upto_in hF hk _ x hx
 ·unfold tailZ at hx
  have h3 := zoneEnd_at (zones_pre hF z.length)
  rw [List.take_length] at h3
  split at hx
  ·rw [List.mem_singleton] at hx
   subst hx
   exact ⟨⟨by show 0 ≤ zoneEnd _ + 1; omega, by show zoneEnd _ + 1 ≤ 255; omega, by show (0 : Int) ≤ 255; decide, by show (255 : Int) ≤ 255; decide⟩, hk⟩
  ·simp at hx
set_option maxRecDepth 100000 in
set_option maxHeartbeats 800000 in
theorem tsince_call (hM : MeetOk) (z : List Zone) (known : List Stamp) (it : List Span) : ACalls Tryz.prog TzTab 149 [.iv (znI z), .iv (stI known), .iv (spI it)] (.iv (stI (sinceT z known it))) [] := by
 refine ACalls.ofS (n := 38) (rs := [.tmp 6]) Tryz.func149 rfl (by kernel_rfl) Tryz.ntmps149 (by kernel_rfl) (by simp) (fun _ _ => TzTab.later) ?_
 intro hok V w0
 refine g ?_
 repeat' (first | refine st_ rfl (g ?_) | refine hold_ (g ?_) | exact trivial | refine cond_d (fun h => g ?_) (fun h => g ?_) | refine cond_ (fun h => g ?_) (fun h => g ?_) | (refine vops_ifd rfl rfl (fun h e => ?_) (fun h e => ?_) <;> simp only [e] <;> clear e <;> refine g ?_) | (refine vops_if rfl rfl (fun h => ?_) (fun h => ?_) <;> simp only [h] <;> refine g ?_) | refine ix_ (by omega) (g ?_) | refine call_ (zformed_call _) rfl (g ?_) | refine call_ (vformed_call _) rfl (g ?_) | refine call_ (pieces_call _ _) rfl (g ?_))
 ·rw [sinceT, if_neg (by rintro ⟨a1, a2⟩; simp [a1] at h)]; exact nil_sub 2
 ·rw [sinceT, if_neg (by rintro ⟨a1, a2⟩; simp [a2] at h)]; exact nil_sub 2
 rename_i h1
 have h2 := h
 have hF : zonesFormed z = true := by simpa using h1
 have hlen : z.length ≤ 256 := by
  have : (z.length : Int) ≤ 255 - -1 := zones_len hF (by decide)
  omega
 rw [sinceT, if_pos ⟨hF, by simpa using h2⟩]
 refine AW.freeze 600 _ rfl ⟨trivial, trivial⟩ ?_
 simp only [go_sem, reduceIte, Nat.reduceEqDiff]
 refine AW.adoptB 800 9900 22 1 rfl rfl ?_
 refine AW.le (S := ⟨[(7, .bp 800 0), (1, .iv (stI known)), (5, .ip [spI it]), (19, .fn 221 [.ip [znI z], .ip [stI known]])], [.row 9900 22 1 ((reachT it []).map fun l => [stI l]), .box 800 [.own 9900]]⟩) (ρ := id) ⟨⟨rfl, rfl, rfl, rfl, trivial⟩, ⟨rfl, rfl, trivial⟩, by simp [idsOf, BA.id]⟩ ?_
 refine AW.range (pieces_iter z known hF) [(7, .bp 800 0)] [(1, .iv (stI known)), (5, .ip [spI it]), (19, .fn 221 [.ip [znI z], .ip [stI known]])] (fun pre => [.row 9900 22 1 ((reachT it pre).map fun l => [stI l]), .box 800 [.own 9900]]) (fun _ => True) rfl trivial rfl rfl rfl rfl (fun x => ⟨rfl, rfl⟩) (fun c pre x hsp hI => ?_) (fun xs hS hI => ?_)
 ·have hl := hsp.length_le
  have hl2 := pieces_len z known
  rw [List.length_append, List.length_singleton] at hl
  have hr : (reachT it pre).length ≤ pre.length := by unfold reachT; rw [List.length_map]; exact List.length_filter_le ..
  have hin := pieces_in hF (known := known) (by simpa using h2) x (hsp.subset (by simp))
  have hsn := reachT_snoc it pre x
  simp only [parF, enZo, zoA, List.cons_append, List.nil_append]
  refine g ?_
  refine g ?_
  repeat' (first | refine st_ rfl (g ?_) | refine hold_ (g ?_) | exact trivial | refine cond_ (fun h => g ?_) (fun h => g ?_))
  have w1 : I64 x.span.lo := i64_litS (by simp; omega)
  have w2 : I64 x.span.hi := i64_litS (by simp; omega)
  refine bd1 (by omega) rfl rfl rfl ⟨w1, w2, trivial⟩ ?_
  refine g ?_
  repeat' (first | refine st_ rfl (g ?_) | refine hold_ (g ?_) | exact trivial | refine cond_ (fun h => g ?_) (fun h => g ?_))
  refine call_ (stouch_call it [x.span]) rfl ?_
  cases hT : touchS it [x.span]
  ·refine g ?_
   repeat' (first | refine st_ rfl (g ?_) | refine hold_ (g ?_) | exact trivial | refine cond_ (fun h => g ?_) (fun h => g ?_))
   refine ⟨trivial, id, ⟨rfl, trivial⟩, ⟨?_, rfl, trivial⟩, by simp [idsOf, BA.id]⟩
   rw [hsn, hT, if_neg (by decide), List.append_nil]
   rfl
  ·refine g ?_
   repeat' (first | refine st_ rfl (g ?_) | refine hold_ (g ?_) | exact trivial | refine cond_ (fun h => g ?_) (fun h => g ?_))
   refine bs1 (by omega) rfl rfl rfl ⟨trivial, trivial⟩ ?_
   refine g ?_
   repeat' (first | refine st_ rfl (g ?_) | refine hold_ (g ?_) | exact trivial | refine cond_ (fun h => g ?_) (fun h => g ?_))
   refine append_own rfl (by kernel_rfl) (by omega) (by kernel_rfl) rfl (by simp; omega) ?_
   refine g ?_
   repeat' (first | refine st_ rfl (g ?_) | refine hold_ (g ?_) | exact trivial | refine cond_ (fun h => g ?_) (fun h => g ?_))
   refine ⟨trivial, fun b => if b = 9900 then 3100 else b, ⟨rfl, trivial⟩, ⟨?_, rfl, trivial⟩, by simp [idsOf, BA.id]⟩
   rw [hsn, hT, if_pos rfl, List.map_append]
   rfl
 ·subst hS
  have hin := pieces_in hF (known := known) (by simpa using h2)
  obtain ⟨R, hR⟩ : ∃ R, reachT it (piecesZ z known) = R := ⟨_, rfl⟩
  have hRv : ∀ l ∈ R, vecFormed l = true := fun l hl => by
   rw [← hR] at hl
   unfold reachT at hl
   obtain ⟨x, hx, rfl⟩ := List.mem_map.1 hl
   exact (hin x (List.mem_filter.1 hx).1).2
  rw [hR]
  refine g ?_
  refine AW.freeze 9900 _ rfl trivial ?_
  simp only [go_sem, reduceIte, Nat.reduceEqDiff]
  refine AW.freeze 800 _ rfl ⟨trivial, trivial⟩ ?_
  simp only [go_sem, reduceIte, Nat.reduceEqDiff]
  refine g ?_
  repeat' (first | refine st_ rfl (g ?_) | refine hold_ (g ?_) | exact trivial | refine cond_d (fun h => g ?_) (fun h => g ?_) | refine cond_ (fun h => g ?_) (fun h => g ?_) | (refine vops_ifd rfl rfl (fun h e => ?_) (fun h e => ?_) <;> simp only [e] <;> clear e <;> refine g ?_) | (refine vops_if rfl rfl (fun h => ?_) (fun h => ?_) <;> simp only [h] <;> refine g ?_) | refine ix_ (by omega) (g ?_) | refine call_ (clonestD _) rfl (g ?_) | refine call_ (hM _ hRv) rfl (g ?_))
  ·rw [if_pos (by omega)]; exact Sub1.rfl_ _
  ·rw [if_neg (by omega)]; exact Sub1.rfl_ _
end Go.Proofs.YtkphfdmelfhnoaaGreatDoor
