/- Zones and what is sharp between them: told one by one (the program's). -/
import Derived.Test.YtkphfdmelfhnoaaGreatDoorPTouch
import Derived.Test.YtkphfdmelfhnoaaGreatDoorPShelfAll
set_option linter.all false
set_option linter.unnecessarySimpa false
set_option linter.unusedSimpArgs false
set_option linter.unusedVariables false
namespace Go.Proofs.YtkphfdmelfhnoaaGreatDoor
open Go.ChangeShapes Go.WideShapes Go.ChangeAt Go.RowKit
attribute [local irreducible] AW AWY vops vopsY vop vopL vdraw callW qop binQ lenQ storeQ appendQ callQ ACalls AIter setI
attribute [local go_sem] enZ_eq znI_eq storeQ_bp storeQ_rp
theorem pieces_call (z : List Zone) (known : List Stamp) : ACalls Tryz.prog TzTab 155 [.iv (znI z), .iv (stI known)] (.fn 221 [.ip [znI z], .ip [stI known]]) [] := by
 have h : ACalls Tryz.prog TzTab 155 [.iv (znI z), .iv (stI known)] (.fn 221 [.bp 0 0, .bp 1 0]) [.box 0 [.iv (znI z)], .box 1 [.iv (stI known)]] := by
  refine ACalls.of (n := 6) (rs := [.tmp 4]) Tryz.func155 rfl (by kernel_rfl) Tryz.ntmps155 (by kernel_rfl) (by simp) (fun _ _ => TzTab.later) ?_
  intro hok V w0
  refine g ?_
  repeat' refine st_ rfl (g ?_)
  exact ⟨fun b => 300 + 100 * b, rfl, ⟨rfl, rfl⟩, by simp⟩
 exact (h.frz ⟨trivial, trivial⟩).frz ⟨trivial, trivial⟩
def zoA (x : Zone) : AV := .agg [.val (.int .i64 x.span.lo), .val (.int .i64 x.span.hi), .iv (stI x.vec)]
def enZo (x : Zone) : List AV := [zoA x]
def gapZ (known : List Stamp) (p : Option Zone) (x : Zone) : List Zone := if zoneEnd p + 1 < x.span.lo then [⟨⟨zoneEnd p + 1, x.span.lo - 1⟩, known⟩] else []
def uptoZ (z : List Zone) (known : List Stamp) : Nat → List Zone
 | 0 => []
 | i + 1 => uptoZ z known i ++ (match z[i]? with
  | some x => gapZ known (z.take i).getLast? x ++ [x]
  | none => [])
def tailZ (z : List Zone) (known : List Stamp) : List Zone := if zoneEnd z.getLast? + 1 ≤ 255 then [⟨⟨zoneEnd z.getLast? + 1, 255⟩, known⟩] else []
def piecesZ (z : List Zone) (known : List Stamp) : List Zone := uptoZ z known z.length ++ tailZ z known
theorem upto_step {z : List Zone} {known : List Stamp} {i : Nat} (h : i < z.length) : uptoZ z known (i + 1) = uptoZ z known i ++ (gapZ known (z.take i).getLast? z[i] ++ [z[i]]) := by
 rw [uptoZ, List.getElem?_eq_getElem h]
theorem upto_pre (z : List Zone) (known : List Stamp) : ∀ {i k : Nat}, i ≤ k → uptoZ z known i <+: uptoZ z known k := fun {i k} h => by
  induction k with
  | zero => obtain rfl : i = 0 := by omega
            exact List.prefix_rfl
  | succ k ih =>
    rcases Nat.lt_or_ge i (k + 1) with h1 | h1
    · exact (ih (by omega)).trans (List.prefix_append _ _)
    · obtain rfl : i = k + 1 := by omega
      exact List.prefix_rfl
theorem upto_all {z : List Zone} {known : List Stamp} {i : Nat} (h : i ≤ z.length) : uptoZ z known i <+: piecesZ z known := (upto_pre z known h).trans (List.prefix_append _ _)
theorem zones_each : ∀ {l : List Zone} {p : Option Zone}, zonesFrom p l = true → -1 ≤ zoneEnd p → ∀ x ∈ l, 0 ≤ x.span.lo ∧ x.span.lo ≤ x.span.hi ∧ x.span.hi ≤ 255
 | [], _, _, _, x, hx => by simp at hx
 | y :: l, p, h, hp, x, hx => by
  simp only [zonesFrom, zoneNext, zoneOk, Bool.and_eq_true, decide_eq_true_eq] at h
  obtain ⟨⟨⟨h1, _⟩, ⟨h2, h3⟩, _⟩, h4⟩ := h
  rcases List.mem_cons.1 hx with rfl | hx
  ·omega
  ·exact zones_each h4 (show -1 ≤ y.span.hi by omega) x hx
theorem zones_pre {z : List Zone} (h : zonesFormed z = true) (i : Nat) : zonesFrom none (z.take i) = true := by
 unfold zonesFormed at h
 rw [← List.take_append_drop i z, zonesFrom_append, Bool.and_eq_true] at h
 exact h.1
set_option maxRecDepth 100000 in
theorem pieces_iter (z : List Zone) (known : List Stamp) (hf : zonesFormed z = true) : AIter Tryz.prog TzTab 221 [.ip [znI z], .ip [stI known]] enZo (fun ys => ys = piecesZ z known) (fun pre => pre <+: piecesZ z known) := by
  refine AIter.of (n := 48) Tryz.func221 rfl (by kernel_rfl) Tryz.ntmps221 (by kernel_rfl) (by simp) (fun _ _ => TzTab.later) ?_
  intro hok Y
  have hlen : z.length ≤ 1073741824 := by simpa [znI] using hok.1.1.1
  refine g ?_
  refine g ?_
  repeat' refine stY_ rfl (g ?_)
  refine AWY.loop (fun i : {i : Nat // i ≤ z.length} => (.going (uptoZ z known i.1), ⟨[(0, .val (.func (.yield Y.l) #[] #[])), (2, .ip [stI known]), (4, .val (.int .i64 (zoneEnd (z.take i.1).getLast? + 1))), (7, .iv (znI z)), (8, .val (.int .i64 (z.length : Nat))), (9, .val (.int .i64 (i.1 : Nat)))], []⟩)) (fun i => z.length - i.1) ⟨0, Nat.zero_le _⟩ id ⟨rfl, ⟨rfl, rfl, rfl, rfl, rfl, rfl, trivial⟩, trivial, List.nodup_nil⟩ fun ⟨i, hi⟩ => ?_
  have hE := zoneEnd_in (l := z.take i) (p := none) (zones_pre hf i) ⟨by decide, by decide⟩
  rw [Option.or_none] at hE
  refine g ?_
  repeat' (first | refine stY_ rfl (g ?_) | refine cond_ (fun h => g ?_) (fun h => g ?_))
  · have hlt : i < z.length := by simpa using h
    obtain ⟨-, o1, o2, o3, -⟩ := okR_mem (by simpa [znI] using hok.1.1.2) (enZ z[i]) (List.mem_map_of_mem (List.getElem_mem hlt))
    have hz := zones_each hf (by decide) z[i] (List.getElem_mem hlt)
    refine ⟨by omega, _, get_map (List.getElem?_eq_getElem hlt), ?_⟩
    refine g ?_
    repeat' (first | refine stY_ rfl (g ?_) | refine hold_ (g ?_))
    cases hg : decide (zoneEnd (List.take i z).getLast? + 1 < z[i].span.lo)
    · have hs : uptoZ z known i ++ [z[i]] = uptoZ z known (i + 1) := by rw [upto_step hlt, gapZ, if_neg (of_decide_eq_false hg), List.nil_append]
      refine g ?_
      repeat' refine stY_ rfl (g ?_)
      refine vopsY_y (x := z[i]) ?_ ?_ ?_ ?_
      · rfl
      · exact Sbs.rfl_ _
      · rw [hs]; exact upto_all hlt
      simp only [go_sem, reduceIte]
      rw [hs]
      refine ⟨⟨o1, o2, trivial, trivial⟩, ?_, ?_⟩
      · refine g ?_
        repeat' refine stY_ rfl (g ?_)
        exact ⟨⟨i + 1, hlt⟩, id, rfl, ⟨⟨rfl, rfl, by rw [take_last hlt]; rfl, rfl, rfl, rfl, trivial⟩, trivial, List.nodup_nil⟩, by show z.length - (i + 1) < z.length - i; omega⟩
      · refine g ?_
        repeat' (first | refine stY_ rfl (g ?_) | exact trivial)
    · have hs : uptoZ z known i ++ [(⟨⟨zoneEnd (z.take i).getLast? + 1, z[i].span.lo - 1⟩, known⟩ : Zone), z[i]] = uptoZ z known (i + 1) := by rw [upto_step hlt, gapZ, if_pos (of_decide_eq_true hg)]; rfl
      refine g ?_
      refine vopsY_yg (x := (⟨⟨zoneEnd (z.take i).getLast? + 1, z[i].span.lo - 1⟩, known⟩ : Zone)) rfl ?_ ?_ ?_ ?_
      · rfl
      · exact Sbs.rfl_ _
      · refine List.IsPrefix.trans ?_ (upto_all hlt)
        rw [← hs]
        exact ⟨[z[i]], by simp⟩
      simp only [go_sem, reduceIte]
      refine ⟨⟨o1, o2, trivial, trivial⟩, ?_, ?_⟩
      · refine g ?_
        repeat' refine stY_ rfl (g ?_)
        refine vopsY_y (x := z[i]) ?_ ?_ ?_ ?_
        · rfl
        · exact Sbs.rfl_ _
        · rw [List.append_assoc]
          show uptoZ z known i ++ [_, z[i]] <+: _
          rw [hs]; exact upto_all hlt
        simp only [go_sem, reduceIte]
        rw [List.append_assoc, List.singleton_append, hs]
        refine ⟨?_, ?_⟩
        · refine g ?_
          repeat' refine stY_ rfl (g ?_)
          exact ⟨⟨i + 1, hlt⟩, id, rfl, ⟨⟨rfl, rfl, by rw [take_last hlt]; rfl, rfl, rfl, rfl, trivial⟩, trivial, List.nodup_nil⟩, by show z.length - (i + 1) < z.length - i; omega⟩
        · refine g ?_
          repeat' (first | refine stY_ rfl (g ?_) | exact trivial)
      · refine g ?_
        repeat' (first | refine stY_ rfl (g ?_) | exact trivial)
  · rename_i h0
    obtain rfl : i = z.length := by have : z.length ≤ i := by simpa using h0
                                    omega
    rw [List.take_length] at *
    refine vopsY_y (x := ⟨⟨zoneEnd z.getLast? + 1, 255⟩, known⟩) ?_ ?_ ?_ ?_
    · rfl
    · exact Sbs.rfl_ _
    · rw [piecesZ, tailZ, if_pos (of_decide_eq_true h)]; exact List.prefix_rfl
    simp only [go_sem]
    refine ⟨⟨.inr trivial, ?_⟩, .inr trivial⟩
    rw [piecesZ, tailZ, if_pos (of_decide_eq_true h)]
  · rename_i h0
    obtain rfl : i = z.length := by have : z.length ≤ i := by simpa using h0
                                    omega
    rw [List.take_length] at *
    refine ⟨.inr trivial, ?_⟩
    rw [piecesZ, tailZ, if_neg (of_decide_eq_false h), List.append_nil]
end Go.Proofs.YtkphfdmelfhnoaaGreatDoor
