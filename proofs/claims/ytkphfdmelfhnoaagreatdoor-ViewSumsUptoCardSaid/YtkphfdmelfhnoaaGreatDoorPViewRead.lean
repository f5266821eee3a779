/- An object is read (the program's). -/
import Derived.Test.YtkphfdmelfhnoaaGreatDoorPViewLaw
import Derived.Test.YtkphfdmelfhnoaaGreatDoorPTakeLaw
import Derived.Test.YtkphfdmelfhnoaaGreatDoorPTurnRow
import Derived.Test.YtkphfdmelfhnoaaGreatDoorPRow
import Derived.Test.YtkphfdmelfhnoaaGreatDoorPMarks
import Derived.Test.YtkphfdmelfhnoaaGreatDoorPEnc
import Derived.Test.YtkphfdmelfhnoaaGreatDoorPPutLaw
import Derived.Test.YtkphfdmelfhnoaaGreatDoorPNoteMerge
import Derived.Test.YtkphfdmelfhnoaaGreatDoorPShelfAll
import Derived.Test.YtkphfdmelfhnoaaGreatDoorPRefTouch
import Derived.Test.YtkphfdmelfhnoaaGreatDoorRows
import Derived.Shelf.SlGeneric
import Derived.Shelf.SlSortCmp.WholeK
import Derived.Ground.SlsfProg
import Derived.Test.YtkphfdmelfhnoaaGreatDoorPPieces
import Derived.Test.YtkphfdmelfhnoaaGreatDoorPSortSpan
import Derived.Test.YtkphfdmelfhnoaaGreatDoorPBridge2
import Derived.Test.YtkphfdmelfhnoaaGreatDoorPSpanLess
import Derived.Test.YtkphfdmelfhnoaaGreatDoorPSinceSame
set_option linter.all false
set_option linter.unnecessarySimpa false
set_option linter.unusedSimpArgs false
set_option linter.unusedVariables false
namespace Go.Proofs.YtkphfdmelfhnoaaGreatDoor
def nextS (c n s : Int) : Stamp × Int :=
 if c < 0 ∨ n < 0 ∨ 64 ≤ n ∨ s < 0 then (⟨0, 0⟩, 1)
 else if 9223372036854775807 - c ≤ s then (⟨0, 0⟩, 2)
 else (⟨c + s + 1, n⟩, 0)
def greatS (l : List Stamp) : Int := (nodesOf (maskOf l) 64).foldl (fun m k => max m (countOf l (k : Nat))) 0
def ofN (known : List Stamp) (w : Write) : Note × Int :=
 if vecFormed known = true ∧ rightB w.stamp.count w.stamp.node = true ∧ rightO w.object = true ∧ vecHas known w.stamp = false then (⟨known, joinS [known, [w.stamp]], [], [w]⟩, 0) else (noNote, 1)
structure Told where
 view : View
 note : Note
 err : Int
def noTold (e : Int) : Told := ⟨noView, noNote, e⟩
def writeV (v : View) (me object skip : Int) (value : List Nat) (gone : Bool) : Told :=
  if viewFormed v = true ∧ rightO object = true ∧ value.length ≤ 256 ∧ (gone && decide (0 < value.length)) = false then
    (if (nextS (greatS v.known) me skip).2 = 0 then
      (if (ofN v.known ⟨(nextS (greatS v.known) me skip).1, object, gone⟩).2 = 0 then
        (if (takeV v (ofN v.known ⟨(nextS (greatS v.known) me skip).1, object, gone⟩).1).2 = 0 then
          (if gone = true then ⟨(takeV v (ofN v.known ⟨(nextS (greatS v.known) me skip).1, object, gone⟩).1).1, (ofN v.known ⟨(nextS (greatS v.known) me skip).1, object, gone⟩).1, 0⟩
           else (if (bodyV (takeV v (ofN v.known ⟨(nextS (greatS v.known) me skip).1, object, gone⟩).1).1 ⟨object, (nextS (greatS v.known) me skip).1, value⟩).2 = 0 then
              ⟨(bodyV (takeV v (ofN v.known ⟨(nextS (greatS v.known) me skip).1, object, gone⟩).1).1 ⟨object, (nextS (greatS v.known) me skip).1, value⟩).1, (ofN v.known ⟨(nextS (greatS v.known) me skip).1, object, gone⟩).1, 0⟩
            else noTold (bodyV (takeV v (ofN v.known ⟨(nextS (greatS v.known) me skip).1, object, gone⟩).1).1 ⟨object, (nextS (greatS v.known) me skip).1, value⟩).2))
         else noTold (takeV v (ofN v.known ⟨(nextS (greatS v.known) me skip).1, object, gone⟩).1).2)
       else noTold (ofN v.known ⟨(nextS (greatS v.known) me skip).1, object, gone⟩).2)
     else noTold (nextS (greatS v.known) me skip).2)
  else noTold 1
end Go.Proofs.YtkphfdmelfhnoaaGreatDoor
namespace Go.Proofs.YtkphfdmelfhnoaaGreatDoor
open Go.ChangeShapes Go.WideShapes Go.ChangeAt Go.RowKit
theorem infoTrim : (Tryz.prog.info? 55).map (fun i => i.zero.map (fun z => z.cells.all (·.oneCell'))) = some (some true) := by kernel_rfl
theorem list_step {P : Program} {ro : Option Nat} {ops : Array Oper} {o : Oper} {rest : List Oper} {Q : Exit → Act → World → Prop} {a : Act} {w w' : World} {v : Value} (hg : o.guard = none) (hd : ∀ c, o.op ≠ .defer c) (hx : (execOp a.eval o).run P w = .ok (.value v) w') (h : wpListIn (FW ro) 0 P ops Q rest (a.put o.dst v) w') : wpListIn (FW ro) 0 P ops Q (o :: rest) a w := by
 refine wpListIn_step fun K' hK' => ?_
 rw [if_pos (by unfold Region.wanted; rw [hg])]
 refine wp_wpIn hd ?_
 unfold Oper.wp
 rw [hx, Oper.upon_value]
 exact hK' _ _ h
section
variable {V w0 : World} {n : Nd} {ro : Option Nat} {σ : AState} {K : Exit → AState → Prop}
set_option maxHeartbeats 1600000 in
theorem AW.trimW {id1 id2 m b : Nat} {l : List (List IV)} {rest : Code} {y1 y2 y3 y4 y5 y6 y7 y8 : TypeId} {p1 p2 p3 p4 p5 p6 p7 p8 : String} {a1 a2 a3 a4 a5 a6 a7 a8 : Array Edge}
  (h0 : look σ.fr 0 = .own b) (h5 : look σ.fr 5 = .val (.int .i64 (m : Nat))) (hb : findB b σ.bk = some (.row b 55 4 l)) (hm : m < l.length) (hn42 : n.n = 42) (hfx : n.fx = []) (hf : (offB 4200 4300 σ.bk) = true)
  (h : AW Tryz.prog TzTab ro V w0 n rest ⟨[(4, .own 4200)], .row 4200 55 4 (l.take m) :: replB b [] σ.bk⟩ K) :
  AW Tryz.prog TzTab ro V w0 n (.seq (.region id1 #[⟨some 36, .move (.tmp 0), y1, p1, a1, none⟩, ⟨some 37, .move (.tmp 5), y2, p2, a2, none⟩, ⟨some 38, .slice 24 (.tmp 36) (some (.tmp 37)) none none, y3, p3, a3, none⟩, ⟨none, .call { callee := .builtin .clear, args := #[.tmp 38], argTypes := #[24] }, y4, p4, a4, none⟩] false)
   (.seq (.region id2 #[⟨some 39, .move (.tmp 0), y5, p5, a5, none⟩, ⟨some 40, .move (.tmp 5), y6, p6, a6, none⟩, ⟨some 41, .slice 24 (.tmp 39) none (some (.tmp 40)) none, y7, p7, a7, none⟩, ⟨some 4, .assign (.tmp 41), y8, p8, a8, none⟩] false) rest)) σ K := fun hG m0 E a w hn hs => by
 obtain ⟨i0, z0, hi0, hz0, hzs, hz1, hz2⟩ := info_of infoWriteRow
 have hzone : ∀ v ∈ z0.cells, v.oneCell' = true := by
  have := infoTrim
  rw [hi0] at this
  simp only [Option.map_some, hz0, Option.some.injEq] at this
  intro v hv
  obtain ⟨j, hj, rfl⟩ := Array.mem_iff_getElem.1 hv
  exact (Array.all_eq_true.1 this) j hj
 have hsz : a.tmps.size = 42 := by rw [hs.size.1, hn, hn42]
 have s0 := hs.slots 0
 have s5 := hs.slots 5
 rw [h0] at s0
 rw [h5] at s5
 have e5 : a.tmps.getD 5 undef = .int .i64 (m : Nat) := by
  generalize a.tmps.getD 5 undef = u at s5
  cases s5; rfl
 obtain ⟨v, hv⟩ : ∃ v, a.tmps.getD 0 undef = v := ⟨_, rfl⟩
 rw [hv] at s0
 obtain ⟨pre, post, q1, q2, q3⟩ := findB_split hb
 obtain ⟨hO, hB⟩ := hs.holds _ (findB_mem hb).1
 cases s0 with
 | @own _ A n0 cc he =>
 rw [he] at hO hB
 rcases hO.forms with ⟨_, h0'⟩ | ⟨g, c, hvv, hg1, hg2⟩
 ·rw [h0'] at hm; simp at hm
 injection hvv with r1 r2 r3
 subst r1 r2 r3
 obtain ⟨cur, _, _, hBk, hnc, hcm, hcs, hbig, hch⟩ := hO.open_
 have hgb : g = E.blk b := hB g rfl
 have hzc : (Builtin.zeroCells z0.cells (l.length - m)).toList.length = (l.length - m) * 4 := by simp [Builtin.zeroCells, hzs]
 obtain ⟨C2, hC2⟩ : ∃ C2 : Array Value, C2 = (cur.toList.take (m * 4) ++ (Builtin.zeroCells z0.cells (l.length - m)).toList ++ cur.toList.drop (m * 4 + (l.length - m) * 4)).toArray := ⟨_, rfl⟩
 have hC2s : C2.size = cc * 4 := by
  rw [hC2]
  simp only [List.size_toArray, List.length_append, List.length_take, List.length_drop, Array.length_toList, hcs, hzc]
  omega
 have hcl : ∀ ty' cp, (Builtin.clear_ #[24] ty' #[.slice (some ⟨g, m * 4, none⟩) (l.length - m) cp]).run Tryz.prog w = .ok (.tuple #[]) (w.setRow g C2) := fun ty' cp => by
  rw [hC2]
  exact run_clear_rowK 4 w _ _ ty' i0 z0 g (m * 4) (l.length - m) cp cur 55 Tryz.underlying24 hi0 hz0 hzs (by omega) hBk (by rw [hcs]; omega) hzone
 unfold maxLen at hcm
 have tg : ∀ (a : Act) (d i : Nat) (v : Value), a.tmps.size = 42 → d < 42 → (a.put (some d) v).tmps.getD i undef = if i = d then v else a.tmps.getD i undef := fun a d i v h hd => put_slot v i (by rw [h]; exact hd)
 have ts : ∀ (a : Act) (d : Nat) (v : Value), a.tmps.size = 42 → (a.put (some d) v).tmps.size = 42 := fun a d v h => by simpa [Act.put] using h
 obtain ⟨A1, hA1⟩ : ∃ A1, a.put (some 36) (.slice (some ⟨g, 0, none⟩) l.length cc) = A1 := ⟨_, rfl⟩
 obtain ⟨A2, hA2⟩ : ∃ A2, A1.put (some 37) (.int .i64 (m : Nat)) = A2 := ⟨_, rfl⟩
 obtain ⟨A3, hA3⟩ : ∃ A3, A2.put (some 38) (.slice (some ⟨g, m * 4, none⟩) (l.length - m) (cc - m)) = A3 := ⟨_, rfl⟩
 obtain ⟨A4, hA4⟩ : ∃ A4, A3.put (some 39) (.slice (some ⟨g, 0, none⟩) l.length cc) = A4 := ⟨_, rfl⟩
 obtain ⟨A5, hA5⟩ : ∃ A5, A4.put (some 40) (.int .i64 (m : Nat)) = A5 := ⟨_, rfl⟩
 obtain ⟨A6, hA6⟩ : ∃ A6, A5.put (some 41) (.slice (some ⟨g, 0, none⟩) m cc) = A6 := ⟨_, rfl⟩
 have t1 : A1.tmps.size = 42 := by rw [← hA1]; exact ts _ _ _ hsz
 have t2 : A2.tmps.size = 42 := by rw [← hA2]; exact ts _ _ _ t1
 have t3 : A3.tmps.size = 42 := by rw [← hA3]; exact ts _ _ _ t2
 have t4 : A4.tmps.size = 42 := by rw [← hA4]; exact ts _ _ _ t3
 have t5 : A5.tmps.size = 42 := by rw [← hA5]; exact ts _ _ _ t4
 have t6 : A6.tmps.size = 42 := by rw [← hA6]; exact ts _ _ _ t5
 have g1 : A1.tmps.getD 5 undef = .int .i64 (m : Nat) := by rw [← hA1, tg _ _ _ _ hsz (by omega), if_neg (by omega)]; exact e5
 have g2 : A2.tmps.getD 36 undef = .slice (some ⟨g, 0, none⟩) l.length cc := by rw [← hA2, tg _ _ _ _ t1 (by omega), if_neg (by omega), ← hA1, tg _ _ _ _ hsz (by omega), if_pos rfl]
 have g3 : A2.tmps.getD 37 undef = .int .i64 (m : Nat) := by rw [← hA2, tg _ _ _ _ t1 (by omega), if_pos rfl]
 have g4 : A3.tmps.getD 38 undef = .slice (some ⟨g, m * 4, none⟩) (l.length - m) (cc - m) := by rw [← hA3, tg _ _ _ _ t2 (by omega), if_pos rfl]
 have g5 : A3.tmps.getD 0 undef = .slice (some ⟨g, 0, none⟩) l.length cc := by rw [← hA3, tg _ _ _ _ t2 (by omega), if_neg (by omega), ← hA2, tg _ _ _ _ t1 (by omega), if_neg (by omega), ← hA1, tg _ _ _ _ hsz (by omega), if_neg (by omega)]; exact hv
 have g6 : A4.tmps.getD 5 undef = .int .i64 (m : Nat) := by rw [← hA4, tg _ _ _ _ t3 (by omega), if_neg (by omega), ← hA3, tg _ _ _ _ t2 (by omega), if_neg (by omega), ← hA2, tg _ _ _ _ t1 (by omega), if_neg (by omega)]; exact g1
 have g7 : A5.tmps.getD 39 undef = .slice (some ⟨g, 0, none⟩) l.length cc := by rw [← hA5, tg _ _ _ _ t4 (by omega), if_neg (by omega), ← hA4, tg _ _ _ _ t3 (by omega), if_pos rfl]
 have g8 : A5.tmps.getD 40 undef = .int .i64 (m : Nat) := by rw [← hA5, tg _ _ _ _ t4 (by omega), if_pos rfl]
 have g9 : A6.tmps.getD 41 undef = .slice (some ⟨g, 0, none⟩) m cc := by rw [← hA6, tg _ _ _ _ t5 (by omega), if_pos rfl]
 have i1 : (0 : Int) ≤ (m : Int) ∧ (m : Int) ≤ (l.length : Int) := by omega
 have i2 : (0 : Int) ≤ (l.length : Int) ∧ (l.length : Int) ≤ (cc : Int) := by omega
 have i3 : (0 : Int) ≤ (m : Int) ∧ (m : Int) ≤ (cc : Int) := by omega
 have i4 : m ≤ l.length := by omega
 have i5 : m ≤ cc := by omega
 have i6 : cc ≠ m := by omega
 have i7 : cc ≠ 0 := by omega
 have b1 : ∀ w, (Instr.sliceBounds true l.length cc (some (.int .i64 (m : Nat))) none none).run Tryz.prog w = .ok (m, l.length, cc) w := fun w => by simp [Instr.sliceBounds, Instr.sliceBound, asIntOf, i1, i2, i3, i4, i5, hnc]
 have b2 : ∀ w, (Instr.sliceBounds true l.length cc none (some (.int .i64 (m : Nat))) none).run Tryz.prog w = .ok (0, m, cc) w := fun w => by simp [Instr.sliceBounds, Instr.sliceBound, asIntOf, i1, i2, i3, i4, i5, hnc]
 refine wpIn_seq (wpIn_region_lit (l := [_, _, _, _]) ?_)
 refine list_step rfl (fun _ h => by cases h) (v := .slice (some ⟨g, 0, none⟩) l.length cc) (w' := w) (by simp only [execOp, Act.eval, hv]; rfl) ?_
 simp only [hA1]
 refine list_step rfl (fun _ h => by cases h) (v := .int .i64 (m : Nat)) (w' := w) (by simp only [execOp, Act.eval, g1]; rfl) ?_
 simp only [hA2]
 refine list_step rfl (fun _ h => by cases h) (v := .slice (some ⟨g, m * 4, none⟩) (l.length - m) (cc - m)) (w' := w) (by
  simp only [execOp, Act.eval, g2, Option.map_some, Option.map_none, g3]
  refine run_v ?_
  simp [Instr.sliceAt, Instr.slice, run_underlying Tryz.underlying24, b1, sizeOf, typeInfo, hi0, hz1, i6, Addr.add]
  exact fun h => h.symm) ?_
 simp only [hA3]
 refine list_step rfl (fun _ h => by cases h) (v := .tuple #[]) (w' := w.setRow g C2) ?_ ?_
 ·have he : A3.eval (.tmp 38) = .slice (some ⟨g, m * 4, none⟩) (l.length - m) (cc - m) := g4
  simp [execOp, resolve, invoke, builtin, he, hcl]
 refine wpListIn_nil ?_
 refine wpIn_seq (wpIn_region_lit (l := [_, _, _, _]) ?_)
 refine list_step rfl (fun _ h => by cases h) (v := .slice (some ⟨g, 0, none⟩) l.length cc) (w' := w.setRow g C2) (by
  show (execOp A3.eval _).run _ _ = _
  simp only [execOp, Act.eval, g5]; rfl) ?_
 show wpListIn _ _ _ _ _ _ (A3.put (some 39) _) _
 simp only [hA4]
 refine list_step rfl (fun _ h => by cases h) (v := .int .i64 (m : Nat)) (w' := w.setRow g C2) (by simp only [execOp, Act.eval, g6]; rfl) ?_
 simp only [hA5]
 refine list_step rfl (fun _ h => by cases h) (v := .slice (some ⟨g, 0, none⟩) m cc) (w' := w.setRow g C2) (by
  simp only [execOp, Act.eval, g7, Option.map_some, Option.map_none, g8]
  refine run_v ?_
  simp [Instr.sliceAt, Instr.slice, run_underlying Tryz.underlying24, b2, sizeOf, typeInfo, hi0, hz1, i7, Addr.add]) ?_
 simp only [hA6]
 refine list_step rfl (fun _ h => by cases h) (v := .slice (some ⟨g, 0, none⟩) m cc) (w' := w.setRow g C2) (by simp only [execOp, Act.eval, g9]; rfl) ?_
 refine wpListIn_nil ?_
 -- the state behind
 have hst0 : St V w0 m0 E ⟨[], σ.bk⟩ a w := hs.weak fun i => .inr rfl
 rw [q1] at hst0
 have hch2 : Chunks (RepVs (vis V w0 w (owns E σ.bk))) 4 (C2.toList.take ((l.take m).length * 4)) (l.take m) := by
  have e1 : (l.take m).length = m := by simp; omega
  obtain ⟨hA, -⟩ := hch.split m i4
  rw [List.take_take, Nat.min_eq_left (by omega)] at hA
  have e2 : (cur.toList.take (m * 4)).length = m * 4 := by simp only [List.length_take, Array.length_toList, hcs]; omega
  rw [e1, hC2]
  show Chunks _ 4 (List.take _ (_ ++ _ ++ _)) _
  rw [List.append_assoc, List.take_left' e2]
  exact hA
 have hO2 : OwnSl (RepVs (vis V w0 w (owns E σ.bk))) 4 (w.setRow g C2) w0.heap.size 55 (.slice (some ⟨g, 0, none⟩) m cc) (l.take m) :=
  OwnSl.shut hg1 hBk.setRow' (by simp; omega) (by simp; omega) (by unfold maxLen; omega) hC2s (by simp; omega) hch2
 have hown : (BA.row b 55 4 l).owned E = [g] := by simp [BA.owned, he, Value.ownBlock]
 have hE : Env.same 4200 4300 E ⟨fun x => if x = 4200 then g else E.blk x, fun x => if x = 4200 then .slice (some ⟨g, 0, none⟩) m cc else E.row x⟩ := fun x hx => by
  have : ¬ x = 4200 := by omega
  simp [this]
 have hoff : offB 4200 4300 (pre ++ post) = true := by
  have key : ∀ {l : List BA}, (∀ b ∈ l, b.off 4200 4300 = true) → offB 4200 4300 l = true := fun {l} => by
   induction l with
   | nil => exact fun _ => rfl
   | cons b l ih => exact fun h => by simp only [offB, Bool.and_eq_true]; exact ⟨h b (by simp), ih fun x hx => h x (List.mem_cons_of_mem _ hx)⟩
  exact key fun x hx => offB_mem hf x (by
   rw [q1]
   rcases List.mem_append.1 hx with hx | hx
   ·exact List.mem_append_left _ hx
   ·exact List.mem_append_right _ (List.mem_cons_of_mem _ hx))
 have hnew : owns (⟨fun x => if x = 4200 then g else E.blk x, fun x => if x = 4200 then .slice (some ⟨g, 0, none⟩) m cc else E.row x⟩ : Env) [.row 4200 55 4 (l.take m)] = [g] := by simp [owns, BA.owned, Value.ownBlock]
 have hmid : owns E [BA.row b 55 4 l] = [g] := by simp [owns, hown]
 have hsw := St.swap (mid := [.row b 55 4 l]) (nb := [.row 4200 55 4 (l.take m)]) (w' := w.setRow g C2) (lo := 4200) (hi := 4300) (by simpa using hst0) (fun x hx hlt => (grown_setRow w g C2).block x hlt fun e => hx (by rw [hmid, ← Option.some.inj e]; simp)) (by simp [World.setRow]) (hs.low.grown (grown_setRow w g C2) hs.low.size fun x hx => by rw [← Option.some.inj hx]; exact hg1) hE rfl hoff (by rw [hnew]; simp) (fun x hx => .inl (by rw [hmid]; rw [hnew] at hx; exact hx)) (fun x hx => by
  simp only [List.mem_singleton] at hx
  subst hx
  refine ⟨?_, fun x hx => by simpa [Value.ownBlock, eq_comm] using hx⟩
  simp only [if_true]
  refine hO2.mono fun cs y hy => RepVs.ext ?_ hy
  rw [hnew]
  refine vis_ext (by simp [World.setRow]) fun p u _ h2 h3 h4 => ?_
  rw [q1] at h3
  simp only [owns_append, owns, hown, List.mem_append, not_or] at h3 ⊢
  refine ⟨⟨h3.2.1, h3.1, h3.2.2⟩, ?_⟩
  rw [World.cell?_of_block ((grown_setRow w g C2).block p.block h2 fun e => h3.2.1 (by rw [← Option.some.inj e]; simp))]
  exact h4)
 have hd : ∀ x, x < 42 → ∀ d, some x = some d → d < m0.nd.n ∧ d ∉ m0.nd.fx := fun x hx d e => by
  obtain rfl := Option.some.inj e
  rw [hn, hn42, hfx]
  exact ⟨hx, by simp⟩
 have P1 := hsw.put (dst := some 36) (hd 36 (by omega)) (v := .slice (some ⟨g, 0, none⟩) l.length cc) (r := .any) .any
 rw [hA1] at P1
 have P2 := P1.put (dst := some 37) (hd 37 (by omega)) (v := .int .i64 (m : Nat)) (r := .any) .any
 rw [hA2] at P2
 have P3 := P2.put (dst := some 38) (hd 38 (by omega)) (v := .slice (some ⟨g, m * 4, none⟩) (l.length - m) (cc - m)) (r := .any) .any
 rw [hA3] at P3
 have P4 := P3.put (dst := some 39) (hd 39 (by omega)) (v := .slice (some ⟨g, 0, none⟩) l.length cc) (r := .any) .any
 rw [hA4] at P4
 have P5 := P4.put (dst := some 40) (hd 40 (by omega)) (v := .int .i64 (m : Nat)) (r := .any) .any
 rw [hA5] at P5
 have P6 := P5.put (dst := some 41) (hd 41 (by omega)) (v := .slice (some ⟨g, 0, none⟩) m cc) (r := .any) .any
 rw [hA6] at P6
 have P7 := P6.put (dst := some 4) (hd 4 (by omega)) (v := .slice (some ⟨g, 0, none⟩) m cc) (r := .own 4200) (.own (by simp))
 have P8 := P7.weak (fr' := [(4, .own 4200)]) fun i => by
  simp only [putF, look]
  by_cases e : i = 4
  ·exact .inl (by simp [e])
  ·exact .inr (by simp [e])
 rw [q3] at h
 exact h hG m0 _ _ _ hn P8
end
set_option maxRecDepth 100000 in
set_option maxHeartbeats 1600000 in
theorem insertWrite {α : Type} {R : List Value → α → Prop} (h1 : ∀ cs x, R cs x → ∀ u ∈ cs, u.oneCell' = true) (l : List α) (i : Nat) (y : α) (v : Value) (w : World) (base gx : Nat) (xs : Array Value) (cx : Nat) (ys : List Value) (h : OwnSl R 4 w base 55 v l)
  (hbase : base ≤ w.heap.size) (hB : Blk w gx 55 xs) (hc : xs.size = cx * 4) (hcx : 1 ≤ cx) (hcm2 : cx ≤ maxLen) (hyl : ys.length = 4) (hyx : ∀ (j : Nat) u, ys[j]? = some u → xs[j]? = some u) (hR : R ys y) (hgx : v.ownBlock ≠ some gx) (hi : i ≤ l.length) (hbig : l.length < 1073741824) :
  Calls Tryz.prog 163 #[v, .int .i64 i, .slice (some ⟨gx, 0, none⟩) 1 cx] w (Inserted R 4 55 base v (l.take i ++ y :: l.drop i) w) := by
 obtain ⟨i0, z0, hi0, hz0, hzs, hz1, hz2⟩ := info_of infoWriteRow
 have hone : Sl R 4 w w.heap.size (.slice (some ⟨gx, 0, none⟩) 1 cx) [y] := ⟨_, cx, rfl, ⟨by simpa using hcx, by simp⟩, hcm2, fun _ => ⟨gx, 0, rfl, hB.lt, fun i x hx => by
  match i, hx with
  | 0, hx =>
   simp at hx
   subst hx
   exact ⟨ys, hR, hyl, fun j u hj => by rw [Nat.zero_mul, Nat.add_zero, Nat.zero_add, hB.cell]; exact hyx j u hj⟩
  | i + 1, hx => simp at hx⟩⟩
 generalize hL : l.take i ++ y :: l.drop i = L
 have HL := Lib.hid hL
 clear hL
 have H := Lib.hid h
 have HONE := Lib.hid hone
 have HB := Lib.hid hB
 clear hone
 by_cases hend : i = l.length
 ·subst hend
  have HE := Lib.hid (show L = l ++ [y] by rw [← HL.out]; simp)
  have hnn : (((l.length : Nat) : Int) == (l.length : Int)) = true := by simp
  obtain ⟨A, c, rfl⟩ := h.form
  rcases h.forms with ⟨hv, rfl⟩ | ⟨g, c1, hv, hg1, hg2⟩
  ·injection hv with hv1 hv2 hv3
   subst hv1 hv3
   clear h hB hgx
   simp only [List.length_nil] at *
   go_enter Tryz.func163, Tryz.ntmps163
   go_wp2_with (at_builtin; refine wpList_append_sl _ h1 rfl (.tmp 23) (.tmp 24) 24 rfl base 55 i0 _ 32 Tryz.underlying24 hi0 hz0 hz1 hz2 hzs (by omega) _ [] rfl H.out w.heap.size _ [y] rfl HONE.out (by simp) (by omega) hbase ?_; intro v1 w1 hown hgr hat)
   have H1 := Lib.hid hown
   have H2 := Lib.hid hgr
   have H3 := Lib.hid hat
   clear hown hgr hat hi0 hz0 hzs hz1 hz2
   go_wp2_with fail
   go_ret
   exact ⟨_, rfl, by rw [HE.out]; exact H1.out, H2.out, H3.out.imp id fun h => ⟨_, h, Nat.le_refl _⟩⟩
  ·injection hv with hv1 hv2 hv3
   subst hv1 hv3
   obtain ⟨cur, -, -, -, hnc, hcm, -, -, -⟩ := h.open_
   unfold maxLen at hcm
   clear h hB hgx
   go_enter Tryz.func163, Tryz.ntmps163
   go_wp2_with (at_builtin; refine wpList_append_sl _ h1 rfl (.tmp 23) (.tmp 24) 24 rfl base 55 i0 _ 32 Tryz.underlying24 hi0 hz0 hz1 hz2 hzs (by omega) _ l rfl H.out w.heap.size _ [y] rfl HONE.out (by simp; omega) (by omega) hbase ?_; intro v1 w1 hown hgr hat)
   all_goals
    have H1 := Lib.hid hown
    have H2 := Lib.hid hgr
    have H3 := Lib.hid hat
    clear hown hgr hat hi0 hz0 hzs hz1 hz2
    go_wp2_with fail
    go_ret
    exact ⟨_, rfl, by rw [HE.out]; exact H1.out, H2.out, H3.out.imp id fun h => ⟨_, h, Nat.le_refl _⟩⟩
 ·rcases h.forms with ⟨rfl, rfl⟩ | ⟨g, c, rfl, hg1, hg2⟩
  ·simp only [List.length_nil] at hi hend; omega
  obtain ⟨cur, -, -, hBk, hnc, hcm, hcs, -, hch⟩ := h.open_
  obtain ⟨hA, hBm⟩ := hch.split i hi
  have hXl := hch.length
  have hAl := hA.length
  have hBl := hBm.length
  rw [show (l.take i).length = i by simp; omega] at hAl
  rw [show (l.drop i).length = l.length - i by simp] at hBl
  have hcell : ∀ j u, (cur.toList.take (l.length * 4))[j]? = some u → w.cell? ⟨g, j, none⟩ = some u := fun j u hj => by
   rw [hBk.cell j]
   rw [List.getElem?_take] at hj
   split at hj
   ·simpa using hj
   ·cases hj
  generalize hX : cur.toList.take (l.length * 4) = X at hA hBm hXl hAl hBl hcell
  have hAc : ∀ j u, (X.take (i * 4))[j]? = some u → w.cell? ⟨g, j, none⟩ = some u := fun j u hj => by
   rw [List.getElem?_take] at hj
   split at hj
   ·exact hcell j u hj
   ·cases hj
  have hBc : ∀ j u, (X.drop (i * 4))[j]? = some u → w.cell? ⟨g, i * 4 + j, none⟩ = some u := fun j u hj => by
   rw [List.getElem?_drop] at hj
   exact hcell _ u hj
  have hgn : g ≠ gx := fun e => hgx (by rw [e]; rfl)
  have hone1 : ∀ v ∈ ys, v.oneCell' = true := h1 _ _ hR
  have hone2 : ∀ v ∈ X.drop (i * 4), v.oneCell' = true := hBm.one_cell h1
  have HCH : Hid (∀ Z : List Value, Chunks R 4 ((X.take (i * 4) ++ ys ++ X.drop (i * 4) ++ Z).take ((l.length + 1) * 4)) L) := fun Z => by
   have e : (X.take (i * 4) ++ ys ++ X.drop (i * 4)).length = (l.length + 1) * 4 := by simp only [List.length_append, hAl, hBl, hyl]; omega
   rw [← e, List.take_left', ← HL.out, List.append_assoc]
   ·exact hA.append ((Chunks.one hyl hR : Chunks R 4 ys [y]).append hBm)
   ·rfl
  have hszE : (Tryz.prog.info? 55).map (·.size) = some 4 := by rw [hi0]; simp [hz1]
  generalize hAA : X.take (i * 4) = A at hA hAl hAc HCH
  generalize hBB : X.drop (i * 4) = Bm at hBm hBl hBc hone2 HCH
  have hilt : i < l.length := by omega
  have hz2' : ¬ ((i : Int) = (l.length : Int)) := by omega
  have HLN : Hid (L.length = l.length + 1) := by
   show L.length = l.length + 1
   rw [← HL.out]; simp; omega
  unfold maxLen at hcm
  by_cases hroom : l.length + 1 ≤ c
  ·have hcurA : cur.toList.take (i * 4) = A := by
    rw [← hAA, ← hX, List.take_take, Nat.min_eq_left (by omega)]
   obtain ⟨C1, hC1⟩ : ∃ C1 : Array Value, C1 = (cur.toList.take ((i + 1) * 4) ++ Bm ++ cur.toList.drop ((i + 1) * 4 + Bm.length)).toArray := ⟨_, rfl⟩
   have hC1s : C1.size = c * 4 := by
    rw [hC1]
    simp only [List.size_toArray, List.length_append, List.length_take, List.length_drop, Array.length_toList, hcs, hBl]
    omega
   obtain ⟨C2, hC2⟩ : ∃ C2 : Array Value, C2 = (C1.toList.take (i * 4) ++ ys ++ C1.toList.drop (i * 4 + ys.length)).toArray := ⟨_, rfl⟩
   have hC2s : C2.size = c * 4 := by
    rw [hC2]
    simp only [List.size_toArray, List.length_append, List.length_take, List.length_drop, Array.length_toList, hC1s, hyl]
    omega
   have hfin : Chunks R 4 (C2.toList.take (L.length * 4)) L := by
    have e1 : (cur.toList.take ((i + 1) * 4)).length = i * 4 + 4 := by simp only [List.length_take, Array.length_toList, hcs]; omega
    have e2 : C1.toList.take (i * 4) = A := by
     rw [hC1, ← hcurA]
     show List.take (i * 4) (_ ++ _ ++ _) = _
     rw [List.append_assoc, List.take_append_of_le_length (by omega), List.take_take, Nat.min_eq_left (by omega)]
    have e3 : C1.toList.drop (i * 4 + ys.length) = Bm ++ cur.toList.drop ((i + 1) * 4 + Bm.length) := by
     rw [hC1, hyl]
     show List.drop (i * 4 + 4) (_ ++ _ ++ _) = _
     rw [List.append_assoc, List.drop_left' e1]
    rw [hC2, HLN.out]
    show Chunks R 4 (List.take _ (_ ++ _ ++ _)) L
    rw [e2, e3, ← List.append_assoc]
    exact HCH.out _
   have hov : ∀ lb cb, (callFunc 226 #[.slice (some ⟨gx, 0, none⟩) 1 cx, .slice (some ⟨g, (i + 1) * 4, none⟩) lb cb]).run Tryz.prog w = .ok (.value (.bool false)) w := fun lb cb => by
    rw [run_callFunc_extern Tryz.func226 (by kernel_rfl) (by kernel_rfl) (by kernel_rfl) (e := Extern.SlicesOverlaps.overlaps #[24, 24] #[4]) (by kernel_rfl),
     Lib.run_overlaps_apart w 24 4 55 Tryz.underlying24 4 (fun w => by simp [sizeOf, typeInfo, hi0, hz1]) ⟨gx, 0, none⟩ ⟨g, (i + 1) * 4, none⟩ 1 cx lb cb (Ne.symm hgn) 55 55 (cx * 4) (c * 4)
      (by have := HB.out; unfold Blk at this; simp [World.shape?, this, hc]) (by have := hBk; unfold Blk at this; simp [World.shape?, this, hcs]) (by omega) (HB.out.frozen 0) (HB.out.frozen (cx * 4))]
    rfl
   have hcp1 : ∀ W : World, Blk W g 55 cur → ∀ ty' dc sc, (Builtin.copy_ #[24, 24] ty' #[.slice (some ⟨g, (i + 1) * 4, none⟩) (l.length + 1 - (i + 1)) dc, .slice (some ⟨g, i * 4, none⟩) (l.length + 1 - i) sc]).run Tryz.prog W = .ok (goInt (l.length - i : Nat)) (W.setRow g C1) := fun W hN ty' dc sc => by
    rw [hC1]
    exact run_copy_rowK 4 W _ _ ty' 55 g ((i + 1) * 4) (l.length + 1 - (i + 1)) dc ⟨g, i * 4, none⟩ (l.length + 1 - i) sc cur 55 Bm (l.length - i) Tryz.underlying24 hszE hN (by simp only [Nat.min_def]; split <;> omega) hBl
     (fun j u hj => by rw [add_at, hN.cell, ← hBk.cell]; exact hBc j u hj) (by rw [hBl, hcs]; omega) hone2
   have hcp2 : ∀ W : World, Blk W g 55 C1 → Blk W gx 55 xs → ∀ ty' dc, (Builtin.copy_ #[24, 24] ty' #[.slice (some ⟨g, i * 4, none⟩) (l.length + 1 - i) dc, .slice (some ⟨gx, 0, none⟩) 1 cx]).run Tryz.prog W = .ok (goInt 1) (W.setRow g C2) := fun W hN hx ty' dc => by
    rw [hC2]
    exact run_copy_rowK 4 W _ _ ty' 55 g (i * 4) (l.length + 1 - i) dc ⟨gx, 0, none⟩ 1 cx C1 55 ys 1 Tryz.underlying24 hszE hN (by simp only [Nat.min_def]; split <;> omega) (by simp [hyl])
     (fun j u hj => by rw [add_at, Nat.zero_add, hx.cell j]; exact hyx j u hj) (by simp only [hyl, hC1s]; omega) hone1
   have hcp1 := Lib.hid hcp1
   have hcp2 := Lib.hid hcp2
   have hfin := Lib.hid hfin
   have B1 := hBk.drew.setRow' (cs' := C1)
   have X1 := (HB.out.drew).farRow' (cs' := C1) (Ne.symm hgn)
   clear hC1 hC2 hcurA hX hAA hBB
   have hw1 : IntKind.i64.wrap ((i : Int) + 1) = (i : Int) + 1 := IntWalk.i64_in _ (by omega)
   have hb1 : (0 : Int) ≤ (i : Int) + 1 := by omega
   have htn : ((i : Int) + 1).toNat = i + 1 := by omega
   have hGim : ¬ (c = i + 1) := by omega
   have hcin : ¬ (c = i) := by omega
   have hb3 : (i : Int) ≤ (l.length : Int) + 1 := by omega
   have hb4 : (i : Int) + 1 ≤ (l.length : Int) + 1 := by omega
   have hb5 : (l.length : Int) + 1 ≤ (c : Int) := by omega
   go_enter Tryz.func163, Tryz.ntmps163
   go_wp2_with (simp only [hov])
   go_region_law (refine step_copy_runK rfl _ _ 24 24 rfl (.slice (some ⟨g, (i + 1) * 4, none⟩) (l.length + 1 - (i + 1)) (c - (i + 1))) (.slice (some ⟨g, i * 4, none⟩) (l.length + 1 - i) (c - i)) (by simp [Act.eval, Act.put]) (by simp [Act.eval, Act.put]) (hcp1.out _ hBk.drew _ _ _) ?_)
   go_wp2_with (refine wpList_copy_runK _ rfl (.tmp 80) (.tmp 81) 24 24 rfl _ _ rfl rfl (hcp2.out _ B1 X1 _ _) ?_)
   go_ret
   exact ⟨.slice (some ⟨g, 0, none⟩) (l.length + 1) c, rfl, OwnSl.shut hg1 (B1.setRow' (cs' := C2)) HLN.out.symm (by rw [HLN.out]; exact hroom) (by unfold maxLen; omega) hC2s (by rw [HLN.out]; omega) hfin.out,
    (grown_trans (grown_trans (grown_drew w _) (grown_setRow _ g C1)) (grown_setRow _ g C2)), .inl rfl⟩
  ·obtain rfl : c = l.length := by omega
   have hhold : (Builtin.firstCells i0.size i (.slice (some ⟨g, 0, none⟩) i l.length)).run Tryz.prog w.drew = .ok A.toArray w.drew := by
    rw [hz1]
    exact run_firstCells_some w.drew 4 i ⟨g, 0, none⟩ i l.length A (by omega) (fun j u hj => by rw [add_at, Nat.zero_add]; exact hAc j u hj)
   have hkk : (l.length : Int) + 1 - (i : Int) = ((l.length + 1 - i : Nat) : Int) := by omega
   have hik : i + (l.length + 1 - i) = l.length + 1 := by omega
   have hrz : ∀ ty', (Builtin.append_ #[24, 3] ty' #[.slice (some ⟨g, 0, none⟩) i l.length, .int .i64 ((l.length + 1 - i : Nat) : Int)]).run Tryz.prog w =
     .ok (.slice (some ⟨w.heap.size, 0, none⟩) (l.length + 1) (grownCap w (l.length + 1) l.length 55)) (w.drew.alloc (.cells (A.toArray ++ Builtin.zeroCells z0.cells (l.length + 1 - i) ++ Builtin.zeroCells z0.cells (grownCap w (l.length + 1) l.length 55 - (l.length + 1))) 55)) := fun ty' => by
    have h := Lib.run_append_grow_zeros w 24 3 ty' 55 i0 z0 .i64 .i64 Tryz.underlying24 Tryz.underlying3 hi0 hz0 (some ⟨g, 0, none⟩) i l.length A hhold (l.length + 1 - i) (by omega) (by omega) (by omega) (by omega) (by rw [hz2]; omega) (by rw [hz2, hik]; exact growslice_fits (by omega) (by omega))
    rw [hik] at h
    exact h
   obtain ⟨G, hG⟩ : ∃ G, G = grownCap w (l.length + 1) l.length 55 := ⟨_, rfl⟩
   have hGn : l.length + 1 ≤ G := by rw [hG]; exact grownCap_ge w _ _ _
   have hG63 : G ≤ maxLen := by rw [hG]; exact grownCap_le_maxLen w _ _ _ (by unfold maxLen; omega)
   have hG64 : G ≤ 9223372036854775807 := by unfold maxLen at hG63; omega
   simp only [← hG] at hrz
   obtain ⟨ROW, hROW⟩ : ∃ ROW : Array Value, ROW = A.toArray ++ Builtin.zeroCells z0.cells (l.length + 1 - i) ++ Builtin.zeroCells z0.cells (G - (l.length + 1)) := ⟨_, rfl⟩
   simp only [← hROW] at hrz
   have hRs : ROW.size = G * 4 := by
    rw [hROW]
    simp only [Array.size_append, List.size_toArray, Builtin.zeroCells, Array.size_map, Array.size_range, hzs, hAl]
    omega
   have hRA : ROW.toList.take (i * 4) = A := by
    rw [hROW, ← hAl]
    simp
   obtain ⟨R1, hR1⟩ : ∃ R1 : Array Value, R1 = (ROW.toList.take (i * 4) ++ ys ++ ROW.toList.drop (i * 4 + ys.length)).toArray := ⟨_, rfl⟩
   have hR1s : R1.size = G * 4 := by
    rw [hR1]
    simp only [List.size_toArray, List.length_append, List.length_take, List.length_drop, Array.length_toList, hRs, hyl]
    omega
   have hR1A : R1.toList.take ((i + 1) * 4) = A ++ ys := by
    rw [hR1, hRA]
    have e : (A ++ ys).length = (i + 1) * 4 := by simp only [List.length_append, hAl, hyl]; omega
    exact List.take_left' e
   have hcpA : ∀ W : World, Blk W w.heap.size 55 ROW → Blk W gx 55 xs → ∀ ty' dc, (Builtin.copy_ #[24, 24] ty' #[.slice (some ⟨w.heap.size, i * 4, none⟩) (l.length + 1 - i) dc, .slice (some ⟨gx, 0, none⟩) 1 cx]).run Tryz.prog W = .ok (goInt 1) (W.setRow w.heap.size R1) := fun W hN hx ty' dc => by
    rw [hR1]
    exact run_copy_rowK 4 W _ _ ty' 55 w.heap.size (i * 4) (l.length + 1 - i) dc ⟨gx, 0, none⟩ 1 cx ROW 55 ys 1 Tryz.underlying24 hszE hN (by simp only [Nat.min_def]; split <;> omega) (by simp [hyl])
     (fun j u hj => by rw [add_at, Nat.zero_add, hx.cell j]; exact hyx j u hj) (by simp only [hyl, hRs]; omega) hone1
   obtain ⟨R2, hR2⟩ : ∃ R2 : Array Value, R2 = (R1.toList.take ((i + 1) * 4) ++ Bm ++ R1.toList.drop ((i + 1) * 4 + Bm.length)).toArray := ⟨_, rfl⟩
   have hR2s : R2.size = G * 4 := by
    rw [hR2]
    simp only [List.size_toArray, List.length_append, List.length_take, List.length_drop, Array.length_toList, hR1s, hBl]
    omega
   have hfin : Chunks R 4 (R2.toList.take (L.length * 4)) L := by
    rw [hR2, hR1A, HLN.out]
    exact HCH.out _
   have hcpB : ∀ W : World, Blk W w.heap.size 55 R1 → (∀ j u, Bm[j]? = some u → W.cell? ⟨g, i * 4 + j, none⟩ = some u) → ∀ ty' dc sc, (Builtin.copy_ #[24, 24] ty' #[.slice (some ⟨w.heap.size, (i + 1) * 4, none⟩) (l.length + 1 - (i + 1)) dc, .slice (some ⟨g, i * 4, none⟩) (l.length - i) sc]).run Tryz.prog W = .ok (goInt (l.length - i : Nat)) (W.setRow w.heap.size R2) := fun W hN hx ty' dc sc => by
    rw [hR2]
    exact run_copy_rowK 4 W _ _ ty' 55 w.heap.size ((i + 1) * 4) (l.length + 1 - (i + 1)) dc ⟨g, i * 4, none⟩ (l.length - i) sc R1 55 Bm (l.length - i) Tryz.underlying24 hszE hN (by simp only [Nat.min_def]; split <;> omega) hBl
     (fun j u hj => by rw [add_at]; exact hx j u hj) (by rw [hBl, hR1s]; omega) hone2
   have hcpA := Lib.hid hcpA
   have hcpB := Lib.hid hcpB
   have hfin := Lib.hid hfin
   have hrz := Lib.hid hrz
   clear hhold hROW hG hR1 hR2 hR1A hRA
   go_enter Tryz.func163, Tryz.ntmps163
   have BN := (Blk.new w 55 ROW).drew
   have BX := ((HB.out).alloc (o := .cells ROW 55)).drew
   go_wp2_with (first
    | (at_builtin; refine Lib.wpList_append_run _ rfl _ _ _ _ rfl _ _ rfl rfl _ _ (hrz.out _) ?_)
    | (refine wpList_copy_runK _ rfl (.tmp 43) (.tmp 44) 24 24 rfl _ _ rfl rfl (hcpA.out _ BN BX _ _) ?_))
   have B1 := BN.setRow' (cs' := R1)
   have Bg : ∀ j u, Bm[j]? = some u → ((w.alloc (.cells ROW 55)).drew.setRow w.heap.size R1).cell? ⟨g, i * 4 + j, none⟩ = some u := fun j u hj => by
    have := ((hBk.alloc (o := .cells ROW 55)).drew).farRow' (cs' := R1) (show g ≠ w.heap.size by omega)
    rw [this.cell, ← hBk.cell]
    exact hBc j u hj
   have hw1 : IntKind.i64.wrap ((i : Int) + 1) = (i : Int) + 1 := IntWalk.i64_in _ (by omega)
   have hb1 : (0 : Int) ≤ (i : Int) + 1 := by omega
   have htn : ((i : Int) + 1).toNat = i + 1 := by omega
   have hGim : ¬ (G = i + 1) := by omega
   have hcin : ¬ (l.length = i) := by omega
   have hb3 : (i : Int) ≤ (l.length : Int) := by omega
   have hb4 : (i : Int) + 1 ≤ (l.length : Int) + 1 := by omega
   go_region_law (refine step_copy_runK rfl _ _ 24 24 rfl (.slice (some ⟨w.heap.size, (i + 1) * 4, none⟩) (l.length + 1 - (i + 1)) (G - (i + 1))) (.slice (some ⟨g, i * 4, none⟩) (l.length - i) (l.length - i)) (by simp [Act.eval, Act.put]) (by simp [Act.eval, Act.put]) (hcpB.out _ B1.drew (fun j u hj => Bg j u hj) _ _ _) ?_)
   go_wp2_with fail
   go_ret
   exact ⟨.slice (some ⟨w.heap.size, 0, none⟩) (l.length + 1) G, rfl, OwnSl.shut hbase (B1.drew.setRow' (cs' := R2)) HLN.out.symm (by rw [HLN.out]; exact hGn) hG63 hR2s (by rw [HLN.out]; omega) hfin.out,
    grown_newRow (grown_drewN (grown_newRow (grown_drewN (World.grownBy_alloc w _ _)) (Nat.le_refl _) _)) (Nat.le_refl _) _, .inr ⟨w.heap.size, rfl, Nat.le_refl _⟩⟩
set_option maxRecDepth 100000 in
theorem insw_call (l : List Write) (i : Nat) (y : Write) (hi : i ≤ l.length) (hbig : l.length < 1073741824) : TCalls Tryz.prog TzTab 163 [.own 1, .val (.int .i64 i), .own 3] (.own 0) [.row 3 55 4 [enW y], .row 1 55 4 (l.map enW)] [.row 0 55 4 ((l.take i ++ y :: l.drop i).map enW)] [] [] := by
 refine TCalls.perm ?_ (List.Perm.swap _ _ _)
 refine TCalls.row2 (r := id) Tryz.func163 rfl (by kernel_rfl) (fun E X v' ⟨A, n, c, hv⟩ he => by subst hv; exact .own he) fun X w E v vs base hX hb hG h h3 hdis hvs => ?_
 obtain ⟨u0, u1, rfl, q0, q1⟩ : ∃ u0 u1, vs = [u0, u1] ∧ RepA E X u0 (.val (.int .i64 i)) ∧ RepA E X u1 (.own 3) := by
  obtain ⟨u0, vs', e, h1, h2⟩ := RepAs.cons_iff.1 hvs
  obtain ⟨u1, vs'', e', h1', h2'⟩ := RepAs.cons_iff.1 h2
  rw [RepAs.nil_iff.1 h2'] at e'
  exact ⟨u0, u1, by rw [e, e'], h1, h1'⟩
 cases q0
 cases q1 with
 | @own _ A n cc he =>
  rw [he] at h3 hdis
  rcases h3.forms with ⟨_, h0⟩ | ⟨gx, cx, hv, hg1, hg2⟩
  ·cases h0
  obtain ⟨cur, _, _, hB, hnc, hcm, hcs, _, hch⟩ := (hv ▸ h3).open_
  injection hv with e1 e2 e3
  subst e1 e2 e3
  obtain ⟨cs, rest, e, hk, hR, hr⟩ := hch
  obtain rfl : rest = [] := hr
  rw [List.append_nil] at e
  have hlen : cs.length = 4 := hk
  have hcall := insertWrite (R := RepVs X) (fun cs x h => RepVs.one h) (l.map enW) i (enW y) v w base gx cur cc cs h hb hB hcs (by simpa using hnc) hcm hlen (fun j u hj => by
   rw [← e, List.getElem?_take] at hj
   split at hj
   ·simpa using hj
   ·cases hj) hR (fun e => hdis gx e rfl) (by simpa using hi) (by simpa using hbig)
  refine hcall.mono ?_
  rintro e w' ⟨v', rfl, r1, r2, r3⟩
  refine ⟨v', rfl, ?_, r2, r3.imp id .inr⟩
  have : (l.take i ++ y :: l.drop i).map enW = (l.map enW).take i ++ enW y :: (l.map enW).drop i := by simp [List.map_take, List.map_drop]
  rw [this]
  exact r1
attribute [local irreducible] AW AWY vops vopsY vop vopL vdraw callW qop binQ lenQ storeQ appendQ callQ ACalls AIter
attribute [local go_sem] wrI_eq enW_eq wA_eq storeQ_bp storeQ_rp
theorem shelfOf_len (f : Nat → Option Write) : ∀ n, (shelfOf f n).length ≤ n
 | 0 => Nat.le_refl _
 | n + 1 => by
  have := shelfOf_len f n
  have h2 : (f n).toList.length ≤ 1 := by cases f n <;> simp
  rw [shelfOf, List.length_append]
  omega
theorem shelf_len {l : List Write} (h : Shelf l) : l.length ≤ 256 := by
 rw [← shelfOf_get h]
 exact shelfOf_len _ _
theorem scmp_call (a b : Stamp) : ACalls Tryz.prog TzTab 164 [.agg [.val (.int .i64 a.count), .val (.int .i64 a.node)], .agg [.val (.int .i64 b.count), .val (.int .i64 b.node)]] (.val (.int .i64 (cmpS a.count a.node b.count b.node))) [] :=
 bridge_val Tryz.func164 rfl (by kernel_rfl) fun V w E vs hV hG hr => by
  obtain ⟨v0, v1, rfl, h0, h1⟩ := args2 hr
  obtain rfl := agg_two h0
  obtain rfl := agg_two h1
  exact stampCompare _ _ _ _ w
theorem clipwD (l : List Write) : ACalls Tryz.prog TzTab 165 [.iv (wrI l)] (.iv (wrI l)) [] := by
 refine ACalls.of (n := 9) (rs := [.tmp 2]) Tryz.func165 rfl (by kernel_rfl) Tryz.ntmps165 (by kernel_rfl) (by simp) (fun _ _ => TzTab.later) ?_
 intro hok V w0
 refine g ?_
 repeat' refine st_ rfl (g ?_)
 refine ⟨0, l.length, rfl, rfl, by omega, by omega, l.length, rfl, by omega, by omega, ?_⟩
 refine g ?_
 repeat' (first | refine st_ rfl (g ?_) | refine hold_ (g ?_))
 rw [List.take_of_length_le (by simp)]
theorem put_no : Sub1 (.tup [.val (.slice none 0 0), .val (.int .i64 1)]) (.tup [.iv (.sl 4 []), .val (.int .i64 1)]) := by
 refine tup_sub rfl fun p hp => ?_
 simp only [List.zip_cons_cons, List.zip_nil_right, List.mem_cons, List.not_mem_nil, or_false] at hp
 rcases hp with rfl | rfl
 ·exact nil_sub 4
 ·exact Sub1.rfl_ _
set_option maxRecDepth 100000 in
set_option maxHeartbeats 1600000 in
theorem shput_call (l list : List Write) : ACalls Tryz.prog TzTab 74 [.iv (wrI l), .iv (wrI list)] (.tup [.iv (wrI (putS l list).1), .val (.int .i64 (putS l list).2)]) [] := by
 refine ACalls.ofS (n := 57) (rs := [.tmp 4, .tmp 5]) Tryz.func74 rfl (by kernel_rfl) Tryz.ntmps74 (by kernel_rfl) (by simp) (fun _ _ => TzTab.later) ?_
 intro hok V w0
 have hlen : l.length ≤ 1073741824 := by simpa [wrI] using hok.1.1
 have hlen2 : list.length ≤ 1073741824 := by simpa [wrI] using hok.2.1.1
 obtain ⟨R, hR⟩ : ∃ R, putS l list = R := ⟨_, rfl⟩
 rw [hR]
 unfold putS at hR
 refine g ?_
 repeat' (first | refine st_ rfl (g ?_) | refine cond_ (fun h => g ?_) (fun h => g ?_) | refine call_ (shformed_call _) rfl (g ?_) | refine call_ (clonew_call _) rfl (g ?_))
 ·rw [if_neg (by rintro ⟨a, _⟩; simp [a] at h)] at hR
  subst hR
  exact put_no
 have hF : shelfFormed l = true := by simpa using h
 have hSh := shelf_iff.1 hF
 refine AW.loop (fun m : {m : Nat // m ≤ list.length ∧ ∀ w ∈ list.take m, rightW w = true} => ⟨[(6, .own 1600), (16, .iv (wrI list)), (17, .val (.int .i64 (list.length : Nat))), (18, .val (.int .i64 (m.1 : Nat)))], [.row 1600 55 4 ((putL l (list.take m.1)).map enW)]⟩) (fun m => list.length - m.1) ⟨0, Nat.zero_le _, fun w hw => by simp at hw⟩ id ⟨⟨rfl, rfl, ?_, rfl, trivial⟩, ⟨rfl, trivial⟩, by simp [idsOf, BA.id]⟩ fun ⟨m, hm, hr⟩ => ?_
 ·simp [AV.ren, look]
 simp only
 have hQ := putL_shelf (list := list.take m) hSh hr
 have hQl := shelf_len hQ
 repeat (refine AW.seq ?_)
 refine AW.reg rfl fun KK hKK => ?_
 refine g ?_
 repeat' (refine hKK _ (g ?_); clear hKK KK)
 repeat (refine AW.seq ?_)
 refine st_ rfl ?_
 refine g ?_
 refine cond_ (fun h => ?_) (fun h => ?_)
 ·have hlt : m < list.length := by have := of_decide_eq_true h; omega
  have hget := get_map (f := enW) (List.getElem?_eq_getElem hlt)
  obtain ⟨-, o1, o2, o3, -⟩ := okR_mem (by simpa [wrI] using hok.2.1.2) (enW list[m]) (List.mem_map_of_mem (List.getElem_mem hlt))
  have hsn := putL_snoc l (list.take m) list[m]
  have htk := List.take_succ_eq_append_getElem hlt
  rw [← htk] at hsn
  obtain ⟨w, hw⟩ : ∃ w, list[m] = w := ⟨_, rfl⟩
  rw [hw] at hsn hget o1 o2 o3 htk
  have hmem : w ∈ list := hw ▸ List.getElem_mem hlt
  obtain ⟨Q, hQe⟩ : ∃ Q, putL l (list.take m) = Q := ⟨_, rfl⟩
  rw [hQe] at hsn hQ hQl ⊢
  have hnext : ∀ hrw : rightW w = true, ∀ x ∈ list.take (m + 1), rightW x = true := fun hrw x hx => by
   rw [htk] at hx
   rcases List.mem_append.1 hx with hx | hx
   ·exact hr x hx
   ·rw [List.mem_singleton.1 hx]; exact hrw
  refine st_ rfl (g ?_)
  refine AW.seq ?_
  refine AW.block ?_
  repeat (refine AW.seq ?_)
  refine AW.reg rfl fun KK hKK => ?_
  refine g ?_
  refine ⟨by omega, _, hget, ?_⟩
  refine g ?_
  repeat' (first | refine hold_ (g ?_) | (refine hKK _ (g ?_); clear hKK KK))
  refine AW.freeze 900 _ rfl ⟨o1, o2, o3, trivial, trivial⟩ ?_
  simp only [go_sem, reduceIte, Nat.reduceEqDiff]
  refine g ?_
  repeat' (first | refine st_ rfl (g ?_) | refine cond_ (fun h => g ?_) (fun h => g ?_) | refine call_ (wright_call _) rfl (g ?_))
  ·rw [if_neg (by
    rintro ⟨_, b⟩
    rw [List.all_eq_true.1 b w hmem] at h
    cases h)] at hR
   subst hR
   exact put_no
  have hrw : rightW w = true := by simpa using h
  have hin := rightW_in hrw
  have hrise := (shelf_rises (shelf_iff.2 hQ)).1
  unfold putStep at hsn
  refine call_l (shplace_call Q w.object hrise) (by simp [okBk]) rfl (fun _ h => by cases h) (Sbs.rfl_ _) rfl ?_
  cases hg : getW Q w.object with
  | none =>
   rw [hg] at hsn
   simp only at hsn
   have hpl : placeN Q w.object ≤ Q.length := List.findIdx_le_length
   refine g ?_
   repeat' refine st_ rfl (g ?_)
   refine bs1 (by omega) rfl rfl rfl ⟨o1, o2, o3, trivial, trivial⟩ ?_
   refine g ?_
   refine call_t [] [] (fun b => if b = 1 then 1600 else 3900) (insw_call Q (placeN Q w.object) w hpl (by omega)) rfl rfl rfl (g ?_)
   refine g ?_
   repeat' refine st_ rfl (g ?_)
   refine ⟨⟨m + 1, hlt, hnext hrw⟩, fun b => if b = 1600 then 4000 else b, ⟨⟨rfl, rfl, rfl, rfl, trivial⟩, ⟨?_, trivial⟩, by simp [idsOf, BA.id]⟩, by show list.length - (m + 1) < list.length - m; omega⟩
   rw [hsn]
   rfl
  | some u =>
   rw [hg] at hsn
   simp only at hsn
   obtain ⟨hpl, hpe⟩ := place_at hQ hg
   have hget2 := get_map (f := enW) (List.getElem?_eq_getElem hpl)
   rw [hpe] at hget2
   refine g ?_
   repeat' refine st_ rfl (g ?_)
   refine AW.drawn (ds := [41, 42, 43, 44, 45, 46, 47, 48, 49, 40]) (fin := [0]) (bs := [1, 1, 1, 1, 1, 1, 1, 1, 1, 1]) [⟨[], [], [], [], 0⟩, ⟨[], [], [], [], 0⟩, ⟨[(41, 0), (42, 1)], [], [0], [], 0⟩, ⟨[(43, 2)], [], [], [], 0⟩, ⟨[(44, 3)], [], [0], [], 0⟩, ⟨[], [], [], [], 0⟩, ⟨[(46, 5)], [], [0], [], 0⟩, ⟨[(45, 4), (47, 6)], [], [0], [], 0⟩, ⟨[(48, 7)], [], [], [], 0⟩, ⟨[(49, 8)], [], [], [], 0⟩] (by kernel_rfl) rfl (by kernel_rfl) rfl rfl rfl fun KD hKD => ?_
   refine g ?_
   refine ⟨by omega, by simpa using hpl, ?_⟩
   refine g ?_
   repeat' refine hold_ (g ?_)
   refine ⟨_, hget2, ?_⟩
   refine g ?_
   repeat' (first | refine st_ rfl (g ?_) | refine hold_ (g ?_) | refine cond_d (fun h => g ?_) (fun h => g ?_) | (refine hKD _ _ ⟨rfl, g ?_⟩; clear hKD KD) | refine call_ (scmp_call u.stamp w.stamp) rfl (g ?_))
   ·refine ⟨by omega, hpl, ?_⟩
    refine g ?_
    repeat' refine hold_ (g ?_)
    refine ⟨_, _, rfl, ⟨o1, o2, o3, trivial, trivial⟩, hget2, ?_⟩
    refine g ?_
    repeat' (first | refine st_ rfl (g ?_) | refine hold_ (g ?_))
    refine ⟨⟨m + 1, hlt, hnext hrw⟩, id, ⟨⟨rfl, rfl, rfl, rfl, trivial⟩, ⟨?_, trivial⟩, by simp [idsOf, BA.id]⟩, by show list.length - (m + 1) < list.length - m; omega⟩
    have hnw : newerB u w = true := decide_eq_true h
    rw [hsn, if_pos hnw]
    simp only [List.map_set]
    rfl
   ·refine ⟨⟨m + 1, hlt, hnext hrw⟩, id, ⟨⟨rfl, rfl, rfl, rfl, trivial⟩, ⟨?_, trivial⟩, by simp [idsOf, BA.id]⟩, by show list.length - (m + 1) < list.length - m; omega⟩
    rw [hsn, if_neg (by rw [newerB, decide_eq_false h]; decide)]
    rfl
 ·obtain rfl : m = list.length := by have := of_decide_eq_false h; omega
  rw [List.take_length] at *
  rw [if_pos ⟨hF, List.all_eq_true.2 hr⟩] at hR
  refine AW.exit ?_
  simp only [reduceIte]
  refine AW.freeze 1600 _ rfl trivial ?_
  simp only [go_sem, reduceIte, Nat.reduceEqDiff]
  refine g ?_
  repeat' (first | refine st_ rfl (g ?_) | refine call_ (clipwD _) rfl (g ?_))
  subst hR
  exact Sub1.rfl_ _
end Go.Proofs.YtkphfdmelfhnoaaGreatDoor
namespace Go.Proofs.YtkphfdmelfhnoaaGreatDoor
open Go.ChangeShapes Go.WideShapes Go.ChangeAt Go.RowKit
attribute [local irreducible] AW AWY vops vopsY vop vopL vdraw callW qop binQ lenQ storeQ appendQ callQ ACalls AIter
attribute [local go_sem] wrI_eq enW_eq wA_eq storeQ_bp storeQ_rp
section
variable (f : FuncId) (C D : List IV) (p : Write → Bool) (hp : ∀ x, ACalls Tryz.prog TzTab f [wA x, .ip C, .ip D] (.val (.bool (p x))) [])
include hp
theorem idxw_call (l : List Write) : ACalls Tryz.prog TzTab 159 [.iv (wrI l), .fn f [.ip C, .ip D]] (.val (.int .i64 (if l.any p = true then ((l.findIdx p : Nat) : Int) else -1))) [] := by
 refine ACalls.of (n := 19) (rs := [.tmp 4]) Tryz.func159 rfl (by kernel_rfl) Tryz.ntmps159 (by kernel_rfl) (by simp) (fun _ _ => TzTab.later) ?_
 intro hok V w0
 have hlen : l.length ≤ 1073741824 := by simpa [wrI] using hok.1.1
 refine g ?_
 repeat' refine st_ rfl (g ?_)
 refine AW.loop (fun m : {m : Nat // m ≤ l.length ∧ ∀ x ∈ l.take m, p x = false} => ⟨[(0, .iv (wrI l)), (1, .fn f [.ip C, .ip D]), (7, .val (.int .i64 (l.length : Nat))), (8, .val (.int .i64 (m.1 : Nat)))], []⟩) (fun m => l.length - m.1) ⟨0, Nat.zero_le _, fun x hx => by simp at hx⟩ id ⟨⟨rfl, rfl, rfl, rfl, trivial⟩, trivial, List.nodup_nil⟩ fun ⟨m, hm, ht⟩ => ?_
 refine g ?_
 repeat' (first | refine st_ rfl (g ?_) | refine cond_d (fun h => g ?_) (fun h => g ?_) | refine cond_ (fun h => g ?_) (fun h => g ?_) | refine ix_ (by omega) (g ?_) | refine call_ (hp _) rfl (g ?_))
 ·have hlt : m < l.length := by omega
  rw [if_pos (List.any_eq_true.2 ⟨_, List.getElem_mem hlt, h⟩), (List.findIdx_eq hlt).2 ⟨h, fun j hj => ht _ (List.mem_take_iff_getElem.2 ⟨j, by omega, rfl⟩)⟩]
 ·refine ⟨⟨m + 1, by omega, fun x hx => ?_⟩, id, ⟨⟨rfl, rfl, rfl, rfl, trivial⟩, trivial, List.nodup_nil⟩, by show l.length - (m + 1) < l.length - m; omega⟩
  rw [List.take_succ_eq_append_getElem (by omega)] at hx
  rcases List.mem_append.1 hx with h1 | h1
  ·exact ht x h1
  ·rw [List.mem_singleton.1 h1]; exact h
 ·obtain rfl : m = l.length := by omega
  rw [List.take_length] at ht
  rw [if_neg]
  rw [List.any_eq_true]
  rintro ⟨x, hx, hp⟩
  rw [ht x hx] at hp
  cases hp
structure DelI (p : Write → Bool) (l : List Write) where
 i : Nat
 j : Nat
 M : List Write
 hj : j ≤ l.length
 hij : i < j
 hl : M.length = l.length
 ht : M.take i = (l.take j).filter fun x => !p x
 hd : M.drop j = l.drop j
set_option maxRecDepth 100000 in
set_option maxHeartbeats 1600000 in
theorem delw_call (l : List Write) (hbig : l.length ≤ 1073741824) (hI : ∀ x ∈ l, I64 x.stamp.count ∧ I64 x.stamp.node ∧ I64 x.object) : TCalls Tryz.prog TzTab 70 [.own 1, .fn f [.ip C, .ip D]] (.own 0) [.row 1 55 4 (l.map enW)] [.row 0 55 4 ((l.filter fun x => !p x).map enW)] [] [] := by
  refine TCalls.of [] (n := 42) (rs := [.tmp 4]) Tryz.func70 rfl (by kernel_rfl) Tryz.ntmps70 (by kernel_rfl) (by simp) trivial rfl rfl fun hok V w0 F => ?_
  have hidx := idxw_call f C D p hp l
  refine g ?_
  repeat' refine st_ rfl (g ?_)
  refine call_l hidx (by simp [okBk]) rfl (fun _ h => by cases h) (Sbs.rfl_ _) rfl (g ?_)
  cases ha : l.any p with
  | false =>
    have hfil : (l.filter fun x => !p x) = l := List.filter_eq_self.2 fun x hx => by
      have := List.any_eq_false.1 ha x hx
      simpa using this
    rw [hfil, if_neg (by decide)]
    refine g ?_
    repeat' refine st_ rfl (g ?_)
    exact ⟨fun b => if b = 0 then 1 else b, fun _ _ _ h => h, trivial, ⟨rfl, rfl⟩, by simp⟩
  | true =>
    obtain ⟨i0, hi0⟩ : ∃ i0, l.findIdx p = i0 := ⟨_, rfl⟩
    have hlt0 : i0 < l.length := by rw [← hi0]; exact List.findIdx_lt_length.2 (List.any_eq_true.1 ha)
    have hp0 : p l[i0] = true := by
      have := List.findIdx_getElem (p := p) (xs := l) (w := by rw [hi0]; exact hlt0)
      simpa only [hi0] using this
    have hbef : ∀ x ∈ l.take i0, p x = false := fun x hx => by
      obtain ⟨j, hj, rfl⟩ := List.mem_take_iff_getElem.1 hx
      have := List.not_of_lt_findIdx (p := p) (xs := l) (i := j) (by omega)
      simpa using this
    have hstart : l.take i0 = (l.take (i0 + 1)).filter fun x => !p x := by
      rw [List.take_succ_eq_append_getElem hlt0, List.filter_append, List.filter_eq_self.2 fun x hx => by simp [hbef x hx]]
      simp [hp0]
    rw [if_pos rfl, hi0]
    refine g ?_
    repeat' refine st_ rfl (g ?_)
    refine AW.loop (fun x : DelI p l => ⟨[(0, .own 1), (1, .fn f [.ip C, .ip D]), (5, .val (.int .i64 (x.i : Nat))), (6, .val (.int .i64 (x.j : Nat)))], [.row 1 55 4 (x.M.map enW), .opq 99 F]⟩) (fun x => l.length - x.j) ⟨i0, i0 + 1, l, hlt0, by omega, rfl, hstart, rfl⟩ id ⟨⟨rfl, rfl, rfl, rfl, trivial⟩, ⟨rfl, rfl, trivial⟩, by simp [idsOf, BA.id]⟩ fun ⟨i, j, M, hj, hij, hl, ht, hd⟩ => ?_
    simp only
    repeat (refine AW.seq ?_)
    refine AW.reg rfl fun KK hKK => ?_
    refine g ?_
    repeat' (refine hKK _ (g ?_); clear hKK KK)
    repeat (refine AW.seq ?_)
    refine st_ rfl ?_
    refine g ?_
    refine cond_ (fun h => ?_) (fun h => ?_)
    · have hlt : j < M.length := by simpa using h
      have hltl : j < l.length := by omega
      obtain ⟨x, hx⟩ : ∃ x, l[j] = x := ⟨_, rfl⟩
      have hMj : M[j]? = some x := by
        have := congrArg (fun L => L[0]?) hd
        simp only [List.getElem?_drop, Nat.add_zero] at this
        rw [this, ← hx]
        exact List.getElem?_eq_getElem hltl
      have hgj := get_map (f := enW) hMj
      have hMi : M[i]? = some M[i] := List.getElem?_eq_getElem (by omega)
      have hgi := get_map (f := enW) hMi
      obtain ⟨o1, o2, o3⟩ := hI x (hx ▸ List.getElem_mem hltl)
      have hnext : M.drop (j + 1) = l.drop (j + 1) := by
        have := congrArg (List.drop 1) hd
        rwa [List.drop_drop, List.drop_drop] at this
      refine g ?_
      repeat' refine st_ rfl (g ?_)
      refine ⟨by omega, by omega, ?_⟩
      refine g ?_
      repeat' refine hold_ (g ?_)
      refine ⟨_, hgj, ?_⟩
      refine g ?_
      repeat' (first | refine st_ rfl (g ?_) | refine hold_ (g ?_) | refine cond_ (fun h => g ?_) (fun h => g ?_) | refine call_ (hp x) rfl (g ?_))
      · have hq : p x = false := by simpa using h
        refine ⟨by omega, by omega, ?_⟩
        refine g ?_
        repeat' refine hold_ (g ?_)
        refine ⟨_, _, rfl, ⟨o1, o2, o3, trivial, trivial⟩, hgi, ?_⟩
        refine g ?_
        repeat' (first | refine st_ rfl (g ?_) | refine hold_ (g ?_))
        refine ⟨⟨i + 1, j + 1, M.set i x, hltl, by omega, by simp [hl], ?_, ?_⟩, id, ⟨⟨rfl, rfl, rfl, rfl, trivial⟩, ⟨?_, rfl, trivial⟩, by simp [idsOf, BA.id]⟩, by show l.length - (j + 1) < l.length - j; omega⟩
        · rw [List.take_succ_eq_append_getElem hltl, List.filter_append, ← ht, hx, List.take_succ_eq_append_getElem (by simp; omega), List.getElem_set_self, List.take_set_of_le (Nat.le_refl _)]
          simp [hq]
        · rw [List.drop_set_of_lt (by omega)]; exact hnext
        · simp only [List.map_set]
          rfl
      · have hq : p x = true := by simpa using h
        refine ⟨⟨i, j + 1, M, hltl, by omega, hl, ?_, hnext⟩, id, ⟨⟨rfl, rfl, rfl, rfl, trivial⟩, ⟨rfl, rfl, trivial⟩, by simp [idsOf, BA.id]⟩, by show l.length - (j + 1) < l.length - j; omega⟩
        rw [List.take_succ_eq_append_getElem hltl, List.filter_append, ← ht, hx]
        simp [hq]
    · obtain rfl : j = l.length := by have : ¬ j < M.length := by simpa using h
                                      omega
      refine AW.exit ?_
      simp only [reduceIte]
      rw [List.take_length] at ht
      refine AW.trimW (b := 1) (m := i) (l := M.map enW) rfl rfl rfl (by simp; omega) rfl rfl rfl ?_
      rw [← List.map_take, ht]
      refine g ?_
      repeat' refine st_ rfl (g ?_)
      exact ⟨fun b => if b = 0 then 4200 else b, fun _ _ _ h => h, trivial, ⟨rfl, rfl⟩, by simp⟩
end
end Go.Proofs.YtkphfdmelfhnoaaGreatDoor
namespace Go.Proofs.YtkphfdmelfhnoaaGreatDoor
open Go.ChangeShapes Go.WideShapes Go.ChangeAt Go.RowKit
theorem infoBodyRow : (Tryz.prog.info? 51).map (fun i => (i.zero.map (·.cells.size), i.size, i.bytes)) = some (some 4, 4, 48) := by kernel_rfl
theorem zeroBodyOne : (Tryz.prog.info? 51).map (fun i => i.zero.map (fun z => z.cells.all (·.oneCell'))) = some (some true) := by kernel_rfl
set_option maxRecDepth 100000 in
set_option maxHeartbeats 1600000 in
theorem deleteBody {α : Type} {R : List Value → α → Prop} (h1 : ∀ cs x, R cs x → ∀ u ∈ cs, u.oneCell' = true) (l : List α) (i n c g : Nat) (w : World) (base : Nat) (h : OwnSl R 4 w base 51 (.slice (some ⟨g, 0, none⟩) n c) l) (hi : i < l.length) :
  Calls Tryz.prog 79 #[.slice (some ⟨g, 0, none⟩) n c, .int .i64 i, .int .i64 ((i : Int) + 1)] w fun e w' => e = .returned (.slice (some ⟨g, 0, none⟩) (n - 1) c) ∧ OwnSl R 4 w' base 51 (.slice (some ⟨g, 0, none⟩) (n - 1) c) (l.take i ++ l.drop (i + 1)) ∧ w.grownBy w' (some g) := by
 obtain ⟨i0, z0, hi0, hz0, hzs, hz1, hz2⟩ := info_of infoBodyRow
 have hzone : ∀ v ∈ z0.cells, v.oneCell' = true := by
  have := zeroBodyOne
  rw [hi0] at this
  simp only [Option.map_some, hz0, Option.some.injEq] at this
  intro v hv
  obtain ⟨j, hj, rfl⟩ := Array.mem_iff_getElem.1 hv
  exact (Array.all_eq_true.1 this) j hj
 obtain ⟨cur, rfl, hg1, hBk, hnc, hcm, hcs, hbig, hch⟩ := h.open_
 obtain ⟨hA, -⟩ := hch.split i (by omega)
 obtain ⟨-, hBm⟩ := hch.split (i + 1) hi
 have hAl := hA.length
 have hBl := hBm.length
 rw [show (l.take i).length = i by simp; omega] at hAl
 rw [show (l.drop (i + 1)).length = l.length - (i + 1) by simp] at hBl
 generalize hL : l.take i ++ l.drop (i + 1) = L
 have hLn : L.length = l.length - 1 := by rw [← hL]; simp; omega
 have HL := Lib.hid hL
 have HLn := Lib.hid hLn
 have hBc : ∀ j u, ((cur.toList.take (l.length * 4)).drop ((i + 1) * 4))[j]? = some u → w.cell? ⟨g, (i + 1) * 4 + j, none⟩ = some u := fun j u hj => by
  rw [hBk.cell]
  rw [List.getElem?_drop, List.getElem?_take] at hj
  split at hj
  ·simpa using hj
  ·cases hj
 have hone2 : ∀ v ∈ (cur.toList.take (l.length * 4)).drop ((i + 1) * 4), v.oneCell' = true := hBm.one_cell h1
 have hcurA : cur.toList.take (i * 4) = (cur.toList.take (l.length * 4)).take (i * 4) := by rw [List.take_take, Nat.min_eq_left (by omega)]
 rw [← hcurA] at hA hAl
 generalize hBB : (cur.toList.take (l.length * 4)).drop ((i + 1) * 4) = Bm at hBm hBl hBc hone2
 have hchain := hA.append hBm
 rw [hL] at hchain
 obtain ⟨C1, hC1⟩ : ∃ C1 : Array Value, C1 = (cur.toList.take (i * 4) ++ Bm ++ cur.toList.drop (i * 4 + Bm.length)).toArray := ⟨_, rfl⟩
 have hC1s : C1.size = c * 4 := by
  rw [hC1]
  simp only [List.size_toArray, List.length_append, List.length_take, List.length_drop, Array.length_toList, hcs, hBl]
  omega
 obtain ⟨C2, hC2⟩ : ∃ C2 : Array Value, C2 = (C1.toList.take ((l.length - 1) * 4) ++ (Builtin.zeroCells z0.cells 1).toList ++ C1.toList.drop ((l.length - 1) * 4 + 1 * 4)).toArray := ⟨_, rfl⟩
 have hC2s : C2.size = c * 4 := by
  rw [hC2]
  have : (Builtin.zeroCells z0.cells 1).toList.length = 4 := by simp [Builtin.zeroCells, hzs]
  simp only [List.size_toArray, List.length_append, List.length_take, List.length_drop, Array.length_toList, hC1s] at this ⊢
  omega
 have hfin : Chunks R 4 (C2.toList.take (L.length * 4)) L := by
  have e0 : (cur.toList.take (i * 4) ++ Bm).length = (l.length - 1) * 4 := by rw [List.length_append, hAl, hBl]; omega
  have e1 : C1.toList.take ((l.length - 1) * 4) = cur.toList.take (i * 4) ++ Bm := by
   rw [hC1]
   exact List.take_left' e0
  rw [hC2, hLn]
  show Chunks R 4 (List.take _ (_ ++ _ ++ _)) L
  rw [e1, List.append_assoc, List.take_left' e0]
  exact hchain
 have hap : ∀ W : World, Blk W g 51 cur → ∀ ty' cp sc (ad : Addr), (i + 1 < l.length → ad = ⟨g, (i + 1) * 4, none⟩) → cp = c → (Builtin.append_ #[25, 25] ty' #[.slice (some ⟨g, 0, none⟩) i cp, .slice (some ad) (l.length - (i + 1)) sc]).run Tryz.prog W = .ok (.slice (some ⟨g, 0, none⟩) (l.length - 1) c) (W.setRow g C1) := fun W hN ty' cp sc ad had hcp => by
  subst hcp
  have hr := run_append_room (P := Tryz.prog) W 25 ty' 51 i0 Tryz.underlying25 hi0 g i cp cur hN ad (l.length - (i + 1)) sc Bm (by rw [hz1]; exact hBl)
   (fun j u hj => by
    have hlt : i + 1 < l.length := by
     have := (List.getElem?_eq_some_iff.1 hj).1
     rw [hBl] at this
     omega
    rw [had hlt, add_at, hN.cell, ← hBk.cell]
    exact hBc j u hj) hone2 (by omega) (by rw [hz1, hBl, hcs]; omega)
  rw [hz1] at hr
  rw [hC1, hr, show i + (l.length - (i + 1)) = l.length - 1 by omega]
 have hcl : ∀ W : World, Blk W g 51 C1 → ∀ ty' cp, (Builtin.clear_ #[25] ty' #[.slice (some ⟨g, (l.length - 1) * 4, none⟩) 1 cp]).run Tryz.prog W = .ok (.tuple #[]) (W.setRow g C2) := fun W hN ty' cp => by
  rw [hC2]
  exact run_clear_rowK 4 W _ _ ty' i0 z0 g ((l.length - 1) * 4) 1 cp C1 51 Tryz.underlying25 hi0 hz0 hzs (by omega) hN (by rw [hC1s]; omega) hzone
 have HAP := Lib.hid hap
 have HCL := Lib.hid hcl
 have HFIN := Lib.hid hfin
 clear hap hcl hfin
 have B1 := hBk.drew.setRow' (cs' := C1)
 unfold maxLen at hcm
 clear hC1 hC2 hcurA hBB hLn hL h
 have hw1 : IntKind.i64.wrap ((i : Int) + 1) = (i : Int) + 1 := IntWalk.i64_in _ (by omega)
 have hb1 : (0 : Int) ≤ (i : Int) + 1 := by omega
 have htn : ((i : Int) + 1).toNat = i + 1 := by omega
 have hb3 : (i : Int) ≤ (l.length : Int) := by omega
 have hb4 : (i : Int) + 1 ≤ (l.length : Int) := by omega
 have hb5 : (i : Int) ≤ (i : Int) + 1 := by omega
 have hb6 : (l.length : Int) ≤ (c : Int) := by omega
 have hb7 : (i : Int) ≤ (c : Int) := by omega
 have hne : ((i : Int) == (i : Int) + 1) = false := by simp; omega
 have hd1 : i + 1 - i = 1 := by omega
 have hn1 : ((l.length - 1 : Nat) : Int) ≤ (l.length : Int) := by omega
 have hn2 : ¬ (c = l.length - 1) := by omega
 have hn3 : l.length - (l.length - 1) = 1 := by omega
 by_cases hcc : c = i + 1
 ·subst hcc
  have HLL := Lib.hid (show l.length = i + 1 by omega)
  go_enter Tryz.func79, Tryz.ntmps79
  go_wp2_with fail
  have HAP1 : Hid (∀ ty', (Builtin.append_ #[25, 25] ty' #[.slice (some ⟨g, 0, none⟩) i (i + 1), .slice (some ⟨g, 0, none⟩) 0 0]).run Tryz.prog w.drew = .ok (.slice (some ⟨g, 0, none⟩) (l.length - 1) (i + 1)) (w.drew.setRow g C1)) := fun ty' => by
   have := HAP.out w.drew hBk.drew ty' (i + 1) 0 ⟨g, 0, none⟩ (fun h => by have := HLL.out; omega) rfl
   rwa [show l.length - (i + 1) = 0 by have := HLL.out; omega] at this
  go_region_law (refine step_append_runK rfl _ _ 25 25 rfl (.slice (some ⟨g, 0, none⟩) i (i + 1)) (.slice (some ⟨g, 0, none⟩) 0 0) (by simp [Act.eval, Act.put]) (by simp [Act.eval, Act.put]) (HAP1.out _) ?_)
  go_wp2_with (refine wpList_clear_runK _ rfl (.tmp 31) 25 rfl _ rfl (HCL.out _ B1 _ _) ?_)
  go_ret
  exact ⟨rfl, OwnSl.shut hg1 (B1.setRow' (cs' := C2)) HLn.out.symm (by rw [HLn.out]; omega) (by unfold maxLen; omega) hC2s (by rw [HLn.out]; omega) HFIN.out, grown_trans (grown_trans (grown_drew w _) (grown_setRow _ g C1)) (grown_setRow _ g C2)⟩
 ·go_enter Tryz.func79, Tryz.ntmps79
  go_wp2_with fail
  go_region_law (refine step_append_runK rfl _ _ 25 25 rfl (.slice (some ⟨g, 0, none⟩) i c) (.slice (some ⟨g, (i + 1) * 4, none⟩) (l.length - (i + 1)) (c - (i + 1))) (by simp [Act.eval, Act.put]) (by simp [Act.eval, Act.put]) (HAP.out _ hBk.drew _ c _ _ (fun _ => rfl) rfl) ?_)
  go_wp2_with (refine wpList_clear_runK _ rfl (.tmp 31) 25 rfl _ rfl (HCL.out _ B1 _ _) ?_)
  go_ret
  exact ⟨rfl, OwnSl.shut hg1 (B1.setRow' (cs' := C2)) HLn.out.symm (by rw [HLn.out]; omega) (by unfold maxLen; omega) hC2s (by rw [HLn.out]; omega) HFIN.out, grown_trans (grown_trans (grown_drew w _) (grown_setRow _ g C1)) (grown_setRow _ g C2)⟩
attribute [local irreducible] AW AWY vops vopsY vop vopL vdraw callW qop binQ lenQ storeQ appendQ callQ ACalls AIter setI
attribute [local go_sem] enB_eq boI_eq boA_eq byI_eq enW_eq wrI_eq wA_eq enZ_eq znI_eq vwA_eq storeQ_bp storeQ_rp
set_option maxRecDepth 100000 in
set_option maxHeartbeats 1600000 in
theorem view_of (hc : ∀ (l : List Body) (room : Int), I64 room → ACalls Tryz.prog TzTab 92 [.iv (boI l), .val (.int .i64 room)] (.val (.bool (cacheFormed l room))) []) (v : View) (iR : I64 v.room) : ACalls Tryz.prog TzTab 22 [vwA v] (.val (.bool (viewFormed v))) [] := by
 refine ACalls.of (n := 62) (rs := [.cell 2 4]) Tryz.func22 rfl (by kernel_rfl) Tryz.ntmps22 (by kernel_rfl) (by simp) (fun _ _ => TzTab.later) ?_
 intro hok V w0
 have hz : v.zones.length ≤ 1073741824 := by simpa [znI] using hok.1.2.1.1
 obtain ⟨B, hB⟩ : ∃ B, viewFormed v = B := ⟨_, rfl⟩
 rw [hB]
 refine g ?_
 refine AW.seq ?_
 refine AW.reg rfl fun KK hKK => ?_
 refine g ?_
 repeat' (refine hKK _ (g ?_); clear hKK KK)
 refine AW.freeze 200 _ rfl ⟨trivial, trivial, trivial, trivial, iR, trivial⟩ ?_
 simp only [go_sem, reduceIte, Nat.reduceEqDiff]
 refine g ?_
 repeat' (first | refine st_ rfl (g ?_) | refine cond_ (fun h => g ?_) (fun h => g ?_) | (refine vops_if rfl rfl (fun h => ?_) (fun h => ?_) <;> simp only [h] <;> refine g ?_) | refine call_ (vformed_call _) rfl (g ?_) | refine call_ (zformed_call _) rfl (g ?_) | refine call_ (shformed_call _) rfl (g ?_) | refine call_ (hc _ _ iR) rfl (g ?_))
 ·rw [← hB]; simp at h; simp [viewFormed, partsB, h]
 ·rw [← hB]; simp at h; simp [viewFormed, partsB, h]
 ·rw [← hB]; simp at h; simp [viewFormed, partsB, h]
 ·rw [← hB]; simp at h; simp [viewFormed, partsB, h]
 have hP : partsB v = true := by simp at *; simp [partsB, *]
 have hH : shelfFormed v.held = true := by simp only [partsB, Bool.and_eq_true] at hP; exact hP.1.2
 refine AW.loop (fun m : {m : Nat // m ≤ v.zones.length ∧ ∀ x ∈ v.zones.take m, decide (cmpV x.vec v.known = 1) = true} => ⟨[(1, .ip [stI v.known, znI v.zones, wrI v.held, boI v.bodies, .val (.int .i64 v.room)]), (2, .bp 300 0), (32, .iv (znI v.zones)), (33, .val (.int .i64 (v.zones.length : Nat))), (34, .val (.int .i64 (m.1 : Nat)))], [.box 300 [.val (.bool false)]]⟩) (fun m => v.zones.length - m.1) ⟨0, Nat.zero_le _, fun x hx => by simp at hx⟩ id ⟨⟨rfl, rfl, rfl, rfl, rfl, trivial⟩, ⟨rfl, trivial⟩, by simp [idsOf, BA.id]⟩ fun ⟨m, hm, ht⟩ => ?_
 refine g ?_
 repeat' (first | refine st_ rfl (g ?_) | refine cond_d (fun h => g ?_) (fun h => g ?_) | refine ix_ (by omega) (g ?_) | refine call_ (vcompare_call _ _) rfl (g ?_) | refine call_ (shall_call _) rfl (g ?_))
 ·have hlt : m < v.zones.length := by omega
  rw [← hB]; simp only [viewFormed]; rw [all_no (l := v.zones) (p := fun (x : Zone) => decide (cmpV x.vec v.known = 1)) hlt (by simpa using h)]; simp
 ·exact ⟨⟨m + 1, by omega, all_step (by omega) ht (by simpa using h)⟩, id, ⟨⟨rfl, rfl, rfl, rfl, rfl, trivial⟩, ⟨rfl, trivial⟩, by simp [idsOf, BA.id]⟩, by show v.zones.length - (m + 1) < v.zones.length - m; omega⟩
 obtain rfl : m = v.zones.length := by omega
 rw [List.take_length] at ht
 have h1 : (v.zones.all fun x => decide (cmpV x.vec v.known = 1)) = true := List.all_eq_true.2 ht
 refine AW.le (S := ⟨[(2, .bp 300 0), (1, .ip [stI v.known, znI v.zones, wrI v.held, boI v.bodies, .val (.int .i64 v.room)]), (47, .fn 174 [.ip [wrI v.held]])], [.box 300 [.val (.bool false)]]⟩) (ρ := id) ⟨⟨rfl, rfl, rfl, trivial⟩, ⟨rfl, trivial⟩, by simp [idsOf, BA.id]⟩ ?_
 refine AW.range (shall_iter v.held hH) [(2, .bp 300 0)] [(1, .ip [stI v.known, znI v.zones, wrI v.held, boI v.bodies, .val (.int .i64 v.room)]), (47, .fn 174 [.ip [wrI v.held]])] (fun _ => [.box 300 [.val (.bool false)]]) (fun pre => ∀ w ∈ pre, reachedB v.zones v.known w = true) rfl (fun w hw => by cases hw) rfl rfl rfl rfl (fun x => ⟨rfl, rfl⟩) (fun k pre x hsp hI => ?_) (fun xs hS hI => ?_)
 ·simp only [parF, enWo, List.cons_append, List.nil_append]
  refine g ?_
  refine g ?_
  repeat' (first | refine st_ rfl (g ?_) | refine cond_ (fun h => g ?_) (fun h => g ?_) | refine call_ (reached_call _ _ x) rfl (g ?_))
  ·refine ⟨id, [.box 300 [.val (.bool false)]], ⟨⟨rfl, trivial⟩, ⟨rfl, trivial⟩, by simp [idsOf, BA.id]⟩, ?_⟩
   refine g ?_
   have hx : x ∈ v.held := hsp.subset (by simp)
   rw [← hB]
   simp only [viewFormed]
   rw [show (v.held.all fun w => reachedB v.zones v.known w) = false from List.all_eq_false.2 ⟨x, hx, by simpa using h⟩]
   simp
  ·refine ⟨fun w hw => ?_, id, ⟨rfl, trivial⟩, ⟨rfl, trivial⟩, by simp [idsOf, BA.id]⟩
   rcases List.mem_append.1 hw with h3 | h3
   ·exact hI w h3
   ·rw [List.mem_singleton.1 h3]; simpa using h
 ·obtain rfl : xs = v.held := hS
  have h2 : (v.held.all fun x => reachedB v.zones v.known x) = true := List.all_eq_true.2 hI
  refine g ?_
  repeat' (first | refine st_ rfl (g ?_) | refine call_ (hasfb_call _ _ _ _ (fun x => formed1_call v x hH)) rfl (g ?_))
  rw [← hB]
  simp only [viewFormed]
  rw [hP, h1, h2, List.not_any_eq_all_not]
  simp
end Go.Proofs.YtkphfdmelfhnoaaGreatDoor
namespace Go.Proofs.YtkphfdmelfhnoaaGreatDoor
open Go.ChangeShapes Go.WideShapes Go.ChangeAt Go.RowKit
attribute [local irreducible] AW AWY vops vopsY vop vopL vdraw callW qop binQ lenQ storeQ appendQ callQ ACalls AIter setI
attribute [local go_sem] enB_eq boI_eq boA_eq byI_eq storeQ_bp storeQ_rp
set_option maxRecDepth 100000 in
theorem cformed_call (l : List Body) (room : Int) (iR : I64 room) : ACalls Tryz.prog TzTab 92 [.iv (boI l), .val (.int .i64 room)] (.val (.bool (cacheFormed l room))) [] := by
 refine ACalls.of (n := 43) (rs := [.tmp 4]) Tryz.func92 rfl (by kernel_rfl) Tryz.ntmps92 (by kernel_rfl) (by simp) (fun _ _ => TzTab.later) ?_
 intro hok V w0
 have hlen : l.length ≤ 1073741824 := by simpa [boI] using hok.1.1
 obtain ⟨B, hB⟩ : ∃ B, cacheFormed l room = B := ⟨_, rfl⟩
 rw [hB]
 unfold cacheFormed roomB at hB
 refine g ?_
 repeat' (first | refine st_ rfl (g ?_) | refine cond_d (fun h => g ?_) (fun h => g ?_) | (refine vops_ifd rfl rfl (fun h e => ?_) (fun h e => ?_) <;> simp only [e] <;> clear e <;> refine g ?_))
 ·rw [← hB, decide_eq_false (p := 0 ≤ room) (by omega)]; rfl
 ·rw [← hB, decide_eq_false (p := room ≤ 16777216) (by omega)]; simp
 ·rw [← hB, decide_eq_false (p := l.length ≤ 256) (by omega)]; simp
 rw [decide_eq_true (p := 0 ≤ room) (by omega), decide_eq_true (p := room ≤ 16777216) (by omega), decide_eq_true (p := l.length ≤ 256) (by omega), Bool.true_and, Bool.true_and, Bool.true_and] at hB
 refine AW.loop (fun x : {x : Nat × List (Int × Value) // x.1 ≤ l.length ∧ onceB (l.take x.1) = true ∧ ∀ o, (kvGet x.2 o).getD (.bool false) = .bool (hasB (l.take x.1) o)} => ⟨[(0, .iv (boI l)), (1, .val (.int .i64 room)), (5, .mv 2000), (20, .iv (boI l)), (21, .val (.int .i64 (l.length : Nat))), (22, .val (.int .i64 (x.1.1 : Nat)))], [.mp 2000 .i64 x.1.2]⟩) (fun x => l.length - x.1.1) ⟨(0, []), Nat.zero_le _, rfl, fun o => rfl⟩ id ⟨⟨rfl, rfl, rfl, rfl, rfl, rfl, trivial⟩, ⟨rfl, trivial⟩, by simp [idsOf, BA.id]⟩ fun ⟨⟨m, kv⟩, hm, ht, hk⟩ => ?_
 simp only at hm ht hk
 refine g ?_
 repeat' (first | refine st_ rfl (g ?_) | refine cond_d (fun h => g ?_) (fun h => g ?_) | refine ix_ (by omega) (g ?_))
 ·have hlt : m < l.length := by omega
  refine ⟨.bool (hasB (l.take m) l[m].object), hk _, ?_⟩
  cases hh : hasB (l.take m) l[m].object
  ·refine g ?_
   repeat' (first | refine st_ rfl (g ?_) | refine hold_ (g ?_) | refine cond_ (fun h => g ?_) (fun h => g ?_) | refine call_ (bright_call _) rfl (g ?_))
   ·rw [← hB, once_no hlt ht (.inl (by simpa using h))]; rfl
   ·have hr : rightBody l[m] = true := by simpa using h
    refine ⟨⟨(m + 1, _), hlt, by rw [once_step hlt ht, hr, hh]; rfl, fun o => ?_⟩, id, ⟨⟨rfl, rfl, rfl, rfl, rfl, rfl, trivial⟩, ⟨rfl, trivial⟩, by simp [idsOf, BA.id]⟩, by show l.length - (m + 1) < l.length - m; omega⟩
    rw [kvGet_put, hasB_snoc hlt]
    by_cases e : o = l[m].object
    ·rw [if_pos e, e]; simp
    ·rw [if_neg e, hk o, decide_eq_false (fun e' => e e'.symm), Bool.or_false]
  ·refine g ?_
   repeat' (first | refine st_ rfl (g ?_) | refine hold_ (g ?_))
   rw [← hB, once_no hlt ht (.inr hh)]; rfl
 ·obtain rfl : m = l.length := by omega
  rw [List.take_length] at ht
  refine call_ (used_call l (by omega) fun x hx => (rightBody_in (once_right ht x hx)).2.2) rfl ?_
  refine g ?_
  repeat' refine st_ rfl (g ?_)
  rw [← hB, ht]; rfl
end Go.Proofs.YtkphfdmelfhnoaaGreatDoor
namespace Go.Proofs.YtkphfdmelfhnoaaGreatDoor
open Go.ChangeShapes Go.WideShapes Go.ChangeAt Go.RowKit
theorem bridge_clone {P : Program} {G : World → Prop} {f : FuncId} {fn : Func} {c : Code} {k T : Nat} {l : List (List IV)} (hf : P.funcs[f]? = some fn) (hb : fn.body = some c) (hname : (fn.name == "runtime.NumGoroutine") = false)
  (h : ∀ (V w : World) (v : Value), Ext V w → Sl (RepVs V) k V V.heap.size v l → Calls P f #[v] w fun e w' => (∃ v', e = .returned v' ∧ OwnSl (RepVs V) k w' w.heap.size T v' l) ∧ Below w.heap.size w w') : ACalls P G f [.iv (.sl k l)] (.own 0) [.row 0 T k l] :=
 ⟨enters_f hf hb hname, fun V w E vs hV hG hr => by
  obtain ⟨v0, rfl, hv0⟩ := args1 hr
  have hs : Sl (RepVs V) k V V.heap.size v0 l := by cases hv0 with | iv h => exact h.to_sl
  refine (h V w v0 hV hs).mono fun _ w' ⟨⟨v, he, hO⟩, hb⟩ => ?_
  obtain ⟨A, n, cc, hv⟩ : ∃ A n cc, v = .slice A n cc := by
   obtain ⟨A, cc, hv, _⟩ := hO.sl
   exact ⟨A, _, cc, hv⟩
  have ho : owns ⟨fun _ => (v.ownBlock).getD 0, fun _ => v⟩ [.row 0 T k l] = v.ownBlock.toList := by simp [owns, BA.owned]
  refine ⟨v, ⟨fun _ => (v.ownBlock).getD 0, fun _ => v⟩, he, hb, by rw [ho]; cases v.ownBlock <;> simp, fun g hg => by rw [ho, Option.mem_toList] at hg; exact (hO.lt g hg).1, fun b hb' => ?_, ?_⟩
  ·simp only [List.mem_singleton] at hb'
   subst hb'
   refine ⟨hO.mono fun cs x h => ?_, fun g hg => by simp [hg]⟩
   rw [ho]
   exact RepVs.ext (vis_v hV hb) h
  ·rw [hv]
   exact .own rfl⟩
theorem infoTBytes : (Tryz.prog.info? 5).map (fun i => (i.zero.map (·.cells.size), i.size, i.bytes)) = some (some 1, 1, 1) := by kernel_rfl
theorem cloneTBytes (l : List (List IV)) (v : Value) (V : World) (w : World) (hV : Ext V w) (h : Sl (RepVs V) 1 V V.heap.size v l) :
  Calls Tryz.prog 182 #[v] w fun e w' => (∃ v', e = .returned v' ∧ OwnSl (RepVs V) 1 w' w.heap.size 5 v' l) ∧ Below w.heap.size w w' := by
 have hle := h.len_le
 obtain ⟨i0, z0, hi, hz0, hzs, hz1, hz2⟩ := info_of infoTBytes
 obtain ⟨A, c, rfl, -, -, hne⟩ := id h
 have he := fun (w : World) (a : Option Addr) (n c : Nat) => Lib.run_eql_slice_nil (P := Tryz.prog) w 45 5 a n c 0 0 Tryz.underlying45
 cases A with
 | none =>
  obtain rfl : l = [] := by
   rcases l with _ | ⟨y, l⟩
   ·rfl
   ·obtain ⟨b, off, h1, _⟩ := hne (by simp)
    cases h1
  clear hne h
  go_enter Tryz.func182, Tryz.ntmps182
  go_wp2_with fail
  go_ret
  exact ⟨⟨_, rfl, OwnSl.nil_ _ _ _⟩, Below.refl _ _⟩
 | some A =>
  have HH := Lib.hid (Sl.ext h (fun _ _ h => h) hV)
  clear hne h
  go_enter Tryz.func182, Tryz.ntmps182
  go_wp2_with (at_builtin; refine wpList_append_sl _ (fun cs x h => RepVs.one h) rfl (.tmp 5) (.tmp 6) 45 rfl w.heap.size 5 i0 _ 1 Tryz.underlying45 hi hz0 hz1 hz2 hzs (by omega) _ [] rfl (ownEmptyRow (R := (RepVs V)) (k := 1) w 5) w.heap.size _ l rfl (HH.out.keep (fun _ _ h => h) (Nat.le_refl _) (fun p hp => World.cell?_alloc_lt _ _ _ hp)) (by simp only [List.length_nil]; omega) (by omega) (by simp) ?_; intro v1 w1 hown hgr hat)
  simp only [List.nil_append] at hown
  have hb1 : Below w.heap.size w w1 := (balloc (Below.refl _ _)).grown hgr (by simp) (fun k hk => Nat.le_of_eq (Option.some.inj hk))
  have H1 := Lib.hid hown
  clear hown hgr hat hi hz0 hz1 hz2 hzs
  go_wp2_with fail
  go_ret
  exact ⟨⟨_, rfl, H1.out⟩, hb1⟩
theorem infoTBodies : (Tryz.prog.info? 51).map (fun i => (i.zero.map (·.cells.size), i.size, i.bytes)) = some (some 4, 4, 48) := by kernel_rfl
theorem cloneTBodies (l : List (List IV)) (v : Value) (V : World) (w : World) (hV : Ext V w) (h : Sl (RepVs V) 4 V V.heap.size v l) :
  Calls Tryz.prog 178 #[v] w fun e w' => (∃ v', e = .returned v' ∧ OwnSl (RepVs V) 4 w' w.heap.size 51 v' l) ∧ Below w.heap.size w w' := by
 have hle := h.len_le
 obtain ⟨i0, z0, hi, hz0, hzs, hz1, hz2⟩ := info_of infoTBodies
 obtain ⟨A, c, rfl, -, -, hne⟩ := id h
 have he := fun (w : World) (a : Option Addr) (n c : Nat) => Lib.run_eql_slice_nil (P := Tryz.prog) w 25 51 a n c 0 0 Tryz.underlying25
 cases A with
 | none =>
  obtain rfl : l = [] := by
   rcases l with _ | ⟨y, l⟩
   ·rfl
   ·obtain ⟨b, off, h1, _⟩ := hne (by simp)
    cases h1
  clear hne h
  go_enter Tryz.func178, Tryz.ntmps178
  go_wp2_with fail
  go_ret
  exact ⟨⟨_, rfl, OwnSl.nil_ _ _ _⟩, Below.refl _ _⟩
 | some A =>
  have HH := Lib.hid (Sl.ext h (fun _ _ h => h) hV)
  clear hne h
  go_enter Tryz.func178, Tryz.ntmps178
  go_wp2_with (at_builtin; refine wpList_append_sl _ (fun cs x h => RepVs.one h) rfl (.tmp 5) (.tmp 6) 25 rfl w.heap.size 51 i0 _ 48 Tryz.underlying25 hi hz0 hz1 hz2 hzs (by omega) _ [] rfl (ownEmptyRow (R := (RepVs V)) (k := 4) w 51) w.heap.size _ l rfl (HH.out.keep (fun _ _ h => h) (Nat.le_refl _) (fun p hp => World.cell?_alloc_lt _ _ _ hp)) (by simp only [List.length_nil]; omega) (by omega) (by simp) ?_; intro v1 w1 hown hgr hat)
  simp only [List.nil_append] at hown
  have hb1 : Below w.heap.size w w1 := (balloc (Below.refl _ _)).grown hgr (by simp) (fun k hk => Nat.le_of_eq (Option.some.inj hk))
  have H1 := Lib.hid hown
  clear hown hgr hat hi hz0 hz1 hz2 hzs
  go_wp2_with fail
  go_ret
  exact ⟨⟨_, rfl, H1.out⟩, hb1⟩
theorem cloneby_call (l : List Nat) : ACalls Tryz.prog TzTab 182 [.iv (byI l)] (.iv (byI l)) [] :=
 (bridge_clone (l := l.map fun (b : Nat) => [.val (.int .u8 b)]) Tryz.func182 rfl (by kernel_rfl) fun V w v hV h => cloneTBytes _ v V w hV h).frz trivial
theorem clonebo_call (l : List Body) : ACalls Tryz.prog TzTab 178 [.iv (boI l)] (.iv (boI l)) [] :=
 (bridge_clone (l := l.map enB) Tryz.func178 rfl (by kernel_rfl) fun V w v hV h => cloneTBodies _ v V w hV h).frz trivial
set_option maxRecDepth 100000 in
theorem delb_call (l : List Body) (i : Nat) (hi : i < l.length) : TCalls Tryz.prog TzTab 79 [.own 1, .val (.int .i64 i), .val (.int .i64 ((i : Int) + 1))] (.own 0) [.row 1 51 4 (l.map enB)] [.row 0 51 4 ((l.take i ++ l.drop (i + 1)).map enB)] [] [] := by
 refine TCalls.row (r := id) Tryz.func79 rfl (by kernel_rfl) (fun E X v' ⟨A, n, c, hv⟩ he => by subst hv; exact .own he) fun X w E v vs base hX hb hG h hh hvs => ?_
 obtain ⟨u0, u1, rfl, q0, q1⟩ : ∃ u0 u1, vs = [u0, u1] ∧ RepA E X u0 (.val (.int .i64 i)) ∧ RepA E X u1 (.val (.int .i64 ((i : Int) + 1))) := by
  obtain ⟨u0, vs', e, h1, h2⟩ := RepAs.cons_iff.1 hvs
  obtain ⟨u1, vs'', e', h1', h2'⟩ := RepAs.cons_iff.1 h2
  rw [RepAs.nil_iff.1 h2'] at e'
  exact ⟨u0, u1, by rw [e, e'], h1, h1'⟩
 cases q0
 cases q1
 rcases h.forms with ⟨_, h0⟩ | ⟨g, c, rfl, hg1, hg2⟩
 ·have : l.length = 0 := by simpa using congrArg List.length h0
  omega
 have hcall := deleteBody (R := RepVs X) (fun cs x h => RepVs.one h) (l.map enB) i _ c g w base h (by simpa using hi)
 refine hcall.mono ?_
 rintro e w' ⟨rfl, r1, r2⟩
 refine ⟨_, rfl, ?_, r2, .inl rfl⟩
 rw [List.map_append, List.map_take, List.map_drop]
 exact r1
attribute [local irreducible] AW AWY vops vopsY vop vopL vdraw callW qop binQ lenQ storeQ appendQ callQ ACalls AIter
attribute [local go_sem] enB_eq boI_eq boA_eq byI_eq storeQ_bp storeQ_rp
set_option maxRecDepth 100000 in
theorem twin_call (x : Body) : ACalls Tryz.prog TzTab 166 [boA x] (boA x) [] := by
 refine ACalls.of (n := 8) (rs := [.cell 2 51]) Tryz.func166 rfl (by kernel_rfl) Tryz.ntmps166 (by kernel_rfl) (by simp) (fun _ _ => TzTab.later) ?_
 intro hok V w0
 refine g ?_
 repeat' (first | refine st_ rfl (g ?_) | exact trivial | refine call_ (cloneby_call _) rfl (g ?_))
set_option maxRecDepth 100000 in
theorem forget_call (l : List Body) (o : Int) : ACalls Tryz.prog TzTab 75 [.iv (boI l), .val (.int .i64 o)] (.own 0) [.row 0 51 4 ((forgetB l o).map enB)] := by
 refine ACalls.ofS (n := 25) (rs := [.tmp 4]) Tryz.func75 rfl (by kernel_rfl) Tryz.ntmps75 (by kernel_rfl) (by simp) (fun _ _ => TzTab.later) ?_
 intro hok V w0
 have hlen : l.length ≤ 1073741824 := by simpa [boI] using hok.1.1
 refine g ?_
 repeat' refine st_ rfl (g ?_)
 refine AW.adopt 5 9900 51 4 rfl rfl ?_
 refine AW.loop (fun m : {m : Nat // m ≤ l.length} => ⟨[(1, .val (.int .i64 o)), (5, .own 9900), (8, .iv (boI l)), (9, .val (.int .i64 (l.length : Nat))), (10, .val (.int .i64 (m.1 : Nat)))], [.row 9900 51 4 ((forgetB (l.take m.1) o).map enB)]⟩) (fun m => l.length - m.1) ⟨0, Nat.zero_le _⟩ id ⟨⟨rfl, rfl, rfl, ?_, rfl, trivial⟩, ⟨rfl, trivial⟩, by simp [idsOf, BA.id]⟩ fun ⟨m, hm⟩ => ?_
 ·simp [AV.ren, look]
 simp only
 have hfl : (forgetB (l.take m) o).length ≤ m := by
  have := List.length_filter_le (fun x : Body => !decide (x.object = o)) (l.take m)
  rw [List.length_take] at this
  unfold forgetB
  omega
 repeat (refine AW.seq ?_)
 refine AW.reg rfl fun KK hKK => ?_
 refine g ?_
 repeat' (refine hKK _ (g ?_); clear hKK KK)
 repeat (refine AW.seq ?_)
 refine st_ rfl ?_
 refine g ?_
 refine cond_ (fun h => ?_) (fun h => ?_)
 ·have hlt : m < l.length := by have := of_decide_eq_true h; omega
  obtain ⟨-, o1, o2, o3, -⟩ := okR_mem (by simpa [boI] using hok.1.2) (enB l[m]) (List.mem_map_of_mem (List.getElem_mem hlt))
  have hs : forgetB (l.take (m + 1)) o = forgetB (l.take m) o ++ if l[m].object = o then [] else [l[m]] := by
   unfold forgetB
   rw [List.take_succ_eq_append_getElem hlt, List.filter_append]
   by_cases e : l[m].object = o <;> simp [e]
  refine g ?_
  repeat' (first | refine st_ rfl (g ?_) | refine cond_d (fun h => g ?_) (fun h => g ?_) | refine ix_ (by omega) (g ?_) | refine call_ (twin_call _) rfl (g ?_))
  ·refine bs1 (by omega) rfl rfl rfl ⟨o1, o2, o3, trivial, trivial⟩ ?_
   refine g ?_
   refine append_own rfl (by kernel_rfl) (by omega) (by kernel_rfl) rfl (by simp; omega) ?_
   refine g ?_
   repeat' refine st_ rfl (g ?_)
   refine ⟨⟨m + 1, hlt⟩, fun b => if b = 9900 then 2300 else b, ⟨⟨rfl, rfl, rfl, rfl, rfl, trivial⟩, ⟨?_, trivial⟩, by simp [idsOf, BA.id]⟩, by show l.length - (m + 1) < l.length - m; omega⟩
   rw [hs, if_neg h, List.map_append]
   rfl
  ·refine ⟨⟨m + 1, hlt⟩, id, ⟨⟨rfl, rfl, rfl, rfl, rfl, trivial⟩, ⟨?_, trivial⟩, by simp [idsOf, BA.id]⟩, by show l.length - (m + 1) < l.length - m; omega⟩
   rw [hs, if_pos (Decidable.of_not_not h), List.append_nil]
   rfl
 ·obtain rfl : m = l.length := by have := of_decide_eq_false h; omega
  rw [List.take_length]
  refine g ?_
  repeat' refine st_ rfl (g ?_)
  exact ⟨fun b => if b = 0 then 9900 else b, fun _ _ _ h => h, rfl, by simp⟩
theorem isb_call (x : Body) (o : Int) (s : Stamp) : ACalls Tryz.prog TzTab 181 [boA x, .ip [.val (.int .i64 o)], .ip [.val (.int .i64 s.count), .val (.int .i64 s.node)]] (.val (.bool (isB o s x))) [] := by
 refine ACalls.of (n := 15) (rs := [.tmp 4]) Tryz.func181 rfl (by kernel_rfl) Tryz.ntmps181 (by kernel_rfl) (by simp) (fun _ _ => TzTab.later) ?_
 intro hok V w0
 obtain ⟨B, hB⟩ : ∃ B, isB o s x = B := ⟨_, rfl⟩
 rw [hB]
 unfold isB at hB
 rw [stamp_dec] at hB
 refine g ?_
 repeat' (first | refine st_ rfl (g ?_) | (refine vops_ifd rfl rfl (fun h e => ?_) (fun h e => ?_) <;> simp only [e] <;> clear e <;> refine g ?_))
 ·refine ⟨_, fun u => stamp_eq _ _ _ _ _ _ u, ?_⟩
  refine g ?_
  repeat' (first | refine st_ rfl (g ?_) | refine hold_ (g ?_))
  rw [← hB, h]
  simp
 ·rw [← hB, decide_eq_false h]
  rfl
set_option maxRecDepth 100000 in
theorem idxb2_call (l : List Body) (f : FuncId) (C D : List IV) (p : Body → Bool) (hp : ∀ x, ACalls Tryz.prog TzTab f [boA x, .ip C, .ip D] (.val (.bool (p x))) []) : ACalls Tryz.prog TzTab 76 [.iv (boI l), .fn f [.ip C, .ip D]] (.val (.int .i64 (if l.any p = true then ((l.findIdx p : Nat) : Int) else -1))) [] := by
 refine ACalls.of (n := 19) (rs := [.tmp 4]) Tryz.func76 rfl (by kernel_rfl) Tryz.ntmps76 (by kernel_rfl) (by simp) (fun _ _ => TzTab.later) ?_
 intro hok V w0
 have hlen : l.length ≤ 1073741824 := by simpa [boI] using hok.1.1
 refine g ?_
 repeat' refine st_ rfl (g ?_)
 refine AW.loop (fun m : {m : Nat // m ≤ l.length ∧ ∀ x ∈ l.take m, p x = false} => ⟨[(0, .iv (boI l)), (1, .fn f [.ip C, .ip D]), (7, .val (.int .i64 (l.length : Nat))), (8, .val (.int .i64 (m.1 : Nat)))], []⟩) (fun m => l.length - m.1) ⟨0, Nat.zero_le _, fun x hx => by simp at hx⟩ id ⟨⟨rfl, rfl, rfl, rfl, trivial⟩, trivial, List.nodup_nil⟩ fun ⟨m, hm, ht⟩ => ?_
 refine g ?_
 repeat' (first | refine st_ rfl (g ?_) | refine cond_d (fun h => g ?_) (fun h => g ?_) | refine cond_ (fun h => g ?_) (fun h => g ?_) | refine ix_ (by omega) (g ?_) | refine call_ (hp _) rfl (g ?_))
 ·have hlt : m < l.length := by omega
  rw [if_pos (List.any_eq_true.2 ⟨_, List.getElem_mem hlt, h⟩), (List.findIdx_eq hlt).2 ⟨h, fun j hj => ht _ (List.mem_take_iff_getElem.2 ⟨j, by omega, rfl⟩)⟩]
 ·refine ⟨⟨m + 1, by omega, fun x hx => ?_⟩, id, ⟨⟨rfl, rfl, rfl, rfl, trivial⟩, trivial, List.nodup_nil⟩, by show l.length - (m + 1) < l.length - m; omega⟩
  rw [List.take_succ_eq_append_getElem (by omega)] at hx
  rcases List.mem_append.1 hx with h1 | h1
  ·exact ht x h1
  ·rw [List.mem_singleton.1 h1]; exact h
 ·obtain rfl : m = l.length := by omega
  rw [List.take_length] at ht
  rw [if_neg]
  rw [List.any_eq_true]
  rintro ⟨x, hx, hp⟩
  rw [ht x hx] at hp
  cases hp
theorem find_at {α : Type} {p : α → Bool} {l : List α} (h : l.any p = true) : ∃ hl : l.findIdx p < l.length, p l[l.findIdx p] = true ∧ l.find? p = some l[l.findIdx p] := by
 have hl : l.findIdx p < l.length := List.findIdx_lt_length.2 (List.any_eq_true.1 h)
 refine ⟨hl, List.findIdx_getElem (w := hl), ?_⟩
 obtain ⟨m, hm⟩ : ∃ m, l.findIdx p = m := ⟨_, rfl⟩
 have h1 := List.findIdx_getElem (p := p) (xs := l) (w := hl)
 have h2 : ∀ x ∈ l.take m, p x = false := fun x hx => by
  obtain ⟨j, hj, rfl⟩ := List.mem_take_iff_getElem.1 hx
  have := List.not_of_lt_findIdx (p := p) (xs := l) (i := j) (by omega)
  simpa using this
 simp only [hm] at hl h1 ⊢
 conv => lhs; rw [← List.take_append_drop m l, List.drop_eq_getElem_cons hl]
 rw [List.find?_append, List.find?_eq_none.2 fun x hx => by rw [h2 x hx]; simp, Option.none_or]
 simp only [List.find?_cons, h1]
set_option maxRecDepth 100000 in
theorem cget_call (l : List Body) (o : Int) (s : Stamp) (i0 : I64 o) (i1 : I64 s.count) (i2 : I64 s.node) : ACalls Tryz.prog TzTab 110 [.iv (boI l), .val (.int .i64 o), .agg [.val (.int .i64 s.count), .val (.int .i64 s.node)]] (.tup [.iv (byI (getB l o s).1), .val (.int .i64 (getB l o s).2)]) [] := by
 refine ACalls.ofS (n := 20) (rs := [.tmp 6, .tmp 7]) Tryz.func110 rfl (by kernel_rfl) Tryz.ntmps110 (by kernel_rfl) (by simp) (fun _ _ => TzTab.later) ?_
 intro hok V w0
 have hlen : l.length ≤ 1073741824 := by simpa [boI] using hok.1.1
 obtain ⟨R, hR⟩ : ∃ R, getB l o s = R := ⟨_, rfl⟩
 rw [hR]
 unfold getB at hR
 have hidx := idxb2_call l 181 [.val (.int .i64 o)] [.val (.int .i64 s.count), .val (.int .i64 s.node)] (isB o s) fun x => isb_call x o s
 refine g ?_
 refine AW.seq ?_
 refine AW.reg rfl fun KK hKK => ?_
 refine g ?_
 repeat' (refine hKK _ (g ?_); clear hKK KK)
 refine AW.freeze 500 _ rfl ⟨i0, trivial⟩ ?_
 simp only [go_sem, reduceIte, Nat.reduceEqDiff]
 refine AW.freeze 600 _ rfl ⟨i1, i2, trivial⟩ ?_
 simp only [go_sem, reduceIte, Nat.reduceEqDiff]
 cases ha : l.any (isB o s) with
 | false =>
  rw [ha, if_neg (by decide)] at hidx
  have hn : l.find? (isB o s) = none := List.find?_eq_none.2 fun x hx => by simpa using List.any_eq_false.1 ha x hx
  rw [hn] at hR
  subst hR
  refine g ?_
  repeat' (first | refine st_ rfl (g ?_) | refine call_ (hidx) rfl (g ?_))
  refine tup_sub rfl fun p hp => ?_
  simp only [List.zip_cons_cons, List.zip_nil_right, List.mem_cons, List.not_mem_nil, or_false] at hp
  rcases hp with rfl | rfl
  ·exact nil_sub 1
  ·exact Sub1.rfl_ _
 | true =>
  obtain ⟨hl, hp1, hf⟩ := find_at ha
  rw [ha, if_pos rfl] at hidx
  rw [hf] at hR
  simp only at hR
  subst hR
  generalize l.findIdx (isB o s) = m at hl hp1 hf hidx ⊢
  refine g ?_
  repeat' (first | refine st_ rfl (g ?_) | refine ix_ (by omega) (g ?_) | refine call_ (hidx) rfl (g ?_) | refine call_ (cloneby_call _) rfl (g ?_))
  exact Sub1.rfl_ _
theorem fit_step {room : Int} {l : List Body} {k : Nat} (h : k < l.length) (hu : ¬ (usedS (l.drop k) : Int) ≤ room) : fitB room (l.drop k) = fitB room (l.drop (k + 1)) := by
 have e : l.drop k = l[k] :: l.drop (k + 1) := List.drop_eq_getElem_cons h
 rw [e] at hu ⊢
 rw [fitB, if_neg hu]
theorem fit_stop {room : Int} : ∀ {l : List Body}, (usedS l : Int) ≤ room → fitB room l = l
 | [], _ => rfl
 | x :: l, h => by rw [fitB, if_pos h]
theorem used_drop {l : List Body} {k : Nat} (h : k < l.length) : usedS (l.drop k) = l[k].value.length + usedS (l.drop (k + 1)) := by
 unfold usedS
 rw [List.drop_eq_getElem_cons h, List.map_cons, List.sum_cons]
set_option maxRecDepth 100000 in
set_option maxHeartbeats 1600000 in
theorem cput_call (l : List Body) (room : Int) (x : Body) (iR : I64 room) (i0 : I64 x.object) (i1 : I64 x.stamp.count) (i2 : I64 x.stamp.node) : ACalls Tryz.prog TzTab 105 [.iv (boI l), .val (.int .i64 room), boA x] (.tup [.iv (boI (putB l room x).1), .val (.int .i64 (putB l room x).2)]) [] := by
 refine ACalls.ofS (n := 47) (rs := [.tmp 6, .tmp 7]) Tryz.func105 rfl (by kernel_rfl) Tryz.ntmps105 (by kernel_rfl) (by simp) (fun _ _ => TzTab.later) ?_
 intro hok V w0
 have hlen : l.length ≤ 1073741824 := by simpa [boI] using hok.1.1
 obtain ⟨R, hR⟩ : ∃ R, putB l room x = R := ⟨_, rfl⟩
 rw [hR]
 unfold putB at hR
 refine g ?_
 refine AW.seq ?_
 refine AW.reg rfl fun KK hKK => ?_
 refine g ?_
 repeat' (refine hKK _ (g ?_); clear hKK KK)
 refine AW.freeze 600 _ rfl ⟨i0, i1, i2, trivial, trivial⟩ ?_
 simp only [go_sem, reduceIte, Nat.reduceEqDiff]
 have hno : ∀ {q : List Body × Int}, q = ([], 1) → Sub1 (.tup [.val (.slice none 0 0), .val (.int .i64 1)]) (.tup [.iv (boI q.1), .val (.int .i64 q.2)]) := fun {q} e => by
  subst e
  refine tup_sub rfl fun p hp => ?_
  simp only [List.zip_cons_cons, List.zip_nil_right, List.mem_cons, List.not_mem_nil, or_false] at hp
  rcases hp with rfl | rfl
  ·exact nil_sub 4
  ·exact Sub1.rfl_ _
 refine g ?_
 repeat' (first | refine st_ rfl (g ?_) | refine cond_ (fun h => g ?_) (fun h => g ?_) | (refine vops_if rfl rfl (fun h => ?_) (fun h => ?_) <;> simp only [h] <;> refine g ?_) | refine call_ (cformed_call l room iR) rfl (g ?_) | refine call_ (bright_call x) rfl (g ?_))
 ·rw [if_neg (by rintro ⟨a, _⟩; simp [a] at h)] at hR
  exact hno hR.symm
 ·rw [if_neg (by rintro ⟨_, a⟩; simp [a] at h)] at hR
  exact hno hR.symm
 rename_i h1
 have hc : cacheFormed l room = true := by simpa using h1
 have hb : rightBody x = true := by simpa using h
 rw [if_pos ⟨hc, hb⟩] at hR
 subst hR
 simp only [cacheFormed, roomB, Bool.and_eq_true, decide_eq_true_eq] at hc
 obtain ⟨⟨⟨⟨c1, c2⟩, c3⟩, c4⟩, c5⟩ := hc
 have hcv := once_right c4
 obtain ⟨O, hO⟩ : ∃ O, forgetB l x.object ++ [x] = O := ⟨_, rfl⟩
 have hfl : (forgetB l x.object).length ≤ 256 := Nat.le_trans (List.length_filter_le _ _) c3
 have hOl : O.length ≤ 257 := by rw [← hO]; simp; omega
 have hOv : ∀ y ∈ O, y.value.length ≤ 256 := fun y hy => by
  rw [← hO] at hy
  rcases List.mem_append.1 hy with hy | hy
  ·exact (rightBody_in (hcv y (List.mem_filter.1 hy).1)).2.2
  ·rw [List.mem_singleton.1 hy]; exact (rightBody_in hb).2.2
 refine AW.drawn (ds := [20, 21, 22, 23, 24, 25, 26, 27, 8]) (fin := [1, 2]) (bs := [0, 0, 0, 0, 1, 1, 1, 2, 3]) [⟨[], [], [], [], 0⟩, ⟨[], [], [], [], 0⟩, ⟨[(21, 1)], [], [], [], 0⟩, ⟨[(20, 0), (22, 2)], [], [], [], 1⟩, ⟨[], [], [], [], 0⟩, ⟨[(24, 4)], [], [0], [], 0⟩, ⟨[(25, 5)], [], [], [], 1⟩, ⟨[(23, 3), (26, 6)], [], [1], [0], 1⟩, ⟨[(27, 7)], [], [], [], 0⟩] (by kernel_rfl) rfl (by kernel_rfl) rfl rfl rfl fun KD hKD => ?_
 refine g ?_
 repeat' (first | refine call_ (forget_call l x.object) rfl (g ?_) | refine call_ (twin_call x) rfl (g ?_))
 refine bs1 (by omega) rfl rfl rfl ⟨i0, i1, i2, trivial, trivial⟩ ?_
 refine g ?_
 refine append_own rfl (by kernel_rfl) (by omega) (by kernel_rfl) rfl (by simp; omega) ?_
 refine g ?_
 repeat' (refine hKD _ _ ⟨rfl, g ?_⟩; clear hKD KD)
 have eO : List.map enB (forgetB l x.object) ++ [[.val (.int .i64 x.object), .val (.int .i64 x.stamp.count), .val (.int .i64 x.stamp.node), byI x.value]] = O.map enB := by rw [← hO, List.map_append]; rfl
 simp only [byI_eq] at eO
 rw [eO]
 refine AW.freeze 2800 _ rfl trivial ?_
 simp only [go_sem, reduceIte, Nat.reduceEqDiff]
 refine g ?_
 repeat' (first | refine st_ rfl (g ?_) | refine call_ (used_call O (by omega) hOv) rfl (g ?_))
 refine AW.loop (fun m : {m : Nat // m ≤ O.length ∧ fitB room O = fitB room (O.drop m)} => ⟨[(1, .val (.int .i64 room)), (8, .iv (boI O)), (9, .val (.int .i64 (usedS (O.drop m.1) : Nat))), (10, .val (.int .i64 (m.1 : Nat)))], []⟩) (fun m => O.length - m.1) ⟨0, Nat.zero_le _, rfl⟩ id ⟨⟨rfl, rfl, rfl, rfl, trivial⟩, trivial, List.nodup_nil⟩ fun ⟨m, hm, ht⟩ => ?_
 have hu := used_le (O.drop m) fun x hx => hOv x (List.mem_of_mem_drop hx)
 rw [List.length_drop] at hu
 by_cases hlt : m < O.length
 ·have hv := hOv O[m] (List.getElem_mem hlt)
  have hs := used_drop hlt
  refine g ?_
  repeat' (first | refine st_ rfl (g ?_) | refine cond_d (fun h => g ?_) (fun h => g ?_) | refine ix_ (by omega) (g ?_))
  ·refine ⟨⟨m + 1, hlt, ht.trans (fit_step hlt (by omega))⟩, id, ⟨⟨rfl, rfl, ?_, rfl, trivial⟩, trivial, List.nodup_nil⟩, by show O.length - (m + 1) < O.length - m; omega⟩
   simp [look, AV.ren]
   omega
  ·refine ⟨m, O.length, rfl, rfl, hm, Nat.le_refl _, ?_⟩
   have eS : ((O.map enB).take O.length).drop m = (fitB room O).map enB := by
    rw [ht, fit_stop (by omega), List.take_of_length_le (by simp), List.map_drop]
   rw [eS]
   refine g ?_
   repeat' (first | refine st_ rfl (g ?_) | refine hold_ (g ?_) | refine call_ (clonebo_call (fitB room O)) rfl (g ?_))
   rw [hO]
   exact Sub1.rfl_ _
 ·obtain rfl : m = O.length := by omega
  have hs0 : usedS (O.drop O.length) = 0 := by rw [List.drop_length]; rfl
  refine g ?_
  repeat' (first | refine st_ rfl (g ?_) | refine cond_d (fun h => g ?_) (fun h => g ?_) | refine ix_ (by omega) (g ?_))
  ·exfalso
   omega
  ·refine ⟨O.length, O.length, rfl, rfl, hm, Nat.le_refl _, ?_⟩
   have eS : ((O.map enB).take O.length).drop O.length = (fitB room O).map enB := by
    rw [ht, fit_stop (by omega), List.take_of_length_le (by simp), List.map_drop]
   rw [eS]
   refine g ?_
   repeat' (first | refine st_ rfl (g ?_) | refine hold_ (g ?_) | refine call_ (clonebo_call (fitB room O)) rfl (g ?_))
   rw [hO]
   exact Sub1.rfl_ _
end Go.Proofs.YtkphfdmelfhnoaaGreatDoor
namespace Go.Proofs.YtkphfdmelfhnoaaGreatDoor
open Go.Proofs Go.Shelf
def sortZone_ren : Go.Shelf.Ren := ⟨fun | 6 => 222 | 15 => 246 | 14 => 245 | 28 => 261 | 29 => 262 | 20 => 253 | 21 => 254 | 22 => 255 | 23 => 256 | 24 => 257 | 25 => 258 | 26 => 259 | 27 => 260 | 46 => 273 | 47 => 274 | 48 => 275 | 49 => 276 | 50 => 277 | 57 => 282 | n => n, fun | 22 => 23 | 24 => 147 | 25 => 247 | 3 => 3 | 39 => 44 | 0 => 0 | 53 => 278 | 55 => 227 | 4 => 4 | 46 => 272 | 45 => 271 | 50 => 204 | 5 => 5 | 9 => 9 | 66 => 286 | 70 => 290 | 76 => 294 | 77 => 295 | n => n, fun | n => n⟩
theorem sortZone : Go.Proofs.SlLaysF0.n6 Tryz.prog sortZone_ren := {
 mixed := by kernel_rfl
 f6 := ⟨Tryz.f222.name, by decide, Tryz.func222.trans (congrArg some (by kernel_rfl))⟩
 f14 := ⟨Tryz.f245.name, by decide, Tryz.func245.trans (congrArg some (by kernel_rfl))⟩
 f15 := Tryz.func246.trans (congrArg some (by kernel_rfl))
 f20 := ⟨Tryz.f253.name, by decide, Tryz.func253.trans (congrArg some (by kernel_rfl))⟩
 f21 := ⟨Tryz.f254.name, by decide, Tryz.func254.trans (congrArg some (by kernel_rfl))⟩
 f22 := ⟨Tryz.f255.name, by decide, Tryz.func255.trans (congrArg some (by kernel_rfl))⟩
 f23 := ⟨Tryz.f256.name, by decide, Tryz.func256.trans (congrArg some (by kernel_rfl))⟩
 f24 := ⟨Tryz.f257.name, by decide, Tryz.func257.trans (congrArg some (by kernel_rfl))⟩
 f25 := ⟨Tryz.f258.name, by decide, Tryz.func258.trans (congrArg some (by kernel_rfl))⟩
 f26 := ⟨Tryz.f259.name, by decide, Tryz.func259.trans (congrArg some (by kernel_rfl))⟩
 f27 := ⟨Tryz.f260.name, by decide, Tryz.func260.trans (congrArg some (by kernel_rfl))⟩
 f28 := Tryz.func261.trans (congrArg some (by kernel_rfl))
 f29 := Tryz.func262.trans (congrArg some (by kernel_rfl))
 f46 := ⟨Tryz.f273.name, by decide, Tryz.func273.trans (congrArg some (by kernel_rfl))⟩
 f47 := Tryz.func274.trans (congrArg some (by kernel_rfl))
 f48 := Tryz.func275.trans (congrArg some (by kernel_rfl))
 f49 := ⟨Tryz.f276.name, by decide, Tryz.func276.trans (congrArg some (by kernel_rfl))⟩
 f50 := ⟨Tryz.f277.name, by decide, Tryz.func277.trans (congrArg some (by kernel_rfl))⟩
 f57 := ⟨Tryz.f282.name, by decide, Tryz.func282.trans (congrArg some (by kernel_rfl))⟩
 t0 := Tryz.underlying0
 a0 := Tryz.isAgg0
 z0 := Tryz.sizeOf0
 v0 := Tryz.zeroValue0
 t3 := Tryz.underlying3
 a3 := Tryz.isAgg3
 z3 := Tryz.sizeOf3
 v3 := Tryz.zeroValue3
 t4 := Tryz.underlying4
 a4 := Tryz.isAgg4
 z4 := Tryz.sizeOf4
 v4 := Tryz.zeroValue4
 t5 := Tryz.underlying5
 a5 := Tryz.isAgg5
 z5 := Tryz.sizeOf5
 v5 := Tryz.zeroValue5
 t9 := Tryz.underlying9
 a9 := Tryz.isAgg9
 z9 := Tryz.sizeOf9
 v9 := Tryz.zeroValue9
 t22 := Tryz.underlying23
 a22 := Tryz.isAgg23
 z22 := Tryz.sizeOf23
 v22 := Tryz.zeroValue23
 t25 := Tryz.underlying247
 a25 := Tryz.isAgg247
 z25 := Tryz.sizeOf247
 v25 := Tryz.zeroValue247
 t39 := Tryz.underlying44
 a39 := Tryz.isAgg44
 z39 := Tryz.sizeOf44
 v39 := Tryz.zeroValue44
 t45 := Tryz.underlying271
 a45 := Tryz.isAgg271
 z45 := Tryz.sizeOf271
 v45 := Tryz.zeroValue271
 t46 := Tryz.underlying272
 a46 := Tryz.isAgg272
 z46 := Tryz.sizeOf272
 v46 := Tryz.zeroValue272
 t50 := Tryz.underlying204
 a50 := Tryz.isAgg204
 z50 := Tryz.sizeOf204
 v50 := Tryz.zeroValue204
 t53 := Tryz.underlying278
 a53 := Tryz.isAgg278
 z53 := Tryz.sizeOf278
 v53 := Tryz.zeroValue278
 t55 := Tryz.underlying227
 a55 := Tryz.isAgg227
 z55 := Tryz.sizeOf227
 v55 := Tryz.zeroValue227
 t66 := Tryz.underlying286
 a66 := Tryz.isAgg286
 z66 := Tryz.sizeOf286
 v66 := Tryz.zeroValue286
 t70 := Tryz.underlying290
 a70 := Tryz.isAgg290
 z70 := Tryz.sizeOf290
 v70 := Tryz.zeroValue290
 t76 := Tryz.underlying294
 a76 := Tryz.isAgg294
 z76 := Tryz.sizeOf294
 v76 := Tryz.zeroValue294
 t77 := Tryz.underlying295
 a77 := Tryz.isAgg295
 z77 := Tryz.sizeOf295
 v77 := Tryz.zeroValue295 }
end Go.Proofs.YtkphfdmelfhnoaaGreatDoor
namespace Go.Proofs.YtkphfdmelfhnoaaGreatDoor
open Go.ChangeShapes Go.WideShapes Go.ChangeAt Go.RowKit
attribute [local irreducible] AW AWY vops vopsY vop vopL vdraw callW qop binQ lenQ storeQ appendQ callQ ACalls AIter cntI
attribute [local go_sem] storeQ_bp storeQ_rp
def onBits (f : Nat → Int) (M n : Nat) : Int := if M.testBit n = true then f n else 0
end Go.Proofs.YtkphfdmelfhnoaaGreatDoor
namespace Go.Proofs.YtkphfdmelfhnoaaGreatDoor
open Go.ChangeShapes Go.WideShapes Go.ChangeAt Go.RowKit
attribute [local irreducible] vops vopsY vop vopL vdraw callW qop binQ lenQ storeQ appendQ callQ ACalls AIter
attribute [local go_sem] storeQ_bp storeQ_rp
section
variable {V w0 : World} {n : Nd} {ro : Option Nat} {σ : AState} {K : Exit → AState → Prop}
end
def enX (x : Fin 64) : List AV := [.val (.int .i64 (x.1 : Nat)), .any]
attribute [local irreducible] cntI AW
section
variable {V w0 : World} {n : Nd} {K : Exit → AState → Prop}
end
def mixMin (f d : Nat → Int) (pre : List (Fin 64)) (n : Nat) : Int := if pre.any (fun x => decide (x.1 = n)) = true then min (f n) (d n) else f n
structure MeetS (ls : List (List Stamp)) where
 i : Nat
 f : Nat → Int
 M : Nat
 h0 : 0 < i
 hi : i ≤ ls.length
 hM : M < 18446744073709551616
 hf : ∀ n, n < 64 → I64 (f n)
 pos : ∀ n, n < 64 → M.testBit n = true → 0 < f n
 is : ∀ n, n < 64 → onBits f M n = meetC (ls.take i) n
end Go.Proofs.YtkphfdmelfhnoaaGreatDoor
namespace Go.Proofs.YtkphfdmelfhnoaaGreatDoor
open Go.ChangeShapes Go.WideShapes Go.ChangeAt Go.RowKit
attribute [local irreducible] AW AWY vops vopsY vop vopL vdraw callW qop binQ lenQ storeQ appendQ callQ ACalls AIter cntI
attribute [local go_sem] noteA_eq storeQ_bp storeQ_rp
def farP (v : List Stamp) (n : Note) (pre : List (Fin 64)) (o : Nat) : Int := if pre.any (fun x => decide (x.1 = o)) = true then stretchC v n o else countOf v o
theorem stretchC_nonneg (v : List Stamp) (n : Note) (o : Nat) : 0 ≤ stretchC v n o := by
 have := countOf_nonneg v o
 unfold stretchC
 split <;> omega
theorem farP_nonneg (v : List Stamp) (n : Note) (pre : List (Fin 64)) (o : Nat) : 0 ≤ farP v n pre o := by
 have := countOf_nonneg v o
 have := stretchC_nonneg v n o
 unfold farP
 split <;> omega
theorem farP_snoc {v : List Stamp} {n : Note} {pre : List (Fin 64)} {x : Fin 64} {o : Nat} : farP v n (pre ++ [x]) o = if o = x.1 then stretchC v n x.1 else farP v n pre o := by
 unfold farP
 rw [List.any_append]
 simp only [List.any_cons, List.any_nil, Bool.or_false]
 by_cases e : o = x.1
 ·subst e; simp
 ·rw [if_neg e, decide_eq_false (fun h => e h.symm), Bool.or_false]
theorem farP_at {v : List Stamp} {n : Note} {pre : List (Fin 64)} {x : Fin 64} : farP v n pre x.1 = stretchC v n x.1 ∨ farP v n pre x.1 = countOf v x.1 := by
 unfold farP
 split
 ·exact .inl rfl
 ·exact .inr rfl
theorem farP_no {v : List Stamp} {n : Note} {pre : List (Fin 64)} {x : Fin 64} (h : ¬ (countOf v x.1 < countOf n.end_ x.1 ∧ countOf n.start x.1 ≤ countOf v x.1)) : vecOf (farP v n (pre ++ [x])) = vecOf (farP v n pre) :=
 vecOf_congr fun o ho => by
  rw [farP_snoc]
  split
  ·rename_i e
   subst e
   have hs : stretchC v n x.1 = countOf v x.1 := by
    unfold stretchC
    split <;> omega
   rcases farP_at (v := v) (n := n) (pre := pre) (x := x) with e | e <;> omega
  ·rfl
theorem countOf_one {c : Int} {k : Nat} (h : rightB c k = true) (o : Nat) : countOf [⟨c, k⟩] o = if o = k then c else 0 := by
 simp only [countOf, h, and_true]
 by_cases e : o = k
 ·subst e; simp
 ·rw [if_neg e, if_neg (by omega)]
theorem farP_yes {v : List Stamp} {n : Note} {pre : List (Fin 64)} {x : Fin 64} (h1 : countOf v x.1 < countOf n.end_ x.1) (h2 : countOf n.start x.1 ≤ countOf v x.1) (hr : rightB (countOf n.end_ x.1) x.1 = true) : joinS [vecOf (farP v n pre), [⟨countOf n.end_ x.1, (x.1 : Nat)⟩]] = vecOf (farP v n (pre ++ [x])) :=
 vecOf_congr fun o ho => by
  rw [joinC_two, countOf_vecOf _ ho (farP_nonneg _ _ _ _), countOf_one hr, farP_snoc]
  have h3 := farP_nonneg v n pre o
  by_cases e : o = x.1
  ·subst e
   rw [if_pos rfl, if_pos rfl]
   have hs : stretchC v n x.1 = countOf n.end_ x.1 := by
    unfold stretchC
    rw [if_pos h2]; omega
   rcases farP_at (v := v) (n := n) (pre := pre) (x := x) with e | e <;> omega
  ·rw [if_neg e, if_neg e]; omega
theorem farP_nil {v : List Stamp} (hv : vecFormed v = true) (n : Note) : vecOf (farP v n []) = v := by
 have : vecOf (farP v n []) = vecOf fun k => countOf v k := vecOf_congr fun o _ => by simp [farP]
 rw [this, vecOf_count hv]
theorem farP_all {v : List Stamp} {n : Note} {xs : List (Fin 64)} (h : xs.map (·.1) = nodesOf (maskOf n.end_) 64) : vecOf (farP v n xs) = farS v n :=
 vecOf_congr fun o ho => by
  unfold farP
  split
  ·rfl
  ·rename_i hh
   have : o ∉ nodesOf (maskOf n.end_) 64 := fun hm => hh (by
    rw [← h, List.mem_map] at hm
    obtain ⟨x, h1, h2⟩ := hm
    exact List.any_eq_true.2 ⟨x, h1, by simpa using h2⟩)
   rw [mem_nodesOf, maskOf_bit ho] at this
   have h0 : countOf n.end_ o = 0 := by
    by_cases e : countOf n.end_ o = 0
    ·exact e
    ·exact absurd ⟨ho, by simp [e]⟩ this
   have := countOf_nonneg v o
   unfold stretchC
   rw [h0]
   split <;> omega
theorem vwithD (l : List Stamp) (s : Stamp) (i1 : I64 s.count) (i2 : I64 s.node) : ACalls Tryz.prog TzTab 177 [.iv (stI l), .agg [.val (.int .i64 s.count), .val (.int .i64 s.node)]] (.iv (stI (joinS [l, [s]]))) [] := (vwith_call l s i1 i2).frz trivial
set_option maxRecDepth 100000 in
set_option maxHeartbeats 1600000 in
theorem stretched_call (v : List Stamp) (n : Note) (hv : vecFormed v = true) : ACalls Tryz.prog TzTab 156 [.iv (stI v), noteA n] (.iv (stI (farS v n))) [] := by
 refine ACalls.ofS (n := 35) (rs := [.tmp 4]) Tryz.func156 rfl (by kernel_rfl) Tryz.ntmps156 (by kernel_rfl) (by simp) (fun _ _ => TzTab.later) ?_
 intro hok V w0
 refine g ?_
 refine AW.seq ?_
 refine AW.reg rfl fun KK hKK => ?_
 refine g ?_
 repeat' (refine hKK _ (g ?_); clear hKK KK)
 refine AW.freeze 300 _ rfl ⟨trivial, trivial⟩ ?_
 simp only [go_sem, reduceIte, Nat.reduceEqDiff]
 refine AW.freeze 400 _ rfl ⟨trivial, trivial, trivial, trivial, trivial⟩ ?_
 simp only [go_sem, reduceIte, Nat.reduceEqDiff]
 refine g ?_
 repeat' (first | refine st_ rfl (g ?_) | refine call_ (all_call _) rfl (g ?_))
 have hI : ∀ k : Int, I64 (countOf n.end_ k) := fun k => by
  refine countOf_i64 (fun s hs => ?_) k
  obtain ⟨-, h2, -⟩ := okR_mem hok.2.1.2.1.2 (enSt s) (List.mem_map_of_mem hs)
  exact h2
 refine AW.le (S := ⟨[(5, .bp 600 0), (2, .ip [stI v]), (3, .ip [stI n.start, stI n.end_, spI n.blur, wrI n.writes]), (12, .fn 248 [.ip [.pt (cntI (fun k => countOf n.end_ k) (maskOf n.end_))]])], [.box 600 [.iv (stI (vecOf (farP v n [])))]]⟩) (ρ := id) ⟨⟨rfl, rfl, rfl, rfl, trivial⟩, ⟨by rw [farP_nil hv]; rfl, trivial⟩, by simp [idsOf, BA.id]⟩ ?_
 refine AW.range (each_iter (fun k => countOf n.end_ k) (maskOf n.end_) (maskOf_lt _)) [(5, .bp 600 0)] [(2, .ip [stI v]), (3, .ip [stI n.start, stI n.end_, spI n.blur, wrI n.writes]), (12, .fn 248 [.ip [.pt (cntI (fun k => countOf n.end_ k) (maskOf n.end_))]])] (fun pre => [.box 600 [.iv (stI (vecOf (farP v n pre)))]]) (fun _ => True) rfl trivial rfl rfl rfl rfl (fun x => ⟨rfl, rfl⟩) (fun c pre x hsp _ => ?_) (fun xs hS _ => ?_)
 ·have hm : x.1 ∈ nodesOf (maskOf n.end_) 64 := hsp.subset (by simp)
  rw [mem_nodesOf, maskOf_bit x.2] at hm
  have hne : countOf n.end_ x.1 ≠ 0 := by simpa using hm.2
  have hpos := countOf_pos hne
  have hr : rightB (countOf n.end_ x.1) x.1 = true := decide_eq_true ⟨hpos, by omega, by have := x.2; omega⟩
  have hx := x.2
  simp only [parF, enE, List.cons_append, List.nil_append]
  refine g ?_
  refine g ?_
  repeat' (first | refine st_ rfl (g ?_) | refine cond_d (fun h => g ?_) (fun h => g ?_) | (refine vops_ifd rfl rfl (fun h e => ?_) (fun h e => ?_) <;> simp only [e] <;> clear e <;> refine g ?_) | refine call_ (vcount_call _ _) rfl (g ?_) | refine call_ (vwithD (vecOf (farP v n pre)) ⟨countOf n.end_ x.1, (x.1 : Nat)⟩ (hI _) (I64.of (by show (-9223372036854775808 : Int) ≤ (x.1 : Nat); omega) (by show ((x.1 : Nat) : Int) ≤ 9223372036854775807; omega))) rfl (g ?_))
  ·rename_i h1
   exact ⟨trivial, id, ⟨rfl, trivial⟩, ⟨congrArg (fun l => some (BA.box 600 [.iv (stI l)])) (farP_yes h1 h hr), trivial⟩, by simp [idsOf, BA.id]⟩
  ·exact ⟨trivial, id, ⟨rfl, trivial⟩, ⟨congrArg (fun l => some (BA.box 600 [.iv (stI l)])) (farP_no (fun q => h q.2)).symm, trivial⟩, by simp [idsOf, BA.id]⟩
  ·exact ⟨trivial, id, ⟨rfl, trivial⟩, ⟨congrArg (fun l => some (BA.box 600 [.iv (stI l)])) (farP_no (fun q => h q.1)).symm, trivial⟩, by simp [idsOf, BA.id]⟩
 ·refine g ?_
  rw [farP_all hS]
  refine g ?_
  repeat' refine st_ rfl (g ?_)
  exact Sub1.rfl_ _
end Go.Proofs.YtkphfdmelfhnoaaGreatDoor
namespace Go.Proofs.YtkphfdmelfhnoaaGreatDoor
open Go.ChangeShapes Go.WideShapes Go.ChangeAt Go.RowKit
attribute [local irreducible] AW AWY vops vopsY vop vopL vdraw callW qop binQ lenQ storeQ appendQ callQ ACalls AIter
attribute [local go_sem] enZ_eq storeQ_bp storeQ_rp
theorem spI_eq (l : List Span) : spI l = .sl 2 (l.map enSp) := rfl
attribute [local go_sem] spI_eq enSp_eq
set_option maxRecDepth 100000 in
set_option maxHeartbeats 1600000 in
theorem put_call (l : List Span) (reach now : List Stamp) (z : List Zone) (hl : l.length ≤ 128) (hz : z.length ≤ 1000000) : TCalls Tryz.prog TzTab 154 [.iv (spI l), .iv (stI reach), .ip [stI now], .bp 0 0] (.tup []) [.row 1 147 3 (z.map enZ), .box 0 [.own 1]] [.row 2 147 3 ((z ++ cutZ now l reach).map enZ)] [(0, [.own 2])] [] := by
 refine TCalls.of [(3, 0)] (n := 25) (rs := []) Tryz.func154 rfl (by kernel_rfl) Tryz.ntmps154 (by kernel_rfl) (by simp) ⟨rfl, trivial⟩ rfl rfl fun hok V w0 F => ?_
 have hle : l.length ≤ 1073741824 := by omega
 obtain ⟨C, hC⟩ : ∃ C, cutZ now l reach = C := ⟨_, rfl⟩
 rw [hC]
 unfold cutZ at hC
 have hcov := vcovers_call reach now
 obtain ⟨B, hB⟩ : ∃ B, coversB reach now = B := ⟨_, rfl⟩
 rw [hB] at hcov hC
 cases B with
 | true =>
  rw [if_pos rfl] at hC
  subst hC
  rw [List.append_nil]
  refine g ?_
  repeat' (first | refine st_ rfl (g ?_) | refine call_ (hcov) rfl (g ?_))
  exact ⟨fun b => if b = 2 then 1 else b, fun _ _ _ h => h, ⟨rfl, trivial⟩, ⟨rfl, rfl, rfl⟩, by simp⟩
 | false =>
  rw [if_neg (by decide)] at hC
  refine g ?_
  repeat' (first | refine st_ rfl (g ?_) | refine call_ (hcov) rfl (g ?_))
  refine AW.loop (fun m : {m : Nat // m ≤ l.length} => ⟨[(1, .iv (stI reach)), (3, .bp 0 0), (11, .iv (spI l)), (12, .val (.int .i64 (l.length : Nat))), (13, .val (.int .i64 (m.1 : Nat)))], [.row 1 147 3 ((z ++ (l.take m.1).map fun s => (⟨s, reach⟩ : Zone)).map enZ), .box 0 [.own 1], .opq 99 F]⟩) (fun m => l.length - m.1) ⟨0, Nat.zero_le _⟩ id ⟨⟨rfl, rfl, rfl, ?_, rfl, trivial⟩, ⟨by simp; rfl, rfl, rfl, trivial⟩, by simp [idsOf, BA.id]⟩ fun ⟨m, hm⟩ => ?_
  ·simp [AV.ren, look]
  simp only
  repeat (refine AW.seq ?_)
  refine AW.reg rfl fun KK hKK => ?_
  refine g ?_
  repeat' (refine hKK _ (g ?_); clear hKK KK)
  repeat (refine AW.seq ?_)
  refine st_ rfl ?_
  refine g ?_
  refine cond_ (fun h => ?_) (fun h => ?_)
  ·have hlt : m < l.length := by have := of_decide_eq_true h; omega
   obtain ⟨-, o1, o2, -⟩ := okR_mem (by simpa [spI] using hok.1.2) (enSp l[m]) (List.mem_map_of_mem (List.getElem_mem hlt))
   refine g ?_
   repeat' refine st_ rfl (g ?_)
   refine ⟨by omega, _, get_map (List.getElem?_eq_getElem hlt), ?_⟩
   refine g ?_
   repeat' refine hold_ (g ?_)
   refine AW.freeze 800 _ rfl ⟨o1, o2, trivial⟩ ?_
   simp only [go_sem, reduceIte, Nat.reduceEqDiff]
   refine AW.drawn (ds := [17, 18, 19, 20, 21, 22, 23]) (fin := [2, 3, 4, 5]) (bs := [3, 3, 3, 3, 3, 3, 4, 5]) [⟨[], [], [0, 1, 2], [], 0⟩, ⟨[], [], [0, 1, 2], [], 0⟩, ⟨[], [], [], [], 0⟩, ⟨[(19, 2)], [], [0, 1, 2], [], 0⟩, ⟨[(18, 1), (20, 3)], [], [], [], 0⟩, ⟨[(21, 4)], [], [], [], 1⟩, ⟨[(17, 0), (22, 5)], [], [1, 2, 3], [0], 1⟩, ⟨[(23, 6)], [], [], [1], 1⟩] (by kernel_rfl) rfl (by kernel_rfl) rfl rfl rfl fun KD hKD => ?_
   refine g ?_
   repeat' refine call_ (clonestD _) rfl (g ?_)
   refine bs1 (by omega) rfl rfl rfl ⟨o1, o2, trivial, trivial⟩ ?_
   refine g ?_
   refine append_own rfl (by kernel_rfl) (by omega) (by kernel_rfl) rfl (by simp; omega) ?_
   refine g ?_
   repeat' (first | refine st_ rfl (g ?_) | (refine hKD _ _ ⟨rfl, g ?_⟩; clear hKD KD))
   refine ⟨⟨m + 1, hlt⟩, fun b => if b = 1 then 2400 else b, ⟨⟨rfl, rfl, rfl, rfl, rfl, trivial⟩, ⟨?_, rfl, rfl, trivial⟩, by simp [idsOf, BA.id]⟩, by show l.length - (m + 1) < l.length - m; omega⟩
   show some (BA.row _ _ _ _) = some (BA.row _ _ _ ((z ++ (l.take (m + 1)).map fun s => (⟨s, reach⟩ : Zone)).map enZ))
   rw [List.take_succ_eq_append_getElem hlt]
   simp only [List.map_append, List.append_assoc]
   rfl
  ·obtain rfl : m = l.length := by have := of_decide_eq_false h; omega
   refine AW.exit ?_
   simp only [reduceIte]
   rw [List.take_length, hC]
   refine g ?_
   exact ⟨.inr trivial, fun b => if b = 2 then 1 else b, fun _ _ _ h => h, ⟨rfl, trivial⟩, ⟨rfl, rfl, rfl⟩, by simp⟩
end Go.Proofs.YtkphfdmelfhnoaaGreatDoor
namespace Go.Proofs.YtkphfdmelfhnoaaGreatDoor
open Go.ChangeShapes Go.WideShapes Go.ChangeAt Go.RowKit Go.Sort Go.Shelf
structure ZB where
 lo : Nat
 hi : Int
 v : Value
 small : lo < 256
 one : v.oneCell' = true
instance : Inhabited ZB := ⟨⟨0, 0, .bool false, by decide, rfl⟩⟩
def encZB (b : ZB) : List Value := [.int .i64 (b.lo : Nat), .int .i64 b.hi, b.v]
def cfZB (a b : ZB) : Int := (a.lo : Int) - b.lo
theorem ltZB (a b : ZB) : ltOf cfZB a b = decide (a.lo < b.lo) := by
 unfold ltOf cfZB
 rw [decide_eq_decide]
 omega
theorem swoZB : SWO (ltOf cfZB) where
 irrefl x := by rw [ltZB]; simp
 trans x y z h1 h2 := by rw [ltZB] at *; simp at *; omega
 ntrans x y z h1 h2 := by rw [ltZB] at *; simp at *; omega
theorem joined1 (x y : ZB) (W : World) : Calls Tryz.prog 223 #[.agg #[.int .i64 (x.lo : Nat), .int .i64 x.hi, x.v], .agg #[.int .i64 (y.lo : Nat), .int .i64 y.hi, y.v]] W fun e w' => e = .returned (.int .i64 (cfZB x y)) ∧ ∃ q os', w' = grow (W.drewN q) os' := by
 obtain ⟨a, b, u, ha, hu⟩ := x
 obtain ⟨c, d, v, hc, hv⟩ := y
 unfold cfZB
 simp only
 go_enter Tryz.func223, Tryz.ntmps223
 go_wp2_with fail
 go_ret
 exact ⟨rfl, 0, _, by rw [alloc_eq_grow, alloc_eq_grow, grow_grow]; rfl⟩
def RelZ (X : World) : List Zone → List ZB → Prop
 | [], [] => True
 | z :: l, b :: d => ((b.lo : Int) = z.span.lo ∧ b.hi = z.span.hi ∧ I64 z.span.hi ∧ RepV X b.v (stI z.vec)) ∧ RelZ X l d
 | _, _ => False
theorem relZ_of {X : World} : ∀ {l : List Zone} {xs : List Value}, (∀ z ∈ l, 0 ≤ z.span.lo ∧ z.span.lo ≤ 255) → Chunks (RepVs X) 3 xs (l.map enZ) → ∃ d, Chunks (EncR encZB) 3 xs d ∧ RelZ X l d
 | [], xs, _, h => ⟨[], h, trivial⟩
 | z :: l, xs, hz, ⟨cs, rest, e, hk, h1, h2⟩ => by
  obtain ⟨d, h3, h4⟩ := relZ_of (fun y hy => hz y (by simp [hy])) h2
  have hz0 := hz z (by simp)
  match cs, h1 with
  | [c0, c1, c2], ⟨q0, q1, q2, _⟩ =>
   cases q0 with | val i0 => cases q1 with | val i1 =>
   refine ⟨⟨z.span.lo.toNat, z.span.hi, c2, by omega, q2.one⟩ :: d, ⟨_, rest, e, hk, ?_, h3⟩, ⟨by show ((z.span.lo.toNat : Nat) : Int) = _; omega, rfl, i1, q2⟩, h4⟩
   show _ = encZB _
   unfold encZB
   simp only
   rw [show ((z.span.lo.toNat : Nat) : Int) = z.span.lo by omega]
theorem relZ_back {X : World} : ∀ {l : List Zone} {d : List ZB} {xs : List Value}, RelZ X l d → Chunks (EncR encZB) 3 xs d → Chunks (RepVs X) 3 xs (l.map enZ)
 | [], [], _, _, h => h
 | z :: l, b :: d, xs, ⟨⟨e0, e1, i1, h3⟩, h4⟩, ⟨cs, rest, e, hk, h1, h2⟩ => by
  refine ⟨cs, rest, e, hk, ?_, relZ_back h4 h2⟩
  rw [show cs = encZB b from h1]
  unfold encZB
  refine ⟨?_, ?_, h3, trivial⟩
  ·rw [e0]; exact .val (by rw [← e0]; have := b.small; exact I64.of (by omega) (by omega))
  ·rw [e1]; exact .val i1
 | [], _ :: _, _, h, _ => h.elim
 | _ :: _, [], _, h, _ => h.elim
theorem relZ_len {X : World} : ∀ {l : List Zone} {d : List ZB}, RelZ X l d → l.length = d.length
 | [], [], _ => rfl
 | _ :: _, _ :: _, h => congrArg (· + 1) (relZ_len h.2)
 | [], _ :: _, h => h.elim
 | _ :: _, [], h => h.elim
theorem relZ_perm {X : World} {d d' : List ZB} (hp : d.Perm d') : ∀ {l : List Zone}, RelZ X l d → ∃ l', l.Perm l' ∧ RelZ X l' d' := by
 induction hp with
 | nil => exact fun {l} h => ⟨l, List.Perm.refl _, h⟩
 | cons x _ ih =>
  intro l h
  cases l with
  | nil => exact h.elim
  | cons z l =>
   obtain ⟨l', h1, h2⟩ := ih h.2
   exact ⟨z :: l', h1.cons z, h.1, h2⟩
 | swap x y d =>
  intro l h
  match l, h with
  | z :: u :: l, ⟨h1, h2, h3⟩ => exact ⟨u :: z :: l, List.Perm.swap _ _ _, h2, h1, h3⟩
 | trans _ _ ih1 ih2 =>
  intro l h
  obtain ⟨l', h1, h2⟩ := ih1 h
  obtain ⟨l'', h3, h4⟩ := ih2 h2
  exact ⟨l'', h1.trans h3, h4⟩
theorem relZ_lo {X : World} : ∀ {l : List Zone} {d : List ZB}, RelZ X l d → d.map (fun b => (b.lo : Int)) = l.map fun z => z.span.lo
 | [], [], _ => rfl
 | _ :: _, _ :: _, h => by rw [List.map_cons, List.map_cons, h.1.1, relZ_lo h.2]
 | [], _ :: _, h => h.elim
 | _ :: _, [], h => h.elim
theorem sorted_unique {α : Type} {k : α → Int} : ∀ {l m : List α}, l.Pairwise (fun a b => k a < k b) → m.Pairwise (fun a b => k a < k b) → (∀ x, x ∈ l ↔ x ∈ m) → l = m
 | [], [], _, _, _ => rfl
 | [], y :: m, _, _, h => by have := (h y).2 (by simp); cases this
 | x :: l, [], _, _, h => by have := (h x).1 (by simp); cases this
 | x :: l, y :: m, h1, h2, h => by
  obtain ⟨a1, a2⟩ := List.pairwise_cons.1 h1
  obtain ⟨b1, b2⟩ := List.pairwise_cons.1 h2
  have e : x = y := by
   rcases List.mem_cons.1 ((h x).1 (by simp)) with e | hx
   ·exact e
   ·rcases List.mem_cons.1 ((h y).2 (by simp)) with e | hy
    ·exact e.symm
    ·have := a1 y hy; have := b1 x hx; omega
  subst e
  congr 1
  refine sorted_unique a2 b2 fun w => ⟨fun hw => ?_, fun hw => ?_⟩
  ·rcases List.mem_cons.1 ((h w).1 (by simp [hw])) with e | h3
   ·have := a1 w hw; rw [e] at this; omega
   ·exact h3
  ·rcases List.mem_cons.1 ((h w).2 (by simp [hw])) with e | h3
   ·have := b1 w hw; rw [e] at this; omega
   ·exact h3
theorem sortz_call {l s : List Zone} (hl : ∀ z ∈ l, 0 ≤ z.span.lo ∧ z.span.lo ≤ 255) (hp : s.Perm l) (hs : s.Pairwise fun a b => a.span.lo < b.span.lo) :
  TCalls Tryz.prog TzTab 222 [.own 1, .fn 223 []] (.tup []) [.row 1 147 3 (l.map enZ)] [] [] [.row 1 147 3 (s.map enZ)] := by
 refine TCalls.keep (r := .tuple #[]) Tryz.func222 rfl (by kernel_rfl) (fun E X => .tup rfl fun j v c a b => by simp at a) fun X w E v vs base hX hbase hG h hvs => ?_
 obtain ⟨u, rfl, hu⟩ : ∃ u, vs = [u] ∧ RepA E X u (.fn 223 []) := by
  obtain ⟨u, vs', e, h1, h2⟩ := RepAs.cons_iff.1 hvs
  rw [RepAs.nil_iff.1 h2] at e
  exact ⟨u, e, h1⟩
 cases hu with
 | @fn _ fv _ p1 p2 =>
 obtain rfl : fv = #[] := Array.eq_empty_of_size_eq_zero (by simpa using p1)
 obtain ⟨xs, hown, hch, hbig⟩ := id h
 obtain ⟨d, hd1, hd2⟩ := relZ_of hl hch
 have hdl := relZ_len hd2
 have hE : OwnSl (EncR encZB) 3 w base 147 v d := ⟨xs, by rw [List.length_map] at hown; rw [← hdl]; exact hown, hd1, by rw [← hdl]; simpa using hbig⟩
 rcases hE.forms with ⟨rfl, hd0⟩ | ⟨g, c, rfl, hg1, hg2⟩
 ·have := AnyF.slices_SortFunc_none (P := Tryz.prog) (ρ := sortZone_ren) { sortZone with } none 0 (.func (.func 223) #[] #[]) w
  refine Calls.mono this ?_
  rintro e w' ⟨rfl, rfl⟩
  have hl0 : l = [] := List.eq_nil_of_length_eq_zero (by rw [hdl, hd0]; rfl)
  subst hl0
  obtain rfl : s = [] := List.Perm.eq_nil hp
  exact ⟨rfl, h, World.grownBy.refl _ _⟩
 ·have hcon := AnyQ.slices_SortFunc (P := Tryz.prog) (ρ := sortZone_ren) sortZone 3 Tryz.isAgg147 Tryz.sizeOf147 encZB (fun _ => rfl)
   (fun x v hv => by simp [encZB] at hv; rcases hv with rfl | rfl | rfl <;> first | rfl | exact x.one) cfZB swoZB 223 #[] g 0 c d.toArray w (enters_of Tryz.func223 (by kernel_rfl) rfl)
   (fun _ _ _ _ x y => joined1 x y _) (holds_own (k := 3) (fun _ => rfl) (by decide) hE) hg2 (by rw [List.length_map] at hbig; simp only [List.size_toArray]; omega)
  refine Calls.mono hcon ?_
  rintro e w' ⟨rfl, d', n, os, hp', hs', rfl⟩
  obtain ⟨p1, p2⟩ := perm_lists hp'
  have hsz : d'.size = d.length := by simpa using p2
  obtain ⟨o1, o2⟩ := sorted_own (k := 3) (enc := encZB) (fun _ => rfl) hE n d' os hsz
  have hpd : d.Perm d'.toList := by simpa using p1.symm
  obtain ⟨l', q1, q2⟩ := relZ_perm hpd hd2
  have hs2 : SortedIn (ltOf cfZB) 0 d'.size d' := by rw [p2]; exact hs'
  have hle : l'.Pairwise fun a b => a.span.lo ≤ b.span.lo := by
   have h1 : (d'.toList.map fun b => (b.lo : Int)).Pairwise (· ≤ ·) := by
    rw [List.pairwise_map]
    refine (sorted_lists hs2).imp ?_
    intro a b hab
    rw [ltZB, decide_eq_false_iff_not] at hab
    omega
   rw [relZ_lo q2, List.pairwise_map] at h1
   exact h1
  have hne : l'.Pairwise fun a b => a.span.lo ≠ b.span.lo := by
   have : s.Pairwise fun a b => a.span.lo ≠ b.span.lo := hs.imp fun h => by omega
   exact this.perm (hp.trans q1) fun h => h.symm
  have hlt : l'.Pairwise fun a b => a.span.lo < b.span.lo := (hle.and hne).imp fun h => by have := h.1; have := h.2; omega
  obtain rfl : s = l' := sorted_unique (k := fun z : Zone => z.span.lo) hs hlt fun x => (hp.mem_iff).trans q1.mem_iff
  obtain ⟨xs', r1, r2, r3⟩ := o1
  refine ⟨rfl, ⟨xs', ?_, relZ_back q2 r2, by rw [List.length_map, relZ_len q2]; exact r3⟩, o2⟩
  rw [List.length_map, relZ_len q2]
  exact r1
end Go.Proofs.YtkphfdmelfhnoaaGreatDoor
namespace Go.Proofs.YtkphfdmelfhnoaaGreatDoor
open Go.ChangeShapes Go.WideShapes Go.ChangeAt Go.RowKit
attribute [local irreducible] AW AWY vops vopsY vop vopL vdraw callW qop binQ lenQ storeQ appendQ callQ ACalls AIter
attribute [local go_sem] enZ_eq znI_eq storeQ_bp storeQ_rp
theorem apart_lt {s : List Zone} (h : Apart s) : s.Pairwise fun a b => a.span.lo < b.span.lo :=
 h.1.imp_of_mem fun {a b} ha _ hab => by
  have := (h.2 a ha).2
  simp only [zoneOk, Bool.and_eq_true, decide_eq_true_eq] at this
  omega
theorem apart_in {s : List Zone} (h : Apart s) {z : Zone} (hz : z ∈ s) : 0 ≤ z.span.lo ∧ z.span.lo ≤ z.span.hi ∧ z.span.hi ≤ 255 := by
 have := h.2 z hz
 simp only [zoneOk, Bool.and_eq_true, decide_eq_true_eq] at this
 omega
set_option maxRecDepth 100000 in
set_option maxHeartbeats 1600000 in
theorem joined_call {l s : List Zone} (hp : s.Perm l) (hA : Apart s) (hbig : s.length ≤ 1000000) : TCalls Tryz.prog TzTab 158 [.own 1] (.own 0) [.row 1 147 3 (l.map enZ)] [.row 0 147 3 ((joinZ s).map enZ)] [] [] := by
 refine TCalls.of [] (n := 59) (rs := [.tmp 2]) Tryz.func158 rfl (by kernel_rfl) Tryz.ntmps158 (by kernel_rfl) (by simp) trivial rfl rfl fun hok V w0 F => ?_
 have hl : ∀ z ∈ l, 0 ≤ z.span.lo ∧ z.span.lo ≤ 255 := fun z hz => by have := apart_in hA (hp.mem_iff.2 hz); omega
 refine g ?_
 refine AW.seq ?_
 refine AW.reg rfl fun KK hKK => ?_
 refine g ?_
 repeat' (refine hKK _ (g ?_); clear hKK KK)
 refine AW.seq ?_
 refine AW.reg rfl fun KK hKK => ?_
 refine g ?_
 refine call_t [] [.opq 99 F] id (sortz_call hl hp (apart_lt hA)) rfl rfl rfl ?_
 refine g ?_
 repeat' (refine hKK _ (g ?_); clear hKK KK)
 refine AW.freeze 1 _ rfl trivial ?_
 simp only [go_sem, reduceIte, Nat.reduceEqDiff]
 refine g ?_
 repeat' refine st_ rfl (g ?_)
 refine AW.adopt 3 9900 147 3 rfl rfl ?_
 refine AW.loop (fun m : {m : Nat // m ≤ s.length} => ⟨[(3, .own 9900), (9, .iv (znI s)), (10, .val (.int .i64 (s.length : Nat))), (11, .val (.int .i64 (m.1 : Nat)))], [.row 9900 147 3 ((joinZ (s.take m.1)).map enZ), .opq 99 F]⟩) (fun m => s.length - m.1) ⟨0, Nat.zero_le _⟩ id ⟨⟨rfl, rfl, ?_, rfl, trivial⟩, ⟨rfl, rfl, trivial⟩, by simp [idsOf, BA.id]⟩ fun ⟨m, hm⟩ => ?_
 ·simp [AV.ren, look]
 simp only
 repeat (refine AW.seq ?_)
 refine AW.reg rfl fun KK hKK => ?_
 refine g ?_
 repeat' (refine hKK _ (g ?_); clear hKK KK)
 repeat (refine AW.seq ?_)
 refine st_ rfl ?_
 refine g ?_
 refine cond_ (fun h => ?_) (fun h => ?_)
 ·have hlt : m < s.length := by have := of_decide_eq_true h; omega
  have hin := apart_in hA (List.getElem_mem hlt)
  have hj := joinZ_inv hA m hm
  have hs := joinZ_snoc (s.take m) s[m]
  rw [← List.take_succ_eq_append_getElem hlt] at hs
  obtain ⟨x, hx⟩ : ∃ x, s[m] = x := ⟨_, rfl⟩
  have hget := get_map (f := enZ) (List.getElem?_eq_getElem hlt)
  rw [hx] at hin hs hget
  obtain ⟨J, hJ⟩ : ∃ J, joinZ (s.take m) = J := ⟨_, rfl⟩
  rw [hJ] at hj hs ⊢
  have hJl : J.length ≤ m := by have := hj.len; rw [List.length_take] at this; omega
  refine g ?_
  repeat' refine st_ rfl (g ?_)
  refine ⟨by omega, _, hget, ?_⟩
  refine g ?_
  repeat' (first | refine st_ rfl (g ?_) | refine hold_ (g ?_))
  have w1 : I64 x.span.lo := I64.of (by omega) (by omega)
  have w2 : I64 x.span.hi := I64.of (by omega) (by omega)
  refine AW.freeze 600 _ rfl ⟨w1, w2, trivial, trivial⟩ ?_
  simp only [go_sem, reduceIte, Nat.reduceEqDiff]
  refine AW.drawn (ds := [17, 18, 19, 20, 21, 22, 23, 24, 25, 26, 27, 28, 29, 30, 31, 32, 33, 34, 35, 36, 37, 38, 39, 40, 41, 42, 43]) (fin := [0, 1]) (bs := [2, 2, 2, 2, 2, 2, 2, 2, 2, 2, 2, 2, 2, 2, 2, 2, 2, 2, 2, 2, 2, 2, 2, 2, 2, 2, 2]) [⟨[], [], [], [], 0⟩, ⟨[(17, 0)], [], [], [], 0⟩, ⟨[(18, 1)], [], [], [], 0⟩, ⟨[], [], [], [], 0⟩, ⟨[], [], [], [], 0⟩, ⟨[(21, 4)], [], [], [], 0⟩, ⟨[(20, 3), (22, 5)], [], [0, 1], [], 0⟩, ⟨[(23, 6)], [], [], [], 0⟩, ⟨[(24, 7)], [], [], [], 0⟩, ⟨[(25, 8)], [], [0, 1], [], 0⟩, ⟨[(26, 9)], [], [], [], 0⟩, ⟨[], [], [], [], 0⟩, ⟨[(28, 11)], [], [], [], 0⟩, ⟨[(29, 12)], [], [0, 1], [], 0⟩, ⟨[(27, 10), (30, 13)], [], [], [], 0⟩, ⟨[(19, 2), (31, 14)], [], [], [], 0⟩, ⟨[(32, 15)], [], [], [], 0⟩, ⟨[], [], [], [], 0⟩, ⟨[], [], [], [], 0⟩, ⟨[(35, 18)], [], [], [], 0⟩, ⟨[(34, 17), (36, 19)], [], [0, 1], [], 0⟩, ⟨[(37, 20)], [], [], [], 0⟩, ⟨[(38, 21)], [], [0, 1], [], 0⟩, ⟨[], [], [], [], 0⟩, ⟨[(40, 23)], [], [0, 1], [], 0⟩, ⟨[(39, 22), (41, 24)], [], [0, 1], [], 0⟩, ⟨[(33, 16), (42, 25)], [], [], [], 0⟩] (by kernel_rfl) rfl (by kernel_rfl) rfl rfl rfl fun KD hKD => ?_
  cases hy : J.getLast? with
  | none =>
   have hJ0 : J = [] := List.getLast?_eq_none_iff.1 hy
   subst hJ0
   simp only [joinStep, List.getLast?_nil] at hs
   refine g ?_
   repeat' (first | refine st_ rfl (g ?_) | (refine hKD _ _ ⟨rfl, g ?_⟩; clear hKD KD))
   refine bs1 (by omega) rfl rfl rfl ⟨w1, w2, trivial, trivial⟩ ?_
   refine g ?_
   refine append_own rfl (by kernel_rfl) (by omega) (by kernel_rfl) rfl (by simp) ?_
   refine g ?_
   repeat' refine st_ rfl (g ?_)
   refine ⟨⟨m + 1, hlt⟩, fun b => if b = 9900 then 5700 else b, ⟨⟨rfl, rfl, rfl, rfl, trivial⟩, ⟨?_, rfl, trivial⟩, by simp [idsOf, BA.id]⟩, by show s.length - (m + 1) < s.length - m; omega⟩
   show some (BA.row _ _ _ _) = some (BA.row _ _ _ ((joinZ (s.take (m + 1))).map enZ))
   rw [hs]
   rfl
  | some y =>
   obtain ⟨D, hD⟩ : ∃ D, J.dropLast = D := ⟨_, rfl⟩
   have hl2 := list_last hy
   rw [hD] at hl2
   have hyF := zonesFrom_mem hj.formed y (List.mem_of_getLast? hy)
   simp only [zoneOk, Bool.and_eq_true, decide_eq_true_eq] at hyF
   have hye := zoneEnd_in hj.formed ⟨by decide, by decide⟩
   rw [Option.or_none, hy] at hye
   simp only [zoneEnd] at hye
   simp only [joinStep, hy, hD] at hs
   have hlen : J.length = D.length + 1 := by rw [← hl2]; simp
   have hJget : J[D.length]? = some y := by rw [← hl2]; simp
   have hget2 := get_map (f := enZ) hJget
   have hcast : ((J.length : Nat) : Int) - 1 = (D.length : Nat) := by omega
   have hi : ((J.length : Int) - 1).toNat = D.length := by omega
   refine g ?_
   repeat' (refine vdraw_ifd rfl rfl (fun h e => ?_) (fun h e => ?_) <;> simp only [e] <;> clear e <;> refine g ?_)
   ·refine ⟨by omega, by omega, ?_⟩
    rw [hi]
    refine g ?_
    repeat' refine hold_ (g ?_)
    refine ⟨_, hget2, ?_⟩
    refine g ?_
    repeat' (first | refine st_ rfl (g ?_) | refine hold_ (g ?_) | (refine hKD _ _ ⟨rfl, g ?_⟩; clear hKD KD) | (refine vdraw_ifd rfl rfl (fun h e => ?_) (fun h e => ?_) <;> simp only [e] <;> clear e <;> refine g ?_))
    ·refine ⟨by omega, by omega, ?_⟩
     rw [hi]
     refine g ?_
     repeat' refine hold_ (g ?_)
     refine ⟨_, hget2, ?_⟩
     refine g ?_
     repeat' (first | refine st_ rfl (g ?_) | refine hold_ (g ?_) | refine cond_d (fun h => g ?_) (fun h => g ?_) | (refine hKD _ _ ⟨rfl, g ?_⟩; clear hKD KD) | refine call_ (eqst_call _ _) rfl (g ?_))
     ·refine ⟨by omega, by omega, ?_⟩
      rw [hi]
      refine g ?_
      repeat' refine hold_ (g ?_)
      refine ⟨_, _, rfl, ⟨w2, trivial⟩, hget2, ?_⟩
      refine g ?_
      repeat' (first | refine st_ rfl (g ?_) | refine hold_ (g ?_))
      rename_i h1
      refine ⟨⟨m + 1, hlt⟩, id, ⟨⟨rfl, rfl, rfl, rfl, trivial⟩, ⟨?_, rfl, trivial⟩, by simp [idsOf, BA.id]⟩, by show s.length - (m + 1) < s.length - m; omega⟩
      show some (BA.row _ _ _ _) = some (BA.row _ _ _ ((joinZ (s.take (m + 1))).map enZ))
      rw [hs, if_pos ⟨h1, h⟩, ← hl2, List.map_append, List.map_append, List.set_append_right _ _ (by simp)]
      simp
      rfl
     ·refine bs1 (by omega) rfl rfl rfl ⟨w1, w2, trivial, trivial⟩ ?_
      refine g ?_
      refine append_own rfl (by kernel_rfl) (by omega) (by kernel_rfl) rfl (by simp; omega) ?_
      refine g ?_
      repeat' refine st_ rfl (g ?_)
      refine ⟨⟨m + 1, hlt⟩, fun b => if b = 9900 then 5700 else b, ⟨⟨rfl, rfl, rfl, rfl, trivial⟩, ⟨?_, rfl, trivial⟩, by simp [idsOf, BA.id]⟩, by show s.length - (m + 1) < s.length - m; omega⟩
      show some (BA.row _ _ _ _) = some (BA.row _ _ _ ((joinZ (s.take (m + 1))).map enZ))
      rw [hs, if_neg (fun q => h q.2), List.map_append]
      rfl
    ·refine bs1 (by omega) rfl rfl rfl ⟨w1, w2, trivial, trivial⟩ ?_
     refine g ?_
     refine append_own rfl (by kernel_rfl) (by omega) (by kernel_rfl) rfl (by simp; omega) ?_
     refine g ?_
     repeat' refine st_ rfl (g ?_)
     refine ⟨⟨m + 1, hlt⟩, fun b => if b = 9900 then 5700 else b, ⟨⟨rfl, rfl, rfl, rfl, trivial⟩, ⟨?_, rfl, trivial⟩, by simp [idsOf, BA.id]⟩, by show s.length - (m + 1) < s.length - m; omega⟩
     show some (BA.row _ _ _ _) = some (BA.row _ _ _ ((joinZ (s.take (m + 1))).map enZ))
     rw [hs, if_neg (fun q => h q.1), List.map_append]
     rfl
   ·omega
 ·obtain rfl : m = s.length := by have := of_decide_eq_false h; omega
  refine AW.exit ?_
  simp only [reduceIte]
  rw [List.take_length]
  refine g ?_
  repeat' refine st_ rfl (g ?_)
  exact ⟨fun b => if b = 0 then 9900 else b, fun _ _ _ h => h, trivial, ⟨rfl, rfl⟩, by simp⟩
end Go.Proofs.YtkphfdmelfhnoaaGreatDoor
namespace Go.Proofs.YtkphfdmelfhnoaaGreatDoor
open Go.ChangeShapes Go.WideShapes Go.ChangeAt Go.RowKit
attribute [local irreducible] AW AWY vops vopsY vop vopL vdraw callW qop binQ lenQ storeQ appendQ callQ ACalls AIter
attribute [local go_sem] wrI_eq enW_eq noteA_eq storeQ_bp storeQ_rp
theorem sof_D (os : List Int) : ACalls Tryz.prog TzTab 157 [.iv (inI os)] (.iv (spI (tidyS (dots os)))) [] := (sof_call os).frz trivial
def enI (n : Int) : List IV := [.val (.int .i64 n)]
end Go.Proofs.YtkphfdmelfhnoaaGreatDoor
namespace Go.Proofs.YtkphfdmelfhnoaaGreatDoor
open Go.ChangeShapes Go.WideShapes Go.ChangeAt Go.RowKit
attribute [local irreducible] AW AWY vops vopsY vop vopL vdraw callW qop binQ lenQ storeQ appendQ callQ ACalls AIter
attribute [local go_sem] enZ_eq znI_eq noteA_eq wrI_eq enW_eq storeQ_bp storeQ_rp
theorem vjoinD (ls : List (List Stamp)) : ACalls Tryz.prog TzTab 153 [.iv (stsI ls)] (.iv (stI (joinS ls))) [] := (vjoin_call ls).frz trivial
theorem sjoinD (ls : List (List Span)) (hs : sumSpan ls ≤ 1073741824) : ACalls Tryz.prog TzTab 118 [.iv (spsI ls)] (.iv (spI (tidyS ls.flatten))) [] := (sjoin_call ls hs).frz trivial
theorem cutZ_len (now : List Stamp) (l : List Span) (v : List Stamp) : (cutZ now l v).length ≤ l.length := by unfold cutZ; split <;> simp
theorem pieceZ_len (n : Note) (now : List Stamp) (x : Zone) : (pieceZ n now x).length ≤ 256 := by
 unfold pieceZ
 rw [List.length_append]
 have h1 := cutZ_len now (meetS2 [x.span] (staysS n (farS x.vec n))) x.vec
 have h2 := cutZ_len now (lessS2 [x.span] (staysS n (farS x.vec n))) (farS x.vec n)
 have h3 : (meetS2 [x.span] (staysS n (farS x.vec n))).length ≤ 128 := ofSet_len _
 have h4 : (lessS2 [x.span] (staysS n (farS x.vec n))).length ≤ 128 := ofSet_len _
 omega
theorem takeL_len (n : Note) (now : List Stamp) : ∀ l : List Zone, (takeL n now l).length ≤ 256 * l.length
 | [] => Nat.le_refl _
 | x :: l => by
  have h1 := takeL_len n now l
  have h2 := pieceZ_len n now x
  have : takeL n now (x :: l) = pieceZ n now x ++ takeL n now l := by simp [takeL]
  rw [this, List.length_append, List.length_cons]
  omega
theorem stay_len {n : Note} (h : noteFormed n = true) (far : List Stamp) : ∀ m, ((n.writes.take m).foldl (stayStep far) n.blur).length ≤ 128 := by
 intro m
 have : ∀ (l : List Write) (s : List Span), s.length ≤ 128 → (l.foldl (stayStep far) s).length ≤ 128 := by
  intro l
  induction l with
  | nil => exact fun s hs => hs
  | cons w l ih =>
   intro s hs
   refine ih _ ?_
   unfold stayStep
   split
   ·exact hs
   ·exact ofSet_len _
 exact this _ _ ((spanFormed_iff _).1 (noteFormed_iff.1 h).2.2.2.1).1
theorem take_no {q : List Zone × List Stamp × Int} {e : Int} (h : q = ([], [], e)) : Sub1 (.tup [.val (.slice none 0 0), .val (.slice none 0 0), .val (.int .i64 e)]) (.tup [.iv (znI q.1), .iv (stI q.2.1), .val (.int .i64 q.2.2)]) := by
 subst h
 refine tup_sub rfl fun p hp => ?_
 simp only [List.zip_cons_cons, List.zip_nil_right, List.mem_cons, List.not_mem_nil, or_false] at hp
 rcases hp with rfl | rfl | rfl
 ·exact nil_sub 3
 ·exact nil_sub 2
 ·exact Sub1.rfl_ _
set_option maxRecDepth 100000 in
set_option maxHeartbeats 3200000 in
theorem ttake_call (z : List Zone) (known : List Stamp) (n : Note) : ACalls Tryz.prog TzTab 69 [.iv (znI z), .iv (stI known), noteA n] (.tup [.iv (znI (takeZ z known n).1), .iv (stI (takeZ z known n).2.1), .val (.int .i64 (takeZ z known n).2.2)]) [] := by
 refine ACalls.ofS (n := 90) (rs := [.tmp 6, .tmp 7, .tmp 8]) Tryz.func69 rfl (by kernel_rfl) Tryz.ntmps69 (by kernel_rfl) (by simp) (fun _ _ => TzTab.later) ?_
 intro hok V w0
 obtain ⟨R, hR⟩ : ∃ R, takeZ z known n = R := ⟨_, rfl⟩
 rw [hR]
 unfold takeZ takeOk at hR
 have hwl : n.writes.length ≤ 1073741824 := by simpa [wrI] using hok.2.2.1.2.2.2.1.1
 refine g ?_
 refine AW.seq ?_
 refine AW.reg rfl fun KK hKK => ?_
 refine g ?_
 repeat' (refine hKK _ (g ?_); clear hKK KK)
 refine AW.freeze 600 _ rfl ⟨trivial, trivial, trivial, trivial, trivial⟩ ?_
 simp only [go_sem, reduceIte, Nat.reduceEqDiff]
 refine g ?_
 repeat' (first | refine st_ rfl (g ?_) | refine cond_ (fun h => g ?_) (fun h => g ?_) | (refine vops_if rfl rfl (fun h => ?_) (fun h => ?_) <;> simp only [h] <;> refine g ?_) | refine call_ (zformed_call _) rfl (g ?_) | refine call_ (vformed_call _) rfl (g ?_) | refine call_ (nformed_call _) rfl (g ?_) | refine call_ (nfits_call _ _) rfl (g ?_))
 ·rw [if_neg (by simp at h; simp [h])] at hR
  exact take_no hR.symm
 ·rw [if_neg (by simp at h; simp [h])] at hR
  exact take_no hR.symm
 ·rw [if_neg (by simp at h; simp [h])] at hR
  exact take_no hR.symm
 ·rename_i h1 h2 h3
  rw [if_pos (by simp at *; simp [*]), if_neg (by simp at h; simp [h])] at hR
  exact take_no hR.symm
 rename_i h1 h2 h3
 have hz : zonesFormed z = true := by simpa using h1
 have hk : vecFormed known = true := by simpa using h2
 have hn : noteFormed n = true := by simpa using h3
 rw [if_pos (by simp [hz, hk, hn]), if_pos (by simpa using h)] at hR
 refine bd2 (by omega) rfl rfl rfl ⟨trivial, trivial⟩ rfl rfl rfl ⟨trivial, trivial⟩ ?_
 refine g ?_
 refine call_ (vjoinD [known, n.end_]) rfl ?_
 refine g ?_
 refine AW.freeze 1000 _ rfl ⟨trivial, trivial⟩ ?_
 simp only [go_sem, reduceIte, Nat.reduceEqDiff]
 refine g ?_
 repeat' (first | refine st_ rfl (g ?_) | refine call_ (pieces_call _ _) rfl (g ?_))
 obtain ⟨now, hnow⟩ : ∃ now, joinS [known, n.end_] = now := ⟨_, rfl⟩
 have hkt : knownThen known n = now := hnow
 rw [hnow]
 rw [hkt] at hR
 obtain ⟨Z, hZ⟩ : ∃ Z, zonesOf (zonesThen z known n) = Z := ⟨_, rfl⟩
 rw [hZ] at hR
 subst hR
 simp only
 have hpin := pieces_in hz hk
 have hzl : z.length ≤ 256 := by
  have : (z.length : Int) ≤ 255 - -1 := zones_len hz (by decide)
  omega
 refine AW.adoptB 1100 9900 147 3 rfl rfl ?_
 refine AW.le (S := ⟨[(10, .bp 1100 0), (11, .bp 1200 0), (5, .ip [stI n.start, stI n.end_, spI n.blur, wrI n.writes]), (9, .ip [stI now]), (43, .fn 221 [.ip [znI z], .ip [stI known]])], [.row 9900 147 3 ((takeL n now []).map enZ), .box 1100 [.own 9900], .box 1200 [.fn 154 [.ip [stI now], .bp 1100 0]]]⟩) (ρ := id) ⟨⟨rfl, rfl, rfl, rfl, rfl, trivial⟩, ⟨rfl, rfl, rfl, trivial⟩, by simp [idsOf, BA.id]⟩ ?_
 refine AW.range (pieces_iter z known hz) [(10, .bp 1100 0), (11, .bp 1200 0)] [(5, .ip [stI n.start, stI n.end_, spI n.blur, wrI n.writes]), (9, .ip [stI now]), (43, .fn 221 [.ip [znI z], .ip [stI known]])] (fun pre => [.row 9900 147 3 ((takeL n now pre).map enZ), .box 1100 [.own 9900], .box 1200 [.fn 154 [.ip [stI now], .bp 1100 0]]]) (fun _ => True) rfl trivial rfl rfl rfl rfl (fun x => ⟨rfl, rfl⟩) (fun c pre x hsp hI => ?_) (fun xs hS hI => ?_)
 ·have hl := hsp.length_le
  have hl2 := pieces_len z known
  rw [List.length_append, List.length_singleton] at hl
  have hx := hpin x (hsp.subset (by simp))
  have htl := takeL_len n now pre
  have w1 : I64 x.span.lo := i64_litS (by simp; omega)
  have w2 : I64 x.span.hi := i64_litS (by simp; omega)
  have hsn := takeL_snoc n now pre x
  simp only [parF, enZo, zoA, List.cons_append, List.nil_append]
  refine g ?_
  refine AW.reg rfl fun KK hKK => ?_
  refine g ?_
  repeat' (refine hKK _ (g ?_); clear hKK KK)
  refine AW.freeze 1300 _ rfl ⟨w1, w2, trivial, trivial⟩ ?_
  simp only [go_sem, reduceIte, Nat.reduceEqDiff]
  refine g ?_
  repeat' refine st_ rfl (g ?_)
  refine bd1 (by omega) rfl rfl rfl ⟨w1, w2, trivial⟩ ?_
  refine g ?_
  repeat' (first | refine st_ rfl (g ?_) | refine call_ (stretched_call x.vec n hx.2) rfl (g ?_))
  obtain ⟨far, hfar⟩ : ∃ far, farS x.vec n = far := ⟨_, rfl⟩
  have hsl := stay_len hn far
  have hst : staysS n (farS x.vec n) = (n.writes.take n.writes.length).foldl (stayStep far) n.blur := by rw [hfar, List.take_length]; rfl
  rw [hfar]
  refine AW.loop (fun m : {m : Nat // m ≤ n.writes.length} => ⟨[(10, .bp 1100 0), (11, .bp 1200 0), (12, .ip [.val (.int .i64 x.span.lo), .val (.int .i64 x.span.hi), stI x.vec]), (13, .iv (spI [x.span])), (14, .iv (stI far)), (15, .iv (spI ((n.writes.take m.1).foldl (stayStep far) n.blur))), (55, .iv (wrI n.writes)), (56, .val (.int .i64 (n.writes.length : Nat))), (57, .val (.int .i64 (m.1 : Nat)))], [.row 9900 147 3 ((takeL n now pre).map enZ), .box 1100 [.own 9900], .box 1200 [.fn 154 [.ip [stI now], .bp 1100 0]]]⟩) (fun m => n.writes.length - m.1) ⟨0, Nat.zero_le _⟩ id ⟨⟨rfl, rfl, rfl, rfl, rfl, rfl, rfl, ?_, rfl, trivial⟩, ⟨rfl, rfl, rfl, trivial⟩, by simp [idsOf, BA.id]⟩ fun ⟨m, hm⟩ => ?_
  ·simp [AV.ren, look]
  simp only
  repeat (refine AW.seq ?_)
  refine AW.reg rfl fun KK hKK => ?_
  refine g ?_
  repeat' (refine hKK _ (g ?_); clear hKK KK)
  repeat (refine AW.seq ?_)
  refine st_ rfl ?_
  refine g ?_
  refine cond_ (fun h => ?_) (fun h => ?_)
  ·have hlt : m < n.writes.length := by have := of_decide_eq_true h; omega
   have hget := get_map (f := enW) (List.getElem?_eq_getElem hlt)
   obtain ⟨-, o1, o2, o3, -⟩ := okR_mem (by simpa [wrI] using hok.2.2.1.2.2.2.1.2) (enW n.writes[m]) (List.mem_map_of_mem (List.getElem_mem hlt))
   have hs := List.foldl_append (f := stayStep far) (b := n.blur) (l := n.writes.take m) (l' := [n.writes[m]])
   rw [← List.take_succ_eq_append_getElem hlt] at hs
   have hsm := hsl m
   obtain ⟨S, hS⟩ : ∃ S, (n.writes.take m).foldl (stayStep far) n.blur = S := ⟨_, rfl⟩
   rw [hS] at hs hsm ⊢
   simp only [List.foldl_cons, List.foldl_nil, stayStep] at hs
   refine g ?_
   repeat' (first | refine st_ rfl (g ?_) | refine cond_ (fun h => g ?_) (fun h => g ?_) | refine ix_ (by omega) (g ?_) | refine call_ (vhas_call far n.writes[m].stamp) rfl (g ?_))
   ·obtain ⟨o, ho⟩ : ∃ o, n.writes[m].object = o := ⟨_, rfl⟩
    rw [ho] at hs ⊢
    have o3 : I64 o := by rw [← ho]; exact o3
    refine bd1 (by omega) rfl rfl rfl ⟨o3, trivial⟩ ?_
    refine g ?_
    repeat' refine call_ (sof_D [o]) rfl (g ?_)
    obtain ⟨T, hT⟩ : ∃ T, tidyS (dots [o]) = T := ⟨_, rfl⟩
    have hTl : T.length ≤ 128 := by rw [← hT]; exact ofSet_len _
    rw [hT] at hs ⊢
    refine bd2 (by omega) rfl rfl rfl ⟨trivial, trivial⟩ rfl rfl rfl ⟨trivial, trivial⟩ ?_
    refine g ?_
    repeat' (first | refine st_ rfl (g ?_) | refine call_ (sjoinD [S, T] (by simp [sumSpan]; omega)) rfl (g ?_))
    refine ⟨⟨m + 1, hlt⟩, id, ⟨⟨rfl, rfl, rfl, rfl, rfl, ?_, rfl, rfl, rfl, trivial⟩, ⟨rfl, rfl, rfl, trivial⟩, by simp [idsOf, BA.id]⟩, by show n.writes.length - (m + 1) < n.writes.length - m; omega⟩
    show _ = AV.iv (spI _)
    rw [hs, if_neg (by simpa using h)]
    simp
    rfl
   ·refine ⟨⟨m + 1, hlt⟩, id, ⟨⟨rfl, rfl, rfl, rfl, rfl, ?_, rfl, rfl, rfl, trivial⟩, ⟨rfl, rfl, rfl, trivial⟩, by simp [idsOf, BA.id]⟩, by show n.writes.length - (m + 1) < n.writes.length - m; omega⟩
    show _ = AV.iv (spI _)
    rw [hs, if_pos (by simpa using h)]
    rfl
  ·obtain rfl : m = n.writes.length := by have := of_decide_eq_false h; omega
   refine AW.exit ?_
   simp only [reduceIte]
   rw [← hst]
   have hp1 := put_call (meetS2 [x.span] (staysS n (farS x.vec n))) x.vec now (takeL n now pre) (ofSet_len _) (by omega)
   obtain ⟨Z1, hZ1⟩ : ∃ Z1, takeL n now pre ++ cutZ now (meetS2 [x.span] (staysS n (farS x.vec n))) x.vec = Z1 := ⟨_, rfl⟩
   have hZl : Z1.length ≤ 256 * pre.length + 128 := by
    rw [← hZ1, List.length_append]
    have h1 := cutZ_len now (meetS2 [x.span] (staysS n (farS x.vec n))) x.vec
    have h2 : (meetS2 [x.span] (staysS n (farS x.vec n))).length ≤ 128 := ofSet_len _
    omega
   rw [hZ1] at hp1
   have hp2 := put_call (lessS2 [x.span] (staysS n (farS x.vec n))) far now Z1 (ofSet_len _) (by omega)
   have hend : Z1 ++ cutZ now (lessS2 [x.span] (staysS n (farS x.vec n))) far = takeL n now (pre ++ [x]) := by
    rw [hsn, ← hZ1, List.append_assoc, ← hfar]
    rfl
   rw [hend] at hp2
   generalize staysS n (farS x.vec n) = stays at hp1 hp2 ⊢
   refine AW.seq ?_
   refine AW.drawn (ds := [74, 75, 76, 77, 78, 79, 80]) (fin := [2, 3, 4]) (bs := [3, 3, 3, 3, 3, 3, 3]) [⟨[], [], [0, 1, 2], [], 0⟩, ⟨[], [], [], [], 0⟩, ⟨[], [], [], [], 0⟩, ⟨[(75, 1), (76, 2)], [], [0, 1, 2], [], 0⟩, ⟨[], [], [], [], 0⟩, ⟨[(78, 4)], [], [0, 1, 2], [], 0⟩, ⟨[(74, 0), (77, 3), (79, 5)], [], [2], [0, 1], 2⟩] (by kernel_rfl) rfl (by kernel_rfl) rfl rfl rfl fun KD hKD => ?_
   refine g ?_
   repeat' refine call_ (smeet_D _ _) rfl (g ?_)
   refine call_t [] [.box 1200 [.fn 154 [.ip [stI now], .bp 1100 0]]] (fun b => if b = 0 then 1100 else 9900) hp1 rfl rfl rfl (g ?_)
   refine g ?_
   repeat' (refine hKD _ _ ⟨rfl, g ?_⟩; clear hKD KD)
   refine AW.drawn (ds := [81, 82, 83, 84, 85, 86]) (fin := [0, 3, 4]) (bs := [3, 3, 3, 3, 3, 3]) [⟨[], [], [0, 1, 2], [], 0⟩, ⟨[], [], [], [], 0⟩, ⟨[], [], [], [], 0⟩, ⟨[(82, 1), (83, 2)], [], [0, 1, 2], [], 0⟩, ⟨[], [], [], [], 0⟩, ⟨[(81, 0), (84, 3), (85, 4)], [], [0], [1, 2], 2⟩] (by kernel_rfl) rfl (by kernel_rfl) rfl rfl rfl fun KD hKD => ?_
   refine g ?_
   repeat' refine call_ (sless_D _ _) rfl (g ?_)
   refine call_t [] [.box 1200 [.fn 154 [.ip [stI now], .bp 1100 0]]] (fun b => if b = 0 then 1100 else 8102) hp2 rfl rfl rfl (g ?_)
   refine g ?_
   repeat' (refine hKD _ _ ⟨rfl, g ?_⟩; clear hKD KD)
   exact ⟨trivial, fun b => if b = 9900 then 8702 else b, ⟨rfl, rfl, trivial⟩, ⟨rfl, rfl, rfl, trivial⟩, by simp [idsOf, BA.id]⟩
 ·subst hS
  obtain ⟨s, hs⟩ : ∃ s, (takeL n now (piecesZ z known)).mergeSort (fun a b => decide (a.span.lo ≤ b.span.lo)) = s := ⟨_, rfl⟩
  have hp : s.Perm (takeL n now (piecesZ z known)) := by rw [← hs]; exact List.mergeSort_perm _ _
  have hle : s.Pairwise fun a b => a.span.lo ≤ b.span.lo := by
   have h1 := List.pairwise_mergeSort (le := fun a b : Zone => decide (a.span.lo ≤ b.span.lo)) (fun a b c h1 h2 => by simp at *; omega) (fun a b => by simp; omega) (takeL n now (piecesZ z known))
   rw [hs] at h1
   exact h1.imp fun h => by simpa using h
  have hpf := pieces_formed hz hk
  have hA : Apart s := sorted_apart hp hle (takeL_off hpf.2 hpf.1) fun x hx => takeL_mem hpf.1 hx
  have hT := take_same (z := z) (known := known) (n := n) (by simp [takeOk, hz, hk, hn]) (by rw [hkt]; exact hp) hle
  have hsl : s.length ≤ 1000000 := by
   have h1 := takeL_len n now (piecesZ z known)
   have h2 := pieces_len z known
   rw [hp.length_eq]
   omega
  have hj := joined_call hp hA hsl
  rw [hT, hZ] at hj
  refine g ?_
  refine AW.seq ?_
  refine AW.drawn (ds := [87, 88, 89, 6, 7, 8]) (fin := [1, 2, 3]) (bs := [3, 3, 4, 4, 4, 4]) [⟨[], [], [0, 1, 2], [], 0⟩, ⟨[(87, 0)], [], [1, 2], [0], 1⟩, ⟨[], [], [1, 2], [], 0⟩, ⟨[(88, 1)], [], [], [], 0⟩, ⟨[(89, 2)], [], [], [], 0⟩, ⟨[], [], [], [], 0⟩] (by kernel_rfl) rfl (by kernel_rfl) rfl rfl rfl fun KD hKD => ?_
  refine g ?_
  refine call_t [] [.box 1100 [.own 9900], .box 1200 [.fn 154 [.ip [stI now], .bp 1100 0]]] (fun _ => 9900) hj rfl rfl rfl (g ?_)
  refine g ?_
  repeat' (refine hKD _ _ ⟨rfl, g ?_⟩; clear hKD KD)
  refine AW.freeze 8900 _ rfl trivial ?_
  simp only [go_sem, reduceIte, Nat.reduceEqDiff]
  refine g ?_
  repeat' refine st_ rfl (g ?_)
  exact Sub1.rfl_ _
end Go.Proofs.YtkphfdmelfhnoaaGreatDoor
namespace Go.Proofs.YtkphfdmelfhnoaaGreatDoor
open Go.ChangeShapes Go.WideShapes Go.ChangeAt Go.RowKit
attribute [local irreducible] AW AWY vops vopsY vop vopL vdraw callW qop binQ lenQ storeQ appendQ callQ ACalls AIter setI
attribute [local go_sem] vwA_eq storeQ_bp storeQ_rp
def sinceVT (v : View) (it : List Span) : List Stamp := if viewFormed v = true then sinceT v.zones v.known it else []
end Go.Proofs.YtkphfdmelfhnoaaGreatDoor
namespace Go.Proofs.YtkphfdmelfhnoaaGreatDoor
open Go.ChangeShapes Go.WideShapes Go.ChangeAt Go.RowKit
attribute [local irreducible] AW AWY vops vopsY vop vopL vdraw callW qop binQ lenQ storeQ appendQ callQ ACalls AIter setI
theorem vform_call (v : View) (iR : I64 v.room) : ACalls Tryz.prog TzTab 22 [vwA v] (.val (.bool (viewFormed v))) [] := view_of (fun l r h => cformed_call l r h) v iR
end Go.Proofs.YtkphfdmelfhnoaaGreatDoor
namespace Go.Proofs.YtkphfdmelfhnoaaGreatDoor
open Go.ChangeShapes Go.WideShapes Go.ChangeAt Go.RowKit
attribute [local irreducible] AW AWY vops vopsY vop vopL vdraw callW qop binQ lenQ storeQ appendQ callQ ACalls AIter
attribute [local go_sem] enZ_eq znI_eq enB_eq boI_eq boA_eq byI_eq enW_eq wrI_eq wA_eq vwA_eq noteA_eq storeQ_bp storeQ_rp
theorem keepw_call (z : List Zone) (k : List Stamp) (w : Write) : ACalls Tryz.prog TzTab 72 [wA w, .ip [znI z], .ip [stI k]] (.val (.bool (!reachedB z k w))) [] := by
 refine ACalls.of (n := 10) (rs := [.tmp 4]) Tryz.func72 rfl (by kernel_rfl) Tryz.ntmps72 (by kernel_rfl) (by simp) (fun _ _ => TzTab.later) ?_
 intro hok V w0
 refine g ?_
 repeat' (first | refine st_ rfl (g ?_) | exact trivial | refine call_ (reached_call _ _ _) rfl (g ?_))
theorem sameo_call (w : Write) (x : Body) : ACalls Tryz.prog TzTab 77 [boA x, .ip (enW w)] (.val (.bool (decide (x.object = w.object)))) [] := by
 refine ACalls.of (n := 9) (rs := [.tmp 3]) Tryz.func77 rfl (by kernel_rfl) Tryz.ntmps77 (by kernel_rfl) (by simp) (fun _ _ => TzTab.later) ?_
 intro hok V w0
 refine g ?_
 repeat' (first | refine st_ rfl (g ?_) | exact trivial)
theorem view_no {q : View × Int} {e : Int} (h : q = (noView, e)) : Sub1 (.tup [.agg [.val (.slice none 0 0), .val (.slice none 0 0), .val (.slice none 0 0), .val (.slice none 0 0), .val (.int .i64 0)], .val (.int .i64 e)]) (.tup [vwA q.1, .val (.int .i64 q.2)]) := by
 subst h
 refine tup_sub rfl fun p hp => ?_
 simp only [List.zip_cons_cons, List.zip_nil_right, List.mem_cons, List.not_mem_nil, or_false] at hp
 rcases hp with rfl | rfl
 ·refine agg_sub rfl fun p hp => ?_
  simp only [List.zip_cons_cons, List.zip_nil_right, List.mem_cons, List.not_mem_nil, or_false] at hp
  rcases hp with rfl | rfl | rfl | rfl | rfl
  ·exact nil_sub 2
  ·exact nil_sub 3
  ·exact nil_sub 4
  ·exact nil_sub 4
  ·exact Sub1.rfl_ _
 ·exact Sub1.rfl_ _
set_option maxRecDepth 100000 in
set_option maxHeartbeats 3200000 in
theorem vtake_call (v : View) (n : Note) (iR : I64 v.room) : ACalls Tryz.prog TzTab 18 [vwA v, noteA n] (.tup [vwA (takeV v n).1, .val (.int .i64 (takeV v n).2)]) [] := by
 refine ACalls.ofS (n := 85) (rs := [.cell 4 27, .tmp 5]) Tryz.func18 rfl (by kernel_rfl) Tryz.ntmps18 (by kernel_rfl) (by simp) (fun _ _ => TzTab.later) ?_
 intro hok V w0
 obtain ⟨R, hR⟩ : ∃ R, takeV v n = R := ⟨_, rfl⟩
 rw [hR]
 unfold takeV at hR
 have hwl : n.writes.length ≤ 1073741824 := by simpa [wrI] using hok.2.1.2.2.2.1.1
 refine g ?_
 refine AW.seq ?_
 refine AW.reg rfl fun KK hKK => ?_
 refine g ?_
 repeat' (refine hKK _ (g ?_); clear hKK KK)
 refine AW.freeze 300 _ rfl ⟨trivial, trivial, trivial, trivial, iR, trivial⟩ ?_
 simp only [go_sem, reduceIte, Nat.reduceEqDiff]
 refine AW.freeze 400 _ rfl ⟨trivial, trivial, trivial, trivial, trivial⟩ ?_
 simp only [go_sem, reduceIte, Nat.reduceEqDiff]
 refine g ?_
 repeat' (first | refine st_ rfl (g ?_) | refine cond_ (fun h => g ?_) (fun h => g ?_) | refine call_ (vform_call v iR) rfl (g ?_))
 ·rw [if_neg (by simpa using h)] at hR
  exact view_no hR.symm
 have hF : viewFormed v = true := by simpa using h
 rw [if_pos hF] at hR
 obtain ⟨T, hT⟩ : ∃ T, takeZ v.zones v.known n = T := ⟨_, rfl⟩
 have htk := ttake_call v.zones v.known n
 rw [hT] at htk hR
 obtain ⟨Z, K, e⟩ := T
 simp only at htk hR
 refine call_ htk rfl (g ?_)
 refine g ?_
 refine AW.freeze 700 _ rfl ⟨trivial, trivial⟩ ?_
 simp only [go_sem, reduceIte, Nat.reduceEqDiff]
 refine AW.freeze 800 _ rfl ⟨trivial, trivial⟩ ?_
 simp only [go_sem, reduceIte, Nat.reduceEqDiff]
 refine g ?_
 repeat' (first | refine st_ rfl (g ?_) | refine cond_d (fun h => g ?_) (fun h => g ?_) | refine call_ (clonew_call _) rfl (g ?_))
 ·rw [if_neg h] at hR
  exact view_no hR.symm
 obtain rfl : e = 0 := by simpa using h
 rw [if_pos rfl] at hR
 have hfl : (n.writes.filter fun x => !!reachedB Z K x) = toldW Z K n := by simp [toldW]
 have hdel := delw_call 72 [znI Z] [stI K] (fun w => !reachedB Z K w) (keepw_call Z K) n.writes hwl fun x hx => by
  obtain ⟨-, o1, o2, o3, -⟩ := okR_mem (by simpa [wrI] using hok.2.1.2.2.2.1.2) (enW x) (List.mem_map_of_mem hx)
  exact ⟨o1, o2, o3⟩
 simp only [hfl] at hdel
 have hoI : ∀ x ∈ toldW Z K n, I64 x.stamp.count ∧ I64 x.stamp.node ∧ I64 x.object := fun x hx => by
  obtain ⟨-, o1, o2, o3, -⟩ := okR_mem (by simpa [wrI] using hok.2.1.2.2.2.1.2) (enW x) (List.mem_map_of_mem (List.mem_filter.1 hx).1)
  exact ⟨o1, o2, o3⟩
 refine call_t [] [.box 500 [.val (.slice none 0 0), .val (.slice none 0 0), .val (.slice none 0 0), .val (.slice none 0 0), .val (.int .i64 0)]] (fun _ => 3600) hdel rfl rfl rfl (g ?_)
 have htr : (toldW Z K n).all rightW = true := List.all_eq_true.2 told_right
 have hend := stayB_end (z := Z) (k := K) (n := n) hF
 have honce := view_once hF
 have hhf : shelfFormed v.held = true := by
  simp only [viewFormed, partsB, Bool.and_eq_true] at hF
  exact hF.1.1.1.1.2
 have hput := shput_call v.held (toldW Z K n)
 unfold putS at hput
 rw [if_pos ⟨hhf, htr⟩] at hput
 have hHf : shelfFormed (putL v.held (toldW Z K n)) = true := shelf_iff.2 (putL_shelf (shelf_iff.1 hhf) told_right)
 obtain ⟨told, htold⟩ : ∃ told, toldW Z K n = told := ⟨_, rfl⟩
 rw [htold] at hput hend hHf hR hoI ⊢
 obtain ⟨H, hH⟩ : ∃ H, putL v.held told = H := ⟨_, rfl⟩
 rw [hH] at hput hend hHf hR
 have htl : told.length ≤ 1073741824 := by rw [← htold]; exact Nat.le_trans (List.length_filter_le _ _) hwl
 refine g ?_
 refine AW.freeze 3800 _ rfl trivial ?_
 simp only [go_sem, reduceIte, Nat.reduceEqDiff]
 have hfg := forget_call v.bodies (-1)
 rw [view_forget hF] at hfg
 refine g ?_
 repeat' (first | refine st_ rfl (g ?_) | refine call_ (hput) rfl (g ?_) | refine call_ (hfg) rfl (g ?_))
 refine AW.loop (fun m : {m : Nat // m ≤ told.length} => ⟨[(2, .ip [stI v.known, znI v.zones, wrI v.held, boI v.bodies, .val (.int .i64 v.room)]), (4, .bp 500 0), (6, .ip [znI Z]), (7, .ip [stI K]), (10, .iv (wrI H)), (11, .own 5200), (52, .iv (wrI told)), (53, .val (.int .i64 (told.length : Nat))), (54, .val (.int .i64 (m.1 : Nat)))], [.row 5200 51 4 ((stayB H (told.take m.1) v.bodies).map enB), .box 500 [.val (.slice none 0 0), .val (.slice none 0 0), .val (.slice none 0 0), .val (.slice none 0 0), .val (.int .i64 0)]]⟩) (fun m => told.length - m.1) ⟨0, Nat.zero_le _⟩ id ⟨⟨rfl, rfl, rfl, rfl, rfl, rfl, rfl, ?_, rfl, trivial⟩, ⟨?_, rfl, trivial⟩, by simp [idsOf, BA.id]⟩ fun ⟨m, hm⟩ => ?_
 ·simp [AV.ren, look]
 ·rw [List.take_zero, stayB_nil]
  rfl
 simp only
 repeat (refine AW.seq ?_)
 refine AW.reg rfl fun KK hKK => ?_
 refine g ?_
 repeat' (refine hKK _ (g ?_); clear hKK KK)
 repeat (refine AW.seq ?_)
 refine st_ rfl ?_
 refine g ?_
 refine cond_ (fun h => ?_) (fun h => ?_)
 ·have hlt : m < told.length := by have := of_decide_eq_true h; omega
  have hs := stayB_snoc H (told.take m) told[m] v.bodies
  rw [← List.take_succ_eq_append_getElem hlt] at hs
  have hon := stayB_once (H := H) (t := told.take m) honce
  have hLl : (stayB H (told.take m) v.bodies).length ≤ 256 := Nat.le_trans (List.length_filter_le _ _) (view_len hF)
  obtain ⟨L, hL⟩ : ∃ L, stayB H (told.take m) v.bodies = L := ⟨_, rfl⟩
  rw [hL] at hs hon hLl ⊢
  obtain ⟨w, hw⟩ : ∃ w, told[m] = w := ⟨_, rfl⟩
  have hget := get_map (f := enW) (List.getElem?_eq_getElem hlt)
  rw [hw] at hs hget
  have hidx := idxb_call L 77 (enW w) (fun x => decide (x.object = w.object)) fun x => sameo_call w x
  obtain ⟨o1, o2, o3⟩ := hoI w (hw ▸ List.getElem_mem hlt)
  refine st_ rfl (g ?_)
  refine AW.seq ?_
  refine AW.block ?_
  repeat (refine AW.seq ?_)
  refine AW.reg rfl fun KK hKK => ?_
  refine g ?_
  refine ⟨by omega, _, hget, ?_⟩
  refine g ?_
  repeat' (first | refine hold_ (g ?_) | (refine hKK _ (g ?_); clear hKK KK))
  refine AW.freeze 1400 _ rfl ⟨o1, o2, o3, trivial, trivial⟩ ?_
  simp only [go_sem, reduceIte, Nat.reduceEqDiff]
  cases ha : L.any fun x => decide (x.object = w.object) with
  | false =>
   rw [keep_none ha] at hs
   rw [ha, if_neg (by decide)] at hidx
   refine g ?_
   repeat' refine st_ rfl (g ?_)
   refine call_l hidx (by simp [okBk, okAs]; exact ⟨trivial, rfl⟩) rfl (fun _ h => by cases h) (Sbs.rfl_ _) rfl (g ?_)
   refine g ?_
   repeat' refine st_ rfl (g ?_)
   refine ⟨⟨m + 1, hlt⟩, id, ⟨⟨rfl, rfl, rfl, rfl, rfl, rfl, rfl, rfl, rfl, trivial⟩, ⟨?_, rfl, trivial⟩, by simp [idsOf, BA.id]⟩, by show told.length - (m + 1) < told.length - m; omega⟩
   rw [hs]
   rfl
  | true =>
   obtain ⟨hl, hp1, hf⟩ := find_at ha
   rw [ha, if_pos rfl] at hidx
   generalize L.findIdx (fun x => decide (x.object = w.object)) = i at hl hp1 hf hidx
   rw [keep_one (q := wantedB H) hon hl (of_decide_eq_true hp1)] at hs
   have hgi := get_map (f := enB) (List.getElem?_eq_getElem hl)
   refine g ?_
   repeat' refine st_ rfl (g ?_)
   refine call_l hidx (by simp [okBk, okAs]; exact ⟨trivial, rfl⟩) rfl (fun _ h => by cases h) (Sbs.rfl_ _) rfl (g ?_)
   refine g ?_
   repeat' refine st_ rfl (g ?_)
   refine ⟨by omega, hl, ?_⟩
   refine g ?_
   repeat' refine hold_ (g ?_)
   refine ⟨_, hgi, ?_⟩
   refine g ?_
   repeat' (first | refine st_ rfl (g ?_) | refine hold_ (g ?_) | refine cond_ (fun h => g ?_) (fun h => g ?_) | refine call_ (wanted_call H L[i] hHf) rfl (g ?_))
   ·have hq : ¬ wantedB H L[i] = true := by simpa using h
    rw [if_neg hq] at hs
    refine call_t [] [.box 500 [.val (.slice none 0 0), .val (.slice none 0 0), .val (.slice none 0 0), .val (.slice none 0 0), .val (.int .i64 0)]] (fun _ => 5200) (delb_call L i hl) rfl rfl rfl (g ?_)
    refine g ?_
    repeat' refine st_ rfl (g ?_)
    refine ⟨⟨m + 1, hlt⟩, fun b => if b = 5200 then 7700 else b, ⟨⟨rfl, rfl, rfl, rfl, rfl, rfl, rfl, rfl, rfl, trivial⟩, ⟨?_, rfl, trivial⟩, by simp [idsOf, BA.id]⟩, by show told.length - (m + 1) < told.length - m; omega⟩
    rw [hs]
    rfl
   ·have hq : wantedB H L[i] = true := by simpa using h
    rw [if_pos hq] at hs
    refine ⟨⟨m + 1, hlt⟩, id, ⟨⟨rfl, rfl, rfl, rfl, rfl, rfl, rfl, rfl, rfl, trivial⟩, ⟨?_, rfl, trivial⟩, by simp [idsOf, BA.id]⟩, by show told.length - (m + 1) < told.length - m; omega⟩
    rw [hs]
    rfl
 ·obtain rfl : m = told.length := by have := of_decide_eq_false h; omega
  rw [List.take_length, hend]
  refine AW.exit ?_
  simp only [reduceIte]
  refine AW.freeze 5200 _ rfl trivial ?_
  simp only [go_sem, reduceIte, Nat.reduceEqDiff]
  refine g ?_
  repeat' refine st_ rfl (g ?_)
  subst hR
  exact Sub1.rfl_ _
end Go.Proofs.YtkphfdmelfhnoaaGreatDoor
namespace Go.Proofs.YtkphfdmelfhnoaaGreatDoor
open Go.ChangeShapes Go.WideShapes Go.ChangeAt Go.RowKit
attribute [local irreducible] AW AWY vops vopsY vop vopL vdraw callW qop binQ lenQ storeQ appendQ callQ ACalls AIter
attribute [local go_sem] enB_eq boI_eq boA_eq byI_eq enW_eq wrI_eq wA_eq enZ_eq znI_eq vwA_eq noteA_eq storeQ_bp storeQ_rp
theorem new_sub (room : Int) : Sub1 (.tup [.agg [.val (.slice none 0 0), .val (.slice none 0 0), .val (.slice none 0 0), .val (.slice none 0 0), .val (.int .i64 room)], .val (.int .i64 0)]) (.tup [vwA ⟨[], [], [], [], room⟩, .val (.int .i64 0)]) := by
 refine tup_sub rfl fun p hp => ?_
 simp only [List.zip_cons_cons, List.zip_nil_right, List.mem_cons, List.not_mem_nil, or_false] at hp
 rcases hp with rfl | rfl
 ·refine agg_sub rfl fun p hp => ?_
  simp only [List.zip_cons_cons, List.zip_nil_right, List.mem_cons, List.not_mem_nil, or_false] at hp
  rcases hp with rfl | rfl | rfl | rfl | rfl
  ·exact nil_sub 2
  ·exact nil_sub 3
  ·exact nil_sub 4
  ·exact nil_sub 4
  ·exact Sub1.rfl_ _
 ·exact Sub1.rfl_ _
theorem new_call (room : Int) (iR : I64 room) : ACalls Tryz.prog TzTab 23 [.val (.int .i64 room)] (.tup [vwA (newS room).1, .val (.int .i64 (newS room).2)]) [] := by
 refine ACalls.ofS (n := 10) (rs := [.cell 2 27, .tmp 3]) Tryz.func23 rfl (by kernel_rfl) Tryz.ntmps23 (by kernel_rfl) (by simp) (fun _ _ => TzTab.later) ?_
 intro hok V w0
 obtain ⟨R, hR⟩ : ∃ R, newS room = R := ⟨_, rfl⟩
 rw [hR]
 unfold newS at hR
 have hc := cformed_call [] room iR
 have e : cacheFormed [] room = roomB room := by
  simp only [cacheFormed, onceB, usedS]
  cases h : roomB room with
  | false => simp
  | true =>
   simp only [roomB, Bool.and_eq_true, decide_eq_true_eq] at h
   simp [h.1]
 rw [e] at hc
 refine g ?_
 repeat' refine st_ rfl (g ?_)
 refine call_s hc (by exact Sbs.of_ (nil_sub 4) (Sbs.rfl_ _)) rfl (g ?_)
 refine g ?_
 repeat' (first | refine st_ rfl (g ?_) | refine cond_ (fun h => g ?_) (fun h => g ?_))
 ·rw [if_neg (by simpa using h)] at hR
  exact view_no hR.symm
 ·rw [if_pos (by simpa using h)] at hR
  subst hR
  exact new_sub room
theorem next_call (c n s : Int) (ic : c ≤ 9223372036854775807) (is : s ≤ 9223372036854775807) : ACalls Tryz.prog TzTab 102 [.val (.int .i64 c), .val (.int .i64 n), .val (.int .i64 s)] (.tup [.agg [.val (.int .i64 (nextS c n s).1.count), .val (.int .i64 (nextS c n s).1.node)], .val (.int .i64 (nextS c n s).2)]) [] := by
 refine ACalls.of (n := 36) (rs := [.cell 6 49, .tmp 7]) Tryz.func102 rfl (by kernel_rfl) Tryz.ntmps102 (by kernel_rfl) (by simp) (fun _ _ => TzTab.later) ?_
 intro hok V w0
 obtain ⟨R, hR⟩ : ∃ R, nextS c n s = R := ⟨_, rfl⟩
 rw [hR]
 unfold nextS at hR
 refine g ?_
 repeat' (first | refine st_ rfl (g ?_) | refine cond_d (fun h => g ?_) (fun h => g ?_) | (refine vops_ifd rfl rfl (fun h e => ?_) (fun h e => ?_) <;> simp only [e] <;> clear e <;> refine g ?_))
 all_goals first
  | (rw [if_pos (by omega)] at hR; subst hR; rfl)
  | (rw [if_neg (by omega), if_pos (by omega)] at hR; subst hR; rfl)
  | (rw [if_neg (by omega), if_neg (by omega)] at hR; subst hR; rfl)
theorem greatS_in (l : List Stamp) (hI : ∀ k : Int, I64 (countOf l k)) : I64 (greatS l) := by
 unfold greatS
 suffices H : ∀ (ks : List Nat) (m : Int), I64 m → I64 (ks.foldl (fun m k => max m (countOf l (k : Nat))) m) from H _ 0 (I64.of (by decide) (by decide))
 intro ks
 induction ks with
 | nil => exact fun m h => h
 | cons k ks ih =>
  intro m h
  refine ih _ ?_
  show I64 (max m (countOf l (k : Nat)))
  rw [Int.max_def]
  split
  ·exact hI _
  ·exact h
set_option maxRecDepth 100000 in
theorem great_call (l : List Stamp) : ACalls Tryz.prog TzTab 103 [.iv (stI l)] (.val (.int .i64 (greatS l))) [] := by
 refine ACalls.ofS (n := 14) (rs := [.tmp 2]) Tryz.func103 rfl (by kernel_rfl) Tryz.ntmps103 (by kernel_rfl) (by simp) (fun _ _ => TzTab.later) ?_
 intro hok V w0
 have hI : ∀ k : Int, I64 (countOf l k) := fun k => by
  refine countOf_i64 (fun s hs => ?_) k
  obtain ⟨-, h2, -⟩ := okR_mem (by simpa [stI] using hok.1.2) (enSt s) (List.mem_map_of_mem hs)
  exact h2
 refine g ?_
 repeat' (first | refine st_ rfl (g ?_) | refine call_ (all_call _) rfl (g ?_))
 refine AW.le (S := ⟨[(3, .bp 400 0), (7, .fn 248 [.ip [.pt (cntI (fun k => countOf l k) (maskOf l))]])], [.box 400 [.val (.int .i64 0)]]⟩) (ρ := id) ⟨⟨rfl, rfl, trivial⟩, ⟨rfl, trivial⟩, by simp [idsOf, BA.id]⟩ ?_
 refine AW.range (each_iter (fun k => countOf l k) (maskOf l) (maskOf_lt _)) [(3, .bp 400 0)] [(7, .fn 248 [.ip [.pt (cntI (fun k => countOf l k) (maskOf l))]])] (fun pre => [.box 400 [.val (.int .i64 ((pre.map (·.1)).foldl (fun m k => max m (countOf l (k : Nat))) 0))]]) (fun _ => True) rfl trivial rfl rfl rfl rfl (fun x => ⟨rfl, rfl⟩) (fun c pre x hsp _ => ?_) (fun xs hS _ => ?_)
 ·simp only [parF, enE, List.cons_append, List.nil_append]
  refine g ?_
  refine g ?_
  repeat' refine st_ rfl (g ?_)
  refine ⟨_, rfl, ?_⟩
  refine g ?_
  repeat' refine hold_ (g ?_)
  exact ⟨trivial, id, ⟨rfl, trivial⟩, ⟨by rw [List.map_append, List.foldl_append]; rfl, trivial⟩, by simp [idsOf, BA.id]⟩
 ·refine g ?_
  refine g ?_
  repeat' refine st_ rfl (g ?_)
  rw [hS]
  exact Sub1.rfl_ _
theorem nobj_call (o : Int) : ACalls Tryz.prog TzTab 124 [.val (.int .i64 o)] (.val (.bool (rightO o))) [] := by
 refine ACalls.of (n := 9) (rs := [.tmp 2]) Tryz.func124 rfl (by kernel_rfl) Tryz.ntmps124 (by kernel_rfl) (by simp) (fun _ _ => TzTab.later) ?_
 intro hok V w0
 obtain ⟨B, hB⟩ : ∃ B, rightO o = B := ⟨_, rfl⟩
 rw [hB]
 unfold rightO at hB
 refine g ?_
 repeat' (first | refine st_ rfl (g ?_) | (refine vops_ifd rfl rfl (fun h e => ?_) (fun h e => ?_) <;> simp only [e] <;> clear e <;> refine g ?_))
 all_goals (rw [← hB, Bool.eq_iff_iff]; simp [*]; try omega)
theorem note_no {q : Note × Int} {e : Int} (h : q = (noNote, e)) : Sub1 (.tup [.agg [.val (.slice none 0 0), .val (.slice none 0 0), .val (.slice none 0 0), .val (.slice none 0 0)], .val (.int .i64 e)]) (.tup [noteA q.1, .val (.int .i64 q.2)]) := by
 subst h
 refine tup_sub rfl fun p hp => ?_
 simp only [List.zip_cons_cons, List.zip_nil_right, List.mem_cons, List.not_mem_nil, or_false] at hp
 rcases hp with rfl | rfl
 ·refine agg_sub rfl fun p hp => ?_
  simp only [List.zip_cons_cons, List.zip_nil_right, List.mem_cons, List.not_mem_nil, or_false] at hp
  rcases hp with rfl | rfl | rfl | rfl
  ·exact nil_sub 2
  ·exact nil_sub 2
  ·exact nil_sub 2
  ·exact nil_sub 4
 ·exact Sub1.rfl_ _
set_option maxRecDepth 100000 in
theorem nof_call (known : List Stamp) (w : Write) (i1 : I64 w.stamp.count) (i2 : I64 w.stamp.node) (i3 : I64 w.object) : ACalls Tryz.prog TzTab 104 [.iv (stI known), wA w] (.tup [noteA (ofN known w).1, .val (.int .i64 (ofN known w).2)]) [] := by
 refine ACalls.ofS (n := 37) (rs := [.cell 4 30, .tmp 5]) Tryz.func104 rfl (by kernel_rfl) Tryz.ntmps104 (by kernel_rfl) (by simp) (fun _ _ => TzTab.later) ?_
 intro hok V w0
 obtain ⟨R, hR⟩ : ∃ R, ofN known w = R := ⟨_, rfl⟩
 rw [hR]
 unfold ofN at hR
 refine g ?_
 refine AW.seq ?_
 refine AW.reg rfl fun KK hKK => ?_
 refine g ?_
 repeat' (refine hKK _ (g ?_); clear hKK KK)
 refine AW.freeze 400 _ rfl ⟨i1, i2, i3, trivial, trivial⟩ ?_
 simp only [go_sem, reduceIte, Nat.reduceEqDiff]
 refine g ?_
 repeat' (first | refine st_ rfl (g ?_) | refine cond_ (fun h => g ?_) (fun h => g ?_) | (refine vops_if rfl rfl (fun h => ?_) (fun h => ?_) <;> simp only [h] <;> refine g ?_) | refine call_ (vformed_call _) rfl (g ?_) | refine call_ (right_call _ _) rfl (g ?_) | refine call_ (nobj_call _) rfl (g ?_) | refine call_ (vhas_call _ w.stamp) rfl (g ?_))
 ·rw [if_neg (by rintro ⟨a, _⟩; simp [a] at h)] at hR
  exact note_no hR.symm
 ·rw [if_neg (by rintro ⟨_, a, _⟩; simp [a] at h)] at hR
  exact note_no hR.symm
 ·rw [if_neg (by rintro ⟨_, _, a, _⟩; simp [a] at h)] at hR
  exact note_no hR.symm
 ·rw [if_neg (by rintro ⟨_, _, _, a⟩; simp [a] at h)] at hR
  exact note_no hR.symm
 rename_i h1 h2 h3
 rw [if_pos (by simp at *; simp [*])] at hR
 subst hR
 refine AW.drawn (ds := [28, 29, 30, 31, 32, 33, 34, 35, 36, 5]) (fin := [1, 2]) (bs := [1, 1, 1, 1, 1, 1, 1, 1, 2, 2, 3]) [⟨[], [], [], [], 0⟩, ⟨[(28, 0)], [], [0], [], 0⟩, ⟨[], [], [], [], 0⟩, ⟨[], [], [], [], 0⟩, ⟨[(31, 3)], [], [0], [], 0⟩, ⟨[(30, 2), (32, 4)], [], [0], [], 0⟩, ⟨[], [], [0], [], 0⟩, ⟨[(34, 6)], [], [], [], 1⟩, ⟨[(29, 1), (33, 5), (35, 7)], [], [], [], 0⟩, ⟨[(36, 8)], [], [], [0], 1⟩, ⟨[], [], [], [], 0⟩] (by kernel_rfl) rfl (by kernel_rfl) rfl rfl rfl fun KD hKD => ?_
 refine g ?_
 repeat' (first | refine call_ (clonestD _) rfl (g ?_) | refine call_ (vwithD known w.stamp i1 i2) rfl (g ?_))
 refine bs1 (by omega) rfl rfl rfl ⟨i1, i2, i3, trivial, trivial⟩ ?_
 refine g ?_
 repeat' (refine hKD _ _ ⟨rfl, g ?_⟩; clear hKD KD)
 refine AW.freeze 3600 _ rfl trivial ?_
 simp only [go_sem, reduceIte, Nat.reduceEqDiff]
 refine g ?_
 repeat' refine st_ rfl (g ?_)
 refine tup_sub rfl fun p hp => ?_
 simp only [List.zip_cons_cons, List.zip_nil_right, List.mem_cons, List.not_mem_nil, or_false] at hp
 rcases hp with rfl | rfl
 ·refine agg_sub rfl fun p hp => ?_
  simp only [List.zip_cons_cons, List.zip_nil_right, List.mem_cons, List.not_mem_nil, or_false] at hp
  rcases hp with rfl | rfl | rfl | rfl
  ·exact Sub1.rfl_ _
  ·exact Sub1.rfl_ _
  ·exact nil_sub 2
  ·exact Sub1.rfl_ _
 ·exact Sub1.rfl_ _
end Go.Proofs.YtkphfdmelfhnoaaGreatDoor
namespace Go.Proofs.YtkphfdmelfhnoaaGreatDoor
open Go.ChangeShapes Go.WideShapes Go.ChangeAt Go.RowKit
attribute [local irreducible] AW AWY vops vopsY vop vopL vdraw callW qop binQ lenQ storeQ appendQ callQ ACalls AIter
attribute [local go_sem] enB_eq boI_eq boA_eq enW_eq wrI_eq wA_eq enZ_eq znI_eq vwA_eq noteA_eq storeQ_bp storeQ_rp
set_option maxRecDepth 100000 in
set_option maxHeartbeats 3200000 in
theorem vbody_call (v : View) (x : Body) (iR : I64 v.room) (i0 : I64 x.object) (i1 : I64 x.stamp.count) (i2 : I64 x.stamp.node) : ACalls Tryz.prog TzTab 27 [vwA v, boA x] (.tup [vwA (bodyV v x).1, .val (.int .i64 (bodyV v x).2)]) [] := by
 refine ACalls.ofS (n := 64) (rs := [.cell 4 27, .tmp 5]) Tryz.func27 rfl (by kernel_rfl) Tryz.ntmps27 (by kernel_rfl) (by simp) (fun _ _ => TzTab.later) ?_
 intro hok V w0
 obtain ⟨R, hR⟩ : ∃ R, bodyV v x = R := ⟨_, rfl⟩
 rw [hR]
 unfold bodyV at hR
 refine g ?_
 refine AW.seq ?_
 refine AW.reg rfl fun KK hKK => ?_
 refine g ?_
 repeat' (refine hKK _ (g ?_); clear hKK KK)
 refine AW.freeze 300 _ rfl ⟨trivial, trivial, trivial, trivial, iR, trivial⟩ ?_
 simp only [go_sem, reduceIte, Nat.reduceEqDiff]
 refine AW.freeze 400 _ rfl ⟨i0, i1, i2, trivial, trivial⟩ ?_
 simp only [go_sem, reduceIte, Nat.reduceEqDiff]
 refine g ?_
 repeat' (first | refine st_ rfl (g ?_) | refine cond_ (fun h => g ?_) (fun h => g ?_) | refine call_ (vform_call v iR) rfl (g ?_))
 ·rw [if_neg (by rintro ⟨a, _⟩; simp [a] at h)] at hR
  exact view_no hR.symm
 have hF : viewFormed v = true := by simpa using h
 have hcf : cacheFormed v.bodies v.room = true := by
  simp only [viewFormed, partsB, Bool.and_eq_true] at hF
  exact hF.1.1.1.2
 have hhf : shelfFormed v.held = true := by
  simp only [viewFormed, partsB, Bool.and_eq_true] at hF
  exact hF.1.1.1.1.2
 have hput := cput_call v.bodies v.room x iR i0 i1 i2
 unfold putB at hput
 cases hr : rightBody x with
 | false =>
  rw [if_neg (by simp [hr])] at hput
  rw [if_neg (by simp [hr])] at hR
  refine g ?_
  repeat' (first | refine st_ rfl (g ?_) | refine call_ (hput) rfl (g ?_))
  exact view_no hR.symm
 | true =>
 rw [if_pos ⟨hcf, hr⟩] at hput
 rw [if_pos ⟨hF, hr⟩] at hR
 obtain ⟨B, hB⟩ : ∃ B, fitB v.room (forgetB v.bodies x.object ++ [x]) = B := ⟨_, rfl⟩
 rw [hB] at hput hR
 simp only at hput
 refine g ?_
 repeat' (first | refine st_ rfl (g ?_) | refine cond_ (fun h => g ?_) (fun h => g ?_) | refine call_ (hput) rfl (g ?_) | refine call_ (wanted_call v.held x hhf) rfl (g ?_))
 ·rw [if_neg (by simpa using h)] at hR
  exact view_no hR.symm
 rw [if_pos (by simpa using h)] at hR
 subst hR
 refine AW.drawn (ds := [34, 35, 36, 37, 38, 39, 40, 41, 42, 43, 8]) (fin := [0, 2]) (bs := [1, 1, 1, 1, 1, 1, 1, 1, 1, 1, 1, 2]) [⟨[], [], [], [], 0⟩, ⟨[(34, 0)], [], [0], [], 0⟩, ⟨[(35, 1)], [], [0], [], 0⟩, ⟨[], [], [], [], 0⟩, ⟨[(37, 3)], [], [0], [], 0⟩, ⟨[(38, 4)], [], [0], [], 0⟩, ⟨[], [], [], [], 0⟩, ⟨[], [], [], [], 0⟩, ⟨[(41, 7)], [], [0], [], 0⟩, ⟨[(36, 2), (39, 5), (40, 6), (42, 8)], [], [], [], 0⟩, ⟨[], [], [], [], 1⟩, ⟨[(8, 10), (43, 9)], [], [], [1], 1⟩] (by kernel_rfl) rfl (by kernel_rfl) rfl rfl rfl fun KD hKD => ?_
 refine g ?_
 repeat' (first | refine st_ rfl (g ?_) | (refine hKD _ _ ⟨rfl, g ?_⟩; clear hKD KD) | refine call_ (clonestD _) rfl (g ?_) | refine call_ (clonewD _) rfl (g ?_))
 have hzl : v.zones.length ≤ 256 := view_zones hF
 refine AW.adoptC 900 1 9900 147 3 rfl rfl rfl ?_
 refine AW.loop (fun m : {m : Nat // m ≤ v.zones.length} => ⟨[(2, .ip [stI v.known, znI v.zones, wrI v.held, boI v.bodies, .val (.int .i64 v.room)]), (4, .bp 500 0), (8, .bp 900 0), (45, .iv (znI v.zones)), (46, .val (.int .i64 (v.zones.length : Nat))), (47, .val (.int .i64 (m.1 : Nat)))], [.row 9900 147 3 ((v.zones.take m.1).map enZ), .box 900 [.iv (stI v.known), .own 9900, .iv (wrI v.held), .iv (boI B), .val (.int .i64 v.room)], .box 500 [.val (.slice none 0 0), .val (.slice none 0 0), .val (.slice none 0 0), .val (.slice none 0 0), .val (.int .i64 0)]]⟩) (fun m => v.zones.length - m.1) ⟨0, Nat.zero_le _⟩ id ⟨⟨rfl, rfl, rfl, rfl, ?_, rfl, trivial⟩, ⟨rfl, rfl, rfl, trivial⟩, by simp [idsOf, BA.id]⟩ fun ⟨m, hm⟩ => ?_
 ·simp [AV.ren, look]
 simp only
 repeat (refine AW.seq ?_)
 refine AW.reg rfl fun KK hKK => ?_
 refine g ?_
 repeat' (refine hKK _ (g ?_); clear hKK KK)
 repeat (refine AW.seq ?_)
 refine st_ rfl ?_
 refine g ?_
 refine cond_ (fun h => ?_) (fun h => ?_)
 ·have hlt : m < v.zones.length := by have := of_decide_eq_true h; omega
  have hget := get_map (f := enZ) (List.getElem?_eq_getElem hlt)
  obtain ⟨-, o1, o2, -⟩ := okR_mem (by simpa [znI] using hok.1.2.1.2) (enZ v.zones[m]) (List.mem_map_of_mem (List.getElem_mem hlt))
  obtain ⟨z, hz⟩ : ∃ z, v.zones[m] = z := ⟨_, rfl⟩
  have htk := List.take_succ_eq_append_getElem hlt
  rw [hz] at hget o1 o2 htk
  refine st_ rfl (g ?_)
  refine AW.seq ?_
  refine AW.block ?_
  repeat (refine AW.seq ?_)
  refine AW.reg rfl fun KK hKK => ?_
  refine g ?_
  refine ⟨by omega, _, hget, ?_⟩
  refine g ?_
  repeat' (first | refine hold_ (g ?_) | (refine hKK _ (g ?_); clear hKK KK))
  refine AW.freeze 1100 _ rfl ⟨o1, o2, trivial, trivial⟩ ?_
  simp only [go_sem, reduceIte, Nat.reduceEqDiff]
  refine AW.drawn (ds := [51, 52, 53, 54, 55, 56, 57, 58, 59, 60, 61]) (fin := [2, 3, 4, 5]) (bs := [3, 3, 3, 3, 3, 3, 3, 3, 3, 4, 5, 5]) [⟨[], [], [], [], 0⟩, ⟨[(51, 0)], [], [0, 1, 2], [], 0⟩, ⟨[], [], [], [], 0⟩, ⟨[(53, 2)], [], [0, 1, 2], [], 0⟩, ⟨[], [], [], [], 0⟩, ⟨[(55, 4)], [], [0, 1, 2], [], 0⟩, ⟨[(56, 5)], [], [0, 1, 2], [], 0⟩, ⟨[(54, 3), (57, 6)], [], [], [], 0⟩, ⟨[(58, 7)], [], [], [], 1⟩, ⟨[(52, 1), (59, 8)], [], [1, 2, 3], [0], 1⟩, ⟨[], [], [], [], 0⟩, ⟨[(61, 10), (60, 9)], [], [], [1], 1⟩] (by kernel_rfl) rfl (by kernel_rfl) rfl rfl rfl fun KD hKD => ?_
  refine g ?_
  repeat' refine call_ (clonestD _) rfl (g ?_)
  refine bs1 (by omega) rfl rfl rfl ⟨o1, o2, trivial, trivial⟩ ?_
  refine g ?_
  refine append_own rfl (by kernel_rfl) (by omega) (by kernel_rfl) rfl (by simp; omega) ?_
  refine g ?_
  repeat' (first | refine st_ rfl (g ?_) | (refine hKD _ _ ⟨rfl, g ?_⟩; clear hKD KD))
  refine ⟨⟨m + 1, hlt⟩, fun b => if b = 9900 then 6100 else b, ⟨⟨rfl, rfl, rfl, rfl, rfl, rfl, trivial⟩, ⟨?_, rfl, rfl, trivial⟩, by simp [idsOf, BA.id]⟩, by show v.zones.length - (m + 1) < v.zones.length - m; omega⟩
  rw [htk, List.map_append]
  rfl
 ·obtain rfl : m = v.zones.length := by have := of_decide_eq_false h; omega
  rw [List.take_length]
  refine AW.exit ?_
  simp only [reduceIte]
  refine AW.freeze 9900 _ rfl trivial ?_
  simp only [go_sem, reduceIte, Nat.reduceEqDiff]
  refine g ?_
  repeat' refine st_ rfl (g ?_)
  exact Sub1.rfl_ _
end Go.Proofs.YtkphfdmelfhnoaaGreatDoor
namespace Go.Proofs.YtkphfdmelfhnoaaGreatDoor
open Go.ChangeShapes Go.WideShapes Go.ChangeAt Go.RowKit
attribute [local irreducible] AW AWY vops vopsY vop vopL vdraw callW qop binQ lenQ storeQ appendQ callQ ACalls AIter
attribute [local go_sem] enB_eq boI_eq boA_eq enW_eq wrI_eq wA_eq enZ_eq znI_eq vwA_eq noteA_eq storeQ_bp storeQ_rp
theorem read_no {q : List Nat × Write × Int} {e : Int} (h : q = ([], noW, e)) : Sub1 (.tup [.val (.slice none 0 0), .agg [.val (.int .i64 0), .val (.int .i64 0), .val (.int .i64 0), .val (.bool false)], .val (.int .i64 e)]) (.tup [.iv (byI q.1), wA q.2.1, .val (.int .i64 q.2.2)]) := by
 subst h
 refine tup_sub rfl fun p hp => ?_
 simp only [List.zip_cons_cons, List.zip_nil_right, List.mem_cons, List.not_mem_nil, or_false] at hp
 rcases hp with rfl | rfl | rfl
 ·exact nil_sub 1
 ·exact Sub1.rfl_ _
 ·exact Sub1.rfl_ _
theorem get_in {l : List Write} {o : Int} {w : Write} (h : getW l o = some w) (hI : ∀ x ∈ l, I64 x.stamp.count ∧ I64 x.stamp.node ∧ I64 x.object) : I64 w.stamp.count ∧ I64 w.stamp.node ∧ I64 w.object := hI w (List.mem_of_find?_eq_some h)
set_option maxRecDepth 100000 in
set_option maxHeartbeats 3200000 in
theorem vread_call (v : View) (o : Int) (iR : I64 v.room) (iO : I64 o) : ACalls Tryz.prog TzTab 28 [vwA v, .val (.int .i64 o)] (.tup [.iv (byI (readV v o).1), wA (readV v o).2.1, .val (.int .i64 (readV v o).2.2)]) [] := by
 refine ACalls.ofS (n := 55) (rs := [.tmp 4, .cell 5 55, .tmp 6]) Tryz.func28 rfl (by kernel_rfl) Tryz.ntmps28 (by kernel_rfl) (by simp) (fun _ _ => TzTab.later) ?_
 intro hok V w0
 obtain ⟨R, hR⟩ : ∃ R, readV v o = R := ⟨_, rfl⟩
 rw [hR]
 unfold readV at hR
 have hI : ∀ x ∈ v.held, I64 x.stamp.count ∧ I64 x.stamp.node ∧ I64 x.object := fun x hx => by
  obtain ⟨-, o1, o2, o3, -⟩ := okR_mem (by simpa [wrI] using hok.1.2.2.1.2) (enW x) (List.mem_map_of_mem hx)
  exact ⟨o1, o2, o3⟩
 refine g ?_
 refine AW.seq ?_
 refine AW.reg rfl fun KK hKK => ?_
 refine g ?_
 repeat' (refine hKK _ (g ?_); clear hKK KK)
 refine AW.freeze 300 _ rfl ⟨trivial, trivial, trivial, trivial, iR, trivial⟩ ?_
 simp only [go_sem, reduceIte, Nat.reduceEqDiff]
 refine g ?_
 repeat' (first | refine st_ rfl (g ?_) | refine cond_d (fun h => g ?_) (fun h => g ?_) | refine cond_ (fun h => g ?_) (fun h => g ?_) | (refine vops_ifd rfl rfl (fun h e => ?_) (fun h e => ?_) <;> simp only [e] <;> clear e <;> refine g ?_) | (refine vops_if rfl rfl (fun h => ?_) (fun h => ?_) <;> simp only [h] <;> refine g ?_) | refine call_ (vform_call v iR) rfl (g ?_) | refine call_ (zblur_call _) rfl (g ?_) | refine call_ (shas_call _ _) rfl (g ?_))
 ·rw [if_neg (by rintro ⟨a, _⟩; simp [a] at h)] at hR
  exact read_no hR.symm
 ·rw [if_neg (by rintro ⟨_, a⟩; simp [rightO] at a; omega)] at hR
  exact read_no hR.symm
 ·rw [if_neg (by rintro ⟨_, a⟩; simp [rightO] at a; omega)] at hR
  exact read_no hR.symm
 ·rw [if_pos ⟨by simpa using (by assumption : (!viewFormed v) = false), by simp [rightO]; omega⟩, if_pos h] at hR
  exact read_no hR.symm
 rename_i h1 h2 h3
 have hF : viewFormed v = true := by simpa using h1
 have hO : rightO o = true := by simp [rightO]; omega
 rw [if_pos ⟨hF, hO⟩, if_neg (by simp [h])] at hR
 have hhf : shelfFormed v.held = true := by
  simp only [viewFormed, partsB, Bool.and_eq_true] at hF
  exact hF.1.1.1.1.2
 have hget := shget_call v.held o
 unfold getS at hget
 rw [if_pos hhf] at hget
 cases hg : getW v.held o with
 | none =>
  rw [hg] at hget hR
  simp only at hget hR
  refine call_ hget rfl (g ?_)
  refine g ?_
  refine AW.freeze 800 _ rfl ⟨rfl, rfl, rfl, trivial, trivial⟩ ?_
  simp only [go_sem, reduceIte, Nat.reduceEqDiff]
  refine g ?_
  repeat' refine st_ rfl (g ?_)
  refine AW.drawn (ds := [41, 42, 4, 6]) (fin := [1]) (bs := [1, 1, 1, 1, 2]) [⟨[], [], [0], [], 0⟩, ⟨[], [], [], [], 0⟩, ⟨[], [], [], [], 0⟩, ⟨[(41, 0)], [], [], [0], 1⟩, ⟨[(42, 1)], [], [], [], 0⟩] (by kernel_rfl) rfl (by kernel_rfl) rfl rfl rfl fun KD hKD => ?_
  refine g ?_
  repeat' (first | refine st_ rfl (g ?_) | (refine hKD _ _ ⟨rfl, g ?_⟩; clear hKD KD))
  exact read_no hR.symm
 | some w =>
  rw [hg] at hget hR
  simp only at hget hR
  obtain ⟨w1, w2, w3⟩ := get_in hg hI
  refine call_ hget rfl (g ?_)
  refine g ?_
  refine AW.freeze 800 _ rfl ⟨w1, w2, w3, trivial, trivial⟩ ?_
  simp only [go_sem, reduceIte, Nat.reduceEqDiff]
  refine g ?_
  repeat' (first | refine st_ rfl (g ?_) | refine cond_ (fun h => g ?_) (fun h => g ?_) | refine call_ (cget_call v.bodies o w.stamp iO w1 w2) rfl (g ?_))
  ·rw [if_pos h] at hR
   subst hR
   refine AW.drawn (ds := [41, 42, 4, 6]) (fin := [1]) (bs := [1, 1, 1, 1, 2]) [⟨[], [], [0], [], 0⟩, ⟨[], [], [], [], 0⟩, ⟨[], [], [], [], 0⟩, ⟨[(41, 0)], [], [], [0], 1⟩, ⟨[(42, 1)], [], [], [], 0⟩] (by kernel_rfl) rfl (by kernel_rfl) rfl rfl rfl fun KD hKD => ?_
   refine g ?_
   repeat' (first | refine st_ rfl (g ?_) | (refine hKD _ _ ⟨rfl, g ?_⟩; clear hKD KD))
   refine tup_sub rfl fun p hp => ?_
   simp only [List.zip_cons_cons, List.zip_nil_right, List.mem_cons, List.not_mem_nil, or_false] at hp
   rcases hp with rfl | rfl | rfl
   ·exact nil_sub 1
   ·exact Sub1.rfl_ _
   ·exact Sub1.rfl_ _
  ·rw [if_neg (by simp [h])] at hR
   subst hR
   refine AW.drawn (ds := [52, 53, 54, 4, 6]) (fin := [1]) (bs := [1, 1, 1, 1, 1, 2]) [⟨[], [], [], [], 0⟩, ⟨[], [], [0], [], 0⟩, ⟨[], [], [], [], 0⟩, ⟨[(52, 0)], [], [], [], 0⟩, ⟨[(53, 1)], [], [], [0], 1⟩, ⟨[(54, 2)], [], [], [], 0⟩] (by kernel_rfl) rfl (by kernel_rfl) rfl rfl rfl fun KD hKD => ?_
   refine g ?_
   repeat' (first | refine st_ rfl (g ?_) | (refine hKD _ _ ⟨rfl, g ?_⟩; clear hKD KD))
   exact Sub1.rfl_ _
end Go.Proofs.YtkphfdmelfhnoaaGreatDoor
