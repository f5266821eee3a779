/- A view takes a note (the program's). -/
import Derived.Test.YtkphfdmelfhnoaaGreatDoorPTurnRow
import Derived.Test.YtkphfdmelfhnoaaGreatDoorPRow
import Derived.Test.YtkphfdmelfhnoaaGreatDoorPClone
import Derived.Test.YtkphfdmelfhnoaaGreatDoorPEnc
import Derived.Test.YtkphfdmelfhnoaaGreatDoorPPutShelf
import Derived.Test.YtkphfdmelfhnoaaGreatDoorPShelfAll
import Derived.Test.YtkphfdmelfhnoaaGreatDoorPTouch
import Derived.Test.YtkphfdmelfhnoaaGreatDoorPViewLaw
import Derived.Test.YtkphfdmelfhnoaaGreatDoorPSinceSame
import Derived.Test.YtkphfdmelfhnoaaGreatDoorPStretch
import Derived.Test.YtkphfdmelfhnoaaGreatDoorPTake
set_option linter.all false
set_option linter.unnecessarySimpa false
set_option linter.unusedSimpArgs false
set_option linter.unusedVariables false
namespace Go.Proofs.YtkphfdmelfhnoaaGreatDoor
open Go.ChangeShapes Go.WideShapes Go.ChangeAt Go.RowKit
theorem infoTrim : (Tryz.prog.info? 55).map (fun i => i.zero.map (fun z => z.cells.all (·.oneCell'))) = some (some true) := by kernel_rfl
theorem list_step {P : Program} {ro : Option Nat} {ops : Array Oper} {o : Oper} {rest : List Oper} {Q : Exit → Act → World → Prop} {a : Act} {w w' : World} {v : Value} (hg : o.guard = none) (hd : ∀ c, o.op ≠ .defer c) (hx : (execOp a.eval o).run P w = .ok (.value v) w') (h : wpListIn (FW ro) 0 P ops Q rest (a.put o.dst v) w') : wpListIn (FW ro) 0 P ops Q (o :: rest) a w := by
 refine wpListIn_step fun K' hK' => ?_
 rw [if_pos (by unfold Region.wanted; rw [hg])]
 refine wp_wpIn hd ?_
 unfold Oper.wp
 rw [hx, Oper.upon_value]
 exact hK' _ _ h
section
variable {V w0 : World} {n : Nd} {ro : Option Nat} {σ : AState} {K : Exit → AState → Prop}
set_option maxHeartbeats 1600000 in
theorem AW.trimW {id1 id2 m b : Nat} {l : List (List IV)} {rest : Code} {y1 y2 y3 y4 y5 y6 y7 y8 : TypeId} {p1 p2 p3 p4 p5 p6 p7 p8 : String} {a1 a2 a3 a4 a5 a6 a7 a8 : Array Edge}
  (h0 : look σ.fr 0 = .own b) (h5 : look σ.fr 5 = .val (.int .i64 (m : Nat))) (hb : findB b σ.bk = some (.row b 55 4 l)) (hm : m < l.length) (hn42 : n.n = 42) (hfx : n.fx = []) (hf : (offB 4200 4300 σ.bk) = true)
  (h : AW Tryz.prog TzTab ro V w0 n rest ⟨[(4, .own 4200)], .row 4200 55 4 (l.take m) :: replB b [] σ.bk⟩ K) :
  AW Tryz.prog TzTab ro V w0 n (.seq (.region id1 #[⟨some 36, .move (.tmp 0), y1, p1, a1, none⟩, ⟨some 37, .move (.tmp 5), y2, p2, a2, none⟩, ⟨some 38, .slice 24 (.tmp 36) (some (.tmp 37)) none none, y3, p3, a3, none⟩, ⟨none, .call { callee := .builtin .clear, args := #[.tmp 38], argTypes := #[24] }, y4, p4, a4, none⟩] false)
   (.seq (.region id2 #[⟨some 39, .move (.tmp 0), y5, p5, a5, none⟩, ⟨some 40, .move (.tmp 5), y6, p6, a6, none⟩, ⟨some 41, .slice 24 (.tmp 39) none (some (.tmp 40)) none, y7, p7, a7, none⟩, ⟨some 4, .assign (.tmp 41), y8, p8, a8, none⟩] false) rest)) σ K := fun hG m0 E a w hn hs => by
 obtain ⟨i0, z0, hi0, hz0, hzs, hz1, hz2⟩ := info_of infoWriteRow
 have hzone : ∀ v ∈ z0.cells, v.oneCell' = true := by
  have := infoTrim
  rw [hi0] at this
  simp only [Option.map_some, hz0, Option.some.injEq] at this
  intro v hv
  obtain ⟨j, hj, rfl⟩ := Array.mem_iff_getElem.1 hv
  exact (Array.all_eq_true.1 this) j hj
 have hsz : a.tmps.size = 42 := by rw [hs.size.1, hn, hn42]
 have s0 := hs.slots 0
 have s5 := hs.slots 5
 rw [h0] at s0
 rw [h5] at s5
 have e5 : a.tmps.getD 5 undef = .int .i64 (m : Nat) := by
  generalize a.tmps.getD 5 undef = u at s5
  cases s5; rfl
 obtain ⟨v, hv⟩ : ∃ v, a.tmps.getD 0 undef = v := ⟨_, rfl⟩
 rw [hv] at s0
 obtain ⟨pre, post, q1, q2, q3⟩ := findB_split hb
 obtain ⟨hO, hB⟩ := hs.holds _ (findB_mem hb).1
 cases s0 with
 | @own _ A n0 cc he =>
 rw [he] at hO hB
 rcases hO.forms with ⟨_, h0'⟩ | ⟨g, c, hvv, hg1, hg2⟩
 ·rw [h0'] at hm; simp at hm
 injection hvv with r1 r2 r3
 subst r1 r2 r3
 obtain ⟨cur, _, _, hBk, hnc, hcm, hcs, hbig, hch⟩ := hO.open_
 have hgb : g = E.blk b := hB g rfl
 have hzc : (Builtin.zeroCells z0.cells (l.length - m)).toList.length = (l.length - m) * 4 := by simp [Builtin.zeroCells, hzs]
 obtain ⟨C2, hC2⟩ : ∃ C2 : Array Value, C2 = (cur.toList.take (m * 4) ++ (Builtin.zeroCells z0.cells (l.length - m)).toList ++ cur.toList.drop (m * 4 + (l.length - m) * 4)).toArray := ⟨_, rfl⟩
 have hC2s : C2.size = cc * 4 := by
  rw [hC2]
  simp only [List.size_toArray, List.length_append, List.length_take, List.length_drop, Array.length_toList, hcs, hzc]
  omega
 have hcl : ∀ ty' cp, (Builtin.clear_ #[24] ty' #[.slice (some ⟨g, m * 4, none⟩) (l.length - m) cp]).run Tryz.prog w = .ok (.tuple #[]) (w.setRow g C2) := fun ty' cp => by
  rw [hC2]
  exact run_clear_rowK 4 w _ _ ty' i0 z0 g (m * 4) (l.length - m) cp cur 55 Tryz.underlying24 hi0 hz0 hzs (by omega) hBk (by rw [hcs]; omega) hzone
 unfold maxLen at hcm
 have tg : ∀ (a : Act) (d i : Nat) (v : Value), a.tmps.size = 42 → d < 42 → (a.put (some d) v).tmps.getD i undef = if i = d then v else a.tmps.getD i undef := fun a d i v h hd => put_slot v i (by rw [h]; exact hd)
 have ts : ∀ (a : Act) (d : Nat) (v : Value), a.tmps.size = 42 → (a.put (some d) v).tmps.size = 42 := fun a d v h => by simpa [Act.put] using h
 obtain ⟨A1, hA1⟩ : ∃ A1, a.put (some 36) (.slice (some ⟨g, 0, none⟩) l.length cc) = A1 := ⟨_, rfl⟩
 obtain ⟨A2, hA2⟩ : ∃ A2, A1.put (some 37) (.int .i64 (m : Nat)) = A2 := ⟨_, rfl⟩
 obtain ⟨A3, hA3⟩ : ∃ A3, A2.put (some 38) (.slice (some ⟨g, m * 4, none⟩) (l.length - m) (cc - m)) = A3 := ⟨_, rfl⟩
 obtain ⟨A4, hA4⟩ : ∃ A4, A3.put (some 39) (.slice (some ⟨g, 0, none⟩) l.length cc) = A4 := ⟨_, rfl⟩
 obtain ⟨A5, hA5⟩ : ∃ A5, A4.put (some 40) (.int .i64 (m : Nat)) = A5 := ⟨_, rfl⟩
 obtain ⟨A6, hA6⟩ : ∃ A6, A5.put (some 41) (.slice (some ⟨g, 0, none⟩) m cc) = A6 := ⟨_, rfl⟩
 have t1 : A1.tmps.size = 42 := by rw [← hA1]; exact ts _ _ _ hsz
 have t2 : A2.tmps.size = 42 := by rw [← hA2]; exact ts _ _ _ t1
 have t3 : A3.tmps.size = 42 := by rw [← hA3]; exact ts _ _ _ t2
 have t4 : A4.tmps.size = 42 := by rw [← hA4]; exact ts _ _ _ t3
 have t5 : A5.tmps.size = 42 := by rw [← hA5]; exact ts _ _ _ t4
 have t6 : A6.tmps.size = 42 := by rw [← hA6]; exact ts _ _ _ t5
 have g1 : A1.tmps.getD 5 undef = .int .i64 (m : Nat) := by rw [← hA1, tg _ _ _ _ hsz (by omega), if_neg (by omega)]; exact e5
 have g2 : A2.tmps.getD 36 undef = .slice (some ⟨g, 0, none⟩) l.length cc := by rw [← hA2, tg _ _ _ _ t1 (by omega), if_neg (by omega), ← hA1, tg _ _ _ _ hsz (by omega), if_pos rfl]
 have g3 : A2.tmps.getD 37 undef = .int .i64 (m : Nat) := by rw [← hA2, tg _ _ _ _ t1 (by omega), if_pos rfl]
 have g4 : A3.tmps.getD 38 undef = .slice (some ⟨g, m * 4, none⟩) (l.length - m) (cc - m) := by rw [← hA3, tg _ _ _ _ t2 (by omega), if_pos rfl]
 have g5 : A3.tmps.getD 0 undef = .slice (some ⟨g, 0, none⟩) l.length cc := by rw [← hA3, tg _ _ _ _ t2 (by omega), if_neg (by omega), ← hA2, tg _ _ _ _ t1 (by omega), if_neg (by omega), ← hA1, tg _ _ _ _ hsz (by omega), if_neg (by omega)]; exact hv
 have g6 : A4.tmps.getD 5 undef = .int .i64 (m : Nat) := by rw [← hA4, tg _ _ _ _ t3 (by omega), if_neg (by omega), ← hA3, tg _ _ _ _ t2 (by omega), if_neg (by omega), ← hA2, tg _ _ _ _ t1 (by omega), if_neg (by omega)]; exact g1
 have g7 : A5.tmps.getD 39 undef = .slice (some ⟨g, 0, none⟩) l.length cc := by rw [← hA5, tg _ _ _ _ t4 (by omega), if_neg (by omega), ← hA4, tg _ _ _ _ t3 (by omega), if_pos rfl]
 have g8 : A5.tmps.getD 40 undef = .int .i64 (m : Nat) := by rw [← hA5, tg _ _ _ _ t4 (by omega), if_pos rfl]
 have g9 : A6.tmps.getD 41 undef = .slice (some ⟨g, 0, none⟩) m cc := by rw [← hA6, tg _ _ _ _ t5 (by omega), if_pos rfl]
 have i1 : (0 : Int) ≤ (m : Int) ∧ (m : Int) ≤ (l.length : Int) := by omega
 have i2 : (0 : Int) ≤ (l.length : Int) ∧ (l.length : Int) ≤ (cc : Int) := by omega
 have i3 : (0 : Int) ≤ (m : Int) ∧ (m : Int) ≤ (cc : Int) := by omega
 have i4 : m ≤ l.length := by omega
 have i5 : m ≤ cc := by omega
 have i6 : cc ≠ m := by omega
 have i7 : cc ≠ 0 := by omega
 have b1 : ∀ w, (Instr.sliceBounds true l.length cc (some (.int .i64 (m : Nat))) none none).run Tryz.prog w = .ok (m, l.length, cc) w := fun w => by simp [Instr.sliceBounds, Instr.sliceBound, asIntOf, i1, i2, i3, i4, i5, hnc]
 have b2 : ∀ w, (Instr.sliceBounds true l.length cc none (some (.int .i64 (m : Nat))) none).run Tryz.prog w = .ok (0, m, cc) w := fun w => by simp [Instr.sliceBounds, Instr.sliceBound, asIntOf, i1, i2, i3, i4, i5, hnc]
 refine wpIn_seq (wpIn_region_lit (l := [_, _, _, _]) ?_)
 refine list_step rfl (fun _ h => by cases h) (v := .slice (some ⟨g, 0, none⟩) l.length cc) (w' := w) (by simp only [execOp, Act.eval, hv]; rfl) ?_
 simp only [hA1]
 refine list_step rfl (fun _ h => by cases h) (v := .int .i64 (m : Nat)) (w' := w) (by simp only [execOp, Act.eval, g1]; rfl) ?_
 simp only [hA2]
 refine list_step rfl (fun _ h => by cases h) (v := .slice (some ⟨g, m * 4, none⟩) (l.length - m) (cc - m)) (w' := w) (by
  simp only [execOp, Act.eval, g2, Option.map_some, Option.map_none, g3]
  refine run_v ?_
  simp [Instr.sliceAt, Instr.slice, run_underlying Tryz.underlying24, b1, sizeOf, typeInfo, hi0, hz1, i6, Addr.add]
  exact fun h => h.symm) ?_
 simp only [hA3]
 refine list_step rfl (fun _ h => by cases h) (v := .tuple #[]) (w' := w.setRow g C2) ?_ ?_
 ·have he : A3.eval (.tmp 38) = .slice (some ⟨g, m * 4, none⟩) (l.length - m) (cc - m) := g4
  simp [execOp, resolve, invoke, builtin, he, hcl]
 refine wpListIn_nil ?_
 refine wpIn_seq (wpIn_region_lit (l := [_, _, _, _]) ?_)
 refine list_step rfl (fun _ h => by cases h) (v := .slice (some ⟨g, 0, none⟩) l.length cc) (w' := w.setRow g C2) (by
  show (execOp A3.eval _).run _ _ = _
  simp only [execOp, Act.eval, g5]; rfl) ?_
 show wpListIn _ _ _ _ _ _ (A3.put (some 39) _) _
 simp only [hA4]
 refine list_step rfl (fun _ h => by cases h) (v := .int .i64 (m : Nat)) (w' := w.setRow g C2) (by simp only [execOp, Act.eval, g6]; rfl) ?_
 simp only [hA5]
 refine list_step rfl (fun _ h => by cases h) (v := .slice (some ⟨g, 0, none⟩) m cc) (w' := w.setRow g C2) (by
  simp only [execOp, Act.eval, g7, Option.map_some, Option.map_none, g8]
  refine run_v ?_
  simp [Instr.sliceAt, Instr.slice, run_underlying Tryz.underlying24, b2, sizeOf, typeInfo, hi0, hz1, i7, Addr.add]) ?_
 simp only [hA6]
 refine list_step rfl (fun _ h => by cases h) (v := .slice (some ⟨g, 0, none⟩) m cc) (w' := w.setRow g C2) (by simp only [execOp, Act.eval, g9]; rfl) ?_
 refine wpListIn_nil ?_
 -- the state behind
 have hst0 : St V w0 m0 E ⟨[], σ.bk⟩ a w := hs.weak fun i => .inr rfl
 rw [q1] at hst0
 have hch2 : Chunks (RepVs (vis V w0 w (owns E σ.bk))) 4 (C2.toList.take ((l.take m).length * 4)) (l.take m) := by
  have e1 : (l.take m).length = m := by simp; omega
  obtain ⟨hA, -⟩ := hch.split m i4
  rw [List.take_take, Nat.min_eq_left (by omega)] at hA
  have e2 : (cur.toList.take (m * 4)).length = m * 4 := by simp only [List.length_take, Array.length_toList, hcs]; omega
  rw [e1, hC2]
  show Chunks _ 4 (List.take _ (_ ++ _ ++ _)) _
  rw [List.append_assoc, List.take_left' e2]
  exact hA
 have hO2 : OwnSl (RepVs (vis V w0 w (owns E σ.bk))) 4 (w.setRow g C2) w0.heap.size 55 (.slice (some ⟨g, 0, none⟩) m cc) (l.take m) :=
  OwnSl.shut hg1 hBk.setRow' (by simp; omega) (by simp; omega) (by unfold maxLen; omega) hC2s (by simp; omega) hch2
 have hown : (BA.row b 55 4 l).owned E = [g] := by simp [BA.owned, he, Value.ownBlock]
 have hE : Env.same 4200 4300 E ⟨fun x => if x = 4200 then g else E.blk x, fun x => if x = 4200 then .slice (some ⟨g, 0, none⟩) m cc else E.row x⟩ := fun x hx => by
  have : ¬ x = 4200 := by omega
  simp [this]
 have hoff : offB 4200 4300 (pre ++ post) = true := by
  have key : ∀ {l : List BA}, (∀ b ∈ l, b.off 4200 4300 = true) → offB 4200 4300 l = true := fun {l} => by
   induction l with
   | nil => exact fun _ => rfl
   | cons b l ih => exact fun h => by simp only [offB, Bool.and_eq_true]; exact ⟨h b (by simp), ih fun x hx => h x (List.mem_cons_of_mem _ hx)⟩
  exact key fun x hx => offB_mem hf x (by
   rw [q1]
   rcases List.mem_append.1 hx with hx | hx
   ·exact List.mem_append_left _ hx
   ·exact List.mem_append_right _ (List.mem_cons_of_mem _ hx))
 have hnew : owns (⟨fun x => if x = 4200 then g else E.blk x, fun x => if x = 4200 then .slice (some ⟨g, 0, none⟩) m cc else E.row x⟩ : Env) [.row 4200 55 4 (l.take m)] = [g] := by simp [owns, BA.owned, Value.ownBlock]
 have hmid : owns E [BA.row b 55 4 l] = [g] := by simp [owns, hown]
 have hsw := St.swap (mid := [.row b 55 4 l]) (nb := [.row 4200 55 4 (l.take m)]) (w' := w.setRow g C2) (lo := 4200) (hi := 4300) (by simpa using hst0) (fun x hx hlt => (grown_setRow w g C2).block x hlt fun e => hx (by rw [hmid, ← Option.some.inj e]; simp)) (by simp [World.setRow]) (hs.low.grown (grown_setRow w g C2) hs.low.size fun x hx => by rw [← Option.some.inj hx]; exact hg1) hE rfl hoff (by rw [hnew]; simp) (fun x hx => .inl (by rw [hmid]; rw [hnew] at hx; exact hx)) (fun x hx => by
  simp only [List.mem_singleton] at hx
  subst hx
  refine ⟨?_, fun x hx => by simpa [Value.ownBlock, eq_comm] using hx⟩
  simp only [if_true]
  refine hO2.mono fun cs y hy => RepVs.ext ?_ hy
  rw [hnew]
  refine vis_ext (by simp [World.setRow]) fun p u _ h2 h3 h4 => ?_
  rw [q1] at h3
  simp only [owns_append, owns, hown, List.mem_append, not_or] at h3 ⊢
  refine ⟨⟨h3.2.1, h3.1, h3.2.2⟩, ?_⟩
  rw [World.cell?_of_block ((grown_setRow w g C2).block p.block h2 fun e => h3.2.1 (by rw [← Option.some.inj e]; simp))]
  exact h4)
 have hd : ∀ x, x < 42 → ∀ d, some x = some d → d < m0.nd.n ∧ d ∉ m0.nd.fx := fun x hx d e => by
  obtain rfl := Option.some.inj e
  rw [hn, hn42, hfx]
  exact ⟨hx, by simp⟩
 have P1 := hsw.put (dst := some 36) (hd 36 (by omega)) (v := .slice (some ⟨g, 0, none⟩) l.length cc) (r := .any) .any
 rw [hA1] at P1
 have P2 := P1.put (dst := some 37) (hd 37 (by omega)) (v := .int .i64 (m : Nat)) (r := .any) .any
 rw [hA2] at P2
 have P3 := P2.put (dst := some 38) (hd 38 (by omega)) (v := .slice (some ⟨g, m * 4, none⟩) (l.length - m) (cc - m)) (r := .any) .any
 rw [hA3] at P3
 have P4 := P3.put (dst := some 39) (hd 39 (by omega)) (v := .slice (some ⟨g, 0, none⟩) l.length cc) (r := .any) .any
 rw [hA4] at P4
 have P5 := P4.put (dst := some 40) (hd 40 (by omega)) (v := .int .i64 (m : Nat)) (r := .any) .any
 rw [hA5] at P5
 have P6 := P5.put (dst := some 41) (hd 41 (by omega)) (v := .slice (some ⟨g, 0, none⟩) m cc) (r := .any) .any
 rw [hA6] at P6
 have P7 := P6.put (dst := some 4) (hd 4 (by omega)) (v := .slice (some ⟨g, 0, none⟩) m cc) (r := .own 4200) (.own (by simp))
 have P8 := P7.weak (fr' := [(4, .own 4200)]) fun i => by
  simp only [putF, look]
  by_cases e : i = 4
  ·exact .inl (by simp [e])
  ·exact .inr (by simp [e])
 rw [q3] at h
 exact h hG m0 _ _ _ hn P8
end
attribute [local irreducible] AW AWY vops vopsY vop vopL vdraw callW qop binQ lenQ storeQ appendQ callQ ACalls AIter
attribute [local go_sem] wrI_eq enW_eq wA_eq storeQ_bp storeQ_rp
section
variable (f : FuncId) (C D : List IV) (p : Write → Bool) (hp : ∀ x, ACalls Tryz.prog TzTab f [wA x, .ip C, .ip D] (.val (.bool (p x))) [])
include hp
theorem idxw_call (l : List Write) : ACalls Tryz.prog TzTab 159 [.iv (wrI l), .fn f [.ip C, .ip D]] (.val (.int .i64 (if l.any p = true then ((l.findIdx p : Nat) : Int) else -1))) [] := by
 refine ACalls.of (n := 19) (rs := [.tmp 4]) Tryz.func159 rfl (by kernel_rfl) Tryz.ntmps159 (by kernel_rfl) (by simp) (fun _ _ => TzTab.later) ?_
 intro hok V w0
 have hlen : l.length ≤ 1073741824 := by simpa [wrI] using hok.1.1
 refine g ?_
 repeat' refine st_ rfl (g ?_)
 refine AW.loop (fun m : {m : Nat // m ≤ l.length ∧ ∀ x ∈ l.take m, p x = false} => ⟨[(0, .iv (wrI l)), (1, .fn f [.ip C, .ip D]), (7, .val (.int .i64 (l.length : Nat))), (8, .val (.int .i64 (m.1 : Nat)))], []⟩) (fun m => l.length - m.1) ⟨0, Nat.zero_le _, fun x hx => by simp at hx⟩ id ⟨⟨rfl, rfl, rfl, rfl, trivial⟩, trivial, List.nodup_nil⟩ fun ⟨m, hm, ht⟩ => ?_
 refine g ?_
 repeat' (first | refine st_ rfl (g ?_) | refine cond_d (fun h => g ?_) (fun h => g ?_) | refine cond_ (fun h => g ?_) (fun h => g ?_) | refine ix_ (by omega) (g ?_) | refine call_ (hp _) rfl (g ?_))
 ·have hlt : m < l.length := by omega
  rw [if_pos (List.any_eq_true.2 ⟨_, List.getElem_mem hlt, h⟩), (List.findIdx_eq hlt).2 ⟨h, fun j hj => ht _ (List.mem_take_iff_getElem.2 ⟨j, by omega, rfl⟩)⟩]
 ·refine ⟨⟨m + 1, by omega, fun x hx => ?_⟩, id, ⟨⟨rfl, rfl, rfl, rfl, trivial⟩, trivial, List.nodup_nil⟩, by show l.length - (m + 1) < l.length - m; omega⟩
  rw [List.take_succ_eq_append_getElem (by omega)] at hx
  rcases List.mem_append.1 hx with h1 | h1
  ·exact ht x h1
  ·rw [List.mem_singleton.1 h1]; exact h
 ·obtain rfl : m = l.length := by omega
  rw [List.take_length] at ht
  rw [if_neg]
  rw [List.any_eq_true]
  rintro ⟨x, hx, hp⟩
  rw [ht x hx] at hp
  cases hp
structure DelI (p : Write → Bool) (l : List Write) where
 i : Nat
 j : Nat
 M : List Write
 hj : j ≤ l.length
 hij : i < j
 hl : M.length = l.length
 ht : M.take i = (l.take j).filter fun x => !p x
 hd : M.drop j = l.drop j
set_option maxRecDepth 100000 in
set_option maxHeartbeats 1600000 in
theorem delw_call (l : List Write) (hbig : l.length ≤ 1073741824) (hI : ∀ x ∈ l, I64 x.stamp.count ∧ I64 x.stamp.node ∧ I64 x.object) : TCalls Tryz.prog TzTab 70 [.own 1, .fn f [.ip C, .ip D]] (.own 0) [.row 1 55 4 (l.map enW)] [.row 0 55 4 ((l.filter fun x => !p x).map enW)] [] [] := by
  refine TCalls.of [] (n := 42) (rs := [.tmp 4]) Tryz.func70 rfl (by kernel_rfl) Tryz.ntmps70 (by kernel_rfl) (by simp) trivial rfl rfl fun hok V w0 F => ?_
  have hidx := idxw_call f C D p hp l
  refine g ?_
  repeat' refine st_ rfl (g ?_)
  refine call_l hidx (by simp [okBk]) rfl (fun _ h => by cases h) (Sbs.rfl_ _) rfl (g ?_)
  cases ha : l.any p with
  | false =>
    have hfil : (l.filter fun x => !p x) = l := List.filter_eq_self.2 fun x hx => by
      have := List.any_eq_false.1 ha x hx
      simpa using this
    rw [hfil, if_neg (by decide)]
    refine g ?_
    repeat' refine st_ rfl (g ?_)
    exact ⟨fun b => if b = 0 then 1 else b, fun _ _ _ h => h, trivial, ⟨rfl, rfl⟩, by simp⟩
  | true =>
    obtain ⟨i0, hi0⟩ : ∃ i0, l.findIdx p = i0 := ⟨_, rfl⟩
    have hlt0 : i0 < l.length := by rw [← hi0]; exact List.findIdx_lt_length.2 (List.any_eq_true.1 ha)
    have hp0 : p l[i0] = true := by
      have := List.findIdx_getElem (p := p) (xs := l) (w := by rw [hi0]; exact hlt0)
      simpa only [hi0] using this
    have hbef : ∀ x ∈ l.take i0, p x = false := fun x hx => by
      obtain ⟨j, hj, rfl⟩ := List.mem_take_iff_getElem.1 hx
      have := List.not_of_lt_findIdx (p := p) (xs := l) (i := j) (by omega)
      simpa using this
    have hstart : l.take i0 = (l.take (i0 + 1)).filter fun x => !p x := by
      rw [List.take_succ_eq_append_getElem hlt0, List.filter_append, List.filter_eq_self.2 fun x hx => by simp [hbef x hx]]
      simp [hp0]
    rw [if_pos rfl, hi0]
    refine g ?_
    repeat' refine st_ rfl (g ?_)
    refine AW.loop (fun x : DelI p l => ⟨[(0, .own 1), (1, .fn f [.ip C, .ip D]), (5, .val (.int .i64 (x.i : Nat))), (6, .val (.int .i64 (x.j : Nat)))], [.row 1 55 4 (x.M.map enW), .opq 99 F]⟩) (fun x => l.length - x.j) ⟨i0, i0 + 1, l, hlt0, by omega, rfl, hstart, rfl⟩ id ⟨⟨rfl, rfl, rfl, rfl, trivial⟩, ⟨rfl, rfl, trivial⟩, by simp [idsOf, BA.id]⟩ fun ⟨i, j, M, hj, hij, hl, ht, hd⟩ => ?_
    simp only
    repeat (refine AW.seq ?_)
    refine AW.reg rfl fun KK hKK => ?_
    refine g ?_
    repeat' (refine hKK _ (g ?_); clear hKK KK)
    repeat (refine AW.seq ?_)
    refine st_ rfl ?_
    refine g ?_
    refine cond_ (fun h => ?_) (fun h => ?_)
    · have hlt : j < M.length := by simpa using h
      have hltl : j < l.length := by omega
      obtain ⟨x, hx⟩ : ∃ x, l[j] = x := ⟨_, rfl⟩
      have hMj : M[j]? = some x := by
        have := congrArg (fun L => L[0]?) hd
        simp only [List.getElem?_drop, Nat.add_zero] at this
        rw [this, ← hx]
        exact List.getElem?_eq_getElem hltl
      have hgj := get_map (f := enW) hMj
      have hMi : M[i]? = some M[i] := List.getElem?_eq_getElem (by omega)
      have hgi := get_map (f := enW) hMi
      obtain ⟨o1, o2, o3⟩ := hI x (hx ▸ List.getElem_mem hltl)
      have hnext : M.drop (j + 1) = l.drop (j + 1) := by
        have := congrArg (List.drop 1) hd
        rwa [List.drop_drop, List.drop_drop] at this
      refine g ?_
      repeat' refine st_ rfl (g ?_)
      refine ⟨by omega, by omega, ?_⟩
      refine g ?_
      repeat' refine hold_ (g ?_)
      refine ⟨_, hgj, ?_⟩
      refine g ?_
      repeat' (first | refine st_ rfl (g ?_) | refine hold_ (g ?_) | refine cond_ (fun h => g ?_) (fun h => g ?_) | refine call_ (hp x) rfl (g ?_))
      · have hq : p x = false := by simpa using h
        refine ⟨by omega, by omega, ?_⟩
        refine g ?_
        repeat' refine hold_ (g ?_)
        refine ⟨_, _, rfl, ⟨o1, o2, o3, trivial, trivial⟩, hgi, ?_⟩
        refine g ?_
        repeat' (first | refine st_ rfl (g ?_) | refine hold_ (g ?_))
        refine ⟨⟨i + 1, j + 1, M.set i x, hltl, by omega, by simp [hl], ?_, ?_⟩, id, ⟨⟨rfl, rfl, rfl, rfl, trivial⟩, ⟨?_, rfl, trivial⟩, by simp [idsOf, BA.id]⟩, by show l.length - (j + 1) < l.length - j; omega⟩
        · rw [List.take_succ_eq_append_getElem hltl, List.filter_append, ← ht, hx, List.take_succ_eq_append_getElem (by simp; omega), List.getElem_set_self, List.take_set_of_le (Nat.le_refl _)]
          simp [hq]
        · rw [List.drop_set_of_lt (by omega)]; exact hnext
        · simp only [List.map_set]
          rfl
      · have hq : p x = true := by simpa using h
        refine ⟨⟨i, j + 1, M, hltl, by omega, hl, ?_, hnext⟩, id, ⟨⟨rfl, rfl, rfl, rfl, trivial⟩, ⟨rfl, rfl, trivial⟩, by simp [idsOf, BA.id]⟩, by show l.length - (j + 1) < l.length - j; omega⟩
        rw [List.take_succ_eq_append_getElem hltl, List.filter_append, ← ht, hx]
        simp [hq]
    · obtain rfl : j = l.length := by have : ¬ j < M.length := by simpa using h
                                      omega
      refine AW.exit ?_
      simp only [reduceIte]
      rw [List.take_length] at ht
      refine AW.trimW (b := 1) (m := i) (l := M.map enW) rfl rfl rfl (by simp; omega) rfl rfl rfl ?_
      rw [← List.map_take, ht]
      refine g ?_
      repeat' refine st_ rfl (g ?_)
      exact ⟨fun b => if b = 0 then 4200 else b, fun _ _ _ h => h, trivial, ⟨rfl, rfl⟩, by simp⟩
end
end Go.Proofs.YtkphfdmelfhnoaaGreatDoor
namespace Go.Proofs.YtkphfdmelfhnoaaGreatDoor
open Go.ChangeShapes Go.WideShapes Go.ChangeAt Go.RowKit
theorem infoBodyRow : (Tryz.prog.info? 51).map (fun i => (i.zero.map (·.cells.size), i.size, i.bytes)) = some (some 4, 4, 48) := by kernel_rfl
theorem zeroBodyOne : (Tryz.prog.info? 51).map (fun i => i.zero.map (fun z => z.cells.all (·.oneCell'))) = some (some true) := by kernel_rfl
set_option maxRecDepth 100000 in
set_option maxHeartbeats 1600000 in
theorem deleteBody {α : Type} {R : List Value → α → Prop} (h1 : ∀ cs x, R cs x → ∀ u ∈ cs, u.oneCell' = true) (l : List α) (i n c g : Nat) (w : World) (base : Nat) (h : OwnSl R 4 w base 51 (.slice (some ⟨g, 0, none⟩) n c) l) (hi : i < l.length) :
  Calls Tryz.prog 79 #[.slice (some ⟨g, 0, none⟩) n c, .int .i64 i, .int .i64 ((i : Int) + 1)] w fun e w' => e = .returned (.slice (some ⟨g, 0, none⟩) (n - 1) c) ∧ OwnSl R 4 w' base 51 (.slice (some ⟨g, 0, none⟩) (n - 1) c) (l.take i ++ l.drop (i + 1)) ∧ w.grownBy w' (some g) := by
 obtain ⟨i0, z0, hi0, hz0, hzs, hz1, hz2⟩ := info_of infoBodyRow
 have hzone : ∀ v ∈ z0.cells, v.oneCell' = true := by
  have := zeroBodyOne
  rw [hi0] at this
  simp only [Option.map_some, hz0, Option.some.injEq] at this
  intro v hv
  obtain ⟨j, hj, rfl⟩ := Array.mem_iff_getElem.1 hv
  exact (Array.all_eq_true.1 this) j hj
 obtain ⟨cur, rfl, hg1, hBk, hnc, hcm, hcs, hbig, hch⟩ := h.open_
 obtain ⟨hA, -⟩ := hch.split i (by omega)
 obtain ⟨-, hBm⟩ := hch.split (i + 1) hi
 have hAl := hA.length
 have hBl := hBm.length
 rw [show (l.take i).length = i by simp; omega] at hAl
 rw [show (l.drop (i + 1)).length = l.length - (i + 1) by simp] at hBl
 generalize hL : l.take i ++ l.drop (i + 1) = L
 have hLn : L.length = l.length - 1 := by rw [← hL]; simp; omega
 have HL := Lib.hid hL
 have HLn := Lib.hid hLn
 have hBc : ∀ j u, ((cur.toList.take (l.length * 4)).drop ((i + 1) * 4))[j]? = some u → w.cell? ⟨g, (i + 1) * 4 + j, none⟩ = some u := fun j u hj => by
  rw [hBk.cell]
  rw [List.getElem?_drop, List.getElem?_take] at hj
  split at hj
  ·simpa using hj
  ·cases hj
 have hone2 : ∀ v ∈ (cur.toList.take (l.length * 4)).drop ((i + 1) * 4), v.oneCell' = true := hBm.one_cell h1
 have hcurA : cur.toList.take (i * 4) = (cur.toList.take (l.length * 4)).take (i * 4) := by rw [List.take_take, Nat.min_eq_left (by omega)]
 rw [← hcurA] at hA hAl
 generalize hBB : (cur.toList.take (l.length * 4)).drop ((i + 1) * 4) = Bm at hBm hBl hBc hone2
 have hchain := hA.append hBm
 rw [hL] at hchain
 obtain ⟨C1, hC1⟩ : ∃ C1 : Array Value, C1 = (cur.toList.take (i * 4) ++ Bm ++ cur.toList.drop (i * 4 + Bm.length)).toArray := ⟨_, rfl⟩
 have hC1s : C1.size = c * 4 := by
  rw [hC1]
  simp only [List.size_toArray, List.length_append, List.length_take, List.length_drop, Array.length_toList, hcs, hBl]
  omega
 obtain ⟨C2, hC2⟩ : ∃ C2 : Array Value, C2 = (C1.toList.take ((l.length - 1) * 4) ++ (Builtin.zeroCells z0.cells 1).toList ++ C1.toList.drop ((l.length - 1) * 4 + 1 * 4)).toArray := ⟨_, rfl⟩
 have hC2s : C2.size = c * 4 := by
  rw [hC2]
  have : (Builtin.zeroCells z0.cells 1).toList.length = 4 := by simp [Builtin.zeroCells, hzs]
  simp only [List.size_toArray, List.length_append, List.length_take, List.length_drop, Array.length_toList, hC1s] at this ⊢
  omega
 have hfin : Chunks R 4 (C2.toList.take (L.length * 4)) L := by
  have e0 : (cur.toList.take (i * 4) ++ Bm).length = (l.length - 1) * 4 := by rw [List.length_append, hAl, hBl]; omega
  have e1 : C1.toList.take ((l.length - 1) * 4) = cur.toList.take (i * 4) ++ Bm := by
   rw [hC1]
   exact List.take_left' e0
  rw [hC2, hLn]
  show Chunks R 4 (List.take _ (_ ++ _ ++ _)) L
  rw [e1, List.append_assoc, List.take_left' e0]
  exact hchain
 have hap : ∀ W : World, Blk W g 51 cur → ∀ ty' cp sc (ad : Addr), (i + 1 < l.length → ad = ⟨g, (i + 1) * 4, none⟩) → cp = c → (Builtin.append_ #[25, 25] ty' #[.slice (some ⟨g, 0, none⟩) i cp, .slice (some ad) (l.length - (i + 1)) sc]).run Tryz.prog W = .ok (.slice (some ⟨g, 0, none⟩) (l.length - 1) c) (W.setRow g C1) := fun W hN ty' cp sc ad had hcp => by
  subst hcp
  have hr := run_append_room (P := Tryz.prog) W 25 ty' 51 i0 Tryz.underlying25 hi0 g i cp cur hN ad (l.length - (i + 1)) sc Bm (by rw [hz1]; exact hBl)
   (fun j u hj => by
    have hlt : i + 1 < l.length := by
     have := (List.getElem?_eq_some_iff.1 hj).1
     rw [hBl] at this
     omega
    rw [had hlt, add_at, hN.cell, ← hBk.cell]
    exact hBc j u hj) hone2 (by omega) (by rw [hz1, hBl, hcs]; omega)
  rw [hz1] at hr
  rw [hC1, hr, show i + (l.length - (i + 1)) = l.length - 1 by omega]
 have hcl : ∀ W : World, Blk W g 51 C1 → ∀ ty' cp, (Builtin.clear_ #[25] ty' #[.slice (some ⟨g, (l.length - 1) * 4, none⟩) 1 cp]).run Tryz.prog W = .ok (.tuple #[]) (W.setRow g C2) := fun W hN ty' cp => by
  rw [hC2]
  exact run_clear_rowK 4 W _ _ ty' i0 z0 g ((l.length - 1) * 4) 1 cp C1 51 Tryz.underlying25 hi0 hz0 hzs (by omega) hN (by rw [hC1s]; omega) hzone
 have HAP := Lib.hid hap
 have HCL := Lib.hid hcl
 have HFIN := Lib.hid hfin
 clear hap hcl hfin
 have B1 := hBk.drew.setRow' (cs' := C1)
 unfold maxLen at hcm
 clear hC1 hC2 hcurA hBB hLn hL h
 have hw1 : IntKind.i64.wrap ((i : Int) + 1) = (i : Int) + 1 := IntWalk.i64_in _ (by omega)
 have hb1 : (0 : Int) ≤ (i : Int) + 1 := by omega
 have htn : ((i : Int) + 1).toNat = i + 1 := by omega
 have hb3 : (i : Int) ≤ (l.length : Int) := by omega
 have hb4 : (i : Int) + 1 ≤ (l.length : Int) := by omega
 have hb5 : (i : Int) ≤ (i : Int) + 1 := by omega
 have hb6 : (l.length : Int) ≤ (c : Int) := by omega
 have hb7 : (i : Int) ≤ (c : Int) := by omega
 have hne : ((i : Int) == (i : Int) + 1) = false := by simp; omega
 have hd1 : i + 1 - i = 1 := by omega
 have hn1 : ((l.length - 1 : Nat) : Int) ≤ (l.length : Int) := by omega
 have hn2 : ¬ (c = l.length - 1) := by omega
 have hn3 : l.length - (l.length - 1) = 1 := by omega
 by_cases hcc : c = i + 1
 ·subst hcc
  have HLL := Lib.hid (show l.length = i + 1 by omega)
  go_enter Tryz.func79, Tryz.ntmps79
  go_wp2_with fail
  have HAP1 : Hid (∀ ty', (Builtin.append_ #[25, 25] ty' #[.slice (some ⟨g, 0, none⟩) i (i + 1), .slice (some ⟨g, 0, none⟩) 0 0]).run Tryz.prog w.drew = .ok (.slice (some ⟨g, 0, none⟩) (l.length - 1) (i + 1)) (w.drew.setRow g C1)) := fun ty' => by
   have := HAP.out w.drew hBk.drew ty' (i + 1) 0 ⟨g, 0, none⟩ (fun h => by have := HLL.out; omega) rfl
   rwa [show l.length - (i + 1) = 0 by have := HLL.out; omega] at this
  go_region_law (refine step_append_runK rfl _ _ 25 25 rfl (.slice (some ⟨g, 0, none⟩) i (i + 1)) (.slice (some ⟨g, 0, none⟩) 0 0) (by simp [Act.eval, Act.put]) (by simp [Act.eval, Act.put]) (HAP1.out _) ?_)
  go_wp2_with (refine wpList_clear_runK _ rfl (.tmp 31) 25 rfl _ rfl (HCL.out _ B1 _ _) ?_)
  go_ret
  exact ⟨rfl, OwnSl.shut hg1 (B1.setRow' (cs' := C2)) HLn.out.symm (by rw [HLn.out]; omega) (by unfold maxLen; omega) hC2s (by rw [HLn.out]; omega) HFIN.out, grown_trans (grown_trans (grown_drew w _) (grown_setRow _ g C1)) (grown_setRow _ g C2)⟩
 ·go_enter Tryz.func79, Tryz.ntmps79
  go_wp2_with fail
  go_region_law (refine step_append_runK rfl _ _ 25 25 rfl (.slice (some ⟨g, 0, none⟩) i c) (.slice (some ⟨g, (i + 1) * 4, none⟩) (l.length - (i + 1)) (c - (i + 1))) (by simp [Act.eval, Act.put]) (by simp [Act.eval, Act.put]) (HAP.out _ hBk.drew _ c _ _ (fun _ => rfl) rfl) ?_)
  go_wp2_with (refine wpList_clear_runK _ rfl (.tmp 31) 25 rfl _ rfl (HCL.out _ B1 _ _) ?_)
  go_ret
  exact ⟨rfl, OwnSl.shut hg1 (B1.setRow' (cs' := C2)) HLn.out.symm (by rw [HLn.out]; omega) (by unfold maxLen; omega) hC2s (by rw [HLn.out]; omega) HFIN.out, grown_trans (grown_trans (grown_drew w _) (grown_setRow _ g C1)) (grown_setRow _ g C2)⟩
attribute [local irreducible] AW AWY vops vopsY vop vopL vdraw callW qop binQ lenQ storeQ appendQ callQ ACalls AIter setI
attribute [local go_sem] enB_eq boI_eq boA_eq byI_eq enW_eq wrI_eq wA_eq enZ_eq znI_eq vwA_eq storeQ_bp storeQ_rp
set_option maxRecDepth 100000 in
set_option maxHeartbeats 1600000 in
theorem view_of (hc : ∀ (l : List Body) (room : Int), I64 room → ACalls Tryz.prog TzTab 92 [.iv (boI l), .val (.int .i64 room)] (.val (.bool (cacheFormed l room))) []) (v : View) (iR : I64 v.room) : ACalls Tryz.prog TzTab 22 [vwA v] (.val (.bool (viewFormed v))) [] := by
 refine ACalls.of (n := 62) (rs := [.cell 2 4]) Tryz.func22 rfl (by kernel_rfl) Tryz.ntmps22 (by kernel_rfl) (by simp) (fun _ _ => TzTab.later) ?_
 intro hok V w0
 have hz : v.zones.length ≤ 1073741824 := by simpa [znI] using hok.1.2.1.1
 obtain ⟨B, hB⟩ : ∃ B, viewFormed v = B := ⟨_, rfl⟩
 rw [hB]
 refine g ?_
 refine AW.seq ?_
 refine AW.reg rfl fun KK hKK => ?_
 refine g ?_
 repeat' (refine hKK _ (g ?_); clear hKK KK)
 refine AW.freeze 200 _ rfl ⟨trivial, trivial, trivial, trivial, iR, trivial⟩ ?_
 simp only [go_sem, reduceIte, Nat.reduceEqDiff]
 refine g ?_
 repeat' (first | refine st_ rfl (g ?_) | refine cond_ (fun h => g ?_) (fun h => g ?_) | (refine vops_if rfl rfl (fun h => ?_) (fun h => ?_) <;> simp only [h] <;> refine g ?_) | refine call_ (vformed_call _) rfl (g ?_) | refine call_ (zformed_call _) rfl (g ?_) | refine call_ (shformed_call _) rfl (g ?_) | refine call_ (hc _ _ iR) rfl (g ?_))
 ·rw [← hB]; simp at h; simp [viewFormed, partsB, h]
 ·rw [← hB]; simp at h; simp [viewFormed, partsB, h]
 ·rw [← hB]; simp at h; simp [viewFormed, partsB, h]
 ·rw [← hB]; simp at h; simp [viewFormed, partsB, h]
 have hP : partsB v = true := by simp at *; simp [partsB, *]
 have hH : shelfFormed v.held = true := by simp only [partsB, Bool.and_eq_true] at hP; exact hP.1.2
 refine AW.loop (fun m : {m : Nat // m ≤ v.zones.length ∧ ∀ x ∈ v.zones.take m, decide (cmpV x.vec v.known = 1) = true} => ⟨[(1, .ip [stI v.known, znI v.zones, wrI v.held, boI v.bodies, .val (.int .i64 v.room)]), (2, .bp 300 0), (32, .iv (znI v.zones)), (33, .val (.int .i64 (v.zones.length : Nat))), (34, .val (.int .i64 (m.1 : Nat)))], [.box 300 [.val (.bool false)]]⟩) (fun m => v.zones.length - m.1) ⟨0, Nat.zero_le _, fun x hx => by simp at hx⟩ id ⟨⟨rfl, rfl, rfl, rfl, rfl, trivial⟩, ⟨rfl, trivial⟩, by simp [idsOf, BA.id]⟩ fun ⟨m, hm, ht⟩ => ?_
 refine g ?_
 repeat' (first | refine st_ rfl (g ?_) | refine cond_d (fun h => g ?_) (fun h => g ?_) | refine ix_ (by omega) (g ?_) | refine call_ (vcompare_call _ _) rfl (g ?_) | refine call_ (shall_call _) rfl (g ?_))
 ·have hlt : m < v.zones.length := by omega
  rw [← hB]; simp only [viewFormed]; rw [all_no (l := v.zones) (p := fun (x : Zone) => decide (cmpV x.vec v.known = 1)) hlt (by simpa using h)]; simp
 ·exact ⟨⟨m + 1, by omega, all_step (by omega) ht (by simpa using h)⟩, id, ⟨⟨rfl, rfl, rfl, rfl, rfl, trivial⟩, ⟨rfl, trivial⟩, by simp [idsOf, BA.id]⟩, by show v.zones.length - (m + 1) < v.zones.length - m; omega⟩
 obtain rfl : m = v.zones.length := by omega
 rw [List.take_length] at ht
 have h1 : (v.zones.all fun x => decide (cmpV x.vec v.known = 1)) = true := List.all_eq_true.2 ht
 refine AW.le (S := ⟨[(2, .bp 300 0), (1, .ip [stI v.known, znI v.zones, wrI v.held, boI v.bodies, .val (.int .i64 v.room)]), (47, .fn 174 [.ip [wrI v.held]])], [.box 300 [.val (.bool false)]]⟩) (ρ := id) ⟨⟨rfl, rfl, rfl, trivial⟩, ⟨rfl, trivial⟩, by simp [idsOf, BA.id]⟩ ?_
 refine AW.range (shall_iter v.held hH) [(2, .bp 300 0)] [(1, .ip [stI v.known, znI v.zones, wrI v.held, boI v.bodies, .val (.int .i64 v.room)]), (47, .fn 174 [.ip [wrI v.held]])] (fun _ => [.box 300 [.val (.bool false)]]) (fun pre => ∀ w ∈ pre, reachedB v.zones v.known w = true) rfl (fun w hw => by cases hw) rfl rfl rfl rfl (fun x => ⟨rfl, rfl⟩) (fun k pre x hsp hI => ?_) (fun xs hS hI => ?_)
 ·simp only [parF, enWo, List.cons_append, List.nil_append]
  refine g ?_
  refine g ?_
  repeat' (first | refine st_ rfl (g ?_) | refine cond_ (fun h => g ?_) (fun h => g ?_) | refine call_ (reached_call _ _ x) rfl (g ?_))
  ·refine ⟨id, [.box 300 [.val (.bool false)]], ⟨⟨rfl, trivial⟩, ⟨rfl, trivial⟩, by simp [idsOf, BA.id]⟩, ?_⟩
   refine g ?_
   have hx : x ∈ v.held := hsp.subset (by simp)
   rw [← hB]
   simp only [viewFormed]
   rw [show (v.held.all fun w => reachedB v.zones v.known w) = false from List.all_eq_false.2 ⟨x, hx, by simpa using h⟩]
   simp
  ·refine ⟨fun w hw => ?_, id, ⟨rfl, trivial⟩, ⟨rfl, trivial⟩, by simp [idsOf, BA.id]⟩
   rcases List.mem_append.1 hw with h3 | h3
   ·exact hI w h3
   ·rw [List.mem_singleton.1 h3]; simpa using h
 ·obtain rfl : xs = v.held := hS
  have h2 : (v.held.all fun x => reachedB v.zones v.known x) = true := List.all_eq_true.2 hI
  refine g ?_
  repeat' (first | refine st_ rfl (g ?_) | refine call_ (hasfb_call _ _ _ _ (fun x => formed1_call v x hH)) rfl (g ?_))
  rw [← hB]
  simp only [viewFormed]
  rw [hP, h1, h2, List.not_any_eq_all_not]
  simp
end Go.Proofs.YtkphfdmelfhnoaaGreatDoor
namespace Go.Proofs.YtkphfdmelfhnoaaGreatDoor
open Go.ChangeShapes Go.WideShapes Go.ChangeAt Go.RowKit
attribute [local irreducible] AW AWY vops vopsY vop vopL vdraw callW qop binQ lenQ storeQ appendQ callQ ACalls AIter setI
attribute [local go_sem] enB_eq boI_eq boA_eq byI_eq storeQ_bp storeQ_rp
set_option maxRecDepth 100000 in
theorem cformed_call (l : List Body) (room : Int) (iR : I64 room) : ACalls Tryz.prog TzTab 92 [.iv (boI l), .val (.int .i64 room)] (.val (.bool (cacheFormed l room))) [] := by
 refine ACalls.of (n := 43) (rs := [.tmp 4]) Tryz.func92 rfl (by kernel_rfl) Tryz.ntmps92 (by kernel_rfl) (by simp) (fun _ _ => TzTab.later) ?_
 intro hok V w0
 have hlen : l.length ≤ 1073741824 := by simpa [boI] using hok.1.1
 obtain ⟨B, hB⟩ : ∃ B, cacheFormed l room = B := ⟨_, rfl⟩
 rw [hB]
 unfold cacheFormed roomB at hB
 refine g ?_
 repeat' (first | refine st_ rfl (g ?_) | refine cond_d (fun h => g ?_) (fun h => g ?_) | (refine vops_ifd rfl rfl (fun h e => ?_) (fun h e => ?_) <;> simp only [e] <;> clear e <;> refine g ?_))
 ·rw [← hB, decide_eq_false (p := 0 ≤ room) (by omega)]; rfl
 ·rw [← hB, decide_eq_false (p := room ≤ 16777216) (by omega)]; simp
 ·rw [← hB, decide_eq_false (p := l.length ≤ 256) (by omega)]; simp
 rw [decide_eq_true (p := 0 ≤ room) (by omega), decide_eq_true (p := room ≤ 16777216) (by omega), decide_eq_true (p := l.length ≤ 256) (by omega), Bool.true_and, Bool.true_and, Bool.true_and] at hB
 refine AW.loop (fun x : {x : Nat × List (Int × Value) // x.1 ≤ l.length ∧ onceB (l.take x.1) = true ∧ ∀ o, (kvGet x.2 o).getD (.bool false) = .bool (hasB (l.take x.1) o)} => ⟨[(0, .iv (boI l)), (1, .val (.int .i64 room)), (5, .mv 2000), (20, .iv (boI l)), (21, .val (.int .i64 (l.length : Nat))), (22, .val (.int .i64 (x.1.1 : Nat)))], [.mp 2000 .i64 x.1.2]⟩) (fun x => l.length - x.1.1) ⟨(0, []), Nat.zero_le _, rfl, fun o => rfl⟩ id ⟨⟨rfl, rfl, rfl, rfl, rfl, rfl, trivial⟩, ⟨rfl, trivial⟩, by simp [idsOf, BA.id]⟩ fun ⟨⟨m, kv⟩, hm, ht, hk⟩ => ?_
 simp only at hm ht hk
 refine g ?_
 repeat' (first | refine st_ rfl (g ?_) | refine cond_d (fun h => g ?_) (fun h => g ?_) | refine ix_ (by omega) (g ?_))
 ·have hlt : m < l.length := by omega
  refine ⟨.bool (hasB (l.take m) l[m].object), hk _, ?_⟩
  cases hh : hasB (l.take m) l[m].object
  ·refine g ?_
   repeat' (first | refine st_ rfl (g ?_) | refine hold_ (g ?_) | refine cond_ (fun h => g ?_) (fun h => g ?_) | refine call_ (bright_call _) rfl (g ?_))
   ·rw [← hB, once_no hlt ht (.inl (by simpa using h))]; rfl
   ·have hr : rightBody l[m] = true := by simpa using h
    refine ⟨⟨(m + 1, _), hlt, by rw [once_step hlt ht, hr, hh]; rfl, fun o => ?_⟩, id, ⟨⟨rfl, rfl, rfl, rfl, rfl, rfl, trivial⟩, ⟨rfl, trivial⟩, by simp [idsOf, BA.id]⟩, by show l.length - (m + 1) < l.length - m; omega⟩
    rw [kvGet_put, hasB_snoc hlt]
    by_cases e : o = l[m].object
    ·rw [if_pos e, e]; simp
    ·rw [if_neg e, hk o, decide_eq_false (fun e' => e e'.symm), Bool.or_false]
  ·refine g ?_
   repeat' (first | refine st_ rfl (g ?_) | refine hold_ (g ?_))
   rw [← hB, once_no hlt ht (.inr hh)]; rfl
 ·obtain rfl : m = l.length := by omega
  rw [List.take_length] at ht
  refine call_ (used_call l (by omega) fun x hx => (rightBody_in (once_right ht x hx)).2.2) rfl ?_
  refine g ?_
  repeat' refine st_ rfl (g ?_)
  rw [← hB, ht]; rfl
end Go.Proofs.YtkphfdmelfhnoaaGreatDoor
namespace Go.Proofs.YtkphfdmelfhnoaaGreatDoor
open Go.ChangeShapes Go.WideShapes Go.ChangeAt Go.RowKit
theorem bridge_clone {P : Program} {G : World → Prop} {f : FuncId} {fn : Func} {c : Code} {k T : Nat} {l : List (List IV)} (hf : P.funcs[f]? = some fn) (hb : fn.body = some c) (hname : (fn.name == "runtime.NumGoroutine") = false)
  (h : ∀ (V w : World) (v : Value), Ext V w → Sl (RepVs V) k V V.heap.size v l → Calls P f #[v] w fun e w' => (∃ v', e = .returned v' ∧ OwnSl (RepVs V) k w' w.heap.size T v' l) ∧ Below w.heap.size w w') : ACalls P G f [.iv (.sl k l)] (.own 0) [.row 0 T k l] :=
 ⟨enters_f hf hb hname, fun V w E vs hV hG hr => by
  obtain ⟨v0, rfl, hv0⟩ := args1 hr
  have hs : Sl (RepVs V) k V V.heap.size v0 l := by cases hv0 with | iv h => exact h.to_sl
  refine (h V w v0 hV hs).mono fun _ w' ⟨⟨v, he, hO⟩, hb⟩ => ?_
  obtain ⟨A, n, cc, hv⟩ : ∃ A n cc, v = .slice A n cc := by
   obtain ⟨A, cc, hv, _⟩ := hO.sl
   exact ⟨A, _, cc, hv⟩
  have ho : owns ⟨fun _ => (v.ownBlock).getD 0, fun _ => v⟩ [.row 0 T k l] = v.ownBlock.toList := by simp [owns, BA.owned]
  refine ⟨v, ⟨fun _ => (v.ownBlock).getD 0, fun _ => v⟩, he, hb, by rw [ho]; cases v.ownBlock <;> simp, fun g hg => by rw [ho, Option.mem_toList] at hg; exact (hO.lt g hg).1, fun b hb' => ?_, ?_⟩
  ·simp only [List.mem_singleton] at hb'
   subst hb'
   refine ⟨hO.mono fun cs x h => ?_, fun g hg => by simp [hg]⟩
   rw [ho]
   exact RepVs.ext (vis_v hV hb) h
  ·rw [hv]
   exact .own rfl⟩
theorem infoTBytes : (Tryz.prog.info? 5).map (fun i => (i.zero.map (·.cells.size), i.size, i.bytes)) = some (some 1, 1, 1) := by kernel_rfl
theorem cloneTBytes (l : List (List IV)) (v : Value) (V : World) (w : World) (hV : Ext V w) (h : Sl (RepVs V) 1 V V.heap.size v l) :
  Calls Tryz.prog 182 #[v] w fun e w' => (∃ v', e = .returned v' ∧ OwnSl (RepVs V) 1 w' w.heap.size 5 v' l) ∧ Below w.heap.size w w' := by
 have hle := h.len_le
 obtain ⟨i0, z0, hi, hz0, hzs, hz1, hz2⟩ := info_of infoTBytes
 obtain ⟨A, c, rfl, -, -, hne⟩ := id h
 have he := fun (w : World) (a : Option Addr) (n c : Nat) => Lib.run_eql_slice_nil (P := Tryz.prog) w 45 5 a n c 0 0 Tryz.underlying45
 cases A with
 | none =>
  obtain rfl : l = [] := by
   rcases l with _ | ⟨y, l⟩
   ·rfl
   ·obtain ⟨b, off, h1, _⟩ := hne (by simp)
    cases h1
  clear hne h
  go_enter Tryz.func182, Tryz.ntmps182
  go_wp2_with fail
  go_ret
  exact ⟨⟨_, rfl, OwnSl.nil_ _ _ _⟩, Below.refl _ _⟩
 | some A =>
  have HH := Lib.hid (Sl.ext h (fun _ _ h => h) hV)
  clear hne h
  go_enter Tryz.func182, Tryz.ntmps182
  go_wp2_with (at_builtin; refine wpList_append_sl _ (fun cs x h => RepVs.one h) rfl (.tmp 5) (.tmp 6) 45 rfl w.heap.size 5 i0 _ 1 Tryz.underlying45 hi hz0 hz1 hz2 hzs (by omega) _ [] rfl (ownEmptyRow (R := (RepVs V)) (k := 1) w 5) w.heap.size _ l rfl (HH.out.keep (fun _ _ h => h) (Nat.le_refl _) (fun p hp => World.cell?_alloc_lt _ _ _ hp)) (by simp only [List.length_nil]; omega) (by omega) (by simp) ?_; intro v1 w1 hown hgr hat)
  simp only [List.nil_append] at hown
  have hb1 : Below w.heap.size w w1 := (balloc (Below.refl _ _)).grown hgr (by simp) (fun k hk => Nat.le_of_eq (Option.some.inj hk))
  have H1 := Lib.hid hown
  clear hown hgr hat hi hz0 hz1 hz2 hzs
  go_wp2_with fail
  go_ret
  exact ⟨⟨_, rfl, H1.out⟩, hb1⟩
theorem infoTBodies : (Tryz.prog.info? 51).map (fun i => (i.zero.map (·.cells.size), i.size, i.bytes)) = some (some 4, 4, 48) := by kernel_rfl
theorem cloneTBodies (l : List (List IV)) (v : Value) (V : World) (w : World) (hV : Ext V w) (h : Sl (RepVs V) 4 V V.heap.size v l) :
  Calls Tryz.prog 178 #[v] w fun e w' => (∃ v', e = .returned v' ∧ OwnSl (RepVs V) 4 w' w.heap.size 51 v' l) ∧ Below w.heap.size w w' := by
 have hle := h.len_le
 obtain ⟨i0, z0, hi, hz0, hzs, hz1, hz2⟩ := info_of infoTBodies
 obtain ⟨A, c, rfl, -, -, hne⟩ := id h
 have he := fun (w : World) (a : Option Addr) (n c : Nat) => Lib.run_eql_slice_nil (P := Tryz.prog) w 25 51 a n c 0 0 Tryz.underlying25
 cases A with
 | none =>
  obtain rfl : l = [] := by
   rcases l with _ | ⟨y, l⟩
   ·rfl
   ·obtain ⟨b, off, h1, _⟩ := hne (by simp)
    cases h1
  clear hne h
  go_enter Tryz.func178, Tryz.ntmps178
  go_wp2_with fail
  go_ret
  exact ⟨⟨_, rfl, OwnSl.nil_ _ _ _⟩, Below.refl _ _⟩
 | some A =>
  have HH := Lib.hid (Sl.ext h (fun _ _ h => h) hV)
  clear hne h
  go_enter Tryz.func178, Tryz.ntmps178
  go_wp2_with (at_builtin; refine wpList_append_sl _ (fun cs x h => RepVs.one h) rfl (.tmp 5) (.tmp 6) 25 rfl w.heap.size 51 i0 _ 48 Tryz.underlying25 hi hz0 hz1 hz2 hzs (by omega) _ [] rfl (ownEmptyRow (R := (RepVs V)) (k := 4) w 51) w.heap.size _ l rfl (HH.out.keep (fun _ _ h => h) (Nat.le_refl _) (fun p hp => World.cell?_alloc_lt _ _ _ hp)) (by simp only [List.length_nil]; omega) (by omega) (by simp) ?_; intro v1 w1 hown hgr hat)
  simp only [List.nil_append] at hown
  have hb1 : Below w.heap.size w w1 := (balloc (Below.refl _ _)).grown hgr (by simp) (fun k hk => Nat.le_of_eq (Option.some.inj hk))
  have H1 := Lib.hid hown
  clear hown hgr hat hi hz0 hz1 hz2 hzs
  go_wp2_with fail
  go_ret
  exact ⟨⟨_, rfl, H1.out⟩, hb1⟩
theorem cloneby_call (l : List Nat) : ACalls Tryz.prog TzTab 182 [.iv (byI l)] (.iv (byI l)) [] :=
 (bridge_clone (l := l.map fun (b : Nat) => [.val (.int .u8 b)]) Tryz.func182 rfl (by kernel_rfl) fun V w v hV h => cloneTBytes _ v V w hV h).frz trivial
theorem clonebo_call (l : List Body) : ACalls Tryz.prog TzTab 178 [.iv (boI l)] (.iv (boI l)) [] :=
 (bridge_clone (l := l.map enB) Tryz.func178 rfl (by kernel_rfl) fun V w v hV h => cloneTBodies _ v V w hV h).frz trivial
set_option maxRecDepth 100000 in
theorem delb_call (l : List Body) (i : Nat) (hi : i < l.length) : TCalls Tryz.prog TzTab 79 [.own 1, .val (.int .i64 i), .val (.int .i64 ((i : Int) + 1))] (.own 0) [.row 1 51 4 (l.map enB)] [.row 0 51 4 ((l.take i ++ l.drop (i + 1)).map enB)] [] [] := by
 refine TCalls.row (r := id) Tryz.func79 rfl (by kernel_rfl) (fun E X v' ⟨A, n, c, hv⟩ he => by subst hv; exact .own he) fun X w E v vs base hX hb hG h hh hvs => ?_
 obtain ⟨u0, u1, rfl, q0, q1⟩ : ∃ u0 u1, vs = [u0, u1] ∧ RepA E X u0 (.val (.int .i64 i)) ∧ RepA E X u1 (.val (.int .i64 ((i : Int) + 1))) := by
  obtain ⟨u0, vs', e, h1, h2⟩ := RepAs.cons_iff.1 hvs
  obtain ⟨u1, vs'', e', h1', h2'⟩ := RepAs.cons_iff.1 h2
  rw [RepAs.nil_iff.1 h2'] at e'
  exact ⟨u0, u1, by rw [e, e'], h1, h1'⟩
 cases q0
 cases q1
 rcases h.forms with ⟨_, h0⟩ | ⟨g, c, rfl, hg1, hg2⟩
 ·have : l.length = 0 := by simpa using congrArg List.length h0
  omega
 have hcall := deleteBody (R := RepVs X) (fun cs x h => RepVs.one h) (l.map enB) i _ c g w base h (by simpa using hi)
 refine hcall.mono ?_
 rintro e w' ⟨rfl, r1, r2⟩
 refine ⟨_, rfl, ?_, r2, .inl rfl⟩
 rw [List.map_append, List.map_take, List.map_drop]
 exact r1
attribute [local irreducible] AW AWY vops vopsY vop vopL vdraw callW qop binQ lenQ storeQ appendQ callQ ACalls AIter
attribute [local go_sem] enB_eq boI_eq boA_eq byI_eq storeQ_bp storeQ_rp
set_option maxRecDepth 100000 in
theorem twin_call (x : Body) : ACalls Tryz.prog TzTab 166 [boA x] (boA x) [] := by
 refine ACalls.of (n := 8) (rs := [.cell 2 51]) Tryz.func166 rfl (by kernel_rfl) Tryz.ntmps166 (by kernel_rfl) (by simp) (fun _ _ => TzTab.later) ?_
 intro hok V w0
 refine g ?_
 repeat' (first | refine st_ rfl (g ?_) | exact trivial | refine call_ (cloneby_call _) rfl (g ?_))
set_option maxRecDepth 100000 in
theorem forget_call (l : List Body) (o : Int) : ACalls Tryz.prog TzTab 75 [.iv (boI l), .val (.int .i64 o)] (.own 0) [.row 0 51 4 ((forgetB l o).map enB)] := by
 refine ACalls.ofS (n := 25) (rs := [.tmp 4]) Tryz.func75 rfl (by kernel_rfl) Tryz.ntmps75 (by kernel_rfl) (by simp) (fun _ _ => TzTab.later) ?_
 intro hok V w0
 have hlen : l.length ≤ 1073741824 := by simpa [boI] using hok.1.1
 refine g ?_
 repeat' refine st_ rfl (g ?_)
 refine AW.adopt 5 9900 51 4 rfl rfl ?_
 refine AW.loop (fun m : {m : Nat // m ≤ l.length} => ⟨[(1, .val (.int .i64 o)), (5, .own 9900), (8, .iv (boI l)), (9, .val (.int .i64 (l.length : Nat))), (10, .val (.int .i64 (m.1 : Nat)))], [.row 9900 51 4 ((forgetB (l.take m.1) o).map enB)]⟩) (fun m => l.length - m.1) ⟨0, Nat.zero_le _⟩ id ⟨⟨rfl, rfl, rfl, ?_, rfl, trivial⟩, ⟨rfl, trivial⟩, by simp [idsOf, BA.id]⟩ fun ⟨m, hm⟩ => ?_
 ·simp [AV.ren, look]
 simp only
 have hfl : (forgetB (l.take m) o).length ≤ m := by
  have := List.length_filter_le (fun x : Body => !decide (x.object = o)) (l.take m)
  rw [List.length_take] at this
  unfold forgetB
  omega
 repeat (refine AW.seq ?_)
 refine AW.reg rfl fun KK hKK => ?_
 refine g ?_
 repeat' (refine hKK _ (g ?_); clear hKK KK)
 repeat (refine AW.seq ?_)
 refine st_ rfl ?_
 refine g ?_
 refine cond_ (fun h => ?_) (fun h => ?_)
 ·have hlt : m < l.length := by have := of_decide_eq_true h; omega
  obtain ⟨-, o1, o2, o3, -⟩ := okR_mem (by simpa [boI] using hok.1.2) (enB l[m]) (List.mem_map_of_mem (List.getElem_mem hlt))
  have hs : forgetB (l.take (m + 1)) o = forgetB (l.take m) o ++ if l[m].object = o then [] else [l[m]] := by
   unfold forgetB
   rw [List.take_succ_eq_append_getElem hlt, List.filter_append]
   by_cases e : l[m].object = o <;> simp [e]
  refine g ?_
  repeat' (first | refine st_ rfl (g ?_) | refine cond_d (fun h => g ?_) (fun h => g ?_) | refine ix_ (by omega) (g ?_) | refine call_ (twin_call _) rfl (g ?_))
  ·refine bs1 (by omega) rfl rfl rfl ⟨o1, o2, o3, trivial, trivial⟩ ?_
   refine g ?_
   refine append_own rfl (by kernel_rfl) (by omega) (by kernel_rfl) rfl (by simp; omega) ?_
   refine g ?_
   repeat' refine st_ rfl (g ?_)
   refine ⟨⟨m + 1, hlt⟩, fun b => if b = 9900 then 2300 else b, ⟨⟨rfl, rfl, rfl, rfl, rfl, trivial⟩, ⟨?_, trivial⟩, by simp [idsOf, BA.id]⟩, by show l.length - (m + 1) < l.length - m; omega⟩
   rw [hs, if_neg h, List.map_append]
   rfl
  ·refine ⟨⟨m + 1, hlt⟩, id, ⟨⟨rfl, rfl, rfl, rfl, rfl, trivial⟩, ⟨?_, trivial⟩, by simp [idsOf, BA.id]⟩, by show l.length - (m + 1) < l.length - m; omega⟩
   rw [hs, if_pos (Decidable.of_not_not h), List.append_nil]
   rfl
 ·obtain rfl : m = l.length := by have := of_decide_eq_false h; omega
  rw [List.take_length]
  refine g ?_
  repeat' refine st_ rfl (g ?_)
  exact ⟨fun b => if b = 0 then 9900 else b, fun _ _ _ h => h, rfl, by simp⟩
theorem isb_call (x : Body) (o : Int) (s : Stamp) : ACalls Tryz.prog TzTab 181 [boA x, .ip [.val (.int .i64 o)], .ip [.val (.int .i64 s.count), .val (.int .i64 s.node)]] (.val (.bool (isB o s x))) [] := by
 refine ACalls.of (n := 15) (rs := [.tmp 4]) Tryz.func181 rfl (by kernel_rfl) Tryz.ntmps181 (by kernel_rfl) (by simp) (fun _ _ => TzTab.later) ?_
 intro hok V w0
 obtain ⟨B, hB⟩ : ∃ B, isB o s x = B := ⟨_, rfl⟩
 rw [hB]
 unfold isB at hB
 rw [stamp_dec] at hB
 refine g ?_
 repeat' (first | refine st_ rfl (g ?_) | (refine vops_ifd rfl rfl (fun h e => ?_) (fun h e => ?_) <;> simp only [e] <;> clear e <;> refine g ?_))
 ·refine ⟨_, fun u => stamp_eq _ _ _ _ _ _ u, ?_⟩
  refine g ?_
  repeat' (first | refine st_ rfl (g ?_) | refine hold_ (g ?_))
  rw [← hB, h]
  simp
 ·rw [← hB, decide_eq_false h]
  rfl
set_option maxRecDepth 100000 in
theorem idxb2_call (l : List Body) (f : FuncId) (C D : List IV) (p : Body → Bool) (hp : ∀ x, ACalls Tryz.prog TzTab f [boA x, .ip C, .ip D] (.val (.bool (p x))) []) : ACalls Tryz.prog TzTab 76 [.iv (boI l), .fn f [.ip C, .ip D]] (.val (.int .i64 (if l.any p = true then ((l.findIdx p : Nat) : Int) else -1))) [] := by
 refine ACalls.of (n := 19) (rs := [.tmp 4]) Tryz.func76 rfl (by kernel_rfl) Tryz.ntmps76 (by kernel_rfl) (by simp) (fun _ _ => TzTab.later) ?_
 intro hok V w0
 have hlen : l.length ≤ 1073741824 := by simpa [boI] using hok.1.1
 refine g ?_
 repeat' refine st_ rfl (g ?_)
 refine AW.loop (fun m : {m : Nat // m ≤ l.length ∧ ∀ x ∈ l.take m, p x = false} => ⟨[(0, .iv (boI l)), (1, .fn f [.ip C, .ip D]), (7, .val (.int .i64 (l.length : Nat))), (8, .val (.int .i64 (m.1 : Nat)))], []⟩) (fun m => l.length - m.1) ⟨0, Nat.zero_le _, fun x hx => by simp at hx⟩ id ⟨⟨rfl, rfl, rfl, rfl, trivial⟩, trivial, List.nodup_nil⟩ fun ⟨m, hm, ht⟩ => ?_
 refine g ?_
 repeat' (first | refine st_ rfl (g ?_) | refine cond_d (fun h => g ?_) (fun h => g ?_) | refine cond_ (fun h => g ?_) (fun h => g ?_) | refine ix_ (by omega) (g ?_) | refine call_ (hp _) rfl (g ?_))
 ·have hlt : m < l.length := by omega
  rw [if_pos (List.any_eq_true.2 ⟨_, List.getElem_mem hlt, h⟩), (List.findIdx_eq hlt).2 ⟨h, fun j hj => ht _ (List.mem_take_iff_getElem.2 ⟨j, by omega, rfl⟩)⟩]
 ·refine ⟨⟨m + 1, by omega, fun x hx => ?_⟩, id, ⟨⟨rfl, rfl, rfl, rfl, trivial⟩, trivial, List.nodup_nil⟩, by show l.length - (m + 1) < l.length - m; omega⟩
  rw [List.take_succ_eq_append_getElem (by omega)] at hx
  rcases List.mem_append.1 hx with h1 | h1
  ·exact ht x h1
  ·rw [List.mem_singleton.1 h1]; exact h
 ·obtain rfl : m = l.length := by omega
  rw [List.take_length] at ht
  rw [if_neg]
  rw [List.any_eq_true]
  rintro ⟨x, hx, hp⟩
  rw [ht x hx] at hp
  cases hp
theorem find_at {α : Type} {p : α → Bool} {l : List α} (h : l.any p = true) : ∃ hl : l.findIdx p < l.length, p l[l.findIdx p] = true ∧ l.find? p = some l[l.findIdx p] := by
 have hl : l.findIdx p < l.length := List.findIdx_lt_length.2 (List.any_eq_true.1 h)
 refine ⟨hl, List.findIdx_getElem (w := hl), ?_⟩
 obtain ⟨m, hm⟩ : ∃ m, l.findIdx p = m := ⟨_, rfl⟩
 have h1 := List.findIdx_getElem (p := p) (xs := l) (w := hl)
 have h2 : ∀ x ∈ l.take m, p x = false := fun x hx => by
  obtain ⟨j, hj, rfl⟩ := List.mem_take_iff_getElem.1 hx
  have := List.not_of_lt_findIdx (p := p) (xs := l) (i := j) (by omega)
  simpa using this
 simp only [hm] at hl h1 ⊢
 conv => lhs; rw [← List.take_append_drop m l, List.drop_eq_getElem_cons hl]
 rw [List.find?_append, List.find?_eq_none.2 fun x hx => by rw [h2 x hx]; simp, Option.none_or]
 simp only [List.find?_cons, h1]
set_option maxRecDepth 100000 in
theorem cget_call (l : List Body) (o : Int) (s : Stamp) (i0 : I64 o) (i1 : I64 s.count) (i2 : I64 s.node) : ACalls Tryz.prog TzTab 110 [.iv (boI l), .val (.int .i64 o), .agg [.val (.int .i64 s.count), .val (.int .i64 s.node)]] (.tup [.iv (byI (getB l o s).1), .val (.int .i64 (getB l o s).2)]) [] := by
 refine ACalls.ofS (n := 20) (rs := [.tmp 6, .tmp 7]) Tryz.func110 rfl (by kernel_rfl) Tryz.ntmps110 (by kernel_rfl) (by simp) (fun _ _ => TzTab.later) ?_
 intro hok V w0
 have hlen : l.length ≤ 1073741824 := by simpa [boI] using hok.1.1
 obtain ⟨R, hR⟩ : ∃ R, getB l o s = R := ⟨_, rfl⟩
 rw [hR]
 unfold getB at hR
 have hidx := idxb2_call l 181 [.val (.int .i64 o)] [.val (.int .i64 s.count), .val (.int .i64 s.node)] (isB o s) fun x => isb_call x o s
 refine g ?_
 refine AW.seq ?_
 refine AW.reg rfl fun KK hKK => ?_
 refine g ?_
 repeat' (refine hKK _ (g ?_); clear hKK KK)
 refine AW.freeze 500 _ rfl ⟨i0, trivial⟩ ?_
 simp only [go_sem, reduceIte, Nat.reduceEqDiff]
 refine AW.freeze 600 _ rfl ⟨i1, i2, trivial⟩ ?_
 simp only [go_sem, reduceIte, Nat.reduceEqDiff]
 cases ha : l.any (isB o s) with
 | false =>
  rw [ha, if_neg (by decide)] at hidx
  have hn : l.find? (isB o s) = none := List.find?_eq_none.2 fun x hx => by simpa using List.any_eq_false.1 ha x hx
  rw [hn] at hR
  subst hR
  refine g ?_
  repeat' (first | refine st_ rfl (g ?_) | refine call_ (hidx) rfl (g ?_))
  refine tup_sub rfl fun p hp => ?_
  simp only [List.zip_cons_cons, List.zip_nil_right, List.mem_cons, List.not_mem_nil, or_false] at hp
  rcases hp with rfl | rfl
  ·exact nil_sub 1
  ·exact Sub1.rfl_ _
 | true =>
  obtain ⟨hl, hp1, hf⟩ := find_at ha
  rw [ha, if_pos rfl] at hidx
  rw [hf] at hR
  simp only at hR
  subst hR
  generalize l.findIdx (isB o s) = m at hl hp1 hf hidx ⊢
  refine g ?_
  repeat' (first | refine st_ rfl (g ?_) | refine ix_ (by omega) (g ?_) | refine call_ (hidx) rfl (g ?_) | refine call_ (cloneby_call _) rfl (g ?_))
  exact Sub1.rfl_ _
theorem fit_step {room : Int} {l : List Body} {k : Nat} (h : k < l.length) (hu : ¬ (usedS (l.drop k) : Int) ≤ room) : fitB room (l.drop k) = fitB room (l.drop (k + 1)) := by
 have e : l.drop k = l[k] :: l.drop (k + 1) := List.drop_eq_getElem_cons h
 rw [e] at hu ⊢
 rw [fitB, if_neg hu]
theorem fit_stop {room : Int} : ∀ {l : List Body}, (usedS l : Int) ≤ room → fitB room l = l
 | [], _ => rfl
 | x :: l, h => by rw [fitB, if_pos h]
theorem used_drop {l : List Body} {k : Nat} (h : k < l.length) : usedS (l.drop k) = l[k].value.length + usedS (l.drop (k + 1)) := by
 unfold usedS
 rw [List.drop_eq_getElem_cons h, List.map_cons, List.sum_cons]
set_option maxRecDepth 100000 in
set_option maxHeartbeats 1600000 in
theorem cput_call (l : List Body) (room : Int) (x : Body) (iR : I64 room) (i0 : I64 x.object) (i1 : I64 x.stamp.count) (i2 : I64 x.stamp.node) : ACalls Tryz.prog TzTab 105 [.iv (boI l), .val (.int .i64 room), boA x] (.tup [.iv (boI (putB l room x).1), .val (.int .i64 (putB l room x).2)]) [] := by
 refine ACalls.ofS (n := 47) (rs := [.tmp 6, .tmp 7]) Tryz.func105 rfl (by kernel_rfl) Tryz.ntmps105 (by kernel_rfl) (by simp) (fun _ _ => TzTab.later) ?_
 intro hok V w0
 have hlen : l.length ≤ 1073741824 := by simpa [boI] using hok.1.1
 obtain ⟨R, hR⟩ : ∃ R, putB l room x = R := ⟨_, rfl⟩
 rw [hR]
 unfold putB at hR
 refine g ?_
 refine AW.seq ?_
 refine AW.reg rfl fun KK hKK => ?_
 refine g ?_
 repeat' (refine hKK _ (g ?_); clear hKK KK)
 refine AW.freeze 600 _ rfl ⟨i0, i1, i2, trivial, trivial⟩ ?_
 simp only [go_sem, reduceIte, Nat.reduceEqDiff]
 have hno : ∀ {q : List Body × Int}, q = ([], 1) → Sub1 (.tup [.val (.slice none 0 0), .val (.int .i64 1)]) (.tup [.iv (boI q.1), .val (.int .i64 q.2)]) := fun {q} e => by
  subst e
  refine tup_sub rfl fun p hp => ?_
  simp only [List.zip_cons_cons, List.zip_nil_right, List.mem_cons, List.not_mem_nil, or_false] at hp
  rcases hp with rfl | rfl
  ·exact nil_sub 4
  ·exact Sub1.rfl_ _
 refine g ?_
 repeat' (first | refine st_ rfl (g ?_) | refine cond_ (fun h => g ?_) (fun h => g ?_) | (refine vops_if rfl rfl (fun h => ?_) (fun h => ?_) <;> simp only [h] <;> refine g ?_) | refine call_ (cformed_call l room iR) rfl (g ?_) | refine call_ (bright_call x) rfl (g ?_))
 ·rw [if_neg (by rintro ⟨a, _⟩; simp [a] at h)] at hR
  exact hno hR.symm
 ·rw [if_neg (by rintro ⟨_, a⟩; simp [a] at h)] at hR
  exact hno hR.symm
 rename_i h1
 have hc : cacheFormed l room = true := by simpa using h1
 have hb : rightBody x = true := by simpa using h
 rw [if_pos ⟨hc, hb⟩] at hR
 subst hR
 simp only [cacheFormed, roomB, Bool.and_eq_true, decide_eq_true_eq] at hc
 obtain ⟨⟨⟨⟨c1, c2⟩, c3⟩, c4⟩, c5⟩ := hc
 have hcv := once_right c4
 obtain ⟨O, hO⟩ : ∃ O, forgetB l x.object ++ [x] = O := ⟨_, rfl⟩
 have hfl : (forgetB l x.object).length ≤ 256 := Nat.le_trans (List.length_filter_le _ _) c3
 have hOl : O.length ≤ 257 := by rw [← hO]; simp; omega
 have hOv : ∀ y ∈ O, y.value.length ≤ 256 := fun y hy => by
  rw [← hO] at hy
  rcases List.mem_append.1 hy with hy | hy
  ·exact (rightBody_in (hcv y (List.mem_filter.1 hy).1)).2.2
  ·rw [List.mem_singleton.1 hy]; exact (rightBody_in hb).2.2
 refine AW.drawn (ds := [20, 21, 22, 23, 24, 25, 26, 27, 8]) (fin := [1, 2]) (bs := [0, 0, 0, 0, 1, 1, 1, 2, 3]) [⟨[], [], [], [], 0⟩, ⟨[], [], [], [], 0⟩, ⟨[(21, 1)], [], [], [], 0⟩, ⟨[(20, 0), (22, 2)], [], [], [], 1⟩, ⟨[], [], [], [], 0⟩, ⟨[(24, 4)], [], [0], [], 0⟩, ⟨[(25, 5)], [], [], [], 1⟩, ⟨[(23, 3), (26, 6)], [], [1], [0], 1⟩, ⟨[(27, 7)], [], [], [], 0⟩] (by kernel_rfl) rfl (by kernel_rfl) rfl rfl rfl fun KD hKD => ?_
 refine g ?_
 repeat' (first | refine call_ (forget_call l x.object) rfl (g ?_) | refine call_ (twin_call x) rfl (g ?_))
 refine bs1 (by omega) rfl rfl rfl ⟨i0, i1, i2, trivial, trivial⟩ ?_
 refine g ?_
 refine append_own rfl (by kernel_rfl) (by omega) (by kernel_rfl) rfl (by simp; omega) ?_
 refine g ?_
 repeat' (refine hKD _ _ ⟨rfl, g ?_⟩; clear hKD KD)
 have eO : List.map enB (forgetB l x.object) ++ [[.val (.int .i64 x.object), .val (.int .i64 x.stamp.count), .val (.int .i64 x.stamp.node), byI x.value]] = O.map enB := by rw [← hO, List.map_append]; rfl
 simp only [byI_eq] at eO
 rw [eO]
 refine AW.freeze 2800 _ rfl trivial ?_
 simp only [go_sem, reduceIte, Nat.reduceEqDiff]
 refine g ?_
 repeat' (first | refine st_ rfl (g ?_) | refine call_ (used_call O (by omega) hOv) rfl (g ?_))
 refine AW.loop (fun m : {m : Nat // m ≤ O.length ∧ fitB room O = fitB room (O.drop m)} => ⟨[(1, .val (.int .i64 room)), (8, .iv (boI O)), (9, .val (.int .i64 (usedS (O.drop m.1) : Nat))), (10, .val (.int .i64 (m.1 : Nat)))], []⟩) (fun m => O.length - m.1) ⟨0, Nat.zero_le _, rfl⟩ id ⟨⟨rfl, rfl, rfl, rfl, trivial⟩, trivial, List.nodup_nil⟩ fun ⟨m, hm, ht⟩ => ?_
 have hu := used_le (O.drop m) fun x hx => hOv x (List.mem_of_mem_drop hx)
 rw [List.length_drop] at hu
 by_cases hlt : m < O.length
 ·have hv := hOv O[m] (List.getElem_mem hlt)
  have hs := used_drop hlt
  refine g ?_
  repeat' (first | refine st_ rfl (g ?_) | refine cond_d (fun h => g ?_) (fun h => g ?_) | refine ix_ (by omega) (g ?_))
  ·refine ⟨⟨m + 1, hlt, ht.trans (fit_step hlt (by omega))⟩, id, ⟨⟨rfl, rfl, ?_, rfl, trivial⟩, trivial, List.nodup_nil⟩, by show O.length - (m + 1) < O.length - m; omega⟩
   simp [look, AV.ren]
   omega
  ·refine ⟨m, O.length, rfl, rfl, hm, Nat.le_refl _, ?_⟩
   have eS : ((O.map enB).take O.length).drop m = (fitB room O).map enB := by
    rw [ht, fit_stop (by omega), List.take_of_length_le (by simp), List.map_drop]
   rw [eS]
   refine g ?_
   repeat' (first | refine st_ rfl (g ?_) | refine hold_ (g ?_) | refine call_ (clonebo_call (fitB room O)) rfl (g ?_))
   rw [hO]
   exact Sub1.rfl_ _
 ·obtain rfl : m = O.length := by omega
  have hs0 : usedS (O.drop O.length) = 0 := by rw [List.drop_length]; rfl
  refine g ?_
  repeat' (first | refine st_ rfl (g ?_) | refine cond_d (fun h => g ?_) (fun h => g ?_) | refine ix_ (by omega) (g ?_))
  ·exfalso
   omega
  ·refine ⟨O.length, O.length, rfl, rfl, hm, Nat.le_refl _, ?_⟩
   have eS : ((O.map enB).take O.length).drop O.length = (fitB room O).map enB := by
    rw [ht, fit_stop (by omega), List.take_of_length_le (by simp), List.map_drop]
   rw [eS]
   refine g ?_
   repeat' (first | refine st_ rfl (g ?_) | refine hold_ (g ?_) | refine call_ (clonebo_call (fitB room O)) rfl (g ?_))
   rw [hO]
   exact Sub1.rfl_ _
end Go.Proofs.YtkphfdmelfhnoaaGreatDoor
namespace Go.Proofs.YtkphfdmelfhnoaaGreatDoor
open Go.ChangeShapes Go.WideShapes Go.ChangeAt Go.RowKit
attribute [local irreducible] AW AWY vops vopsY vop vopL vdraw callW qop binQ lenQ storeQ appendQ callQ ACalls AIter setI
attribute [local go_sem] vwA_eq storeQ_bp storeQ_rp
def sinceVT (v : View) (it : List Span) : List Stamp := if viewFormed v = true then sinceT v.zones v.known it else []
end Go.Proofs.YtkphfdmelfhnoaaGreatDoor
namespace Go.Proofs.YtkphfdmelfhnoaaGreatDoor
open Go.ChangeShapes Go.WideShapes Go.ChangeAt Go.RowKit
attribute [local irreducible] AW AWY vops vopsY vop vopL vdraw callW qop binQ lenQ storeQ appendQ callQ ACalls AIter setI
theorem vform_call (v : View) (iR : I64 v.room) : ACalls Tryz.prog TzTab 22 [vwA v] (.val (.bool (viewFormed v))) [] := view_of (fun l r h => cformed_call l r h) v iR
end Go.Proofs.YtkphfdmelfhnoaaGreatDoor
namespace Go.Proofs.YtkphfdmelfhnoaaGreatDoor
open Go.ChangeShapes Go.WideShapes Go.ChangeAt Go.RowKit
attribute [local irreducible] AW AWY vops vopsY vop vopL vdraw callW qop binQ lenQ storeQ appendQ callQ ACalls AIter
attribute [local go_sem] enZ_eq znI_eq enB_eq boI_eq boA_eq byI_eq enW_eq wrI_eq wA_eq vwA_eq noteA_eq storeQ_bp storeQ_rp
theorem keepw_call (z : List Zone) (k : List Stamp) (w : Write) : ACalls Tryz.prog TzTab 72 [wA w, .ip [znI z], .ip [stI k]] (.val (.bool (!reachedB z k w))) [] := by
 refine ACalls.of (n := 10) (rs := [.tmp 4]) Tryz.func72 rfl (by kernel_rfl) Tryz.ntmps72 (by kernel_rfl) (by simp) (fun _ _ => TzTab.later) ?_
 intro hok V w0
 refine g ?_
 repeat' (first | refine st_ rfl (g ?_) | exact trivial | refine call_ (reached_call _ _ _) rfl (g ?_))
theorem sameo_call (w : Write) (x : Body) : ACalls Tryz.prog TzTab 77 [boA x, .ip (enW w)] (.val (.bool (decide (x.object = w.object)))) [] := by
 refine ACalls.of (n := 9) (rs := [.tmp 3]) Tryz.func77 rfl (by kernel_rfl) Tryz.ntmps77 (by kernel_rfl) (by simp) (fun _ _ => TzTab.later) ?_
 intro hok V w0
 refine g ?_
 repeat' (first | refine st_ rfl (g ?_) | exact trivial)
theorem view_no {q : View × Int} {e : Int} (h : q = (noView, e)) : Sub1 (.tup [.agg [.val (.slice none 0 0), .val (.slice none 0 0), .val (.slice none 0 0), .val (.slice none 0 0), .val (.int .i64 0)], .val (.int .i64 e)]) (.tup [vwA q.1, .val (.int .i64 q.2)]) := by
 subst h
 refine tup_sub rfl fun p hp => ?_
 simp only [List.zip_cons_cons, List.zip_nil_right, List.mem_cons, List.not_mem_nil, or_false] at hp
 rcases hp with rfl | rfl
 ·refine agg_sub rfl fun p hp => ?_
  simp only [List.zip_cons_cons, List.zip_nil_right, List.mem_cons, List.not_mem_nil, or_false] at hp
  rcases hp with rfl | rfl | rfl | rfl | rfl
  ·exact nil_sub 2
  ·exact nil_sub 3
  ·exact nil_sub 4
  ·exact nil_sub 4
  ·exact Sub1.rfl_ _
 ·exact Sub1.rfl_ _
set_option maxRecDepth 100000 in
set_option maxHeartbeats 3200000 in
theorem vtake_call (v : View) (n : Note) (iR : I64 v.room) : ACalls Tryz.prog TzTab 18 [vwA v, noteA n] (.tup [vwA (takeV v n).1, .val (.int .i64 (takeV v n).2)]) [] := by
 refine ACalls.ofS (n := 85) (rs := [.cell 4 27, .tmp 5]) Tryz.func18 rfl (by kernel_rfl) Tryz.ntmps18 (by kernel_rfl) (by simp) (fun _ _ => TzTab.later) ?_
 intro hok V w0
 obtain ⟨R, hR⟩ : ∃ R, takeV v n = R := ⟨_, rfl⟩
 rw [hR]
 unfold takeV at hR
 have hwl : n.writes.length ≤ 1073741824 := by simpa [wrI] using hok.2.1.2.2.2.1.1
 refine g ?_
 refine AW.seq ?_
 refine AW.reg rfl fun KK hKK => ?_
 refine g ?_
 repeat' (refine hKK _ (g ?_); clear hKK KK)
 refine AW.freeze 300 _ rfl ⟨trivial, trivial, trivial, trivial, iR, trivial⟩ ?_
 simp only [go_sem, reduceIte, Nat.reduceEqDiff]
 refine AW.freeze 400 _ rfl ⟨trivial, trivial, trivial, trivial, trivial⟩ ?_
 simp only [go_sem, reduceIte, Nat.reduceEqDiff]
 refine g ?_
 repeat' (first | refine st_ rfl (g ?_) | refine cond_ (fun h => g ?_) (fun h => g ?_) | refine call_ (vform_call v iR) rfl (g ?_))
 ·rw [if_neg (by simpa using h)] at hR
  exact view_no hR.symm
 have hF : viewFormed v = true := by simpa using h
 rw [if_pos hF] at hR
 obtain ⟨T, hT⟩ : ∃ T, takeZ v.zones v.known n = T := ⟨_, rfl⟩
 have htk := ttake_call v.zones v.known n
 rw [hT] at htk hR
 obtain ⟨Z, K, e⟩ := T
 simp only at htk hR
 refine call_ htk rfl (g ?_)
 refine g ?_
 refine AW.freeze 700 _ rfl ⟨trivial, trivial⟩ ?_
 simp only [go_sem, reduceIte, Nat.reduceEqDiff]
 refine AW.freeze 800 _ rfl ⟨trivial, trivial⟩ ?_
 simp only [go_sem, reduceIte, Nat.reduceEqDiff]
 refine g ?_
 repeat' (first | refine st_ rfl (g ?_) | refine cond_d (fun h => g ?_) (fun h => g ?_) | refine call_ (clonew_call _) rfl (g ?_))
 ·rw [if_neg h] at hR
  exact view_no hR.symm
 obtain rfl : e = 0 := by simpa using h
 rw [if_pos rfl] at hR
 have hfl : (n.writes.filter fun x => !!reachedB Z K x) = toldW Z K n := by simp [toldW]
 have hdel := delw_call 72 [znI Z] [stI K] (fun w => !reachedB Z K w) (keepw_call Z K) n.writes hwl fun x hx => by
  obtain ⟨-, o1, o2, o3, -⟩ := okR_mem (by simpa [wrI] using hok.2.1.2.2.2.1.2) (enW x) (List.mem_map_of_mem hx)
  exact ⟨o1, o2, o3⟩
 simp only [hfl] at hdel
 have hoI : ∀ x ∈ toldW Z K n, I64 x.stamp.count ∧ I64 x.stamp.node ∧ I64 x.object := fun x hx => by
  obtain ⟨-, o1, o2, o3, -⟩ := okR_mem (by simpa [wrI] using hok.2.1.2.2.2.1.2) (enW x) (List.mem_map_of_mem (List.mem_filter.1 hx).1)
  exact ⟨o1, o2, o3⟩
 refine call_t [] [.box 500 [.val (.slice none 0 0), .val (.slice none 0 0), .val (.slice none 0 0), .val (.slice none 0 0), .val (.int .i64 0)]] (fun _ => 3600) hdel rfl rfl rfl (g ?_)
 have htr : (toldW Z K n).all rightW = true := List.all_eq_true.2 told_right
 have hend := stayB_end (z := Z) (k := K) (n := n) hF
 have honce := view_once hF
 have hhf : shelfFormed v.held = true := by
  simp only [viewFormed, partsB, Bool.and_eq_true] at hF
  exact hF.1.1.1.1.2
 have hput := shput_call v.held (toldW Z K n)
 unfold putS at hput
 rw [if_pos ⟨hhf, htr⟩] at hput
 have hHf : shelfFormed (putL v.held (toldW Z K n)) = true := shelf_iff.2 (putL_shelf (shelf_iff.1 hhf) told_right)
 obtain ⟨told, htold⟩ : ∃ told, toldW Z K n = told := ⟨_, rfl⟩
 rw [htold] at hput hend hHf hR hoI ⊢
 obtain ⟨H, hH⟩ : ∃ H, putL v.held told = H := ⟨_, rfl⟩
 rw [hH] at hput hend hHf hR
 have htl : told.length ≤ 1073741824 := by rw [← htold]; exact Nat.le_trans (List.length_filter_le _ _) hwl
 refine g ?_
 refine AW.freeze 3800 _ rfl trivial ?_
 simp only [go_sem, reduceIte, Nat.reduceEqDiff]
 have hfg := forget_call v.bodies (-1)
 rw [view_forget hF] at hfg
 refine g ?_
 repeat' (first | refine st_ rfl (g ?_) | refine call_ (hput) rfl (g ?_) | refine call_ (hfg) rfl (g ?_))
 refine AW.loop (fun m : {m : Nat // m ≤ told.length} => ⟨[(2, .ip [stI v.known, znI v.zones, wrI v.held, boI v.bodies, .val (.int .i64 v.room)]), (4, .bp 500 0), (6, .ip [znI Z]), (7, .ip [stI K]), (10, .iv (wrI H)), (11, .own 5200), (52, .iv (wrI told)), (53, .val (.int .i64 (told.length : Nat))), (54, .val (.int .i64 (m.1 : Nat)))], [.row 5200 51 4 ((stayB H (told.take m.1) v.bodies).map enB), .box 500 [.val (.slice none 0 0), .val (.slice none 0 0), .val (.slice none 0 0), .val (.slice none 0 0), .val (.int .i64 0)]]⟩) (fun m => told.length - m.1) ⟨0, Nat.zero_le _⟩ id ⟨⟨rfl, rfl, rfl, rfl, rfl, rfl, rfl, ?_, rfl, trivial⟩, ⟨?_, rfl, trivial⟩, by simp [idsOf, BA.id]⟩ fun ⟨m, hm⟩ => ?_
 ·simp [AV.ren, look]
 ·rw [List.take_zero, stayB_nil]
  rfl
 simp only
 repeat (refine AW.seq ?_)
 refine AW.reg rfl fun KK hKK => ?_
 refine g ?_
 repeat' (refine hKK _ (g ?_); clear hKK KK)
 repeat (refine AW.seq ?_)
 refine st_ rfl ?_
 refine g ?_
 refine cond_ (fun h => ?_) (fun h => ?_)
 ·have hlt : m < told.length := by have := of_decide_eq_true h; omega
  have hs := stayB_snoc H (told.take m) told[m] v.bodies
  rw [← List.take_succ_eq_append_getElem hlt] at hs
  have hon := stayB_once (H := H) (t := told.take m) honce
  have hLl : (stayB H (told.take m) v.bodies).length ≤ 256 := Nat.le_trans (List.length_filter_le _ _) (view_len hF)
  obtain ⟨L, hL⟩ : ∃ L, stayB H (told.take m) v.bodies = L := ⟨_, rfl⟩
  rw [hL] at hs hon hLl ⊢
  obtain ⟨w, hw⟩ : ∃ w, told[m] = w := ⟨_, rfl⟩
  have hget := get_map (f := enW) (List.getElem?_eq_getElem hlt)
  rw [hw] at hs hget
  have hidx := idxb_call L 77 (enW w) (fun x => decide (x.object = w.object)) fun x => sameo_call w x
  obtain ⟨o1, o2, o3⟩ := hoI w (hw ▸ List.getElem_mem hlt)
  refine st_ rfl (g ?_)
  refine AW.seq ?_
  refine AW.block ?_
  repeat (refine AW.seq ?_)
  refine AW.reg rfl fun KK hKK => ?_
  refine g ?_
  refine ⟨by omega, _, hget, ?_⟩
  refine g ?_
  repeat' (first | refine hold_ (g ?_) | (refine hKK _ (g ?_); clear hKK KK))
  refine AW.freeze 1400 _ rfl ⟨o1, o2, o3, trivial, trivial⟩ ?_
  simp only [go_sem, reduceIte, Nat.reduceEqDiff]
  cases ha : L.any fun x => decide (x.object = w.object) with
  | false =>
   rw [keep_none ha] at hs
   rw [ha, if_neg (by decide)] at hidx
   refine g ?_
   repeat' refine st_ rfl (g ?_)
   refine call_l hidx (by simp [okBk, okAs]; exact ⟨trivial, rfl⟩) rfl (fun _ h => by cases h) (Sbs.rfl_ _) rfl (g ?_)
   refine g ?_
   repeat' refine st_ rfl (g ?_)
   refine ⟨⟨m + 1, hlt⟩, id, ⟨⟨rfl, rfl, rfl, rfl, rfl, rfl, rfl, rfl, rfl, trivial⟩, ⟨?_, rfl, trivial⟩, by simp [idsOf, BA.id]⟩, by show told.length - (m + 1) < told.length - m; omega⟩
   rw [hs]
   rfl
  | true =>
   obtain ⟨hl, hp1, hf⟩ := find_at ha
   rw [ha, if_pos rfl] at hidx
   generalize L.findIdx (fun x => decide (x.object = w.object)) = i at hl hp1 hf hidx
   rw [keep_one (q := wantedB H) hon hl (of_decide_eq_true hp1)] at hs
   have hgi := get_map (f := enB) (List.getElem?_eq_getElem hl)
   refine g ?_
   repeat' refine st_ rfl (g ?_)
   refine call_l hidx (by simp [okBk, okAs]; exact ⟨trivial, rfl⟩) rfl (fun _ h => by cases h) (Sbs.rfl_ _) rfl (g ?_)
   refine g ?_
   repeat' refine st_ rfl (g ?_)
   refine ⟨by omega, hl, ?_⟩
   refine g ?_
   repeat' refine hold_ (g ?_)
   refine ⟨_, hgi, ?_⟩
   refine g ?_
   repeat' (first | refine st_ rfl (g ?_) | refine hold_ (g ?_) | refine cond_ (fun h => g ?_) (fun h => g ?_) | refine call_ (wanted_call H L[i] hHf) rfl (g ?_))
   ·have hq : ¬ wantedB H L[i] = true := by simpa using h
    rw [if_neg hq] at hs
    refine call_t [] [.box 500 [.val (.slice none 0 0), .val (.slice none 0 0), .val (.slice none 0 0), .val (.slice none 0 0), .val (.int .i64 0)]] (fun _ => 5200) (delb_call L i hl) rfl rfl rfl (g ?_)
    refine g ?_
    repeat' refine st_ rfl (g ?_)
    refine ⟨⟨m + 1, hlt⟩, fun b => if b = 5200 then 7700 else b, ⟨⟨rfl, rfl, rfl, rfl, rfl, rfl, rfl, rfl, rfl, trivial⟩, ⟨?_, rfl, trivial⟩, by simp [idsOf, BA.id]⟩, by show told.length - (m + 1) < told.length - m; omega⟩
    rw [hs]
    rfl
   ·have hq : wantedB H L[i] = true := by simpa using h
    rw [if_pos hq] at hs
    refine ⟨⟨m + 1, hlt⟩, id, ⟨⟨rfl, rfl, rfl, rfl, rfl, rfl, rfl, rfl, rfl, trivial⟩, ⟨?_, rfl, trivial⟩, by simp [idsOf, BA.id]⟩, by show told.length - (m + 1) < told.length - m; omega⟩
    rw [hs]
    rfl
 ·obtain rfl : m = told.length := by have := of_decide_eq_false h; omega
  rw [List.take_length, hend]
  refine AW.exit ?_
  simp only [reduceIte]
  refine AW.freeze 5200 _ rfl trivial ?_
  simp only [go_sem, reduceIte, Nat.reduceEqDiff]
  refine g ?_
  repeat' refine st_ rfl (g ?_)
  subst hR
  exact Sub1.rfl_ _
end Go.Proofs.YtkphfdmelfhnoaaGreatDoor
