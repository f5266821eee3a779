/- The law SessionHears: walked. -/
import Derived.Test.YtmdeokneablgaaaDoorAlive17
import Derived.Test.YtmdeokneablgaaaDoorHearRef
import Derived.Test.YtmdeokneablgaaaDoorSubsSame
namespace Go.Proofs.YtmdeokneablgaaaDoor
open Go.ChangeShapes Go.WideShapes Go.ChangeAt Go.RowKit

theorem BW.ret {P : Program} {f : FuncId} {args : Array Value} {W : World} {z : BW W} {r : List Sub × Int} {Q : Ending → World → Prop} {V : World} (hV : Ext V z.val) (h : Calls P f args z.val fun e w' => RetSubs r V z.val e w')
    (k : ∀ (z' : BW W) (v : Value), Subs z'.val z'.val.heap.size v r.1 → Below z.val.heap.size z.val z'.val → Q (.returned (.tuple #[v, .int .i64 r.2])) z'.val) : Calls P f args z.val Q :=
  h.mono fun _ _ ⟨v, he, hs, hb⟩ => he ▸ k (z.to hb) v (Subs.ext hs (mix_ext_w hV hb)) hb
theorem BW.callB {P : Program} {f : FuncId} {args : Array Value} {W : World} {z : BW W} {v v' : Value} {Q : Ending → World → Prop} (h : Calls P f args z.val fun e w' => e = .returned v ∧ Below z.val.heap.size z.val w')
    (hv : v = v') (k : ∀ z' : BW W, Below z.val.heap.size z.val z'.val → Q (.returned v') z'.val) : Calls P f args z.val Q :=
  h.mono fun _ _ ⟨he, hb⟩ => he ▸ hv ▸ k (z.to hb) hb
theorem BW.own {P : Program} {f : FuncId} {args : Array Value} {W : World} {z : BW W} {V : World} (hV : Ext V z.val) {e : TypeId} {l : List Sub} {Q : Ending → World → Prop} (h : Calls P f args z.val fun e' w' => (∃ v', e' = .returned v' ∧ OwnSubs V z.val w' z.val.heap.size e v' l) ∧ Below z.val.heap.size z.val w')
    (k : ∀ (z' : BW W) (v : Value), Subs z'.val z'.val.heap.size v l → Below z.val.heap.size z.val z'.val → Q (.returned v) z'.val) : Calls P f args z.val Q :=
  h.mono fun _ _ ⟨⟨v, he, hs⟩, hb⟩ => he ▸ k (z.to hb) v (Subs.ext (OwnN.sl hs extSub (Nat.le_refl _)) (mix_ext_w hV hb)) hb

theorem subsFrom_set : ∀ {l : List Sub} {e : Int} {i : Nat} {x y : Sub}, subsFrom e l = true → l[i]? = some x → y.from_ = x.from_ → y.interest = x.interest → numB y.session = true → numB y.seq = true → subsFrom e (l.set i y) = true
  | [], _, _, _, _, _, hx, _, _, _, _ => by simp at hx
  | z :: l, e, 0, x, y, h, hx, h1, h2, h3, h4 => by
    simp at hx
    subst hx
    simp only [subsFrom, Bool.and_eq_true, decide_eq_true_eq] at h
    simp only [List.set_cons_zero, subsFrom, Bool.and_eq_true, decide_eq_true_eq]
    rw [h1, h2]
    exact ⟨⟨⟨⟨h.1.1.1.1, h.1.1.1.2⟩, h3⟩, h4⟩, h.2⟩
  | z :: l, e, i + 1, x, y, h, hx, h1, h2, h3, h4 => by
    simp only [subsFrom, Bool.and_eq_true, decide_eq_true_eq] at h
    simp only [List.set_cons_succ, subsFrom, Bool.and_eq_true, decide_eq_true_eq]
    exact ⟨h.1, subsFrom_set h.2 (by simpa using hx) h1 h2 h3 h4⟩
theorem hearS_formed {l : List Sub} {m : Msg} (h : (hearS l m).2 = 0) : subsFormed (hearS l m).1 = true := by
  by_cases hok : hearOk l m = true
  · rw [hearS, if_pos hok] at h ⊢
    cases hi : l.findIdx? (isSess m) with
    | none => simp [hi] at h
    | some i =>
      cases hs : l[i]? with
      | none => simp [hi, hs] at h
      | some s =>
        simp only [hi, hs] at h ⊢
        by_cases g1 : m.seq < s.seq
        · simp [hearAt, g1] at h
        by_cases g2 : s.seq < m.seq
        · simp [hearAt, g1, g2] at h
        rw [hearAt, if_neg g1, if_neg g2]
        simp only [hearOk, Bool.and_eq_true] at hok
        have hf := hok.1.1
        obtain ⟨n1, n2, _⟩ := subsFormed_num hf (List.mem_of_getElem? hs)
        simp only [subsFormed, Bool.and_eq_true] at hf ⊢
        refine ⟨subsFrom_set hf.1 hs rfl rfl n2 ?_, by rw [List.length_set]; exact hf.2⟩
        show numB (nextN m.seq) = true
        simp only [numB, decide_eq_true_eq] at n1
        unfold numB nextN
        exact decide_eq_true (by omega)
  · rw [hearS, if_neg hok] at h
    simp at h

set_option maxRecDepth 100000 in
set_option maxHeartbeats 3200000 in
theorem lawHears (m : Msg) (l : List Sub) (n : Int) (v vi vv vn vb : Value) (w : World) (h : Subs w w.heap.size v l) (hI : MsgI m) (hM : MsgV w w.heap.size vi vv vn vb m) (hT : TzTab w) :
    Calls Tryd.prog 4 #[v, .agg (msgCells vi vv vn vb m), .int .i64 n] w fun e w' => e = .returned (.bool true) ∧ Below w.heap.size w w' := by
  have hle := h.len_le
  have HH := Lib.hid h
  have HM := Lib.hid hM
  have HI := Lib.hid hI
  have HT := Lib.hid hT
  obtain ⟨A, c, rfl, -⟩ := id h
  obtain ⟨A1, c1, rfl, -⟩ := id hM.interest
  obtain ⟨A2, c2, rfl, -⟩ := id hM.vector
  obtain ⟨A3, c3, rfl, -⟩ := id hM.notes
  obtain ⟨A4, c4, rfl, -⟩ := id hM.value
  clear h hM hI hT
  have HC1 := Lib.hid (fun (W : World) (z : BW W) (vo : Value) (kB : Below w.heap.size w W) (ho : Subs z.val z.val.heap.size vo l) => sessionHear m l vo _ _ _ _ z.val z.val (Ext.refl _) ho HI.out ((HM.out.next kB).next z.below) ((HT.out.next kB).next z.below))
  have HC2 := Lib.hid (fun (W : World) (z : BW W) (kB : Below w.heap.size w W) => refHear m l _ _ _ _ _ z.val z.val (Ext.refl _) ((HH.out.next kB).next z.below) HI.out ((HM.out.next kB).next z.below))
  have HF := Lib.hid (fun h : (hearS l m).2 = 0 => hearS_formed h)
  generalize hr : hearS l m = res at HC1 HC2 HF
  obtain ⟨rl, rc⟩ := res
  clear hr
  generalize hr : failS l n = res2
  have HR2 := Lib.hid hr
  obtain ⟨fl, fc⟩ := res2
  clear hr
  generalize hr : subsFormed l = r3
  have HR3 := Lib.hid hr
  clear hr
  dsimp only [msgCells] at *
  obtain ⟨kd, fr, tt, se, sq, li, lv, ln, ⟨bo, ⟨bc, bn⟩, lb⟩⟩ := m
  dsimp only at *
  go_enter Tryd.func4, Tryd.ntmps4
  go_wp2_with fail
  have kB := balloc (o := .cells #[.int .i64 kd, .int .i64 fr, .int .i64 tt, .int .i64 se, .int .i64 sq, .slice A1 li.length c1, .slice A2 lv.length c2, .slice A3 ln.length c3, .int .i64 bo, .int .i64 bc, .int .i64 bn, .slice A4 lb.length c4] 42) (Below.refl _ w)
  have B := Blk.new w 42 #[.int .i64 kd, .int .i64 fr, .int .i64 tt, .int .i64 se, .int .i64 sq, .slice A1 li.length c1, .slice A2 lv.length c2, .slice A3 ln.length c3, .int .i64 bo, .int .i64 bc, .int .i64 bn, .slice A4 lb.length c4]
  generalize hW : w.alloc _ = W at *
  have HB := Lib.hid B
  clear hW B
  have q0 : ∀ z : BW W, z.val.cell? ⟨w.heap.size, 0, none⟩ = some (.int .i64 kd) := fun z => z.cell (HB.out.cell 0)
  have q1 : ∀ z : BW W, z.val.cell? ⟨w.heap.size, 1, none⟩ = some (.int .i64 fr) := fun z => z.cell (HB.out.cell 1)
  have q2 : ∀ z : BW W, z.val.cell? ⟨w.heap.size, 2, none⟩ = some (.int .i64 tt) := fun z => z.cell (HB.out.cell 2)
  have q3 : ∀ z : BW W, z.val.cell? ⟨w.heap.size, 3, none⟩ = some (.int .i64 se) := fun z => z.cell (HB.out.cell 3)
  have q4 : ∀ z : BW W, z.val.cell? ⟨w.heap.size, 4, none⟩ = some (.int .i64 sq) := fun z => z.cell (HB.out.cell 4)
  have q5 : ∀ z : BW W, z.val.cell? ⟨w.heap.size, 5, none⟩ = some (.slice A1 li.length c1) := fun z => z.cell (HB.out.cell 5)
  have q6 : ∀ z : BW W, z.val.cell? ⟨w.heap.size, 6, none⟩ = some (.slice A2 lv.length c2) := fun z => z.cell (HB.out.cell 6)
  have q7 : ∀ z : BW W, z.val.cell? ⟨w.heap.size, 7, none⟩ = some (.slice A3 ln.length c3) := fun z => z.cell (HB.out.cell 7)
  have q8 : ∀ z : BW W, z.val.cell? ⟨w.heap.size, 8, none⟩ = some (.int .i64 bo) := fun z => z.cell (HB.out.cell 8)
  have q9 : ∀ z : BW W, z.val.cell? ⟨w.heap.size, 9, none⟩ = some (.int .i64 bc) := fun z => z.cell (HB.out.cell 9)
  have q10 : ∀ z : BW W, z.val.cell? ⟨w.heap.size, 10, none⟩ = some (.int .i64 bn) := fun z => z.cell (HB.out.cell 10)
  have q11 : ∀ z : BW W, z.val.cell? ⟨w.heap.size, 11, none⟩ = some (.slice A4 lb.length c4) := fun z => z.cell (HB.out.cell 11)
  refine BW.start (w := W) ?_
  intro z
  refine BW.call (z := z) (alive17 _ ((HT.out.next kB).next z.below)) ?_
  intro z0
  go_wp2_with fail
  refine BW.own (z := z0) (Ext.refl _) (refOwn l _ _ _ (Ext.refl _) ((HH.out.next kB).next z0.below)) ?_
  intro z1 vo hso _
  obtain ⟨A5, c5, rfl, -⟩ := id hso
  have HO := Lib.hid hso
  clear hso
  go_wp2_with fail
  refine BW.ret (z := z1) (Ext.refl _) (HC1.out W z1 _ kB HO.out) ?_
  intro z2 vx hsx hb2
  obtain ⟨A6, c6, rfl, -⟩ := id hsx
  have HX := Lib.hid hsx
  clear hsx
  go_wp2_with fail
  refine BW.ret (z := z2) (Ext.refl _) (HC2.out W z2 kB) ?_
  intro z3 vy hsy hb3
  obtain ⟨A7, c7, rfl, -⟩ := id hsy
  have HY := Lib.hid hsy
  clear hsy q0 q1 q2 q3 q4 q5 q6 q7 q8 q9 q10 q11
  go_wp2_with fail
  refine BW.ret (z := z3) (Ext.refl _) (sessionFail n l _ _ _ (Ext.refl _) ((HO.out.next hb2).next hb3)) ?_
  rw [HR2.out]
  intro z4 vp hsp hb4
  obtain ⟨A8, c8, rfl, -⟩ := id hsp
  have HP := Lib.hid hsp
  clear hsp
  go_wp2_with fail
  refine BW.ret (z := z4) (Ext.refl _) (refFail n l _ _ _ (Ext.refl _) ((HH.out.next kB).next z4.below)) ?_
  rw [HR2.out]
  intro z5 vq hsq hb5
  obtain ⟨A9, c9, rfl, -⟩ := id hsq
  have HQ := Lib.hid hsq
  clear hsq
  go_wp2_with fail
  refine BW.callB (z := z5) (refSubsSame rl _ _ _ (((HX.out.next hb3).next hb4).next hb5) ((HY.out.next hb4).next hb5)) rfl ?_
  intro z6 hb6
  go_wp2_with fail
  refine BW.callB (z := z6) (refSubsSame fl _ _ _ ((HP.out.next hb5).next hb6) (HQ.out.next hb6)) rfl ?_
  intro z7 hb7
  go_wp2_with fail
  refine BW.callB (z := z7) (sessionFormedSubs l _ _ ((((((HO.out.next hb2).next hb3).next hb4).next hb5).next hb6).next hb7)) (congrArg Value.bool HR3.out) ?_
  intro z8 hb8
  go_wp2_with fail
  refine BW.callB (z := z8) (refFormedSubs l _ _ ((HH.out.next kB).next z8.below)) (congrArg Value.bool HR3.out) ?_
  intro z9 hb9
  have e1 : (r3 == r3) = true := by simp
  go_wp2_with fail
  refine BW.callB (z := z9) (refSubsSame l _ _ _ ((((((((HO.out.next hb2).next hb3).next hb4).next hb5).next hb6).next hb7).next hb8).next hb9) ((HH.out.next kB).next z9.below)) rfl ?_
  intro z10 hb10
  by_cases h0 : rc = 0
  · have HX2 := Lib.hid (HF.out h0)
    subst h0
    go_wp2_with fail
    refine BW.callB (z := z10) (sessionFormedSubs rl _ _ ((((((((HX.out.next hb3).next hb4).next hb5).next hb6).next hb7).next hb8).next hb9).next hb10)) (congrArg Value.bool HX2.out) ?_
    intro z11 _
    go_wp2_with fail
    go_ret
    exact ⟨rfl, bnext kB z11.below⟩
  · have h1 : (rc != 0) = true := by simpa using h0
    go_wp2_with fail
    go_ret
    exact ⟨rfl, bnext kB z10.below⟩
end Go.Proofs.YtmdeokneablgaaaDoor
