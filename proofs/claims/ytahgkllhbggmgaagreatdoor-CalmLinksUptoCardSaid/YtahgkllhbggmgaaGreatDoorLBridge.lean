/- Contracts of the elder kind, told over abstract states: vectors, spans, notes. -/
import Derived.Test.YtahgkllhbggmgaaGreatDoorLAbsIter
import Derived.Test.YtahgkllhbggmgaaGreatDoorLEnc
import Derived.Test.YtahgkllhbggmgaaGreatDoorLIter
import Derived.Test.YtahgkllhbggmgaaGreatDoorLNoteWalk
import Derived.Test.YtahgkllhbggmgaaGreatDoorLCovers
import Derived.Test.YtahgkllhbggmgaaGreatDoorLVecRef
import Derived.Test.YtahgkllhbggmgaaGreatDoorLMarks
import Derived.Test.YtahgkllhbggmgaaGreatDoorLSpanSet
import Derived.Test.YtahgkllhbggmgaaGreatDoorLSortWorld
import Derived.Test.YtahgkllhbggmgaaGreatDoorLSortSpan
import Derived.Test.YtahgkllhbggmgaaGreatDoorLCounts
import Derived.Test.YtahgkllhbggmgaaGreatDoorLNoteSmall
import Derived.Test.YtahgkllhbggmgaaGreatDoorLClone
set_option linter.all false
set_option linter.unnecessarySimpa false
set_option linter.unusedSimpArgs false
set_option linter.unusedVariables false
namespace Go.Proofs.YtahgkllhbggmgaaGreatDoor
open Go.ChangeShapes Go.WideShapes Go.ChangeAt Go.RowKit
attribute [local irreducible] AW AWY Be As vop Az Aq Ax qop Bd Bv Aj Ag Ay A7 Aw
def Bz7 (f:Nat->Int) (M:Nat):List IV:=(E7 f M).toList.map IV.val
theorem A8.later {w w':World} (h:A8 w) (hb:Below w.heap.size w w'):A8 w':=h.next hb
def enE (f:Nat->Int) (x:Fin 64):List AV:=[.val (.int .i64 (x.1:Nat)),.val (.int .i64 (f x.1))]
attribute [local irreducible] E7 G2
attribute [local irreducible] Bz7 stI
structure E23 (M:Nat) where
 k:Nat
 R:Nat
 pre:List (Fin 64)
 hk:k<=64
 hR:R < 18446744073709551616
 hbit:∀ i,i < 64->R.testBit i=(M.testBit i&&decide (k<=i))
 hpre:pre.map (·.1)=Cp M k
end Go.Proofs.YtahgkllhbggmgaaGreatDoor
namespace Go.Proofs.YtahgkllhbggmgaaGreatDoor
open Go.ChangeShapes Go.WideShapes Go.ChangeAt Go.RowKit
set_option maxHeartbeats 1600000 in
theorem Zb (x : Bz) (v0 v1 v2 v3 : Value) (w : World) (h : Pz w w.heap.size v0 v1 v2 v3 x) :
    Calls Tryz.prog 162 #[.agg #[v0, v1, v2, v3]] w fun e w' => e = .returned (.bool (Bt x)) /\ Below w.heap.size w w' := by
  have hle := h.writes.len_le
  obtain ⟨A0, c0, rfl, _⟩ := id h.start
  obtain ⟨A1, c1, rfl, _⟩ := id h.end_
  obtain ⟨A2, c2, rfl, _⟩ := id h.blur
  obtain ⟨A3, c3, rfl, _⟩ := id h.writes
  unfold Bt
  generalize hr0 : B7 x.start = r0
  generalize hr1 : B7 x.end_ = r1
  generalize hr2 : Bi x.end_ x.start = r2
  generalize hr3 : C1 x.blur = r3
  have H0 := Lib.hid hr0
  have H1 := Lib.hid hr1
  have H2 := Lib.hid hr2
  have H3 := Lib.hid hr3
  clear hr0 hr1 hr2 hr3
  go_enter Tryz.func162, Tryz.ntmps162
  go_wp2_with fail
  generalize hv0 : Value.slice A0 x.start.length c0 = v0 at *
  generalize hv1 : Value.slice A1 x.end_.length c1 = v1 at *
  generalize hv2 : Value.slice A2 x.blur.length c2 = v2 at *
  generalize hv3 : Value.slice A3 x.writes.length c3 = v3 at *
  have Hv3 := Lib.hid hv3
  clear hv0 hv1 hv2 hv3
  have k := Ap (o := .cells #[v0, v1, v2, v3] 86) (Below.refl _ w)
  have B := Blk.new w 86 #[v0, v1, v2, v3]
  generalize hW0 : w.alloc (.cells #[v0, v1, v2, v3] 86) = W0 at *
  clear hW0
  have hn := h.next k
  refine (Ju x.start _ _ hn.start).mono ?_
  rw [H0.out]
  rintro e w1 ⟨rfl, hb1⟩
  replace k := B6 k hb1
  replace B := B.next hb1
  replace hn := hn.next hb1
  clear hb1
  have b0 := B.cell 0
  have b1 := B.cell 1
  have b2 := B.cell 2
  have b3 := B.cell 3
  simp only [List.getElem?_toArray, List.getElem?_cons_zero, List.getElem?_cons_succ] at b0 b1 b2 b3
  cases r0
  · go_wp2_with fail
    go_ret
    exact ⟨rfl, k⟩
  go_wp2_with fail
  refine (Ju x.end_ _ _ hn.end_).mono ?_
  rw [H1.out]
  rintro e w2 ⟨rfl, hb1⟩
  replace k := B6 k hb1
  replace B := B.next hb1
  replace hn := hn.next hb1
  replace b0 := Ao hb1 b0
  replace b1 := Ao hb1 b1
  replace b2 := Ao hb1 b2
  replace b3 := Ao hb1 b3
  clear hb1
  cases r1
  · go_wp2_with fail
    go_ret
    exact ⟨rfl, k⟩
  go_wp2_with fail
  refine (Tu x.end_ x.start _ _ _ hn.end_ hn.start).mono ?_
  rw [H2.out]
  rintro e w3 ⟨rfl, hb1⟩
  replace k := B6 k hb1
  replace B := B.next hb1
  replace hn := hn.next hb1
  replace b0 := Ao hb1 b0
  replace b1 := Ao hb1 b1
  replace b2 := Ao hb1 b2
  replace b3 := Ao hb1 b3
  clear hb1
  cases r2
  · go_wp2_with fail
    go_ret
    exact ⟨rfl, k⟩
  go_wp2_with fail
  refine (Lr x.blur _ _ hn.blur).mono ?_
  rw [H3.out]
  rintro e w4 ⟨rfl, hb1⟩
  replace k := B6 k hb1
  replace B := B.next hb1
  replace hn := hn.next hb1
  replace b0 := Ao hb1 b0
  replace b1 := Ao hb1 b1
  replace b2 := Ao hb1 b2
  replace b3 := Ao hb1 b3
  clear hb1
  cases r3
  · go_wp2_with fail
    go_ret
    exact ⟨rfl, k⟩
  rw [<- Hv3.out] at b3
  go_wp2_with fail
  have HB := Lib.hid B
  have HN := Lib.hid hn
  clear b0 b1 b2 b3 B hn H0 H1 H2 H3 h
  go_loopw [3] (fun i wr => ∃ (m : Nat) (e : Int), m <= x.writes.length /\ i = .int .i64 m /\ (m = 0 -> e = -1) /\ (∀ i y, m = i + 1 -> x.writes[i]? = some y -> e = y.object) /\ Fz x (-1) x.writes = Fz x e (x.writes.drop m) /\ Below w4.heap.size w4 wr) (fun i _ => x.writes.length - (intOf i).toNat)
  case atStart => exact ⟨0, -1, Nat.zero_le _, rfl, fun _ => rfl, fun i _ hi => by omega, rfl, Below.refl _ _⟩
  case round =>
    obtain ⟨m, e, hm, rfl, he0, he1, hv, hb⟩ := hrel
    have hn := HN.out.next hb
    have B := HB.out.next hb
    replace k := B6 k hb
    have b3 := B.cell 3
    simp only [List.getElem?_toArray, List.getElem?_cons_zero, List.getElem?_cons_succ] at b3
    rw [<- Hv3.out] at b3
    by_cases hlt : m < x.writes.length
    · obtain ⟨y, hy⟩ : ∃ y, x.writes[m]? = some y := ⟨x.writes[m], List.getElem?_eq_getElem hlt⟩
      obtain ⟨b, off, c', hv', hbb, e0, e1, e2, e3, _⟩ := Ly hn.writes hy
      rw [<- Hv3.out] at hv'
      injection hv' with hv1 hv2 hv3
      rw [Ek hy, Fz] at hv
      have Hy := Lib.hid hy
      obtain ⟨⟨yc, yn⟩, yo, yg⟩ := y
      simp only at e0 e1 e2 e3 hv
      have HV := Lib.hid hv
      subst hv1
      have i2 : (m : Int) < (x.writes.length : Int) := by omega
      have He0 := Lib.hid he0
      have He1 := Lib.hid he1
      clear hv hv2 hv3 hy he0 he1
      go_wp2_with fail
      have kB := Ap (o := .cells #[.int .i64 yc, .int .i64 yn, .int .i64 yo, .bool yg] 128) (Below.refl _ wr)
      have B5 := Blk.new wr 128 #[.int .i64 yc, .int .i64 yn, .int .i64 yo, .bool yg]
      have hn2 := hn.next kB
      have B2 := B.next kB
      have k2 := B6 k kB
      have hb2 := B6 hb kB
      generalize hW : wr.alloc (.cells #[.int .i64 yc, .int .i64 yn, .int .i64 yo, .bool yg] 128) = W at *
      have KB := Lib.hid kB
      have d0 := B5.cell 0
      have d1 := B5.cell 1
      have d2 := B5.cell 2
      have b1 := B2.cell 1
      have b2 := B2.cell 2
      have b4 := B2.cell 3
      simp only [List.getElem?_toArray, List.getElem?_cons_zero, List.getElem?_cons_succ] at b1 b2 b4 d0 d1 d2
      rw [<- Hv3.out] at b4
      have q0 : ∀ z : BW W, z.val.cell? ⟨wr.heap.size, 0, none⟩ = some (.int .i64 yc) := fun z => z.cell d0
      have q1 : ∀ z : BW W, z.val.cell? ⟨wr.heap.size, 1, none⟩ = some (.int .i64 yn) := fun z => z.cell d1
      have q2 : ∀ z : BW W, z.val.cell? ⟨wr.heap.size, 2, none⟩ = some (.int .i64 yo) := fun z => z.cell d2
      have q3 : ∀ z : BW W, z.val.cell? ⟨w.heap.size, 1, none⟩ = some v1 := fun z => z.cell b1
      have q4 : ∀ z : BW W, z.val.cell? ⟨w.heap.size, 2, none⟩ = some v2 := fun z => z.cell b2
      have q5 : ∀ z : BW W, z.val.cell? ⟨w.heap.size, 3, none⟩ = some (.slice (some ⟨b, off, none⟩) x.writes.length c3) := fun z => z.cell b4
      generalize hr : H5 x.end_ ⟨yc, yn⟩ = r at HV
      generalize hq : Eb x.blur yo = q at HV
      have HC1 := Lib.hid (fun z : BW W => hr ▸ Bj7 x.end_ ⟨yc, yn⟩ v1 z.val (hn2.next z.below).end_)
      have HC2 := Lib.hid (fun z : BW W => hq ▸ At7 x.blur yo v2 z.val (hn2.next z.below).blur)
      clear d0 d1 d2 b1 b2 b3 b4 e0 e1 e2 e3 hr hq hW hn2 B2 B5 kB
      have hcs : r = false \/ (r = true /\ yo < 0 /\ decide (yo < 0) = true) \/ (r = true /\ 0 <= yo /\ 255 < yo /\ decide (yo < 0) = false /\ decide (255 < yo) = true) \/ (r = true /\ q = true /\ 0 <= yo /\ yo <= 255 /\ decide (yo < 0) = false /\ decide (255 < yo) = false) \/ (r = true /\ q = false /\ 0 <= yo /\ yo <= 255 /\ decide (yo < 0) = false /\ decide (255 < yo) = false) := by
        simp only [decide_eq_true_eq, decide_eq_false_iff_not]
        cases r <;> cases q <;> simp <;> omega
      cases m with
      | zero =>
        rcases hcs with rfl | ⟨rfl, h1, g1⟩ | ⟨rfl, h1, h2, g1, g2⟩ | ⟨rfl, rfl, h1, h2, g1, g2⟩ | ⟨rfl, rfl, h1, h2, g1, g2⟩
        all_goals
          refine Cj (by kernel_rfl) (by kernel_rfl) ?_
          repeat (go_big_quiet_step (first | (go_at_call 44; exact En (HC1.out _)) | (go_at_call 283; exact En (HC2.out _))))
          refine wpQuiet_nil ?_
          intro w5 hb5
          have k5 := B6 k2 hb5
          have hb6 := B6 hb2 hb5
          go_wp2_with fail
        all_goals first
          | (go_ret
             refine ⟨Ak ?_, k5⟩
             first
               | (rw [HV.out]; simp; done)
               | (rw [HV.out, decide_eq_false (p := e < yo /\ 0 <= yo /\ yo <= 255) (by omega)]; rfl))
          | (refine ⟨⟨1, yo, by omega, rfl, fun h => by omega, fun i y hi hyi => ?_, ?_, hb6⟩, by simp [intOf]; omega⟩
             · obtain rfl : i = 0 := by omega
               rw [Hy.out] at hyi
               injection hyi with hyi
               subst hyi
               rfl
             · rw [HV.out, decide_eq_true (p := e < yo /\ 0 <= yo /\ yo <= 255) (by have := He0.out rfl; omega)]
               rfl)
      | succ i =>
        obtain ⟨y', hy'⟩ : ∃ y', x.writes[i]? = some y' := ⟨x.writes[i], List.getElem?_eq_getElem (by omega)⟩
        obtain rfl := He1.out i y' rfl hy'
        obtain ⟨b', off', c'', hv', hbb', _, _, e2, _, _⟩ := Ly hn.writes hy'
        rw [<- Hv3.out] at hv'
        injection hv' with hv1 hv2 hv3
        injection hv1 with hv1
        injection hv1 with hv4 hv5
        subst hv4 hv5
        have q6 : ∀ z : BW W, z.val.cell? ⟨b, off + i * 4 + 2, none⟩ = some (.int .i64 y'.object) := fun z => z.cell (Ao KB.out e2)
        have i1 : (0 : Int) < (i : Int) + 1 := by omega
        have i3 : (i : Int) < (x.writes.length : Int) := by omega
        have s1 : IntKind.i64.wrap ((i : Int) + 1) = (i : Int) + 1 := IntWalk.i64_in _ (by omega)
        have s2 : IntKind.i64.wrap (i : Int) = (i : Int) := IntWalk.i64_in _ (by omega)
        clear hv2 hv3 hy' e2 hbb'
        rcases hcs with rfl | ⟨rfl, h1, g1⟩ | ⟨rfl, h1, h2, g1, g2⟩ | ⟨rfl, rfl, h1, h2, g1, g2⟩ | ⟨rfl, rfl, h1, h2, g1, g2⟩
        all_goals
          refine Cj (by kernel_rfl) (by kernel_rfl) ?_
          repeat (go_big_quiet_step (first | (go_at_call 44; exact En (HC1.out _)) | (go_at_call 283; exact En (HC2.out _))))
          refine wpQuiet_nil ?_
          intro w5 hb5
          have k5 := B6 k2 hb5
          have hb6 := B6 hb2 hb5
          clear s1 s2
          go_wp2_with fail
        all_goals first
          | (go_ret
             refine ⟨Ak ?_, k5⟩
             first
               | (rw [HV.out]; simp; done)
               | (rw [HV.out, decide_eq_false (p := y'.object < yo /\ 0 <= yo /\ yo <= 255) (by omega)]; rfl))
          | (refine ⟨⟨i + 1 + 1, yo, by omega, by go_num, fun h => by omega, fun i' y hi hyi => ?_, ?_, hb6⟩, by simp [intOf]; omega⟩
             · obtain rfl : i' = i + 1 := by omega
               rw [Hy.out] at hyi
               injection hyi with hyi
               subst hyi
               rfl
             · rw [HV.out, decide_eq_true (p := y'.object < yo /\ 0 <= yo /\ yo <= 255) (by omega)]
               rfl)
    · obtain rfl : m = x.writes.length := by omega
      rw [List.drop_length] at hv
      have HV := Lib.hid hv
      clear hv he0 he1
      go_wp2_with fail
      go_ret
      exact ⟨Ak (by rw [HV.out]; rfl), k⟩
end Go.Proofs.YtahgkllhbggmgaaGreatDoor
namespace Go.Proofs.YtahgkllhbggmgaaGreatDoor
open Go.ChangeShapes Go.WideShapes Go.ChangeAt Go.RowKit Go.Shelf
attribute [local go_sem] Oper.semAt_some
theorem Ai.cells {α:Type} {R:List Value->α->Prop} {k:Nat} {w:World} {base:Nat} {e:TypeId} {v:Value} {l:List α} (h:Ai R k w base e v l) {g:Nat} (hg:v.ownBlock=some g):∃ cs t f,w.heap[g]? = some (.cells cs t f):=by
 obtain ⟨xs,hown,_⟩:=h
 rcases hown.2 with ⟨rfl,_⟩ | ⟨g',cap,cur,rfl,_,hb,_⟩
 ·cases hg
 ·obtain rfl:g'=g:=Option.some.inj hg
  exact ⟨_,_,_,hb⟩
theorem Ai.abides {α:Type} {R:List Value->α->Prop} {k:Nat} {A B:World} {base:Nat} {e:TypeId} {v:Value} {l:List α} {row:Option Nat} (h:Ai R k A base e v l) (hg:A.grownBy B row) (hr:∀ r,row=some r->∃ o:Obj,A.heap[r]? = some o/\o.isCells=false):Ai R k B base e v l:=by
 refine h.kept hg ?_
 cases hv:v.ownBlock with
 | none=>exact .inl rfl
 | some g =>
  refine .inr fun e'=>?_
  obtain ⟨cs,t,f,hc⟩:=h.cells hv
  obtain ⟨o,ho,hoc⟩:=hr g e'.symm
  rw [hc] at ho
  injection ho with ho
  subst ho
  cases hoc
theorem Ai.keepsOthers {α:Type} {R:List Value->α->Prop} {k:Nat} {A B:World} {base:Nat} {e:TypeId} {v:Value} {l:List α} (h:Ai R k A base e v l) (hg:A.grownBy B v.ownBlock):KeepsOthers A B :=
 KeepsOthers.of_grownBy hg fun j o hj ho=>by
  obtain ⟨cs,t,f,hc⟩:=h.cells hj
  rw [hc] at ho
  injection ho with ho
  subst ho
  rfl
theorem Bo.grown {Bn C:Nat} {A B:World} {row:Option Nat} (hg:A.grownBy B row) (h1:Bn < A.heap.size) (h2:C < A.heap.size) (h3:1 < A.heap.size) (hne:∀ r,row=some r->r≠Bn/\r≠C/\r≠1):Bo Bn C A B:=by
 rintro g (rfl | rfl | rfl)
 ·exact hg.block _ h1 fun e=>(hne _ e.symm).1 rfl
 ·exact hg.block _ h2 fun e=>(hne _ e.symm).2.1 rfl
 ·exact hg.block _ h3 fun e=>(hne _ e.symm).2.2 rfl
theorem Qo (f:Nat->Int) (M:Nat):∀ k,(∀ n,n < k->M.testBit n=decide (0 < f n))->D4 f k=(Cp M k).map fun n=>⟨f n,n⟩
 | 0,_=>rfl
 | k+1,h=>by
  rw [D4,K8,h k (by omega),Qo f M k fun n hn=>h n (by omega)]
  by_cases h0:0 < f k
  ·rw [if_pos h0,if_pos (by simpa using h0),List.map_append];rfl
  ·rw [if_neg h0,if_neg (by simpa using h0)]
def Jk (f:Nat->Int) (pre:List (Fin 64)):List Ad:=pre.map fun x=>⟨f x.1,(x.1:Nat)⟩
theorem Z4 (f:Nat->Int) (pre:List (Fin 64)) (x:Fin 64):Jk f (pre++[x])=Jk f pre++[⟨f x.1,(x.1:Nat)⟩]:=by simp [Jk]
set_option maxRecDepth 100000 in
set_option maxHeartbeats 2000000 in
theorem Aq2 (C:Nat) (f:Nat->Int) (M:Nat) (w:World) (hC:Blk w C 396 (E7 f M)) (hM:M < 18446744073709551616) (hbit:∀ n,n < 64->M.testBit n=decide (0 < f n)) (hI:∀ n,n < 64->I64 (f n)) (hT:A8 w) :
  Calls Tryz.prog 352 #[.pointer (some ⟨C,0,none⟩)] w fun e w'=>(∃ v',e=.returned v'/\Ai Fs 2 w' w.heap.size 38 v' (Ji f))/\Below w.heap.size w w':=by
 have HT:=Lib.hid hT
 have HI:=Lib.hid hI
 have HCC:=Lib.hid hC
 have hClt:=hC.lt
 have hTlt:=hT.lt
 have HV:=Lib.hid (Qo f M 64 hbit)
 clear hT hI hbit hC
 refine (callsIn_wide (n:=5)).1 ?_
 refine callsIn_of_wp_marks Tryz.func352 rfl trivial ?_ rfl
 simp only [Tryz.ntmps352,List.size_toArray,List.length_cons,List.length_nil,Nat.reduceAdd,Nat.reduceSub,Array.replicate_succ,Array.replicate_zero,List.push_toArray,List.append_toArray,List.nil_append,List.cons_append]
 gi_wp2
 refine ⟨trivial,?_⟩
 refine (callsIn_wide.2 (Yj C _)).mono ?_
 rintro e w1 ⟨rfl,rfl⟩
 have kb:=Ap (o:=.cells #[.pointer (some ⟨C,0,none⟩)] 464) (Ap (o:=.cells #[.slice none 0 0] 51) (Below.refl _ w))
 have hE:Jv (w.heap.size+1) C f M ((w.alloc (.cells #[.slice none 0 0] 51)).alloc (.cells #[.pointer (some ⟨C,0,none⟩)] 464)):=⟨Blk.new_at (by simp),HCC.out.alloc.alloc,HT.out.next kb⟩
 have hV:Blk ((w.alloc (.cells #[.slice none 0 0] 51)).alloc (.cells #[.pointer (some ⟨C,0,none⟩)] 464)) w.heap.size 51 #[.slice none 0 0]:=(Blk.new w 51 _).alloc
 have hs0:((w.alloc (.cells #[.slice none 0 0] 51)).alloc (.cells #[.pointer (some ⟨C,0,none⟩)] 464)).heap.size=w.heap.size+2:=by simp
 rw [show (w.alloc (.cells #[.slice none 0 0] 51)).heap.size=w.heap.size+1 by simp]
 generalize (w.alloc (.cells #[.slice none 0 0] 51)).alloc _=W0 at *
 have HE:=Lib.hid hE
 have HV0:=Lib.hid hV
 have HKB:=Lib.hid kb
 clear hE hV kb
 gi_wp2
 refine wpIn_rangeFunc_ownF rfl (by omega) (gf:=470) (lb:=#[.pointer (some ⟨w.heap.size+1,0,none⟩)]) rfl trivial (enters_of Tryz.func470 (by kernel_rfl) rfl)
  (Rv _ (by omega) (w.heap.size+1) C f M hM W0 HE.out) (fun h k=>Bo.t h k) (fun W l o o' hl _ _ _=>Bo.put (w:=W0) (by omega) (by omega) (by omega) hl) (Below.refl _ _) (fun _=>rfl)
  (fun pre W=>(∃ v,Blk W w.heap.size 51 #[v]/\Ai Fs 2 W (w.heap.size+2) 38 v (Jk f pre)/\w.heap.size+2<=W.heap.size)/\Below w.heap.size w W)
  (fun _ _ _=>False)
  (OwnFrom.and (Own.from (fun s A B row hs hg hr=>by obtain ⟨v,h1,h2,h3⟩:=hs;exact ⟨v,h1.own hg hr,h2.abides hg hr,Nat.le_trans h3 hg.size⟩) _) (ownFrom_below (Nat.le_refl _) (by omega)))
  (fun _ _ _ _ _ hs _ _=>hs)
  ⟨⟨_,HV0.out,Ai.nil_ _ _ _,by omega⟩,HKB.out⟩
  (fun x=>{ tmps:=#[.pointer (some ⟨C,0,none⟩),undef,.slice none 0 0,.pointer (some ⟨w.heap.size,0,none⟩),.int .i64 (x.1:Nat),.int .i64 (f x.1),.pointer (some ⟨C,0,none⟩),Yf (w.heap.size+1),.int .i64 (x.1:Nat),.int .i64 (f x.1),undef,undef,undef,undef,undef,undef,undef],defers:=[] }) ?assign ?body ?done ?stop
 case assign =>
  intro r x W K hK
  dsimp only [Jg]
  gi_wp2
  exact hK
 case body =>
  rintro r pre ⟨x,hx⟩ W ⟨⟨v,hB,hown,hs2⟩,hb⟩ hlen
  dsimp only
  have b0:=hB.cell 0
  have z0:=hB.frozen 0
  simp only [List.getElem?_toArray,List.getElem?_cons_zero] at b0
  have hs:=hb.size
  have hlt:=hown.lt
  have hBlt:=hB.lt
  have hsz:(Jk f pre).length < 1073741824:=by simp only [Jk,List.length_map];omega
  have hi:=HI.out x hx
  have HB:=Lib.hid hB
  have HO:=Lib.hid hown
  have Hb:=Lib.hid hb
  have HSN:=Lib.hid (Z4 f pre ⟨x,hx⟩)
  obtain ⟨A5,c5,rfl⟩:=hown.form
  clear hB hown hb
  generalize f x=q at *
  gi_wp2_with (gi_at_builtin;refine Zl Rr Tryz.underlying51 (by omega) (by omega) Wz rfl (.tmp 10) (.tmp 14) rfl (w.heap.size+2) _ _ rfl HO.out #[.int .i64 q,.int .i64 x] ⟨q,x⟩ rfl ⟨rfl,hi,I64.of (by simp only;omega) (by simp only;omega)⟩ rfl hsz (by omega) ?_;intro v1 w1 ha;obtain ⟨A6,c6,rfl⟩:=ha.own.form;have hB1:=ha.blk (fun e=>by have:=(hlt _ e).1;omega) HB.out.alloc;have b1:=hB1.cell 0;have z1:=hB1.frozen 0;simp only [List.getElem?_toArray,List.getElem?_cons_zero] at b1)
  have hs1:=ha.size
  have h2:=HO.out.next (Ap (o:=.cells #[.int .i64 q,.int .i64 x] 38) (Below.refl _ W))
  have hko:KeepsOthers (W.alloc (.cells #[.int .i64 q,.int .i64 x] 38)) w1:=h2.keepsOthers ha.grown
  have hke:Bo (w.heap.size+1) C (W.alloc (.cells #[.int .i64 q,.int .i64 x] 38)) w1:=Bo.grown ha.grown (by simp only [World.size_alloc];omega) (by simp only [World.size_alloc];omega) (by simp only [World.size_alloc];omega) fun r hr=>by
   have:=(hlt r hr).1
   exact ⟨by omega,by omega,by omega⟩
  have hb2:=ha.low w (by omega) (Ap Hb.out)
  simp only [World.size_alloc] at hs1
  refine ⟨((KeepsOthers.alloc _ _).trans hko).trans (KeepsOthers.setCell _ _ _),Bo.t (Bo.t (Bo.of_below (Ap (Below.refl _ W)) (by omega) (by omega) (by omega)) hke) (Bo.far (by simp only;omega) (by simp only;omega) (by simp only;omega)),⟨_,hB1.set_ 0 _,?_,?_⟩,?_⟩
  ·try rw [HSN.out]
   have:=Ai.set_other ha.own (p:=⟨w.heap.size,0,none⟩) (fun e=>by have h9:=(ha.own.lt _ e).1;simp only at h9;omega) (.slice A6 ((Jk f pre).length+1) c6)
   simpa using this
  ·simp;omega
  ·exact Yu hb2 (by simp)
 case done =>
  rintro D ys W hD hys ⟨⟨v,hB,hown,hs2⟩,hb⟩ hK
  have b0:=hB.cell 0
  have z0:=hB.frozen 0
  simp only [List.getElem?_toArray,List.getElem?_cons_zero] at b0
  have hres:Jk f ys=Ji f:=by
   rw [Ji,HV.out,<-hys,List.map_map]
   rfl
  rw [hres] at hown
  obtain ⟨A6,c6,rfl⟩:=hown.form
  have HO:=Lib.hid hown
  have Hb:=Lib.hid hb
  have HK:=Lib.hid hK
  clear hB hb hys hK hres hown
  gi_wp2
  have hown2:=HO.out.kept (grownBy_putObj' W D (.deferred none)) (.inr fun e=>by
   obtain ⟨cs,t,f,hc⟩:=HO.out.cells e
   rw [HK.out] at hc
   cases hc)
  refine ⟨by simp,.inl ⟨_,_,rfl,run_takeDeferred HK.out,?_⟩⟩
  refine ⟨.slice A6 (Ji f).length c6,by simp [results,Tryz.f352,go_sem],⟨_,rfl,hown2.base (by omega)⟩,Hb.out.trans (belowK_b (w:=w) (Nat.le_refl _) W D _ _ (by have:=HKB.out.size;omega) HK.out rfl rfl)⟩
 case stop =>
  rintro E d pre W hD _ h hK
  exact h.elim
end Go.Proofs.YtahgkllhbggmgaaGreatDoor
namespace Go.Proofs.YtahgkllhbggmgaaGreatDoor
open Go.ChangeShapes Go.WideShapes Go.ChangeAt Go.RowKit Go.Shelf
attribute [local go_sem] Oper.semAt_some
def H9 (f d:Nat->Int) (pre:List (Fin 64)) (n:Nat):Int:=if pre.any (fun x=>decide (x.1=n))=true then max (f n) (d n) else f n
theorem Aw3 (f d:Nat->Int):H9 f d []=f:=by funext n;simp [H9]
theorem Ak7 (f d:Nat->Int) (pre:List (Fin 64)) (x:Fin 64):(fun k=>if k=x.1 then max (H9 f d pre x.1) (d x.1) else H9 f d pre k)=H9 f d (pre++[x]):=by
 funext k
 by_cases hk:k=x.1
 ·subst hk
  rw [if_pos rfl,H9,H9,List.any_append]
  simp only [List.any_cons,List.any_nil,Bool.or_false,decide_true,Bool.or_true,if_true]
  split<;>omega
 ·rw [if_neg hk,H9,H9,List.any_append]
  simp [show ¬ x.1=k from fun e=>hk e.symm]
theorem A37 {l:List Ad} {ys:List (Fin 64)} (hys:ys.map (·.1)=Cp (Ep l) 64) {n:Nat} (hn:n < 64):ys.any (fun x=>decide (x.1=n))=!decide (A9 l n=0):=by
 rw [<-Rp hn,Bool.eq_iff_iff]
 have:n∈ys.map (·.1)↔(Ep l).testBit n=true:=by rw [hys,V9];exact ⟨fun h=>h.2,fun h=>⟨hn,h⟩⟩
 rw [<-this,List.any_eq_true,List.mem_map]
 exact ⟨fun ⟨x,h1,h2⟩=>⟨x,h1,by simpa using h2⟩,fun ⟨x,h1,h2⟩=>⟨x,h1,by simpa using h2⟩⟩
set_option maxRecDepth 100000 in
set_option maxHeartbeats 3200000 in
theorem Aq3 (ls:List (List Ad)) (v:Value) (w:World) (h:Gy w w.heap.size v ls) (hT:A8 w) :
  Calls Tryz.prog 268 #[v] w fun e w'=>(∃ v',e=.returned v'/\Ai Fs 2 w' w.heap.size 38 v' (Dw ls))/\Below w.heap.size w w':=by
 have hle:=h.len_le
 have HH:=Lib.hid h
 have hI:∀ l∈ls,Tf l:=fun l hl=>by
  obtain ⟨i,hi⟩:=List.mem_iff_getElem?.1 hl
  obtain ⟨_,_,_,vi,_,_,_,hs⟩:=Vx h hi
  exact Yi hs
 have HI:=Lib.hid hI
 have HT:=Lib.hid hT
 have hTlt:=hT.lt
 obtain ⟨A,c,rfl,-⟩:=id h
 clear h hI hT
 refine (callsIn_wide (n:=5)).1 ?_
 refine callsIn_of_wp_marks Tryz.func268 rfl trivial ?_ rfl
 simp only [Tryz.ntmps268,List.size_toArray,List.length_cons,List.length_nil,Nat.reduceAdd,Nat.reduceSub,Array.replicate_succ,Array.replicate_zero,List.push_toArray,List.append_toArray,List.nil_append,List.cons_append]
 gi_wp2
 rw [show Tryz.zeroCells396=E7 (fun _=>0) 0 by kernel_rfl]
 have hC0:Blk (w.alloc (.cells (E7 (fun _=>0) 0) 396)) w.heap.size 396 (E7 (fun _=>0) 0):=Blk.new _ _ _
 have kb0:=Ap (o:=.cells (E7 (fun _=>0) 0) 396) (Below.refl _ w)
 have hs0:(w.alloc (.cells (E7 (fun _=>0) 0) 396)).heap.size=w.heap.size+1:=by simp
 generalize w.alloc _=W0 at *
 refine wpIn_loop (fun a W=>∃ (m:Nat) (Ds:List Nat) (M:Nat) (u5 u11 u12 u13 u14 u15 u34:Value),m<=ls.length/\M < 18446744073709551616/\(∀ n,n < 64->M.testBit n=decide (0 < Ew (ls.take m) n))/\Ec (w.heap.size+1) Ds W /\
   Blk W w.heap.size 396 (E7 (Ew (ls.take m)) M)/\Below w.heap.size w W/\w.heap.size+1<=W.heap.size /\
   a={ tmps:=#[.slice A ls.length c,undef,.slice none 0 0,.pointer (some ⟨w.heap.size,0,none⟩),undef,u5,undef,undef,.slice A ls.length c,.int .i64 ls.length,.int .i64 m,u11,u12,u13,u14,u15,undef,undef,undef,undef,undef,undef,undef,undef,undef,undef,undef,undef,undef,undef,undef,undef,undef,undef,u34,undef],defers:=G8 Ds })
  (fun a _=>ls.length - (intOf (a.tmps.getD 10 undef)).toNat) ⟨0,[],0,undef,undef,undef,undef,undef,undef,undef,Nat.zero_le _,by omega,fun n _=>by simp [Ew],Ec.nil _ _,hC0,kb0,by omega,rfl⟩ ?_
 clear hC0 kb0 hs0
 rintro a W ⟨m,Ds,M,u5,u11,u12,u13,u14,u15,u34,hm,hM,hbit,hmk,hC,hb,hsz,rfl⟩
 have Hbit:=Lib.hid hbit
 have Hmk:=Lib.hid hmk
 have HC:=Lib.hid hC
 have Hb:=Lib.hid hb
 clear hbit hmk hC
 by_cases hlt:m < ls.length
 ·obtain ⟨x,hx⟩ : ∃ x,ls[m]? = some x:=⟨ls[m],List.getElem?_eq_getElem hlt⟩
  obtain ⟨b,off,_,vi,hv',hbb,e0,hs⟩:=Vx (HH.out.next hb) hx
  injection hv' with hv1 hv2 hv3
  subst hv1
  have HTk:=Lib.hid (Eh hx)
  have HSS:=Lib.hid hs
  obtain ⟨A1,c1,rfl,-⟩:=id hs
  have i1:(m:Int) < (ls.length:Int):=by omega
  have i2:(0:Int)<=(m:Int):=by omega
  have HXI:=Lib.hid (HI.out x (List.mem_of_getElem? hx))
  clear hv2 hv3 hs hx hb
  gi_wp2
  refine ⟨trivial,?_⟩
  refine (callsIn_wide.2 (Zp x _ _ HSS.out (HT.out.next Hb.out))).mono ?_
  rintro e w2 ⟨Bn,D,rfl,hE,hBn,hD,hb2⟩
  have HE:=Lib.hid hE
  have HM2:=Lib.hid (Hmk.out.next hb2)
  have HC2:=Lib.hid (HC.out.next hb2)
  have HB2:=Lib.hid (B6 Hb.out hb2)
  have hs2:=hb2.size
  have l1:=hE.box.lt
  have l2:=hE.cnt.lt
  have l3:=hE.tab.lt
  have hMx:=U6 x
  clear hE hb2 e0
  gi_wp2
  generalize hf:Ew (ls.take m)=f at *
  have HF:=Lib.hid hf
  clear hf
  have hMlt:=HM2.out.lt
  refine wpIn_rangeFunc_ownF rfl (by omega) (gf:=470) (lb:=#[.pointer (some ⟨Bn,0,none⟩)]) rfl trivial (enters_of Tryz.func470 (by kernel_rfl) rfl)
   (Rv _ (by omega) Bn D (fun n=>A9 x n) (Ep x) hMx w2 HE.out) (fun h k=>Bo.t h k) (fun W l o o' hl _ _ _=>Bo.put l1 l2 l3 hl) (Below.refl _ _) (fun _=>rfl)
   (fun pre W'=>((∃ M',M' < 18446744073709551616/\(∀ n,n < 64->M'.testBit n=(M.testBit n || pre.any fun x=>decide (x.1=n)))/\Blk W' w.heap.size 396 (E7 (H9 f (fun n=>A9 x n) pre) M'))/\w2.heap.size<=W'.heap.size)/\(Ec (w.heap.size+1) Ds W'/\Below w.heap.size w W'))
   (fun _ _ _=>False)
   (OwnFrom.and (Own.from (fun s A B row hs hg hr=>by obtain ⟨⟨M',h1,h2,h3⟩,h4⟩:=hs;exact ⟨⟨M',h1,h2,h3.own hg hr⟩,Nat.le_trans h4 hg.size⟩) _) (OwnFrom.and (Ba9 Ds hMlt) (ownFrom_below (Nat.le_refl _) (by omega))))
   (fun _ _ _ _ _ hs _ _=>hs)
   ⟨⟨⟨M,hM,fun n _=>by simp,by rw [Aw3];exact HC2.out⟩,Nat.le_refl _⟩,HM2.out,HB2.out⟩
   (fun y=>{ tmps:=#[.slice (some ⟨b,off,none⟩) ls.length c,undef,.slice none 0 0,.pointer (some ⟨w.heap.size,0,none⟩),undef,.slice A1 x.length c1,.int .i64 (y.1:Nat),.int .i64 (A9 x (y.1:Nat)),.slice (some ⟨b,off,none⟩) ls.length c,.int .i64 ls.length,.int .i64 m,.bool true,.pointer (some ⟨b,off+m,none⟩),.slice A1 x.length c1,.slice A1 x.length c1,Yf Bn,.int .i64 (y.1:Nat),.int .i64 (A9 x (y.1:Nat)),undef,undef,undef,undef,undef,undef,undef,undef,undef,undef,undef,undef,undef,undef,undef,undef,u34,undef],defers:=[] }) ?assign ?body ?done ?stop
  case assign =>
   intro r y W' K hK
   dsimp only [Jg]
   gi_wp2
   exact hK
  case body =>
   rintro r pre ⟨y,hy⟩ W' ⟨⟨⟨M',hM',hbit',hC'⟩,hsz'⟩,hmk',hb'⟩ _
   dsimp only
   have c0:=(hC'.cell y).trans (T5 hy)
   have c1':=(hC'.cell 64).trans Ym
   have z0:=hC'.frozen y
   have z1:=hC'.frozen 64
   have hwl:=hC'.lt
   have hxi:(y:Int) < 64:=by omega
   have Hbit':=Lib.hid hbit'
   have HC':=Lib.hid hC'
   have Hmk':=Lib.hid hmk'
   have Hb':=Lib.hid hb'
   have HMX:=Lib.hid (Ak7 f (fun n=>A9 x n) pre ⟨y,hy⟩)
   have hSB:=Lib.hid (B17 (n:=y) hM' hy)
   clear hbit' hC' hmk' hb'
   generalize hp:H9 f (fun n=>A9 x n) pre y=p at c0
   have HP:=Lib.hid hp
   generalize hq:A9 x y=q
   have HQ:=Lib.hid hq
   clear hp hq
   gi_wp2
   all_goals
    have hk2:=(KeepsOthers.setCell W' ⟨w.heap.size,y,none⟩ (.int .i64 (max p q))).trans (KeepsOthers.setCell _ ⟨w.heap.size,64,none⟩ (.int .u64 ((M'|||2 ^ y:Nat):Int)))
    rename_i hcmp
    refine (show ∀ v,v=max p q->ownPostK _ _ _ _ _ _ _ ((W'.setCell ⟨w.heap.size,y,none⟩ (.int .i64 v)).setCell _ _) from ?_) _ (by omega)
    rintro v rfl
    rw [hSB.out]
    refine ⟨hk2,Bo.t (Bo.far (by simp only;omega) (by simp only;omega) (by simp only;omega)) (Bo.far (by simp only;omega) (by simp only;omega) (by simp only;omega)),⟨⟨M'|||2 ^ y,Tv hM' hy,fun n hn=>?_,?_⟩,by simpa using hsz'⟩,Hmk'.out.keeps hk2,Yu (Yu Hb'.out (Nat.le_refl _)) (Nat.le_refl _)⟩
    ·rw [Au3,Hbit'.out n hn,List.any_append,Bool.or_assoc]
     simp
    ·have h1:=(HC'.out.set_ y (.int .i64 (max p q))).set_ 64 (.int .u64 ((M'|||2 ^ y:Nat):Int))
     rw [An5 hy,T4] at h1
     rw [<-HMX.out,HP.out,HQ.out]
     exact h1
  case done =>
   rintro E ys W' hE hys ⟨⟨⟨M',hM',hbit',hC'⟩,hsz'⟩,hmk',hb'⟩ hK
   have hfun:∀ n,n < 64->H9 f (fun n=>A9 x n) ys n=Ew (ls.take (m+1)) n:=fun n hn=>by
    rw [HTk.out,Rq,HF.out,H9,A37 hys hn]
    have h0:0<=f n:=by rw [<-HF.out];exact A90 _ _
    by_cases hz:A9 x n=0
    ·rw [hz];simp;omega
    ·rw [if_pos (by simpa using hz)]
   have hC2:Blk W' w.heap.size 396 (E7 (Ew (ls.take (m+1))) M'):=by
    rw [show E7 (Ew (ls.take (m+1))) M'=E7 (H9 f (fun n=>A9 x n) ys) M' from F9 fun i _=>by
     split
     ·rename_i hi;rw [hfun i hi]
     ·rfl]
    exact hC'
   have hbits:∀ n,n < 64->M'.testBit n=decide (0 < Ew (ls.take (m+1)) n):=fun n hn=>by
    rw [hbit' n hn,Hbit.out n hn,A37 hys hn,HTk.out,Rq,HF.out]
    have h1:=L7 x n
    rw [Bool.eq_iff_iff]
    simp only [Bool.or_eq_true,decide_eq_true_eq,Bool.not_eq_true',decide_eq_false_iff_not]
    omega
   have HC3:=Lib.hid hC2
   have HB3:=Lib.hid hbits
   have HM3:=Lib.hid (hmk'.more (D:=E) (fun F hF=>by have:=hMlt F hF;omega) (by omega) hK)
   have Hb3:=Lib.hid hb'
   clear hC' hfun hC2 hbits hys hmk' hb' hK hbit'
   gi_wp2
   refine ⟨⟨m+1,E :: Ds,M',_,_,_,_,_,_,_,by omega,hM',HB3.out,HM3.out,HC3.out,Hb3.out,by omega,rfl⟩,by simp [intOf];omega⟩
  case stop =>
   rintro E d pre W hD _ h hK
   exact h.elim
 ·obtain rfl:m=ls.length:=by omega
  have hC2:Blk W w.heap.size 396 (E7 (Ew ls) M):=by have:=HC.out;rwa [List.take_length] at this
  have HL:=Lib.hid (Aq2 w.heap.size (Ew ls) M W hC2 hM (fun n hn=>by rw [Hbit.out n hn,List.take_length]) (A20 HI.out) (HT.out.next Hb.out))
  clear hC2 hb
  gi_wp2
  refine ⟨trivial,?_⟩
  refine (callsIn_wide.2 HL.out).mono ?_
  rintro e w3 ⟨⟨v',rfl,hown⟩,hb3⟩
  have hmk3:=Hmk.out.next hb3
  obtain ⟨A6,c6,rfl⟩:=hown.form
  have hfin:=Ec.own (B':=w.heap.size+1) (s:=()) (I:=fun (_:Unit) W=>Ai Fs 2 W w.heap.size 38 (.slice A6 (Ji (Ew ls)).length c6) (Ji (Ew ls))/\Below w.heap.size w W)
   (OwnFrom.and (Own.from (fun _ _ _ _ hs hg hr=>hs.abides hg hr) _) (ownFrom_below (Nat.le_refl _) (by omega))) (Nat.le_refl _) Ds w3 hmk3 ⟨hown.base (by omega),B6 Hb.out hb3⟩
  have HF:=Lib.hid hfin
  have HMK:=Lib.hid hmk3
  clear hown hfin hmk3 HL
  gi_wp2
  exact N3 Ds w3 HMK.out ⟨.slice A6 (Ji (Ew ls)).length c6,by simp [results,Tryz.f268,go_sem],⟨_,rfl,HF.out.1⟩,HF.out.2⟩
end Go.Proofs.YtahgkllhbggmgaaGreatDoor
namespace Go.Proofs.YtahgkllhbggmgaaGreatDoor
open Go.ChangeShapes Go.WideShapes Go.ChangeAt Go.RowKit
def E44 (ls:List (List Ah)) (o:Nat):Bool:=ls.any fun l=>Ba l o
def Dt4 (f d:Nat->Bool) (k n:Nat):Bool:=if n < k then (f n || d n) else f n
def Dl0 (f d:Nat->Bool) (k n:Nat):Bool:=if n < k then (f n&&d n) else f n
def C80 (ls:List (List Ad)):IV:=.sl 1 (ls.map fun l=>[stI l])
def E29 (ls:List (List Ah)):IV:=.sl 1 (ls.map fun l=>[spI l])
theorem A91 {E:Env} {V w:World} {v:Value} {ls:List (List Ad)} (hV:Ext V w) (h:Au E V v (.iv (C80 ls))):Gy w w.heap.size v ls:=by
 cases h with
 | iv h =>
  refine (C7.to_typed (R:=Wh w w.heap.size) (l:=ls) (enc:=fun l=>[stI l]) h fun cs x _ hx=>?_).ext (fun _ _ h=>h) hV
  match cs,hx with
  | [v],⟨hx,_⟩=>exact ⟨v,rfl,hx.stamps.ext (fun _ _ h=>h) hV⟩
theorem Wg {E:Env} {X:World} {v:Value} {a b:Value} (h:Au E X v (.agg [.val a,.val b])):v=.agg #[a,b]:=by
 cases h with
 | @agg vs _ h1 h2 =>
  obtain ⟨l⟩:=vs
  match l,h1 with
  | [v0,v1],_ =>
   have a0:=h2 0 v0 _ rfl rfl
   have a1:=h2 1 v1 _ rfl rfl
   cases a0;cases a1;rfl
theorem G6 (l:List Ad):A7 Tryz.prog A8 130 [.iv (stI l)] (.val (.bool (B7 l))) [] :=
 Bu Tryz.func130 rfl (by kernel_rfl) fun V w E vs hV hG hr=>by
  obtain ⟨v0,rfl,h0⟩:=Hu hr
  exact Mr l _ w (Ct hV h0)
theorem S3 (l:List Ad) (m:List Ad):A7 Tryz.prog A8 263 [.iv (stI l),.iv (stI m)] (.val (.bool (Bi l m))) [] :=
 Bu Tryz.func263 rfl (by kernel_rfl) fun V w E vs hV hG hr=>by
  obtain ⟨v0,v1,rfl,h0,h1⟩:=Lo hr
  exact Ms l m _ _ w (Ct hV h0) (Ct hV h1) hG
theorem B63 (l:List Ad) (s:Ad):A7 Tryz.prog A8 43 [.iv (stI l),.agg [.val (.int .i64 s.count),.val (.int .i64 s.node)]] (.val (.bool (H5 l s))) [] :=
 Bu Tryz.func43 rfl (by kernel_rfl) fun V w E vs hV hG hr=>by
  obtain ⟨v0,v1,rfl,h0,h1⟩:=Lo hr
  obtain rfl:=Wg h1
  exact Zo l s _ w (Ct hV h0)
theorem Gh (l:List Ad):A7 Tryz.prog A8 155 [.iv (stI l)] (.val (.bool (B7 l))) [] :=
 Bu Tryz.func155 rfl (by kernel_rfl) fun V w E vs hV hG hr=>by
  obtain ⟨v0,rfl,h0⟩:=Hu hr
  exact Ju l _ w (Ct hV h0)
theorem Qu (l:List Ad) (m:List Ad):A7 Tryz.prog A8 280 [.iv (stI l),.iv (stI m)] (.val (.bool (Bi l m))) [] :=
 Bu Tryz.func280 rfl (by kernel_rfl) fun V w E vs hV hG hr=>by
  obtain ⟨v0,v1,rfl,h0,h1⟩:=Lo hr
  exact Tu l m _ _ w (Ct hV h0) (Ct hV h1)
theorem Gv (l:List Ad) (m:List Ad):A7 Tryz.prog A8 78 [.iv (stI l),.iv (stI m)] (.val (.bool (decide (l=m)))) [] :=
 Bu Tryz.func78 rfl (by kernel_rfl) fun V w E vs hV hG hr=>by
  obtain ⟨v0,v1,rfl,h0,h1⟩:=Lo hr
  exact Xg l m _ _ w (Ct hV h0) (Ct hV h1)
theorem As4 (l:List Ad) (s:Ad):A7 Tryz.prog A8 44 [.iv (stI l),.agg [.val (.int .i64 s.count),.val (.int .i64 s.node)]] (.val (.bool (H5 l s))) [] :=
 Bu Tryz.func44 rfl (by kernel_rfl) fun V w E vs hV hG hr=>by
  obtain ⟨v0,v1,rfl,h0,h1⟩:=Lo hr
  obtain rfl:=Wg h1
  exact Bj7 l s _ w (Ct hV h0)
theorem A55 (l:List Ah):A7 Tryz.prog A8 144 [.iv (spI l)] (.val (.bool (C1 l))) [] :=
 Bu Tryz.func144 rfl (by kernel_rfl) fun V w E vs hV hG hr=>by
  obtain ⟨v0,rfl,h0⟩:=Hu hr
  exact Ko l _ w (Ky hV h0)
theorem Z7 (l:List Ah):A7 Tryz.prog A8 169 [.iv (spI l)] (.val (.bool (C1 l))) [] :=
 Bu Tryz.func169 rfl (by kernel_rfl) fun V w E vs hV hG hr=>by
  obtain ⟨v0,rfl,h0⟩:=Hu hr
  exact Lr l _ w (Ky hV h0)
theorem Ny (l:List Ah) (m:List Ah):A7 Tryz.prog A8 276 [.iv (spI l),.iv (spI m)] (.val (.bool (decide (l=m)))) [] :=
 Bu Tryz.func276 rfl (by kernel_rfl) fun V w E vs hV hG hr=>by
  obtain ⟨v0,v1,rfl,h0,h1⟩:=Lo hr
  exact P2 l m _ _ w (Ky hV h0) (Ky hV h1)
theorem A29 (l:List Ad) (m:List Ad):A7 Tryz.prog A8 65 [.iv (stI l),.iv (stI m)] (.val (.bool (decide (l=m)))) [] :=
 Bu Tryz.func65 rfl (by kernel_rfl) fun V w E vs hV hG hr=>by
  obtain ⟨v0,v1,rfl,h0,h1⟩:=Lo hr
  exact Am7 l m _ _ w (Ct hV h0) (Ct hV h1)
theorem N1 (x:Bz):A7 Tryz.prog A8 145 [Qz x] (.val (.bool (Bt x))) [] :=
 Bu Tryz.func145 rfl (by kernel_rfl) fun V w E vs hV hG hr=>by
  obtain ⟨v0,rfl,h0⟩:=Hu hr
  obtain ⟨n0,n1,n2,n3,rfl,H0⟩:=Ma hV h0
  exact Xs x _ _ _ _ w H0 hG
theorem Xw (x:Bz) (l:List Ad):A7 Tryz.prog A8 269 [Qz x,.iv (stI l)] (.val (.bool (Bi l x.start))) [] :=
 Bu Tryz.func269 rfl (by kernel_rfl) fun V w E vs hV hG hr=>by
  obtain ⟨v0,v1,rfl,h0,h1⟩:=Lo hr
  obtain ⟨n0,n1,n2,n3,rfl,H0⟩:=Ma hV h0
  exact Bl4 x l _ _ _ _ _ w H0 (Ct hV h1) hG
theorem Qx (x:Bz):A7 Tryz.prog A8 162 [Qz x] (.val (.bool (Bt x))) [] :=
 Bu Tryz.func162 rfl (by kernel_rfl) fun V w E vs hV hG hr=>by
  obtain ⟨v0,rfl,h0⟩:=Hu hr
  obtain ⟨n0,n1,n2,n3,rfl,H0⟩:=Ma hV h0
  exact Zb x _ _ _ _ w H0
theorem Ag8 (x:Bz) (l:List Ad):A7 Tryz.prog A8 163 [Qz x,.iv (stI l)] (.val (.bool (Bi l x.start))) [] :=
 Bu Tryz.func163 rfl (by kernel_rfl) fun V w E vs hV hG hr=>by
  obtain ⟨v0,v1,rfl,h0,h1⟩:=Lo hr
  obtain ⟨n0,n1,n2,n3,rfl,H0⟩:=Ma hV h0
  exact Bv7 x l _ _ _ _ _ w H0 (Ct hV h1)
theorem Mp (ls:List (List Ad)):A7 Tryz.prog A8 268 [.iv (C80 ls)] (.own 0) [.row 0 38 2 ((Dw ls).map Yd)] :=
 Gs (fun _ _ _ h=>X1 h) Tryz.func268 rfl (by kernel_rfl) fun V w E vs hV hG hr=>by
  obtain ⟨v0,rfl,h0⟩:=Hu hr
  exact Aq3 ls _ w (A91 hV h0) hG
theorem As2 (l:List Ad) (m:List Ad):A7 Tryz.prog A8 164 [.iv (stI l),.iv (stI m)] (.own 0) [.row 0 38 2 ((Dw [l,m]).map Yd)] :=
 Gs (fun _ _ _ h=>X1 h) Tryz.func164 rfl (by kernel_rfl) fun V w E vs hV hG hr=>by
  obtain ⟨v0,v1,rfl,h0,h1⟩:=Lo hr
  exact B87 l m _ _ w (Ct hV h0) (Ct hV h1)
theorem Ag3 (l:List Ad):A7 Tryz.prog A8 165 [.iv (stI l)] (.own 0) [.row 0 38 2 ((l).map Yd)] :=
 Gs (fun _ _ _ h=>X1 h) Tryz.func165 rfl (by kernel_rfl) fun V w E vs hV hG hr=>by
  obtain ⟨v0,rfl,h0⟩:=Hu hr
  exact At6 l _ w (Ct hV h0)
theorem Aa6 (l:List Ad):A7 Tryz.prog A8 195 [.iv (stI l)] (.own 0) [.row 0 38 2 ((l).map Yd)] :=
 Gs (fun _ _ _ h=>X1 h) Tryz.func195 rfl (by kernel_rfl) fun V w E vs hV hG hr=>by
  obtain ⟨v0,rfl,h0⟩:=Hu hr
  exact Ao0 l _ w (Ct hV h0)
theorem Aa7 (l:List Ah):A7 Tryz.prog A8 205 [.iv (spI l)] (.own 0) [.row 0 89 2 ((l).map Po)] :=
 Gs (fun _ _ _ h=>A50 h) Tryz.func205 rfl (by kernel_rfl) fun V w E vs hV hG hr=>by
  obtain ⟨v0,rfl,h0⟩:=Hu hr
  exact Az2 l _ w (Ky hV h0)
attribute [local irreducible] G2
def Du (f:Nat->Bool):List IV:=(setRow f).toList.map IV.val
def Az4 (c:Nat->Int):List IV:=(Dj c).toList.map IV.val
theorem A02 {X:World} : ∀ {vs l:List Value},Av X vs (l.map IV.val)->vs=l
 | [],[],_=>rfl
 | v :: vs,u :: l,h=>by
  have h1:=h.1
  cases h1
  rw [A02 (vs:=vs) (l:=l) h.2]
 | [],_ :: _,h=>h.elim
 | _ :: _,[],h=>h.elim
theorem Be3 {E:Env} {X:World} {v:Value} {l:List Value} (h:Au E X v (.aggI (l.map IV.val))):v=.agg l.toArray:=by
 cases h with
 | @aggI vs _ h=>rw [<-A02 h]
theorem Bv2 {X:World} {n:Nat} {f:Nat->Value} (h:∀ i,i < n->okV (f i)):Av X (G2 n f).toList ((G2 n f).toList.map IV.val) :=
 Av.of (by rw [List.length_map]) fun j v i h1 h2=>by
  rw [List.getElem?_map,h1] at h2
  obtain rfl:=Option.some.inj h2
  rw [Array.getElem?_toList] at h1
  have hj:=(Array.getElem?_eq_some_iff.1 h1).1
  rw [Mw] at hj
  rw [Dv hj] at h1
  obtain rfl:=Option.some.inj h1
  exact .val (h j hj)
theorem Bu9 {X:World} {f:Nat->Bool} : Av X (setRow f).toList (Du f):=Bv2 fun _ _=>trivial
theorem Bv0 {E:Env} {X:World} {v:Value} {f:Nat->Bool} (h:Au E X v (.aggI (Du f))):v=.agg (setRow f):=by
 have:=Be3 h
 rwa [Array.toArray_toList] at this
attribute [local irreducible] Du Az4 setRow Dj
theorem Zw (l:List Ah):A7 Tryz.prog A8 193 [.iv (spI l)] (.aggI (Du fun o=>Ba l o)) [] :=
 Cf2 Tryz.func193 rfl (by kernel_rfl) fun V w E vs hV hG hr=>by
  obtain ⟨v,rfl,hv⟩:=Hu hr
  exact (At8 l v w (Ky hV hv)).mono fun e w1 h=>⟨_,h.1,h.2,.aggI Bu9⟩
theorem B79 (f:Nat->Bool):A7 Tryz.prog A8 194 [.aggI (Du f)] (.own 0) [.row 0 89 2 ((Gb f).map Po)] :=
 Gs (fun _ _ _ h=>A50 h) Tryz.func194 rfl (by kernel_rfl) fun V w E vs hV hG hr=>by
  obtain ⟨v0,rfl,h0⟩:=Hu hr
  obtain rfl:=Bv0 h0
  exact C29 f w
end Go.Proofs.YtahgkllhbggmgaaGreatDoor
