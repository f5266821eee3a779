/- Contracts of the elder kind, told over abstract states: vectors, spans, notes. -/
import Derived.Test.YthlgnjlpakimaaaGreatDoorUAbsIter
import Derived.Test.YthlgnjlpakimaaaGreatDoorUEnc
import Derived.Test.YthlgnjlpakimaaaGreatDoorUIter
import Derived.Test.YthlgnjlpakimaaaGreatDoorUMsg
import Derived.Test.YthlgnjlpakimaaaGreatDoorUCovers
import Derived.Test.YthlgnjlpakimaaaGreatDoorUVecRef
import Derived.Test.YthlgnjlpakimaaaGreatDoorUMarks
import Derived.Test.YthlgnjlpakimaaaGreatDoorUSpanSet
import Derived.Test.YthlgnjlpakimaaaGreatDoorUConcatSpan
import Derived.Test.YthlgnjlpakimaaaGreatDoorUTidyLaw
import Derived.Test.YthlgnjlpakimaaaGreatDoorUCounts
import Derived.Test.YthlgnjlpakimaaaGreatDoorUNoteSmall
import Derived.Test.YthlgnjlpakimaaaGreatDoorUNoteWalk
import Derived.Test.YthlgnjlpakimaaaGreatDoorUClone
set_option linter.all false
set_option linter.unnecessarySimpa false
set_option linter.unusedSimpArgs false
set_option linter.unusedVariables false
namespace Go.Proofs.YthlgnjlpakimaaaGreatDoor
open Go.ChangeShapes Go.WideShapes Go.ChangeAt Go.RowKit
attribute [local irreducible] AW AWY Bw Bc vop Bj Az Bi qop By Ce Ar Ap Bo A7 Bd
def Ni (f:Nat->Int) (M:Nat):List IV:=(E7 f M).toList.map IV.val
theorem Bj4 {f:Nat->Int} {M n:Nat} (h:n < 64):(Ni f M)[n]? = some (.val (.int .i64 (f n))):=by rw [Ni,List.getElem?_map,Array.getElem?_toList,Pd h];rfl
theorem Bd6 {f:Nat->Int} {M:Nat} : (Ni f M)[64]? = some (.val (.int .u64 M)):=by rw [Ni,List.getElem?_map,Array.getElem?_toList,Ql];rfl
theorem A8.later {w w':World} (h:A8 w) (hb:Below w.heap.size w w'):A8 w':=h.next hb
def enE (f:Nat->Int) (x:Fin 64):List AV:=[.val (.int .i64 (x.1:Nat)),.val (.int .i64 (f x.1))]
theorem B51 (cs:List IV):A7 Tryz.prog A8 198 [.ip cs] (.fn 221 [.ip [.pt cs]]) []:=by
 have h:A7 Tryz.prog A8 198 [.ip cs] (.fn 221 [.bp 0 0]) [.box 0 [.ip cs]]:=by
  refine A7.of (n:=4) (rs:=[.tmp 2]) Tryz.func198 rfl (by kernel_rfl) Tryz.ntmps198 (by kernel_rfl) (by simp) (fun _ _=>A8.later) ?_
  intro hok V w0
  refine g ?_
  refine g ?_
  repeat' refine st_ rfl (g ?_)
  first | exact ⟨.inl trivial,fun _=>200,rfl,by simp [go_sem],by simp⟩ | exact ⟨fun _=>200,rfl,by simp [go_sem],by simp⟩
 exact h.frz ⟨trivial,trivial⟩
attribute [local irreducible] E7 G6
theorem Bj3 {X:World} {f:Nat->Int} {M:Nat} (hf:∀ n,n < 64->I64 (f n)) (hM:M < 18446744073709551616):Bl X (E7 f M).toList (Ni f M) :=
 Bl.of (by unfold Ni;rw [List.length_map]) fun j v i h1 h2=>by
  rw [Ni,List.getElem?_map,h1] at h2
  obtain rfl:=Option.some.inj h2
  rw [Array.getElem?_toList] at h1
  have hj:=(Array.getElem?_eq_some_iff.1 h1).1
  rw [Nh] at hj
  by_cases h64:j < 64
  ·rw [Pd h64] at h1
   obtain rfl:=Option.some.inj h1
   exact .val (hf j h64)
  ·obtain rfl:j=64:=by omega
   rw [Ql] at h1
   obtain rfl:=Option.some.inj h1
   refine .val ?_
   show (Lit.int .u64 (M:Int)).wf=true
   simp [Lit.wf,IntKind.max,IntKind.min,IntKind.signed,IntKind.bits]
   omega
theorem B10 (l:List Ab):A7 Tryz.prog A8 187 [.iv (stI l)] (.aggI (Ni (fun n=>A9 l n) (Dg l))) []:=by
 refine At8 Tryz.func187 rfl (by kernel_rfl) fun V w E vs hV hG hr=>?_
 obtain ⟨v,rfl,hv⟩:=Fy hr
 have hs:=Ch hV hv
 exact (Ru l v w hs).mono fun e w1 h=>⟨_,h.1,h.2,.aggI (Bj3 (Pc hs) (Na l))⟩
attribute [local irreducible] Ni stI
set_option maxRecDepth 100000 in
theorem Be5 (l:List Ab):A7 Tryz.prog A8 139 [.iv (stI l)] (.fn 221 [.ip [.pt (Ni (fun n=>A9 l n) (Dg l))]]) []:=by
 refine A7.of (n:=7) (rs:=[.tmp 2]) Tryz.func139 rfl (by kernel_rfl) Tryz.ntmps139 (by kernel_rfl) (by simp) (fun _ _=>A8.later) ?_
 intro hok V w0
 have hlen:(Ni (fun n=>A9 l n) (Dg l)).length=65:=by unfold Ni;rw [List.length_map,Array.length_toList,Nh]
 have hread:=B10 l
 generalize Ni (fun n=>A9 l n) (Dg l)=C at hlen hread ⊢
 refine g ?_
 refine g ?_
 repeat' refine st_ rfl (g ?_)
 refine Aa hread rfl ?_
 refine g ?_
 refine Az0 (q:=1) (s:=65) (by kernel_rfl) hlen rfl rfl ?_
 refine g ?_
 refine AW.freeze 400 _ rfl (Y3 C) ?_
 simp only [go_sem,Xd,reduceIte]
 refine g ?_
 repeat' refine st_ rfl (g ?_)
 refine Aa (B51 C) rfl ?_
 refine g ?_
 repeat' refine st_ rfl (g ?_)
 first | exact trivial | exact ⟨.inl trivial,id,List.nodup_nil⟩ | exact ⟨.inl trivial,id,by simp [go_sem],List.nodup_nil⟩
theorem Bf6 {R:Nat} (hR:R < 18446744073709551616):A7 Tryz.prog A8 222 [.val (.int .u64 R)] (.val (.int .i64 (Lib.ctz 64 R))) [] :=
 Bq Tryz.func222 rfl (by kernel_rfl) fun V w E vs hV hG hr=>by
  obtain ⟨v,rfl,hv⟩:=Fy hr
  cases hv
  exact (Ac6 R hR w hG).mono fun _ w' h=>⟨h.1,h.2 ▸ Below.refl _ _⟩
structure Cf6 (M:Nat) where
 k:Nat
 R:Nat
 pre:List (Fin 64)
 hk:k<=64
 hR:R < 18446744073709551616
 hbit:∀ i,i < 64->R.testBit i=(M.testBit i&&decide (k<=i))
 hpre:pre.map (·.1)=Cf M k
theorem B50 (f:Nat->Int) (M:Nat) (hM:M < 18446744073709551616):Bd Tryz.prog A8 221 [.ip [.pt (Ni f M)]] (enE f) (fun ys=>ys.map (·.1)=Cf M 64) (fun pre=>pre.map (·.1) <+: Cf M 64):=by
 refine Bd.of (n:=27) Tryz.func221 rfl (by kernel_rfl) Tryz.ntmps221 (by kernel_rfl) (by simp) (fun _ _=>A8.later) ?_
 intro hok Y
 have h64:=Bd6 (f:=f) (M:=M)
 have hat:=fun n (h:n < 64)=>Bj4 (f:=f) (M:=M) h
 generalize Ni f M=C at h64 hat ⊢
 refine g ?_
 refine g ?_
 repeat' refine Kg rfl (g ?_)
 refine En h64 ?_
 refine g ?_
 repeat' refine Kg rfl (g ?_)
 refine AWY.loop (fun s:Cf6 M=>(.going s.pre,⟨[(0,.val (.func (.yield Y.l) #[] #[])),(1,.ip [.pt C]),(3,.val (.int .u64 s.R))],[]⟩)) (fun s=>s.R) ⟨0,M,[],by omega,hM,fun i _=>by simp,rfl⟩ id ⟨rfl,by simp [LeS,go_sem]⟩ fun ⟨k,R,pre,hk,hR,hbit,hpre⟩=>?_
 refine g ?_
 repeat' (first | refine Kg rfl (g ?_) | refine Cl (fun h=>g ?_) (fun h=>g ?_))
 ·have hz:R≠0:=by rintro rfl;simp at h
  obtain ⟨hx,hxb,hxl⟩:=Aw2 hz hR
  have hdl:=Aj9 hz hR
  refine Aa (Bf6 hR) rfl ?_
  generalize Lib.ctz 64 R=x at *
  refine g ?_
  repeat' refine Kg rfl (g ?_)
  refine ⟨by omega,by omega,?_⟩
  rw [Nat.mul_one]
  refine g ?_
  repeat' refine Aj (g ?_)
  refine En (hat x hx) ?_
  refine g ?_
  have hp1:(pre++[(⟨x,hx⟩ : Fin 64)]).map (·.1)=Cf M (x+1):=by
   rw [List.map_append,hpre]
   show Cf M k++[x]=_
   have hb:=hbit x hx
   rw [hxb] at hb
   simp only [Bool.true_eq,Bool.and_eq_true,decide_eq_true_eq] at hb
   rw [Jg,hb.1,if_pos rfl,Kz hb.2 fun i h1 h2=>by
    have:=hbit i (by omega)
    rw [hxl i h2,decide_eq_true h1,Bool.and_true] at this
    exact this.symm]
  refine Wn (x:=(⟨x,hx⟩ : Fin 64)) ?_ ?_ ?_ ?_
  ·rfl
  ·exact Sbs.rfl_ _
  ·rw [hp1];exact Q8 (by omega)
  simp only [go_sem]
  refine ⟨?_,?_⟩
  ·refine g ?_
   repeat' refine Kg rfl (g ?_)
   have e1:bits .and .u64 (R:Int) ((R:Int) - 1)=((R &&& (R - 1):Nat):Int):=by
    rw [show (R:Int) - 1=((R - 1:Nat):Int) by omega]
    exact u64_and_nat _ _ hR (by omega)
   refine ⟨(R:Int) - 1,by rw [IntKind.wrap_u64];omega,?_⟩
   refine g ?_
   repeat' refine Aj (g ?_)
   refine ⟨.int .u64 ((R &&& (R - 1):Nat):Int),fun w=>by go_simp,?_⟩
   refine g ?_
   repeat' refine Aj (g ?_)
   have hlt:R &&& (R - 1) < R:=Nat.lt_of_le_of_lt Nat.and_le_right (by omega)
   refine ⟨⟨x+1,R &&& (R - 1),pre++[⟨x,hx⟩],by omega,by omega,fun i hi=>?_,hp1⟩,id,rfl,by simp [LeS,go_sem],hlt⟩
   rw [hdl]
   rcases Nat.lt_or_ge i x with c | c
   ·rw [hxl i c,decide_eq_false (p:=x+1<=i) (by omega)]
    simp
   ·have hkx:k<=x:=by
     have:=hbit x hx
     rw [hxb] at this
     simp only [Bool.true_eq,Bool.and_eq_true,decide_eq_true_eq] at this
     exact this.2
    rw [hbit i hi,decide_eq_true (p:=k<=i) (by omega),Bool.and_true]
    congr 1
    by_cases hix:i=x
    ·subst hix;simp
    ·rw [decide_eq_false (p:=i=x) hix,decide_eq_true (p:=x+1<=i) (by omega)]
     rfl
  ·refine g ?_
   repeat' refine Kg rfl (g ?_)
   exact .inl trivial
 ·have hz:R=0:=by simp at h;omega
  subst hz
  refine ⟨.inr trivial,?_⟩
  rw [hpre]
  exact (Kz hk fun i h1 h2=>by
   have:=hbit i h2
   rw [Nat.zero_testBit,decide_eq_true h1,Bool.and_true] at this
   exact this.symm).symm
end Go.Proofs.YthlgnjlpakimaaaGreatDoor
namespace Go.Proofs.YthlgnjlpakimaaaGreatDoor
open Go.ChangeShapes Go.WideShapes Go.ChangeAt Go.RowKit
set_option maxHeartbeats 1600000 in
theorem Ze (x : B7) (v0 v1 v2 v3 : Value) (w : World) (h : Pm w w.heap.size v0 v1 v2 v3 x) :
    Calls Tryz.prog 95 #[.agg #[v0, v1, v2, v3]] w fun e w' => e = .returned (.bool (Al x)) /\ Below w.heap.size w w' := by
  have hle := h.writes.len_le
  obtain ⟨A0, c0, rfl, _⟩ := id h.start
  obtain ⟨A1, c1, rfl, _⟩ := id h.end_
  obtain ⟨A2, c2, rfl, _⟩ := id h.blur
  obtain ⟨A3, c3, rfl, _⟩ := id h.writes
  unfold Al
  generalize hr0 : Av x.start = r0
  generalize hr1 : Av x.end_ = r1
  generalize hr2 : Ba x.end_ x.start = r2
  generalize hr3 : Ci x.blur = r3
  have H0 := Lib.hid hr0
  have H1 := Lib.hid hr1
  have H2 := Lib.hid hr2
  have H3 := Lib.hid hr3
  clear hr0 hr1 hr2 hr3
  go_enter Tryz.func95, Tryz.ntmps95
  go_wp2_with fail
  generalize hv0 : Value.slice A0 x.start.length c0 = v0 at *
  generalize hv1 : Value.slice A1 x.end_.length c1 = v1 at *
  generalize hv2 : Value.slice A2 x.blur.length c2 = v2 at *
  generalize hv3 : Value.slice A3 x.writes.length c3 = v3 at *
  have Hv3 := Lib.hid hv3
  clear hv0 hv1 hv2 hv3
  have k := Af (o := .cells #[v0, v1, v2, v3] 37) (Below.refl _ w)
  have B := Blk.new w 37 #[v0, v1, v2, v3]
  generalize hW0 : w.alloc (.cells #[v0, v1, v2, v3] 37) = W0 at *
  clear hW0
  have hn := h.next k
  refine (Ko x.start _ _ hn.start).mono ?_
  rw [H0.out]
  rintro e w1 ⟨rfl, hb1⟩
  replace k := As k hb1
  replace B := B.next hb1
  replace hn := hn.next hb1
  clear hb1
  have b0 := B.cell 0
  have b1 := B.cell 1
  have b2 := B.cell 2
  have b3 := B.cell 3
  simp only [List.getElem?_toArray, List.getElem?_cons_zero, List.getElem?_cons_succ] at b0 b1 b2 b3
  cases r0
  · go_wp2_with fail
    go_ret
    exact ⟨rfl, k⟩
  go_wp2_with fail
  refine (Ko x.end_ _ _ hn.end_).mono ?_
  rw [H1.out]
  rintro e w2 ⟨rfl, hb1⟩
  replace k := As k hb1
  replace B := B.next hb1
  replace hn := hn.next hb1
  replace b0 := Am hb1 b0
  replace b1 := Am hb1 b1
  replace b2 := Am hb1 b2
  replace b3 := Am hb1 b3
  clear hb1
  cases r1
  · go_wp2_with fail
    go_ret
    exact ⟨rfl, k⟩
  go_wp2_with fail
  refine (Ui x.end_ x.start _ _ _ hn.end_ hn.start).mono ?_
  rw [H2.out]
  rintro e w3 ⟨rfl, hb1⟩
  replace k := As k hb1
  replace B := B.next hb1
  replace hn := hn.next hb1
  replace b0 := Am hb1 b0
  replace b1 := Am hb1 b1
  replace b2 := Am hb1 b2
  replace b3 := Am hb1 b3
  clear hb1
  cases r2
  · go_wp2_with fail
    go_ret
    exact ⟨rfl, k⟩
  go_wp2_with fail
  refine (Rj x.blur _ _ hn.blur).mono ?_
  rw [H3.out]
  rintro e w4 ⟨rfl, hb1⟩
  replace k := As k hb1
  replace B := B.next hb1
  replace hn := hn.next hb1
  replace b0 := Am hb1 b0
  replace b1 := Am hb1 b1
  replace b2 := Am hb1 b2
  replace b3 := Am hb1 b3
  clear hb1
  cases r3
  · go_wp2_with fail
    go_ret
    exact ⟨rfl, k⟩
  rw [<- Hv3.out] at b3
  go_wp2_with fail
  have HB := Lib.hid B
  have HN := Lib.hid hn
  clear b0 b1 b2 b3 B hn H0 H1 H2 H3 h
  go_loopw [3] (fun i wr => ∃ (m : Nat) (e : Int), m <= x.writes.length /\ i = .int .i64 m /\ (m = 0 -> e = -1) /\ (∀ i y, m = i + 1 -> x.writes[i]? = some y -> e = y.object) /\ Dt x (-1) x.writes = Dt x e (x.writes.drop m) /\ Below w4.heap.size w4 wr) (fun i _ => x.writes.length - (intOf i).toNat)
  case atStart => exact ⟨0, -1, Nat.zero_le _, rfl, fun _ => rfl, fun i _ hi => by omega, rfl, Below.refl _ _⟩
  case round =>
    obtain ⟨m, e, hm, rfl, he0, he1, hv, hb⟩ := hrel
    have hn := HN.out.next hb
    have B := HB.out.next hb
    replace k := As k hb
    have b3 := B.cell 3
    simp only [List.getElem?_toArray, List.getElem?_cons_zero, List.getElem?_cons_succ] at b3
    rw [<- Hv3.out] at b3
    by_cases hlt : m < x.writes.length
    · obtain ⟨y, hy⟩ : ∃ y, x.writes[m]? = some y := ⟨x.writes[m], List.getElem?_eq_getElem hlt⟩
      obtain ⟨b, off, c', hv', hbb, e0, e1, e2, e3, _⟩ := Mv hn.writes hy
      rw [<- Hv3.out] at hv'
      injection hv' with hv1 hv2 hv3
      rw [E6 hy, Dt] at hv
      have Hy := Lib.hid hy
      obtain ⟨⟨yc, yn⟩, yo, yg⟩ := y
      simp only at e0 e1 e2 e3 hv
      have HV := Lib.hid hv
      subst hv1
      have i2 : (m : Int) < (x.writes.length : Int) := by omega
      have He0 := Lib.hid he0
      have He1 := Lib.hid he1
      clear hv hv2 hv3 hy he0 he1
      go_wp2_with fail
      have kB := Af (o := .cells #[.int .i64 yc, .int .i64 yn, .int .i64 yo, .bool yg] 49) (Below.refl _ wr)
      have B5 := Blk.new wr 49 #[.int .i64 yc, .int .i64 yn, .int .i64 yo, .bool yg]
      have hn2 := hn.next kB
      have B2 := B.next kB
      have k2 := As k kB
      have hb2 := As hb kB
      generalize hW : wr.alloc (.cells #[.int .i64 yc, .int .i64 yn, .int .i64 yo, .bool yg] 49) = W at *
      have KB := Lib.hid kB
      have d0 := B5.cell 0
      have d1 := B5.cell 1
      have d2 := B5.cell 2
      have b1 := B2.cell 1
      have b2 := B2.cell 2
      have b4 := B2.cell 3
      simp only [List.getElem?_toArray, List.getElem?_cons_zero, List.getElem?_cons_succ] at b1 b2 b4 d0 d1 d2
      rw [<- Hv3.out] at b4
      have q0 : ∀ z : BW W, z.val.cell? ⟨wr.heap.size, 0, none⟩ = some (.int .i64 yc) := fun z => z.cell d0
      have q1 : ∀ z : BW W, z.val.cell? ⟨wr.heap.size, 1, none⟩ = some (.int .i64 yn) := fun z => z.cell d1
      have q2 : ∀ z : BW W, z.val.cell? ⟨wr.heap.size, 2, none⟩ = some (.int .i64 yo) := fun z => z.cell d2
      have q3 : ∀ z : BW W, z.val.cell? ⟨w.heap.size, 1, none⟩ = some v1 := fun z => z.cell b1
      have q4 : ∀ z : BW W, z.val.cell? ⟨w.heap.size, 2, none⟩ = some v2 := fun z => z.cell b2
      have q5 : ∀ z : BW W, z.val.cell? ⟨w.heap.size, 3, none⟩ = some (.slice (some ⟨b, off, none⟩) x.writes.length c3) := fun z => z.cell b4
      generalize hr : Fs x.end_ ⟨yc, yn⟩ = r at HV
      generalize hq : Bv x.blur yo = q at HV
      have HC1 := Lib.hid (fun z : BW W => hr ▸ B97 x.end_ ⟨yc, yn⟩ v1 z.val (hn2.next z.below).end_)
      have HC2 := Lib.hid (fun z : BW W => hq ▸ Ap2 x.blur yo v2 z.val (hn2.next z.below).blur)
      clear d0 d1 d2 b1 b2 b3 b4 e0 e1 e2 e3 hr hq hW hn2 B2 B5 kB
      have hcs : r = false \/ (r = true /\ yo < 0 /\ decide (yo < 0) = true) \/ (r = true /\ 0 <= yo /\ 255 < yo /\ decide (yo < 0) = false /\ decide (255 < yo) = true) \/ (r = true /\ q = true /\ 0 <= yo /\ yo <= 255 /\ decide (yo < 0) = false /\ decide (255 < yo) = false) \/ (r = true /\ q = false /\ 0 <= yo /\ yo <= 255 /\ decide (yo < 0) = false /\ decide (255 < yo) = false) := by
        simp only [decide_eq_true_eq, decide_eq_false_iff_not]
        cases r <;> cases q <;> simp <;> omega
      cases m with
      | zero =>
        rcases hcs with rfl | ⟨rfl, h1, g1⟩ | ⟨rfl, h1, h2, g1, g2⟩ | ⟨rfl, rfl, h1, h2, g1, g2⟩ | ⟨rfl, rfl, h1, h2, g1, g2⟩
        all_goals
          refine Cb (by kernel_rfl) (by kernel_rfl) ?_
          repeat (go_big_quiet_step (first | (go_at_call 13; exact Fo (HC1.out _)) | (go_at_call 29; exact Fo (HC2.out _))))
          refine wpQuiet_nil ?_
          intro w5 hb5
          have k5 := As k2 hb5
          have hb6 := As hb2 hb5
          go_wp2_with fail
        all_goals first
          | (go_ret
             refine ⟨Ag ?_, k5⟩
             first
               | (rw [HV.out]; simp; done)
               | (rw [HV.out, decide_eq_false (p := e < yo /\ 0 <= yo /\ yo <= 255) (by omega)]; rfl))
          | (refine ⟨⟨1, yo, by omega, rfl, fun h => by omega, fun i y hi hyi => ?_, ?_, hb6⟩, by simp [intOf]; omega⟩
             · obtain rfl : i = 0 := by omega
               rw [Hy.out] at hyi
               injection hyi with hyi
               subst hyi
               rfl
             · rw [HV.out, decide_eq_true (p := e < yo /\ 0 <= yo /\ yo <= 255) (by have := He0.out rfl; omega)]
               rfl)
      | succ i =>
        obtain ⟨y', hy'⟩ : ∃ y', x.writes[i]? = some y' := ⟨x.writes[i], List.getElem?_eq_getElem (by omega)⟩
        obtain rfl := He1.out i y' rfl hy'
        obtain ⟨b', off', c'', hv', hbb', _, _, e2, _, _⟩ := Mv hn.writes hy'
        rw [<- Hv3.out] at hv'
        injection hv' with hv1 hv2 hv3
        injection hv1 with hv1
        injection hv1 with hv4 hv5
        subst hv4 hv5
        have q6 : ∀ z : BW W, z.val.cell? ⟨b, off + i * 4 + 2, none⟩ = some (.int .i64 y'.object) := fun z => z.cell (Am KB.out e2)
        have i1 : (0 : Int) < (i : Int) + 1 := by omega
        have i3 : (i : Int) < (x.writes.length : Int) := by omega
        have s1 : IntKind.i64.wrap ((i : Int) + 1) = (i : Int) + 1 := IntWalk.i64_in _ (by omega)
        have s2 : IntKind.i64.wrap (i : Int) = (i : Int) := IntWalk.i64_in _ (by omega)
        clear hv2 hv3 hy' e2 hbb'
        rcases hcs with rfl | ⟨rfl, h1, g1⟩ | ⟨rfl, h1, h2, g1, g2⟩ | ⟨rfl, rfl, h1, h2, g1, g2⟩ | ⟨rfl, rfl, h1, h2, g1, g2⟩
        all_goals
          refine Cb (by kernel_rfl) (by kernel_rfl) ?_
          repeat (go_big_quiet_step (first | (go_at_call 13; exact Fo (HC1.out _)) | (go_at_call 29; exact Fo (HC2.out _))))
          refine wpQuiet_nil ?_
          intro w5 hb5
          have k5 := As k2 hb5
          have hb6 := As hb2 hb5
          clear s1 s2
          go_wp2_with fail
        all_goals first
          | (go_ret
             refine ⟨Ag ?_, k5⟩
             first
               | (rw [HV.out]; simp; done)
               | (rw [HV.out, decide_eq_false (p := y'.object < yo /\ 0 <= yo /\ yo <= 255) (by omega)]; rfl))
          | (refine ⟨⟨i + 1 + 1, yo, by omega, by go_num, fun h => by omega, fun i' y hi hyi => ?_, ?_, hb6⟩, by simp [intOf]; omega⟩
             · obtain rfl : i' = i + 1 := by omega
               rw [Hy.out] at hyi
               injection hyi with hyi
               subst hyi
               rfl
             · rw [HV.out, decide_eq_true (p := y'.object < yo /\ 0 <= yo /\ yo <= 255) (by omega)]
               rfl)
    · obtain rfl : m = x.writes.length := by omega
      rw [List.drop_length] at hv
      have HV := Lib.hid hv
      clear hv he0 he1
      go_wp2_with fail
      go_ret
      exact ⟨Ag (by rw [HV.out]; rfl), k⟩
end Go.Proofs.YthlgnjlpakimaaaGreatDoor
namespace Go.Proofs.YthlgnjlpakimaaaGreatDoor
open Go.ChangeShapes Go.WideShapes Go.ChangeAt Go.RowKit Go.Shelf
attribute [local go_sem] Oper.semAt_some
theorem Ae.cells {α:Type} {R:List Value->α->Prop} {k:Nat} {w:World} {base:Nat} {e:TypeId} {v:Value} {l:List α} (h:Ae R k w base e v l) {g:Nat} (hg:v.ownBlock=some g):∃ cs t f,w.heap[g]? = some (.cells cs t f):=by
 obtain ⟨xs,hown,_⟩:=h
 rcases hown.2 with ⟨rfl,_⟩ | ⟨g',cap,cur,rfl,_,hb,_⟩
 ·cases hg
 ·obtain rfl:g'=g:=Option.some.inj hg
  exact ⟨_,_,_,hb⟩
theorem Ae.abides {α:Type} {R:List Value->α->Prop} {k:Nat} {A B:World} {base:Nat} {e:TypeId} {v:Value} {l:List α} {row:Option Nat} (h:Ae R k A base e v l) (hg:A.grownBy B row) (hr:∀ r,row=some r->∃ o:Obj,A.heap[r]? = some o/\o.isCells=false):Ae R k B base e v l:=by
 refine h.kept hg ?_
 cases hv:v.ownBlock with
 | none=>exact .inl rfl
 | some g =>
  refine .inr fun e'=>?_
  obtain ⟨cs,t,f,hc⟩:=h.cells hv
  obtain ⟨o,ho,hoc⟩:=hr g e'.symm
  rw [hc] at ho
  injection ho with ho
  subst ho
  cases hoc
theorem Ae.keepsOthers {α:Type} {R:List Value->α->Prop} {k:Nat} {A B:World} {base:Nat} {e:TypeId} {v:Value} {l:List α} (h:Ae R k A base e v l) (hg:A.grownBy B v.ownBlock):KeepsOthers A B :=
 KeepsOthers.of_grownBy hg fun j o hj ho=>by
  obtain ⟨cs,t,f,hc⟩:=h.cells hj
  rw [hc] at ho
  injection ho with ho
  subst ho
  rfl
theorem Bs.grown {Bn C:Nat} {A B:World} {row:Option Nat} (hg:A.grownBy B row) (h1:Bn < A.heap.size) (h2:C < A.heap.size) (h3:0 < A.heap.size) (hne:∀ r,row=some r->r≠Bn/\r≠C/\r≠0):Bs Bn C A B:=by
 rintro g (rfl | rfl | rfl)
 ·exact hg.block _ h1 fun e=>(hne _ e.symm).1 rfl
 ·exact hg.block _ h2 fun e=>(hne _ e.symm).2.1 rfl
 ·exact hg.block _ h3 fun e=>(hne _ e.symm).2.2 rfl
theorem R5 (f:Nat->Int) (M:Nat):∀ k,(∀ n,n < k->M.testBit n=decide (0 < f n))->D3 f k=(Cf M k).map fun n=>⟨f n,n⟩
 | 0,_=>rfl
 | k+1,h=>by
  rw [D3,Jg,h k (by omega),R5 f M k fun n hn=>h n (by omega)]
  by_cases h0:0 < f k
  ·rw [if_pos h0,if_pos (by simpa using h0),List.map_append];rfl
  ·rw [if_neg h0,if_neg (by simpa using h0)]
def Kf (f:Nat->Int) (pre:List (Fin 64)):List Ab:=pre.map fun x=>⟨f x.1,(x.1:Nat)⟩
theorem Z7 (f:Nat->Int) (pre:List (Fin 64)) (x:Fin 64):Kf f (pre++[x])=Kf f pre++[⟨f x.1,(x.1:Nat)⟩]:=by simp [Kf]
set_option maxRecDepth 100000 in
set_option maxHeartbeats 2000000 in
theorem Am6 (C:Nat) (f:Nat->Int) (M:Nat) (w:World) (hC:Blk w C 225 (E7 f M)) (hM:M < 18446744073709551616) (hbit:∀ n,n < 64->M.testBit n=decide (0 < f n)) (hI:∀ n,n < 64->I64 (f n)) (hT:A8 w) :
  Calls Tryz.prog 186 #[.pointer (some ⟨C,0,none⟩)] w fun e w'=>(∃ v',e=.returned v'/\Ae Fu 2 w' w.heap.size 42 v' (Hh f))/\Below w.heap.size w w':=by
 have HT:=Lib.hid hT
 have HI:=Lib.hid hI
 have HCC:=Lib.hid hC
 have hClt:=hC.lt
 have hTlt:=hT.lt
 have HV:=Lib.hid (R5 f M 64 hbit)
 clear hT hI hbit hC
 refine (callsIn_wide (n:=5)).1 ?_
 refine callsIn_of_wp_marks Tryz.func186 rfl trivial ?_ rfl
 simp only [Tryz.ntmps186,List.size_toArray,List.length_cons,List.length_nil,Nat.reduceAdd,Nat.reduceSub,Array.replicate_succ,Array.replicate_zero,List.push_toArray,List.append_toArray,List.nil_append,List.cons_append]
 gi_wp2
 refine ⟨trivial,?_⟩
 refine (callsIn_wide.2 (Yr C _)).mono ?_
 rintro e w1 ⟨rfl,rfl⟩
 have kb:=Af (o:=.cells #[.pointer (some ⟨C,0,none⟩)] 246) (Af (o:=.cells #[.slice none 0 0] 25) (Below.refl _ w))
 have hE:Kr (w.heap.size+1) C f M ((w.alloc (.cells #[.slice none 0 0] 25)).alloc (.cells #[.pointer (some ⟨C,0,none⟩)] 246)):=⟨Blk.new_at (by simp),HCC.out.alloc.alloc,HT.out.next kb⟩
 have hV:Blk ((w.alloc (.cells #[.slice none 0 0] 25)).alloc (.cells #[.pointer (some ⟨C,0,none⟩)] 246)) w.heap.size 25 #[.slice none 0 0]:=(Blk.new w 25 _).alloc
 have hs0:((w.alloc (.cells #[.slice none 0 0] 25)).alloc (.cells #[.pointer (some ⟨C,0,none⟩)] 246)).heap.size=w.heap.size+2:=by simp
 rw [show (w.alloc (.cells #[.slice none 0 0] 25)).heap.size=w.heap.size+1 by simp]
 generalize (w.alloc (.cells #[.slice none 0 0] 25)).alloc _=W0 at *
 have HE:=Lib.hid hE
 have HV0:=Lib.hid hV
 have HKB:=Lib.hid kb
 clear hE hV kb
 gi_wp2
 refine wpIn_rangeFunc_ownF rfl (by omega) (gf:=221) (lb:=#[.pointer (some ⟨w.heap.size+1,0,none⟩)]) rfl trivial (enters_of Tryz.func221 (by kernel_rfl) rfl)
  (Sc _ (by omega) (w.heap.size+1) C f M hM W0 HE.out) (fun h k=>Bs.t h k) (fun W l o o' hl _ _ _=>Bs.put (w:=W0) (by omega) (by omega) (by omega) hl) (Below.refl _ _) (fun _=>rfl)
  (fun pre W=>(∃ v,Blk W w.heap.size 25 #[v]/\Ae Fu 2 W (w.heap.size+2) 42 v (Kf f pre)/\w.heap.size+2<=W.heap.size)/\Below w.heap.size w W)
  (fun _ _ _=>False)
  (OwnFrom.and (Own.from (fun s A B row hs hg hr=>by obtain ⟨v,h1,h2,h3⟩:=hs;exact ⟨v,h1.own hg hr,h2.abides hg hr,Nat.le_trans h3 hg.size⟩) _) (ownFrom_below (Nat.le_refl _) (by omega)))
  (fun _ _ _ _ _ hs _ _=>hs)
  ⟨⟨_,HV0.out,Ae.nil_ _ _ _,by omega⟩,HKB.out⟩
  (fun x=>{ tmps:=#[.pointer (some ⟨C,0,none⟩),undef,.slice none 0 0,.pointer (some ⟨w.heap.size,0,none⟩),.int .i64 (x.1:Nat),.int .i64 (f x.1),.pointer (some ⟨C,0,none⟩),Yp (w.heap.size+1),.int .i64 (x.1:Nat),.int .i64 (f x.1),undef,undef,undef,undef,undef,undef,undef],defers:=[] }) ?assign ?body ?done ?stop
 case assign =>
  intro r x W K hK
  dsimp only [Kb]
  gi_wp2
  exact hK
 case body =>
  rintro r pre ⟨x,hx⟩ W ⟨⟨v,hB,hown,hs2⟩,hb⟩ hlen
  dsimp only
  have b0:=hB.cell 0
  have z0:=hB.frozen 0
  simp only [List.getElem?_toArray,List.getElem?_cons_zero] at b0
  have hs:=hb.size
  have hlt:=hown.lt
  have hBlt:=hB.lt
  have hsz:(Kf f pre).length < 1073741824:=by simp only [Kf,List.length_map];omega
  have hi:=HI.out x hx
  have HB:=Lib.hid hB
  have HO:=Lib.hid hown
  have Hb:=Lib.hid hb
  have HSN:=Lib.hid (Z7 f pre ⟨x,hx⟩)
  obtain ⟨A5,c5,rfl⟩:=hown.form
  clear hB hown hb
  generalize f x=q at *
  gi_wp2_with (gi_at_builtin;refine Zm Sa Tryz.underlying25 (by omega) (by omega) Xi rfl (.tmp 10) (.tmp 14) rfl (w.heap.size+2) _ _ rfl HO.out #[.int .i64 q,.int .i64 x] ⟨q,x⟩ rfl ⟨rfl,hi,I64.of (by simp only;omega) (by simp only;omega)⟩ rfl hsz (by omega) ?_;intro v1 w1 ha;obtain ⟨A6,c6,rfl⟩:=ha.own.form;have hB1:=ha.blk (fun e=>by have:=(hlt _ e).1;omega) HB.out.alloc;have b1:=hB1.cell 0;have z1:=hB1.frozen 0;simp only [List.getElem?_toArray,List.getElem?_cons_zero] at b1)
  have hs1:=ha.size
  have h2:=HO.out.next (Af (o:=.cells #[.int .i64 q,.int .i64 x] 42) (Below.refl _ W))
  have hko:KeepsOthers (W.alloc (.cells #[.int .i64 q,.int .i64 x] 42)) w1:=h2.keepsOthers ha.grown
  have hke:Bs (w.heap.size+1) C (W.alloc (.cells #[.int .i64 q,.int .i64 x] 42)) w1:=Bs.grown ha.grown (by simp only [World.size_alloc];omega) (by simp only [World.size_alloc];omega) (by simp only [World.size_alloc];omega) fun r hr=>by
   have:=(hlt r hr).1
   exact ⟨by omega,by omega,by omega⟩
  have hb2:=ha.low w (by omega) (Af Hb.out)
  simp only [World.size_alloc] at hs1
  refine ⟨((KeepsOthers.alloc _ _).trans hko).trans (KeepsOthers.setCell _ _ _),Bs.t (Bs.t (Bs.of_below (Af (Below.refl _ W)) (by omega) (by omega) (by omega)) hke) (Bs.far (by simp only;omega) (by simp only;omega) (by simp only;omega)),⟨_,hB1.set_ 0 _,?_,?_⟩,?_⟩
  ·try rw [HSN.out]
   have:=Ae.set_other ha.own (p:=⟨w.heap.size,0,none⟩) (fun e=>by have h9:=(ha.own.lt _ e).1;simp only at h9;omega) (.slice A6 ((Kf f pre).length+1) c6)
   simpa using this
  ·simp;omega
  ·exact Se hb2 (by simp)
 case done =>
  rintro D ys W hD hys ⟨⟨v,hB,hown,hs2⟩,hb⟩ hK
  have b0:=hB.cell 0
  have z0:=hB.frozen 0
  simp only [List.getElem?_toArray,List.getElem?_cons_zero] at b0
  have hres:Kf f ys=Hh f:=by
   rw [Hh,HV.out,<-hys,List.map_map]
   rfl
  rw [hres] at hown
  obtain ⟨A6,c6,rfl⟩:=hown.form
  have HO:=Lib.hid hown
  have Hb:=Lib.hid hb
  have HK:=Lib.hid hK
  clear hB hb hys hK hres hown
  gi_wp2
  have hown2:=HO.out.kept (grownBy_putObj' W D (.deferred none)) (.inr fun e=>by
   obtain ⟨cs,t,f,hc⟩:=HO.out.cells e
   rw [HK.out] at hc
   cases hc)
  refine ⟨by simp,.inl ⟨_,_,rfl,run_takeDeferred HK.out,?_⟩⟩
  refine ⟨.slice A6 (Hh f).length c6,by simp [results,Tryz.f186,go_sem],⟨_,rfl,hown2.base (by omega)⟩,Hb.out.trans (belowK_b (w:=w) (Nat.le_refl _) W D _ _ (by have:=HKB.out.size;omega) HK.out rfl rfl)⟩
 case stop =>
  rintro E d pre W hD _ h hK
  exact h.elim
end Go.Proofs.YthlgnjlpakimaaaGreatDoor
namespace Go.Proofs.YthlgnjlpakimaaaGreatDoor
open Go.ChangeShapes Go.WideShapes Go.ChangeAt Go.RowKit Go.Shelf
attribute [local go_sem] Oper.semAt_some
def Ji (f d:Nat->Int) (pre:List (Fin 64)) (n:Nat):Int:=if pre.any (fun x=>decide (x.1=n))=true then max (f n) (d n) else f n
theorem Ar0 (f d:Nat->Int):Ji f d []=f:=by funext n;simp [Ji]
theorem Ah9 (f d:Nat->Int) (pre:List (Fin 64)) (x:Fin 64):(fun k=>if k=x.1 then max (Ji f d pre x.1) (d x.1) else Ji f d pre k)=Ji f d (pre++[x]):=by
 funext k
 by_cases hk:k=x.1
 ·subst hk
  rw [if_pos rfl,Ji,Ji,List.any_append]
  simp only [List.any_cons,List.any_nil,Bool.or_false,decide_true,Bool.or_true,if_true]
  split<;>omega
 ·rw [if_neg hk,Ji,Ji,List.any_append]
  simp [show ¬ x.1=k from fun e=>hk e.symm]
theorem A43 {l:List Ab} {ys:List (Fin 64)} (hys:ys.map (·.1)=Cf (Dg l) 64) {n:Nat} (hn:n < 64):ys.any (fun x=>decide (x.1=n))=!decide (A9 l n=0):=by
 rw [<-S8 hn,Bool.eq_iff_iff]
 have:n∈ys.map (·.1)↔(Dg l).testBit n=true:=by rw [hys,Vx];exact ⟨fun h=>h.2,fun h=>⟨hn,h⟩⟩
 rw [<-this,List.any_eq_true,List.mem_map]
 exact ⟨fun ⟨x,h1,h2⟩=>⟨x,h1,by simpa using h2⟩,fun ⟨x,h1,h2⟩=>⟨x,h1,by simpa using h2⟩⟩
set_option maxRecDepth 100000 in
set_option maxHeartbeats 3200000 in
theorem Am7 (ls:List (List Ab)) (v:Value) (w:World) (h:J6 w w.heap.size v ls) (hT:A8 w) :
  Calls Tryz.prog 119 #[v] w fun e w'=>(∃ v',e=.returned v'/\Ae Fu 2 w' w.heap.size 42 v' (Eb ls))/\Below w.heap.size w w':=by
 have hle:=h.len_le
 have HH:=Lib.hid h
 have hI:∀ l∈ls,U2 l:=fun l hl=>by
  obtain ⟨i,hi⟩:=List.mem_iff_getElem?.1 hl
  obtain ⟨_,_,_,vi,_,_,_,hs⟩:=Wq h hi
  exact Pc hs
 have HI:=Lib.hid hI
 have HT:=Lib.hid hT
 have hTlt:=hT.lt
 obtain ⟨A,c,rfl,-⟩:=id h
 clear h hI hT
 refine (callsIn_wide (n:=5)).1 ?_
 refine callsIn_of_wp_marks Tryz.func119 rfl trivial ?_ rfl
 simp only [Tryz.ntmps119,List.size_toArray,List.length_cons,List.length_nil,Nat.reduceAdd,Nat.reduceSub,Array.replicate_succ,Array.replicate_zero,List.push_toArray,List.append_toArray,List.nil_append,List.cons_append]
 gi_wp2
 rw [show Tryz.zeroCells225=E7 (fun _=>0) 0 by kernel_rfl]
 have hC0:Blk (w.alloc (.cells (E7 (fun _=>0) 0) 225)) w.heap.size 225 (E7 (fun _=>0) 0):=Blk.new _ _ _
 have kb0:=Af (o:=.cells (E7 (fun _=>0) 0) 225) (Below.refl _ w)
 have hs0:(w.alloc (.cells (E7 (fun _=>0) 0) 225)).heap.size=w.heap.size+1:=by simp
 generalize w.alloc _=W0 at *
 refine wpIn_loop (fun a W=>∃ (m:Nat) (Ds:List Nat) (M:Nat) (u5 u11 u12 u13 u14 u15 u34:Value),m<=ls.length/\M < 18446744073709551616/\(∀ n,n < 64->M.testBit n=decide (0 < Ef (ls.take m) n))/\Eg (w.heap.size+1) Ds W /\
   Blk W w.heap.size 225 (E7 (Ef (ls.take m)) M)/\Below w.heap.size w W/\w.heap.size+1<=W.heap.size /\
   a={ tmps:=#[.slice A ls.length c,undef,.slice none 0 0,.pointer (some ⟨w.heap.size,0,none⟩),undef,u5,undef,undef,.slice A ls.length c,.int .i64 ls.length,.int .i64 m,u11,u12,u13,u14,u15,undef,undef,undef,undef,undef,undef,undef,undef,undef,undef,undef,undef,undef,undef,undef,undef,undef,undef,u34,undef],defers:=Mg Ds })
  (fun a _=>ls.length - (intOf (a.tmps.getD 10 undef)).toNat) ⟨0,[],0,undef,undef,undef,undef,undef,undef,undef,Nat.zero_le _,by omega,fun n _=>by simp [Ef],Eg.nil _ _,hC0,kb0,by omega,rfl⟩ ?_
 clear hC0 kb0 hs0
 rintro a W ⟨m,Ds,M,u5,u11,u12,u13,u14,u15,u34,hm,hM,hbit,hmk,hC,hb,hsz,rfl⟩
 have Hbit:=Lib.hid hbit
 have Hmk:=Lib.hid hmk
 have HC:=Lib.hid hC
 have Hb:=Lib.hid hb
 clear hbit hmk hC
 by_cases hlt:m < ls.length
 ·obtain ⟨x,hx⟩ : ∃ x,ls[m]? = some x:=⟨ls[m],List.getElem?_eq_getElem hlt⟩
  obtain ⟨b,off,_,vi,hv',hbb,e0,hs⟩:=Wq (HH.out.next hb) hx
  injection hv' with hv1 hv2 hv3
  subst hv1
  have HTk:=Lib.hid (Cu hx)
  have HSS:=Lib.hid hs
  obtain ⟨A1,c1,rfl,-⟩:=id hs
  have i1:(m:Int) < (ls.length:Int):=by omega
  have i2:(0:Int)<=(m:Int):=by omega
  have HXI:=Lib.hid (HI.out x (List.mem_of_getElem? hx))
  clear hv2 hv3 hs hx hb
  gi_wp2
  refine ⟨trivial,?_⟩
  refine (callsIn_wide.2 (Zs x _ _ HSS.out (HT.out.next Hb.out))).mono ?_
  rintro e w2 ⟨Bn,D,rfl,hE,hBn,hD,hb2⟩
  have HE:=Lib.hid hE
  have HM2:=Lib.hid (Hmk.out.next hb2)
  have HC2:=Lib.hid (HC.out.next hb2)
  have HB2:=Lib.hid (As Hb.out hb2)
  have hs2:=hb2.size
  have l1:=hE.box.lt
  have l2:=hE.cnt.lt
  have l3:=hE.tab.lt
  have hMx:=Na x
  clear hE hb2 e0
  gi_wp2
  generalize hf:Ef (ls.take m)=f at *
  have HF:=Lib.hid hf
  clear hf
  have hMlt:=HM2.out.lt
  refine wpIn_rangeFunc_ownF rfl (by omega) (gf:=221) (lb:=#[.pointer (some ⟨Bn,0,none⟩)]) rfl trivial (enters_of Tryz.func221 (by kernel_rfl) rfl)
   (Sc _ (by omega) Bn D (fun n=>A9 x n) (Dg x) hMx w2 HE.out) (fun h k=>Bs.t h k) (fun W l o o' hl _ _ _=>Bs.put l1 l2 l3 hl) (Below.refl _ _) (fun _=>rfl)
   (fun pre W'=>((∃ M',M' < 18446744073709551616/\(∀ n,n < 64->M'.testBit n=(M.testBit n || pre.any fun x=>decide (x.1=n)))/\Blk W' w.heap.size 225 (E7 (Ji f (fun n=>A9 x n) pre) M'))/\w2.heap.size<=W'.heap.size)/\(Eg (w.heap.size+1) Ds W'/\Below w.heap.size w W'))
   (fun _ _ _=>False)
   (OwnFrom.and (Own.from (fun s A B row hs hg hr=>by obtain ⟨⟨M',h1,h2,h3⟩,h4⟩:=hs;exact ⟨⟨M',h1,h2,h3.own hg hr⟩,Nat.le_trans h4 hg.size⟩) _) (OwnFrom.and (B32 Ds hMlt) (ownFrom_below (Nat.le_refl _) (by omega))))
   (fun _ _ _ _ _ hs _ _=>hs)
   ⟨⟨⟨M,hM,fun n _=>by simp,by rw [Ar0];exact HC2.out⟩,Nat.le_refl _⟩,HM2.out,HB2.out⟩
   (fun y=>{ tmps:=#[.slice (some ⟨b,off,none⟩) ls.length c,undef,.slice none 0 0,.pointer (some ⟨w.heap.size,0,none⟩),undef,.slice A1 x.length c1,.int .i64 (y.1:Nat),.int .i64 (A9 x (y.1:Nat)),.slice (some ⟨b,off,none⟩) ls.length c,.int .i64 ls.length,.int .i64 m,.bool true,.pointer (some ⟨b,off+m,none⟩),.slice A1 x.length c1,.slice A1 x.length c1,Yp Bn,.int .i64 (y.1:Nat),.int .i64 (A9 x (y.1:Nat)),undef,undef,undef,undef,undef,undef,undef,undef,undef,undef,undef,undef,undef,undef,undef,undef,u34,undef],defers:=[] }) ?assign ?body ?done ?stop
  case assign =>
   intro r y W' K hK
   dsimp only [Kb]
   gi_wp2
   exact hK
  case body =>
   rintro r pre ⟨y,hy⟩ W' ⟨⟨⟨M',hM',hbit',hC'⟩,hsz'⟩,hmk',hb'⟩ _
   dsimp only
   have c0:=(hC'.cell y).trans (Pd hy)
   have c1':=(hC'.cell 64).trans Ql
   have z0:=hC'.frozen y
   have z1:=hC'.frozen 64
   have hwl:=hC'.lt
   have hxi:(y:Int) < 64:=by omega
   have Hbit':=Lib.hid hbit'
   have HC':=Lib.hid hC'
   have Hmk':=Lib.hid hmk'
   have Hb':=Lib.hid hb'
   have HMX:=Lib.hid (Ah9 f (fun n=>A9 x n) pre ⟨y,hy⟩)
   have hSB:=Lib.hid (Au8 (n:=y) hM' hy)
   clear hbit' hC' hmk' hb'
   generalize hp:Ji f (fun n=>A9 x n) pre y=p at c0
   have HP:=Lib.hid hp
   generalize hq:A9 x y=q
   have HQ:=Lib.hid hq
   clear hp hq
   gi_wp2
   all_goals
    have hk2:=(KeepsOthers.setCell W' ⟨w.heap.size,y,none⟩ (.int .i64 (max p q))).trans (KeepsOthers.setCell _ ⟨w.heap.size,64,none⟩ (.int .u64 ((M'|||2 ^ y:Nat):Int)))
    rename_i hcmp
    refine (show ∀ v,v=max p q->ownPostK _ _ _ _ _ _ _ ((W'.setCell ⟨w.heap.size,y,none⟩ (.int .i64 v)).setCell _ _) from ?_) _ (by omega)
    rintro v rfl
    rw [hSB.out]
    refine ⟨hk2,Bs.t (Bs.far (by simp only;omega) (by simp only;omega) (by simp only;omega)) (Bs.far (by simp only;omega) (by simp only;omega) (by simp only;omega)),⟨⟨M'|||2 ^ y,Um hM' hy,fun n hn=>?_,?_⟩,by simpa using hsz'⟩,Hmk'.out.keeps hk2,Se (Se Hb'.out (Nat.le_refl _)) (Nat.le_refl _)⟩
    ·rw [Ap7,Hbit'.out n hn,List.any_append,Bool.or_assoc]
     simp
    ·have h1:=(HC'.out.set_ y (.int .i64 (max p q))).set_ 64 (.int .u64 ((M'|||2 ^ y:Nat):Int))
     rw [Ak4 hy,Tx] at h1
     rw [<-HMX.out,HP.out,HQ.out]
     exact h1
  case done =>
   rintro E ys W' hE hys ⟨⟨⟨M',hM',hbit',hC'⟩,hsz'⟩,hmk',hb'⟩ hK
   have hfun:∀ n,n < 64->Ji f (fun n=>A9 x n) ys n=Ef (ls.take (m+1)) n:=fun n hn=>by
    rw [HTk.out,S9,HF.out,Ji,A43 hys hn]
    have h0:0<=f n:=by rw [<-HF.out];exact Tp _ _
    by_cases hz:A9 x n=0
    ·rw [hz];simp;omega
    ·rw [if_pos (by simpa using hz)]
   have hC2:Blk W' w.heap.size 225 (E7 (Ef (ls.take (m+1))) M'):=by
    rw [show E7 (Ef (ls.take (m+1))) M'=E7 (Ji f (fun n=>A9 x n) ys) M' from F6 fun i _=>by
     split
     ·rename_i hi;rw [hfun i hi]
     ·rfl]
    exact hC'
   have hbits:∀ n,n < 64->M'.testBit n=decide (0 < Ef (ls.take (m+1)) n):=fun n hn=>by
    rw [hbit' n hn,Hbit.out n hn,A43 hys hn,HTk.out,S9,HF.out]
    have h1:=G9 x n
    rw [Bool.eq_iff_iff]
    simp only [Bool.or_eq_true,decide_eq_true_eq,Bool.not_eq_true',decide_eq_false_iff_not]
    omega
   have HC3:=Lib.hid hC2
   have HB3:=Lib.hid hbits
   have HM3:=Lib.hid (hmk'.more (D:=E) (fun F hF=>by have:=hMlt F hF;omega) (by omega) hK)
   have Hb3:=Lib.hid hb'
   clear hC' hfun hC2 hbits hys hmk' hb' hK hbit'
   gi_wp2
   refine ⟨⟨m+1,E :: Ds,M',_,_,_,_,_,_,_,by omega,hM',HB3.out,HM3.out,HC3.out,Hb3.out,by omega,rfl⟩,by simp [intOf];omega⟩
  case stop =>
   rintro E d pre W hD _ h hK
   exact h.elim
 ·obtain rfl:m=ls.length:=by omega
  have hC2:Blk W w.heap.size 225 (E7 (Ef ls) M):=by have:=HC.out;rwa [List.take_length] at this
  have HL:=Lib.hid (Am6 w.heap.size (Ef ls) M W hC2 hM (fun n hn=>by rw [Hbit.out n hn,List.take_length]) (A32 HI.out) (HT.out.next Hb.out))
  clear hC2 hb
  gi_wp2
  refine ⟨trivial,?_⟩
  refine (callsIn_wide.2 HL.out).mono ?_
  rintro e w3 ⟨⟨v',rfl,hown⟩,hb3⟩
  have hmk3:=Hmk.out.next hb3
  obtain ⟨A6,c6,rfl⟩:=hown.form
  have hfin:=Eg.own (B':=w.heap.size+1) (s:=()) (I:=fun (_:Unit) W=>Ae Fu 2 W w.heap.size 42 (.slice A6 (Hh (Ef ls)).length c6) (Hh (Ef ls))/\Below w.heap.size w W)
   (OwnFrom.and (Own.from (fun _ _ _ _ hs hg hr=>hs.abides hg hr) _) (ownFrom_below (Nat.le_refl _) (by omega))) (Nat.le_refl _) Ds w3 hmk3 ⟨hown.base (by omega),As Hb.out hb3⟩
  have HF:=Lib.hid hfin
  have HMK:=Lib.hid hmk3
  clear hown hfin hmk3 HL
  gi_wp2
  exact P5 Ds w3 HMK.out ⟨.slice A6 (Hh (Ef ls)).length c6,by simp [results,Tryz.f119,go_sem],⟨_,rfl,HF.out.1⟩,HF.out.2⟩
end Go.Proofs.YthlgnjlpakimaaaGreatDoor
namespace Go.Proofs.YthlgnjlpakimaaaGreatDoor
open Go.ChangeShapes Go.WideShapes Go.ChangeAt Go.RowKit
def Wk (ls:List (List Ad)) (o:Nat):Bool:=ls.any fun l=>Ak l o
theorem B63 (ls:List (List Ad)) (l:List Ad) (o:Nat):Wk (ls++[l]) o=(Wk ls o || Ak l o):=by simp [Wk]
theorem B64 (ls:List (List Ad)) (o:Nat):Wk ls o=Ak ls.flatten o:=by
 unfold Wk Ak
 induction ls with
 | nil=>rfl
 | cons l ls ih=>simp only [List.any_cons,List.flatten_cons,List.any_append,ih]
def Ls (f d:Nat->Bool) (k n:Nat):Bool:=if n < k then (f n || d n) else f n
theorem Ag6 (f d:Nat->Bool):Ls f d 0=f:=by funext n;simp [Ls]
theorem Az3 (f d:Nat->Bool) (k:Nat) (v:Bool) (hv:v=(f k || d k)):(setRow (Ls f d k)).setIfInBounds k (.bool v)=setRow (Ls f d (k+1)):=by
 rw [S1]
 refine Fb fun i _=>?_
 by_cases hi:i=k
 ·subst hi;rw [if_pos rfl,hv];simp [Ls]
 ·rw [if_neg hi]
  have e:(i < k+1)=(i < k):=by simp;omega
  simp [Ls,e]
def Jo (f d:Nat->Bool) (k n:Nat):Bool:=if n < k then (f n&&d n) else f n
theorem Aa5 (f d:Nat->Bool):Jo f d 0=f:=by funext n;simp [Jo]
theorem An7 (f d:Nat->Bool) (k:Nat) (v:Bool) (hv:v=(f k&&d k)):(setRow (Jo f d k)).setIfInBounds k (.bool v)=setRow (Jo f d (k+1)):=by
 rw [S1]
 refine Fb fun i _=>?_
 by_cases hi:i=k
 ·subst hi;rw [if_pos rfl,hv];simp [Jo]
 ·rw [if_neg hi]
  have e:(i < k+1)=(i < k):=by simp;omega
  simp [Jo,e]
set_option maxRecDepth 100000 in
set_option maxHeartbeats 1600000 in
theorem Af8 (ls:List (List Ad)) (v:Value) (w:World) (h:Jp w w.heap.size v ls) :
  Calls Tryz.prog 208 #[v] w fun e w'=>(∃ v',e=.returned v'/\Ae Df 2 w' w.heap.size 66 v' (B9 ls.flatten))/\Below w.heap.size w w':=by
 have hle:=h.len_le
 have HH:=Lib.hid h
 obtain ⟨A,c,rfl,-⟩:=id h
 have hz:=Wm
 clear h
 go_enter Tryz.func208,Tryz.ntmps208
 go_wp2_with fail
 clear hz
 go_loopw [4] (fun k wr=>∃ m:Nat,m<=ls.length/\k=.int .i64 m/\Below w.heap.size w wr/\Blk wr w.heap.size 99 (setRow (Wk (ls.take m)))) (fun k _=>ls.length - (intOf k).toNat)
 case atStart=>exact ⟨0,Nat.zero_le _,rfl,Af (Below.refl _ _),Blk.new _ _ _⟩
 case round =>
  obtain ⟨m,hm,rfl,hb,hB⟩:=hrel
  by_cases hlt:m < ls.length
  ·obtain ⟨x,hx⟩ : ∃ x,ls[m]? = some x:=⟨ls[m],List.getElem?_eq_getElem hlt⟩
   obtain ⟨b,off,_,vi,hv',hbb,e0,hs⟩:=S5 (HH.out.next hb) hx
   injection hv' with hv1 hv2 hv3
   subst hv1
   have HT:=Lib.hid (Cu hx)
   have HBB:=Lib.hid hB
   have HSS:=Lib.hid hs
   obtain ⟨A1,c1,rfl,-⟩:=id hs
   have hws:=hb.size
   have hz:=Wm
   clear hv2 hv3 hs hB hx
   go_wp2_with fail
   refine (Uh x _ _ HSS.out).mono ?_
   rintro e w1 ⟨rfl,hb1⟩
   have hB1:=HBB.out.next hb1
   have hb1s:=hb1.size
   have hBlt:=HBB.out.lt
   have Hb1:=Lib.hid (As hb hb1)
   clear hb hb1 HBB e0
   generalize hf:Wk (ls.take m)=f at *
   have HF:=Lib.hid hf
   clear hf
   go_wp2_with (refine wpList_store_row rfl 99 (.tmp 5) (.tmp 17) rfl w1.heap.size _ rfl rfl 99 _ (Blk.new w1 99 _).raw (Mi _) ((E4 _).trans (E4 _).symm) (Nw _) ?_)
   have hD:Blk ((w1.alloc (.cells (setRow fun _=>false) 99)).setRow w1.heap.size (setRow fun o=>Ak x o)) w1.heap.size 99 (setRow fun o=>Ak x o):=(Blk.new w1 99 (setRow fun _=>false)).setRow
   have hB2:Blk ((w1.alloc (.cells (setRow fun _=>false) 99)).setRow w1.heap.size (setRow fun o=>Ak x o)) w.heap.size 99 (setRow f):=hB1.alloc.farRow (by omega)
   have hb2:Below w.heap.size w ((w1.alloc (.cells (setRow fun _=>false) 99)).setRow w1.heap.size (setRow fun o=>Ak x o)):=L5 (Af Hb1.out) (by omega)
   generalize (w1.alloc _).setRow _ _=W at *
   generalize hg:w1.heap.size=g at *
   have HN:=Lib.hid (show ∀ n,Wk (ls.take (m+1)) n=(f n || Ak x n) from fun n=>by rw [HT.out,B63];rw [HF.out])
   generalize hd:(fun n:Nat=>Ak x n)=d at *
   have HD:=Lib.hid hd
   have hne:w.heap.size≠g:=by omega
   clear hd hg hb1s hws hz
   go_loopw [6] (fun j w2=>∃ n:Nat,n<=256/\j=.int .i64 n/\Below w.heap.size w w2/\Blk w2 w.heap.size 99 (setRow (Ls f d n))/\Blk w2 g 99 (setRow d)) (fun j _=>256 - (intOf j).toNat)
   case atStart=>exact ⟨0,by omega,rfl,hb2,by rw [Ag6];exact hB2,hD⟩
   case round =>
    obtain ⟨n,hn,rfl,hb3,hB3,hD3⟩:=hrel
    by_cases hn64:n < 256
    ·have c0:=(hB3.cell n).trans (Cv hn64)
     have d0:=(hD3.cell n).trans (Cv hn64)
     have z0:=hB3.frozen n
     have hq:Ls f d n n=f n:=by simp [Ls]
     rw [hq] at c0
     have HMX:=Lib.hid (fun (v:Bool) (hv:v=(f n || d n))=>(Az3 f d n v hv) ▸ hB3.set_ n (.bool v))
     have HD4:=Lib.hid (fun v:Value=>hD3.far (p:=⟨w.heap.size,n,none⟩) (by simpa using hne.symm) v)
     have HB4:=Lib.hid (fun v:Value=>Se (u:=v) hb3 (p:=⟨w.heap.size,n,none⟩) (Nat.le_refl _))
     have i1:(n:Int) < 256:=by omega
     clear hq hB3 hD3 hb3
     generalize hp:f n=p at *
     generalize hq2:d n=q at *
     clear hp hq2
     cases p
     ·go_wp2_with fail
      exact ⟨⟨n+1,by omega,by go_num,HB4.out _,HMX.out q (by simp),HD4.out _⟩,by simp [intOf];omega⟩
     ·go_wp2_with fail
      exact ⟨⟨n+1,by omega,by go_num,HB4.out _,HMX.out true (by simp),HD4.out _⟩,by simp [intOf];omega⟩
    ·obtain rfl:n=256:=by omega
     have hB4:Blk wr w.heap.size 99 (setRow (Wk (ls.take (m+1)))):=by
      rw [show setRow (Wk (ls.take (m+1)))=setRow (Ls f d 256) from Fb fun i hi=>by rw [HN.out i,Ls,if_pos hi,<-HD.out]]
      exact hB3
     have HB4:=Lib.hid hB4
     clear hB3 hB4 hD3
     go_wp2_with fail
     exact ⟨⟨m+1,by omega,by go_num,hb3,HB4.out⟩,by simp [intOf];omega⟩
  ·obtain rfl:m=ls.length:=by omega
   rw [List.take_length] at hB
   have HR:=Lib.hid (show C1 (Wk ls)=B9 ls.flatten from Dd fun o _=>B64 ls o)
   have HC:=Lib.hid (fun z=>Av6 (Wk ls) z)
   have HB:=Lib.hid hB
   clear hB
   go_wp2_with (with_reducible refine wpList_load_row rfl 99 (.tmp 3) rfl w.heap.size rfl 99 _ (0,0) _ HB.out.raw Tryz.underlying99 rfl (Mi _) ?_)
   refine (HC.out _).mono ?_
   rintro e w1 ⟨⟨v',rfl,hown⟩,hb1⟩
   have hbs:=hb.size
   obtain ⟨A0,c0,rfl⟩:=hown.form
   have HO:=Lib.hid hown
   clear hown
   go_wp2_with fail
   go_ret
   exact ⟨⟨_,rfl,by rw [<-HR.out];exact HO.out.base hbs⟩,As hb hb1⟩
theorem Ap1 (a b:List Ad) (v u:Value) (w:World) (h:Co w w.heap.size v a) (h':Co w w.heap.size u b) :
  Calls Tryz.prog 169 #[v,u] w fun e w'=>(∃ v',e=.returned v'/\Ae Df 2 w' w.heap.size 66 v' (B9 (a++b)))/\Below w.heap.size w w':=by
 obtain ⟨A,c,rfl,-⟩:=id h
 obtain ⟨A',c',rfl,-⟩:=id h'
 have ha:=Af (o:=.cells #[.slice A a.length c,.slice A' b.length c'] 35) (Below.refl _ w)
 have hB:=Blk.new w 35 #[.slice A a.length c,.slice A' b.length c']
 have hsl:Jp (w.alloc (.cells #[.slice A a.length c,.slice A' b.length c'] 35)) (w.alloc (.cells #[.slice A a.length c,.slice A' b.length c'] 35)).heap.size (.slice (some ⟨w.heap.size,0,none⟩) 2 2) [a,b] :=
  (Ae.of_blk (R:=Aa9 _ _) (k:=1) (l:=[a,b]) hB ⟨[_],_,rfl,rfl,⟨_,rfl,h.next ha⟩,[_],[],rfl,rfl,⟨_,rfl,h'.next ha⟩,rfl⟩ (by simp)).sl
 have HC:=Lib.hid (Af8 [a,b] _ _ hsl)
 have HF:=Lib.hid (show B9 [a,b].flatten=B9 (a++b) by simp)
 clear h h' hB hsl
 go_enter Tryz.func169,Tryz.ntmps169
 go_wp2_with fail
 refine HC.out.mono ?_
 rintro e w1 ⟨⟨v',rfl,hown⟩,hb1⟩
 rw [HF.out] at hown
 have has:=ha.size
 obtain ⟨A0,c0,rfl⟩:=hown.form
 have HO:=Lib.hid hown
 clear hown HC
 go_wp2_with fail
 go_ret
 exact ⟨⟨_,rfl,HO.out.base has⟩,As ha hb1⟩
set_option maxRecDepth 100000 in
set_option maxHeartbeats 1600000 in
theorem Af7 (a b:List Ad) (v u:Value) (w:World) (h:Co w w.heap.size v a) (h':Co w w.heap.size u b) :
  Calls Tryz.prog 168 #[v,u] w fun e w'=>(∃ v',e=.returned v'/\Ae Df 2 w' w.heap.size 66 v' (C1 fun o=>Ak a o&&Ak b o))/\Below w.heap.size w w':=by
 have HH':=Lib.hid h'
 have HH:=Lib.hid h
 obtain ⟨A,c,rfl,-⟩:=id h
 obtain ⟨A',c',rfl,-⟩:=id h'
 have hz:=Wm
 clear h h'
 go_enter Tryz.func168,Tryz.ntmps168
 go_wp2_with fail
 refine (Uh a _ _ HH.out).mono ?_
 rintro e w1 ⟨rfl,hb1⟩
 have H2:=Lib.hid (HH'.out.next hb1)
 clear HH
 go_wp2_with fail
 refine (Uh b _ _ H2.out).mono ?_
 rintro e w2 ⟨rfl,hb2⟩
 have hb:=As hb1 hb2
 have hbs:=hb.size
 clear H2 HH' hb1 hb2
 go_wp2_with (first
  | (with_reducible refine wpList_store_row rfl 99 (.tmp 5) (.tmp 9) rfl w2.heap.size _ rfl rfl 99 _ (Blk.new w2 99 _).alloc.raw (Mi _) ((E4 _).trans (E4 _).symm) (Nw _) ?_)
  | (with_reducible refine wpList_store_row rfl 99 (.tmp 6) (.tmp 11) rfl (w2.heap.size+1) _ rfl rfl 99 _ ((Blk.new_at (by simp)).farRow (by simp)).raw (Mi _) ((E4 _).trans (E4 _).symm) (Nw _) ?_))
 refine V9 hb ?_
 intro W hB5 hB6 hbw
 have hW:=hB5.lt
 have HD:=Lib.hid hB6
 have hWs:=hbw.size
 clear hz hB6
 generalize hf:(fun o:Nat=>Ak a o)=f at *
 generalize hd:(fun o:Nat=>Ak b o)=d at *
 have HF:=Lib.hid hf
 have HDD:=Lib.hid hd
 clear hf hd
 generalize w2.heap.size=g at *
 go_loopw [7] (fun j wr=>∃ n:Nat,n<=256/\j=.int .i64 n/\Below w.heap.size w wr/\Blk wr g 99 (setRow (Jo f d n))/\Blk wr (g+1) 99 (setRow d)) (fun j _=>256 - (intOf j).toNat)
 case atStart=>exact ⟨0,by omega,rfl,hbw,by rw [Aa5];exact hB5,HD.out⟩
 case round =>
  obtain ⟨n,hn,rfl,hb3,hB3,hD3⟩:=hrel
  by_cases hn64:n < 256
  ·have c0:=(hB3.cell n).trans (Cv hn64)
   have d0:=(hD3.cell n).trans (Cv hn64)
   have z0:=hB3.frozen n
   have hq:Jo f d n n=f n:=by simp [Jo]
   rw [hq] at c0
   have HMX:=Lib.hid (fun (v:Bool) (hv:v=(f n&&d n))=>(An7 f d n v hv) ▸ hB3.set_ n (.bool v))
   have HD4:=Lib.hid (fun v:Value=>hD3.far (p:=⟨g,n,none⟩) (by simp) v)
   have HB4:=Lib.hid (fun v:Value=>Se (u:=v) hb3 (p:=⟨g,n,none⟩) hbs)
   have i1:(n:Int) < 256:=by omega
   clear hq hB3 hD3 hb3
   generalize hp:f n=p at *
   generalize hq2:d n=q at *
   clear hp hq2
   cases p
   ·go_wp2_with fail
    exact ⟨⟨n+1,by omega,by go_num,HB4.out _,HMX.out false (by simp),HD4.out _⟩,by simp [intOf];omega⟩
   ·go_wp2_with fail
    exact ⟨⟨n+1,by omega,by go_num,HB4.out _,HMX.out q (by simp),HD4.out _⟩,by simp [intOf];omega⟩
  ·obtain rfl:n=256:=by omega
   have hB4:Blk wr g 99 (setRow fun o=>Ak a o&&Ak b o):=by
    rw [show (setRow fun o=>Ak a o&&Ak b o)=setRow (Jo f d 256) from Fb fun i hi=>by rw [Jo,if_pos hi,<-HF.out,<-HDD.out]]
    exact hB3
   have HC:=Lib.hid (fun z=>Av6 (fun o=>Ak a o&&Ak b o) z)
   have HB:=Lib.hid hB4
   have hbs3:=hb3.size
   clear hB3 hB4 hD3
   go_wp2_with (with_reducible refine wpList_load_row rfl 99 (.tmp 5) rfl g rfl 99 _ (0,0) _ HB.out.raw Tryz.underlying99 rfl (Mi _) ?_)
   refine (HC.out _).mono ?_
   rintro e w3 ⟨⟨v',rfl,hown⟩,hb4⟩
   have HO:=Lib.hid hown
   clear hown
   go_wp2_with fail
   go_ret
   exact ⟨⟨v',rfl,HO.out.base hbs3⟩,As hb3 hb4⟩
def C67 (ls:List (List Ab)):IV:=.sl 1 (ls.map fun l=>[stI l])
def Bo0 (ls:List (List Ad)):IV:=.sl 1 (ls.map fun l=>[spI l])
theorem A82 {E:Env} {V w:World} {v:Value} {ls:List (List Ab)} (hV:Ext V w) (h:Bb E V v (.iv (C67 ls))):J6 w w.heap.size v ls:=by
 cases h with
 | iv h =>
  refine (Cs.to_typed (R:=X1 w w.heap.size) (l:=ls) (enc:=fun l=>[stI l]) h fun cs x _ hx=>?_).ext (fun _ _ h=>h) hV
  match cs,hx with
  | [v],⟨hx,_⟩=>exact ⟨v,rfl,hx.stamps.ext (fun _ _ h=>h) hV⟩
theorem Ai8 {E:Env} {V w:World} {v:Value} {ls:List (List Ad)} (hV:Ext V w) (h:Bb E V v (.iv (Bo0 ls))):Jp w w.heap.size v ls:=by
 cases h with
 | iv h =>
  refine (Cs.to_typed (R:=Aa9 w w.heap.size) (l:=ls) (enc:=fun l=>[spI l]) h fun cs x _ hx=>?_).ext (fun _ _ h=>h) hV
  match cs,hx with
  | [v],⟨hx,_⟩=>exact ⟨v,rfl,hx.spans.ext (fun _ _ h=>h) hV⟩
theorem Wz {E:Env} {X:World} {v:Value} {a b:Value} (h:Bb E X v (.agg [.val a,.val b])):v=.agg #[a,b]:=by
 cases h with
 | @agg vs _ h1 h2 =>
  obtain ⟨l⟩:=vs
  match l,h1 with
  | [v0,v1],_ =>
   have a0:=h2 0 v0 _ rfl rfl
   have a1:=h2 1 v1 _ rfl rfl
   cases a0;cases a1;rfl
theorem Kv (l:List Ab):A7 Tryz.prog A8 110 [.iv (stI l)] (.val (.bool (Av l))) [] :=
 Bq Tryz.func110 rfl (by kernel_rfl) fun V w E vs hV hG hr=>by
  obtain ⟨v0,rfl,h0⟩:=Fy hr
  exact Kw l _ w (Ch hV h0)
theorem So (l:List Ab) (m:List Ab):A7 Tryz.prog A8 121 [.iv (stI l),.iv (stI m)] (.val (.bool (Ba l m))) [] :=
 Bq Tryz.func121 rfl (by kernel_rfl) fun V w E vs hV hG hr=>by
  obtain ⟨v0,v1,rfl,h0,h1⟩:=J4 hr
  exact Nr l m _ _ w (Ch hV h0) (Ch hV h1) hG
theorem Ac2 (l:List Ab) (n:Int):A7 Tryz.prog A8 175 [.iv (stI l),.val (.int .i64 n)] (.val (.int .i64 (A9 l n))) [] :=
 Bq Tryz.func175 rfl (by kernel_rfl) fun V w E vs hV hG hr=>by
  obtain ⟨v0,v1,rfl,h0,h1⟩:=J4 hr
  cases h1
  exact Va l n _ w (Ch hV h0)
theorem Ay5 (l:List Ab) (s:Ab):A7 Tryz.prog A8 124 [.iv (stI l),.agg [.val (.int .i64 s.count),.val (.int .i64 s.node)]] (.val (.bool (Fs l s))) [] :=
 Bq Tryz.func124 rfl (by kernel_rfl) fun V w E vs hV hG hr=>by
  obtain ⟨v0,v1,rfl,h0,h1⟩:=J4 hr
  obtain rfl:=Wz h1
  exact Zr l s _ w (Ch hV h0)
theorem K8 (l:List Ab):A7 Tryz.prog A8 60 [.iv (stI l)] (.val (.bool (Av l))) [] :=
 Bq Tryz.func60 rfl (by kernel_rfl) fun V w E vs hV hG hr=>by
  obtain ⟨v0,rfl,h0⟩:=Fy hr
  exact Ko l _ w (Ch hV h0)
theorem Rg (l:List Ab) (m:List Ab):A7 Tryz.prog A8 156 [.iv (stI l),.iv (stI m)] (.val (.bool (Ba l m))) [] :=
 Bq Tryz.func156 rfl (by kernel_rfl) fun V w E vs hV hG hr=>by
  obtain ⟨v0,v1,rfl,h0,h1⟩:=J4 hr
  exact Ui l m _ _ w (Ch hV h0) (Ch hV h1)
theorem Mb (l:List Ab) (m:List Ab):A7 Tryz.prog A8 27 [.iv (stI l),.iv (stI m)] (.val (.bool (decide (l=m)))) [] :=
 Bq Tryz.func27 rfl (by kernel_rfl) fun V w E vs hV hG hr=>by
  obtain ⟨v0,v1,rfl,h0,h1⟩:=J4 hr
  exact Xx l m _ _ w (Ch hV h0) (Ch hV h1)
theorem An9 (l:List Ab) (s:Ab):A7 Tryz.prog A8 13 [.iv (stI l),.agg [.val (.int .i64 s.count),.val (.int .i64 s.node)]] (.val (.bool (Fs l s))) [] :=
 Bq Tryz.func13 rfl (by kernel_rfl) fun V w E vs hV hG hr=>by
  obtain ⟨v0,v1,rfl,h0,h1⟩:=J4 hr
  obtain rfl:=Wz h1
  exact B97 l s _ w (Ch hV h0)
theorem A03 (l:List Ad) (o:Int):A7 Tryz.prog A8 67 [.iv (spI l),.val (.int .i64 o)] (.val (.bool (Bv l o))) [] :=
 Bq Tryz.func67 rfl (by kernel_rfl) fun V w E vs hV hG hr=>by
  obtain ⟨v0,v1,rfl,h0,h1⟩:=J4 hr
  cases h1
  exact Vg l o _ w (Ec hV h0)
theorem Py (l:List Ad) (m:List Ad):A7 Tryz.prog A8 91 [.iv (spI l),.iv (spI m)] (.val (.bool (decide (l=m)))) [] :=
 Bq Tryz.func91 rfl (by kernel_rfl) fun V w E vs hV hG hr=>by
  obtain ⟨v0,v1,rfl,h0,h1⟩:=J4 hr
  exact Q1 l m _ _ w (Ec hV h0) (Ec hV h1)
theorem Uz (l:List Ab) (m:List Ab):A7 Tryz.prog A8 151 [.iv (stI l),.iv (stI m)] (.val (.bool (decide (l=m)))) [] :=
 Bq Tryz.func151 rfl (by kernel_rfl) fun V w E vs hV hG hr=>by
  obtain ⟨v0,v1,rfl,h0,h1⟩:=J4 hr
  exact Aj4 l m _ _ w (Ch hV h0) (Ch hV h1)
theorem B49 (l:List Ad) (m:List Ad):A7 Tryz.prog A8 174 [.iv (spI l),.iv (spI m)] (.val (.bool (decide (l=m)))) [] :=
 Bq Tryz.func174 rfl (by kernel_rfl) fun V w E vs hV hG hr=>by
  obtain ⟨v0,v1,rfl,h0,h1⟩:=J4 hr
  exact As7 l m _ _ w (Ec hV h0) (Ec hV h1)
theorem L0 (x:B7):A7 Tryz.prog A8 117 [Et x] (.val (.bool (Al x))) [] :=
 Bq Tryz.func117 rfl (by kernel_rfl) fun V w E vs hV hG hr=>by
  obtain ⟨v0,rfl,h0⟩:=Fy hr
  obtain ⟨n0,n1,n2,n3,rfl,H0⟩:=N1 hV h0
  exact Q7 x _ _ _ _ w H0 hG
theorem Aq9 (x:B7) (l:List Ab):A7 Tryz.prog A8 118 [Et x,.iv (stI l)] (.val (.bool (Ba l x.start))) [] :=
 Bq Tryz.func118 rfl (by kernel_rfl) fun V w E vs hV hG hr=>by
  obtain ⟨v0,v1,rfl,h0,h1⟩:=J4 hr
  obtain ⟨n0,n1,n2,n3,rfl,H0⟩:=N1 hV h0
  exact Bb3 x l _ _ _ _ _ w H0 (Ch hV h1) hG
theorem Gt (x:B7):A7 Tryz.prog A8 95 [Et x] (.val (.bool (Al x))) [] :=
 Bq Tryz.func95 rfl (by kernel_rfl) fun V w E vs hV hG hr=>by
  obtain ⟨v0,rfl,h0⟩:=Fy hr
  obtain ⟨n0,n1,n2,n3,rfl,H0⟩:=N1 hV h0
  exact Ze x _ _ _ _ w H0
theorem Af2 (x:B7) (l:List Ab):A7 Tryz.prog A8 97 [Et x,.iv (stI l)] (.val (.bool (Ba l x.start))) [] :=
 Bq Tryz.func97 rfl (by kernel_rfl) fun V w E vs hV hG hr=>by
  obtain ⟨v0,v1,rfl,h0,h1⟩:=J4 hr
  obtain ⟨n0,n1,n2,n3,rfl,H0⟩:=N1 hV h0
  exact Bg9 x l _ _ _ _ _ w H0 (Ch hV h1)
theorem Rr (ls:List (List Ab)):A7 Tryz.prog A8 119 [.iv (C67 ls)] (.own 0) [.row 0 42 2 ((Eb ls).map Yn)] :=
 Cx (fun _ _ _ h=>U8 h) Tryz.func119 rfl (by kernel_rfl) fun V w E vs hV hG hr=>by
  obtain ⟨v0,rfl,h0⟩:=Fy hr
  exact Am7 ls _ w (A82 hV h0) hG
theorem Xr (l:List Ab) (m:List Ab):A7 Tryz.prog A8 28 [.iv (stI l),.iv (stI m)] (.own 0) [.row 0 42 2 ((Eb [l,m]).map Yn)] :=
 Cx (fun _ _ _ h=>U8 h) Tryz.func28 rfl (by kernel_rfl) fun V w E vs hV hG hr=>by
  obtain ⟨v0,v1,rfl,h0,h1⟩:=J4 hr
  exact B08 l m _ _ w (Ch hV h0) (Ch hV h1)
theorem Ae5 (l:List Ab):A7 Tryz.prog A8 40 [.iv (stI l)] (.own 0) [.row 0 42 2 ((l).map Yn)] :=
 Cx (fun _ _ _ h=>U8 h) Tryz.func40 rfl (by kernel_rfl) fun V w E vs hV hG hr=>by
  obtain ⟨v0,rfl,h0⟩:=Fy hr
  exact Ap0 l _ w (Ch hV h0)
theorem A99 (l:List Ab):A7 Tryz.prog A8 66 [.iv (stI l)] (.own 0) [.row 0 42 2 ((l).map Yn)] :=
 Cx (fun _ _ _ h=>U8 h) Tryz.func66 rfl (by kernel_rfl) fun V w E vs hV hG hr=>by
  obtain ⟨v0,rfl,h0⟩:=Fy hr
  exact Al1 l _ w (Ch hV h0)
theorem Aa0 (l:List Ad):A7 Tryz.prog A8 166 [.iv (spI l)] (.own 0) [.row 0 66 2 ((l).map L2)] :=
 Cx (fun _ _ _ h=>Mo h) Tryz.func166 rfl (by kernel_rfl) fun V w E vs hV hG hr=>by
  obtain ⟨v0,rfl,h0⟩:=Fy hr
  exact Yy l _ w (Ec hV h0)
theorem Ae7 (l:List Ad) (m:List Ad):A7 Tryz.prog A8 168 [.iv (spI l),.iv (spI m)] (.own 0) [.row 0 66 2 ((C1 fun o=>Ak l o&&Ak m o).map L2)] :=
 Cx (fun _ _ _ h=>Mo h) Tryz.func168 rfl (by kernel_rfl) fun V w E vs hV hG hr=>by
  obtain ⟨v0,v1,rfl,h0,h1⟩:=J4 hr
  exact Af7 l m _ _ w (Ec hV h0) (Ec hV h1)
theorem Ao1 (l:List Ad) (m:List Ad):A7 Tryz.prog A8 169 [.iv (spI l),.iv (spI m)] (.own 0) [.row 0 66 2 ((B9 (l++m)).map L2)] :=
 Cx (fun _ _ _ h=>Mo h) Tryz.func169 rfl (by kernel_rfl) fun V w E vs hV hG hr=>by
  obtain ⟨v0,v1,rfl,h0,h1⟩:=J4 hr
  exact Ap1 l m _ _ w (Ec hV h0) (Ec hV h1)
theorem Ae9 (l:List Ad):A7 Tryz.prog A8 86 [.iv (spI l)] (.own 0) [.row 0 66 2 ((l).map L2)] :=
 Cx (fun _ _ _ h=>Mo h) Tryz.func86 rfl (by kernel_rfl) fun V w E vs hV hG hr=>by
  obtain ⟨v0,rfl,h0⟩:=Fy hr
  exact Af9 l _ w (Ec hV h0)
attribute [local irreducible] G6
def C5 (f:Nat->Bool):List IV:=(setRow f).toList.map IV.val
def Pe (c:Nat->Int):List IV:=(D4 c).toList.map IV.val
theorem A13 {X:World} : ∀ {vs l:List Value},Bl X vs (l.map IV.val)->vs=l
 | [],[],_=>rfl
 | v :: vs,u :: l,h=>by
  have h1:=h.1
  cases h1
  rw [A13 (vs:=vs) (l:=l) h.2]
 | [],_ :: _,h=>h.elim
 | _ :: _,[],h=>h.elim
theorem A44 {E:Env} {X:World} {v:Value} {l:List Value} (h:Bb E X v (.aggI (l.map IV.val))):v=.agg l.toArray:=by
 cases h with
 | @aggI vs _ h=>rw [<-A13 h]
theorem Av3 {X:World} {n:Nat} {f:Nat->Value} (h:∀ i,i < n->okV (f i)):Bl X (G6 n f).toList ((G6 n f).toList.map IV.val) :=
 Bl.of (by rw [List.length_map]) fun j v i h1 h2=>by
  rw [List.getElem?_map,h1] at h2
  obtain rfl:=Option.some.inj h2
  rw [Array.getElem?_toList] at h1
  have hj:=(Array.getElem?_eq_some_iff.1 h1).1
  rw [Ny] at hj
  rw [Cv hj] at h1
  obtain rfl:=Option.some.inj h1
  exact .val (h j hj)
theorem Bg3 {X:World} {f:Nat->Bool} : Bl X (setRow f).toList (C5 f):=Av3 fun _ _=>trivial
theorem Bj6 {X:World} {c:Nat->Int} (hc:∀ n,n < 64->I64 (c n)):Bl X (D4 c).toList (Pe c):=Av3 fun i hi=>hc i hi
theorem Bg4 {E:Env} {X:World} {v:Value} {f:Nat->Bool} (h:Bb E X v (.aggI (C5 f))):v=.agg (setRow f):=by
 have:=A44 h
 rwa [Array.toArray_toList] at this
theorem Bj7 {E:Env} {X:World} {v:Value} {c:Nat->Int} (h:Bb E X v (.aggI (Pe c))):v=.agg (D4 c):=by
 have:=A44 h
 rwa [Array.toArray_toList] at this
attribute [local irreducible] C5 Pe setRow D4
theorem Hu (l:List Ad):A7 Tryz.prog A8 43 [.iv (spI l)] (.aggI (C5 fun o=>Ak l o)) [] :=
 At8 Tryz.func43 rfl (by kernel_rfl) fun V w E vs hV hG hr=>by
  obtain ⟨v,rfl,hv⟩:=Fy hr
  exact (Uh l v w (Ec hV hv)).mono fun e w1 h=>⟨_,h.1,h.2,.aggI Bg3⟩
theorem B02 (f:Nat->Bool):A7 Tryz.prog A8 167 [.aggI (C5 f)] (.own 0) [.row 0 66 2 ((C1 f).map L2)] :=
 Cx (fun _ _ _ h=>Mo h) Tryz.func167 rfl (by kernel_rfl) fun V w E vs hV hG hr=>by
  obtain ⟨v0,rfl,h0⟩:=Fy hr
  obtain rfl:=Bg4 h0
  exact Av6 f w
theorem B01 (c:Nat->Int) (hc:∀ n,n < 64->I64 (c n)):A7 Tryz.prog A8 158 [.aggI (Pe c)] (.own 0) [.row 0 42 2 ((Hh c).map Yn)] :=
 Cx (fun _ _ _ h=>U8 h) Tryz.func158 rfl (by kernel_rfl) fun V w E vs hV hG hr=>by
  obtain ⟨v0,rfl,h0⟩:=Fy hr
  obtain rfl:=Bj7 h0
  exact Af6 c hc w
theorem P0 (l:List Ab):A7 Tryz.prog A8 138 [.iv (stI l)] (.aggI (Pe fun n=>A9 l n)) [] :=
 At8 Tryz.func138 rfl (by kernel_rfl) fun V w E vs hV hG hr=>by
  obtain ⟨v,rfl,hv⟩:=Fy hr
  have hs:=Ch hV hv
  exact (N4 l v w hs).mono fun e w1 h=>⟨_,h.1,h.2,.aggI (Bj6 (Pc hs))⟩
theorem Ak7 (l:List Aq):A7 Tryz.prog A8 48 [.iv (wrI l)] (.own 0) [.row 0 49 4 (l.map enW)] :=
 Cx (fun _ _ _ h=>Bk2 h) Tryz.func48 rfl (by kernel_rfl) fun V w E vs hV hG hr=>by
  obtain ⟨v0,rfl,h0⟩:=Fy hr
  exact Al0 l _ w (B38 hV h0)
end Go.Proofs.YthlgnjlpakimaaaGreatDoor
