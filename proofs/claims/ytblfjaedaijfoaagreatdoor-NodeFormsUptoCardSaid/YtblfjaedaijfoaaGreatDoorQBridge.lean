/- Contracts of the elder kind, told over abstract states: vectors, spans, notes. -/
import Derived.Test.YtblfjaedaijfoaaGreatDoorQAbsIter
import Derived.Test.YtblfjaedaijfoaaGreatDoorQEnc
import Derived.Test.YtblfjaedaijfoaaGreatDoorQCovers
import Derived.Test.YtblfjaedaijfoaaGreatDoorQVecRef
import Derived.Test.YtblfjaedaijfoaaGreatDoorQMarks
import Derived.Test.YtblfjaedaijfoaaGreatDoorQSpanSet
import Derived.Test.YtblfjaedaijfoaaGreatDoorQConcatSpan
import Derived.Test.YtblfjaedaijfoaaGreatDoorQTidyLaw
import Derived.Test.YtblfjaedaijfoaaGreatDoorQCounts
import Derived.Test.YtblfjaedaijfoaaGreatDoorQNoteSmall
import Derived.Test.YtblfjaedaijfoaaGreatDoorQNoteWalk
import Derived.Test.YtblfjaedaijfoaaGreatDoorQNoteRef
import Derived.Test.YtblfjaedaijfoaaGreatDoorQClone
set_option linter.all false
set_option linter.unnecessarySimpa false
set_option linter.unusedSimpArgs false
set_option linter.unusedVariables false
namespace Go.Proofs.YtblfjaedaijfoaaGreatDoor
open Go.ChangeShapes Go.WideShapes Go.ChangeAt Go.RowKit
attribute [local irreducible] AW AWY Bo B4 vop Bj B7 Bf qop Bu C4 Aq Aj Bh A7 B9
def Mw (f:Nat->Int) (M:Nat):List IV:=(Ey f M).toList.map IV.val
theorem Cc2 {f:Nat->Int} {M n:Nat} (h:n < 64):(Mw f M)[n]? = some (.val (.int .i64 (f n))):=by rw [Mw,List.getElem?_map,Array.getElem?_toList,Q9 h];rfl
theorem C40 {f:Nat->Int} {M:Nat} : (Mw f M)[64]? = some (.val (.int .u64 M)):=by rw [Mw,List.getElem?_map,Array.getElem?_toList,Rq];rfl
theorem A8.later {w w':World} (h:A8 w) (hb:Below w.heap.size w w'):A8 w':=h.next hb
def enE (f:Nat->Int) (x:Fin 64):List AV:=[.val (.int .i64 (x.1:Nat)),.val (.int .i64 (f x.1))]
theorem Br5 (cs:List IV):A7 Tryz.prog A8 274 [.ip cs] (.fn 315 [.ip [.pt cs]]) []:=by
 have h:A7 Tryz.prog A8 274 [.ip cs] (.fn 315 [.bp 0 0]) [.box 0 [.ip cs]]:=by
  refine A7.of (n:=4) (rs:=[.tmp 2]) Tryz.func274 rfl (by kernel_rfl) Tryz.ntmps274 (by kernel_rfl) (by simp) (fun _ _=>A8.later) ?_
  intro hok V w0
  refine g ?_
  refine g ?_
  repeat' refine st_ rfl (g ?_)
  first | exact ⟨.inl trivial,fun _=>200,rfl,by simp [go_sem],by simp⟩ | exact ⟨fun _=>200,rfl,by simp [go_sem],by simp⟩
 exact h.frz ⟨trivial,trivial⟩
attribute [local irreducible] Ey Jf
theorem Cc1 {X:World} {f:Nat->Int} {M:Nat} (hf:∀ n,n < 64->I64 (f n)) (hM:M < 18446744073709551616):Ay X (Ey f M).toList (Mw f M) :=
 Ay.of (by unfold Mw;rw [List.length_map]) fun j v i h1 h2=>by
  rw [Mw,List.getElem?_map,h1] at h2
  obtain rfl:=Option.some.inj h2
  rw [Array.getElem?_toList] at h1
  have hj:=(Array.getElem?_eq_some_iff.1 h1).1
  rw [Pb] at hj
  by_cases h64:j < 64
  ·rw [Q9 h64] at h1
   obtain rfl:=Option.some.inj h1
   exact .val (hf j h64)
  ·obtain rfl:j=64:=by omega
   rw [Rq] at h1
   obtain rfl:=Option.some.inj h1
   refine .val ?_
   show (Lit.int .u64 (M:Int)).wf=true
   simp [Lit.wf,IntKind.max,IntKind.min,IntKind.signed,IntKind.bits]
   omega
theorem Bm9 (l:List Ab):A7 Tryz.prog A8 269 [.iv (stI l)] (.aggI (Mw (fun n=>Aa l n) (D3 l))) []:=by
 refine Cl7 Tryz.func269 rfl (by kernel_rfl) fun V w E vs hV hG hr=>?_
 obtain ⟨v,rfl,hv⟩:=H6 hr
 have hs:=Cl hV hv
 exact (Tn l v w hs).mono fun e w1 h=>⟨_,h.1,h.2,.aggI (Cc1 (U8 hs) (M6 l))⟩
attribute [local irreducible] Mw stI
set_option maxRecDepth 100000 in
theorem B15 (l:List Ab):A7 Tryz.prog A8 211 [.iv (stI l)] (.fn 315 [.ip [.pt (Mw (fun n=>Aa l n) (D3 l))]]) []:=by
 refine A7.of (n:=7) (rs:=[.tmp 2]) Tryz.func211 rfl (by kernel_rfl) Tryz.ntmps211 (by kernel_rfl) (by simp) (fun _ _=>A8.later) ?_
 intro hok V w0
 have hlen:(Mw (fun n=>Aa l n) (D3 l)).length=65:=by unfold Mw;rw [List.length_map,Array.length_toList,Pb]
 have hread:=Bm9 l
 generalize Mw (fun n=>Aa l n) (D3 l)=C at hlen hread ⊢
 refine g ?_
 refine g ?_
 repeat' refine st_ rfl (g ?_)
 refine A9 hread rfl ?_
 refine g ?_
 refine Bl0 (q:=1) (s:=65) (by kernel_rfl) hlen rfl rfl ?_
 refine g ?_
 refine AW.freeze 400 _ rfl (Au6 C) ?_
 simp only [go_sem,Ap6,reduceIte]
 refine g ?_
 repeat' refine st_ rfl (g ?_)
 refine A9 (Br5 C) rfl ?_
 refine g ?_
 repeat' refine st_ rfl (g ?_)
 first | exact trivial | exact ⟨.inl trivial,id,List.nodup_nil⟩ | exact ⟨.inl trivial,id,by simp [go_sem],List.nodup_nil⟩
theorem C68 {R:Nat} (hR:R < 18446744073709551616):A7 Tryz.prog A8 316 [.val (.int .u64 R)] (.val (.int .i64 (Lib.ctz 64 R))) [] :=
 Bt Tryz.func316 rfl (by kernel_rfl) fun V w E vs hV hG hr=>by
  obtain ⟨v,rfl,hv⟩:=H6 hr
  cases hv
  exact (Ap3 R hR w hG).mono fun _ w' h=>⟨h.1,h.2 ▸ Below.refl _ _⟩
structure Dd7 (M:Nat) where
 k:Nat
 R:Nat
 pre:List (Fin 64)
 hk:k<=64
 hR:R < 18446744073709551616
 hbit:∀ i,i < 64->R.testBit i=(M.testBit i&&decide (k<=i))
 hpre:pre.map (·.1)=Ch M k
theorem Af4 (f:Nat->Int) (M:Nat) (hM:M < 18446744073709551616):B9 Tryz.prog A8 315 [.ip [.pt (Mw f M)]] (enE f) (fun ys=>ys.map (·.1)=Ch M 64) (fun pre=>pre.map (·.1) <+: Ch M 64):=by
 refine B9.of (n:=27) Tryz.func315 rfl (by kernel_rfl) Tryz.ntmps315 (by kernel_rfl) (by simp) (fun _ _=>A8.later) ?_
 intro hok Y
 have h64:=C40 (f:=f) (M:=M)
 have hat:=fun n (h:n < 64)=>Cc2 (f:=f) (M:=M) h
 generalize Mw f M=C at h64 hat ⊢
 refine g ?_
 refine g ?_
 repeat' refine K9 rfl (g ?_)
 refine As7 h64 ?_
 refine g ?_
 repeat' refine K9 rfl (g ?_)
 refine AWY.loop (fun s:Dd7 M=>(.going s.pre,⟨[(0,.val (.func (.yield Y.l) #[] #[])),(1,.ip [.pt C]),(3,.val (.int .u64 s.R))],[]⟩)) (fun s=>s.R) ⟨0,M,[],by omega,hM,fun i _=>by simp,rfl⟩ id ⟨rfl,by simp [LeS,go_sem]⟩ fun ⟨k,R,pre,hk,hR,hbit,hpre⟩=>?_
 refine g ?_
 repeat' (first | refine K9 rfl (g ?_) | refine Cy (fun h=>g ?_) (fun h=>g ?_))
 ·have hz:R≠0:=by rintro rfl;simp at h
  obtain ⟨hx,hxb,hxl⟩:=Bg7 hz hR
  have hdl:=Ay6 hz hR
  refine A9 (C68 hR) rfl ?_
  generalize Lib.ctz 64 R=x at *
  refine g ?_
  repeat' refine K9 rfl (g ?_)
  refine ⟨by omega,by omega,?_⟩
  rw [Nat.mul_one]
  refine g ?_
  repeat' refine Bi (g ?_)
  refine As7 (hat x hx) ?_
  refine g ?_
  have hp1:(pre++[(⟨x,hx⟩ : Fin 64)]).map (·.1)=Ch M (x+1):=by
   rw [List.map_append,hpre]
   show Ch M k++[x]=_
   have hb:=hbit x hx
   rw [hxb] at hb
   simp only [Bool.true_eq,Bool.and_eq_true,decide_eq_true_eq] at hb
   rw [Kf,hb.1,if_pos rfl,Lx hb.2 fun i h1 h2=>by
    have:=hbit i (by omega)
    rw [hxl i h2,decide_eq_true h1,Bool.and_true] at this
    exact this.symm]
  refine Rt (x:=(⟨x,hx⟩ : Fin 64)) ?_ ?_ ?_ ?_
  ·rfl
  ·exact Sbs.rfl_ _
  ·rw [hp1];exact R4 (by omega)
  simp only [go_sem]
  refine ⟨?_,?_⟩
  ·refine g ?_
   repeat' refine K9 rfl (g ?_)
   have e1:bits .and .u64 (R:Int) ((R:Int) - 1)=((R &&& (R - 1):Nat):Int):=by
    rw [show (R:Int) - 1=((R - 1:Nat):Int) by omega]
    exact u64_and_nat _ _ hR (by omega)
   refine ⟨(R:Int) - 1,by rw [IntKind.wrap_u64];omega,?_⟩
   refine g ?_
   repeat' refine Bi (g ?_)
   refine ⟨.int .u64 ((R &&& (R - 1):Nat):Int),fun w=>by go_simp,?_⟩
   refine g ?_
   repeat' refine Bi (g ?_)
   have hlt:R &&& (R - 1) < R:=Nat.lt_of_le_of_lt Nat.and_le_right (by omega)
   refine ⟨⟨x+1,R &&& (R - 1),pre++[⟨x,hx⟩],by omega,by omega,fun i hi=>?_,hp1⟩,id,rfl,by simp [LeS,go_sem],hlt⟩
   rw [hdl]
   rcases Nat.lt_or_ge i x with c | c
   ·rw [hxl i c,decide_eq_false (p:=x+1<=i) (by omega)]
    simp
   ·have hkx:k<=x:=by
     have:=hbit x hx
     rw [hxb] at this
     simp only [Bool.true_eq,Bool.and_eq_true,decide_eq_true_eq] at this
     exact this.2
    rw [hbit i hi,decide_eq_true (p:=k<=i) (by omega),Bool.and_true]
    congr 1
    by_cases hix:i=x
    ·subst hix;simp
    ·rw [decide_eq_false (p:=i=x) hix,decide_eq_true (p:=x+1<=i) (by omega)]
     rfl
  ·refine g ?_
   repeat' refine K9 rfl (g ?_)
   exact .inl trivial
 ·have hz:R=0:=by simp at h;omega
  subst hz
  refine ⟨.inr trivial,?_⟩
  rw [hpre]
  exact (Lx hk fun i h1 h2=>by
   have:=hbit i h2
   rw [Nat.zero_testBit,decide_eq_true h1,Bool.and_true] at this
   exact this.symm).symm
end Go.Proofs.YtblfjaedaijfoaaGreatDoor
namespace Go.Proofs.YtblfjaedaijfoaaGreatDoor
open Go.ChangeShapes Go.WideShapes Go.ChangeAt Go.RowKit Go.Shelf
attribute [local go_sem] Oper.semAt_some
theorem Ah.cells {α:Type} {R:List Value->α->Prop} {k:Nat} {w:World} {base:Nat} {e:TypeId} {v:Value} {l:List α} (h:Ah R k w base e v l) {g:Nat} (hg:v.ownBlock=some g):∃ cs t f,w.heap[g]? = some (.cells cs t f):=by
 obtain ⟨xs,hown,_⟩:=h
 rcases hown.2 with ⟨rfl,_⟩ | ⟨g',cap,cur,rfl,_,hb,_⟩
 ·cases hg
 ·obtain rfl:g'=g:=Option.some.inj hg
  exact ⟨_,_,_,hb⟩
theorem Ah.abides {α:Type} {R:List Value->α->Prop} {k:Nat} {A B:World} {base:Nat} {e:TypeId} {v:Value} {l:List α} {row:Option Nat} (h:Ah R k A base e v l) (hg:A.grownBy B row) (hr:∀ r,row=some r->∃ o:Obj,A.heap[r]? = some o/\o.isCells=false):Ah R k B base e v l:=by
 refine h.kept hg ?_
 cases hv:v.ownBlock with
 | none=>exact .inl rfl
 | some g =>
  refine .inr fun e'=>?_
  obtain ⟨cs,t,f,hc⟩:=h.cells hv
  obtain ⟨o,ho,hoc⟩:=hr g e'.symm
  rw [hc] at ho
  injection ho with ho
  subst ho
  cases hoc
theorem Ah.keepsOthers {α:Type} {R:List Value->α->Prop} {k:Nat} {A B:World} {base:Nat} {e:TypeId} {v:Value} {l:List α} (h:Ah R k A base e v l) (hg:A.grownBy B v.ownBlock):KeepsOthers A B :=
 KeepsOthers.of_grownBy hg fun j o hj ho=>by
  obtain ⟨cs,t,f,hc⟩:=h.cells hj
  rw [hc] at ho
  injection ho with ho
  subst ho
  rfl
theorem C0.grown {Bn C:Nat} {A B:World} {row:Option Nat} (hg:A.grownBy B row) (h1:Bn < A.heap.size) (h2:C < A.heap.size) (h3:1 < A.heap.size) (hne:∀ r,row=some r->r≠Bn/\r≠C/\r≠1):C0 Bn C A B:=by
 rintro g (rfl | rfl | rfl)
 ·exact hg.block _ h1 fun e=>(hne _ e.symm).1 rfl
 ·exact hg.block _ h2 fun e=>(hne _ e.symm).2.1 rfl
 ·exact hg.block _ h3 fun e=>(hne _ e.symm).2.2 rfl
theorem So (f:Nat->Int) (M:Nat):∀ k,(∀ n,n < k->M.testBit n=decide (0 < f n))->Dl f k=(Ch M k).map fun n=>⟨f n,n⟩
 | 0,_=>rfl
 | k+1,h=>by
  rw [Dl,Kf,h k (by omega),So f M k fun n hn=>h n (by omega)]
  by_cases h0:0 < f k
  ·rw [if_pos h0,if_pos (by simpa using h0),List.map_append];rfl
  ·rw [if_neg h0,if_neg (by simpa using h0)]
def Le (f:Nat->Int) (pre:List (Fin 64)):List Ab:=pre.map fun x=>⟨f x.1,(x.1:Nat)⟩
theorem A71 (f:Nat->Int) (pre:List (Fin 64)) (x:Fin 64):Le f (pre++[x])=Le f pre++[⟨f x.1,(x.1:Nat)⟩]:=by simp [Le]
set_option maxRecDepth 100000 in
set_option maxHeartbeats 2000000 in
theorem B32 (C:Nat) (f:Nat->Int) (M:Nat) (w:World) (hC:Blk w C 275 (Ey f M)) (hM:M < 18446744073709551616) (hbit:∀ n,n < 64->M.testBit n=decide (0 < f n)) (hI:∀ n,n < 64->I64 (f n)) (hT:A8 w) :
  Calls Tryz.prog 271 #[.pointer (some ⟨C,0,none⟩)] w fun e w'=>(∃ v',e=.returned v'/\Ah G7 2 w' w.heap.size 53 v' (Fi f))/\Below w.heap.size w w':=by
 have HT:=Lib.hid hT
 have HI:=Lib.hid hI
 have HCC:=Lib.hid hC
 have hClt:=hC.lt
 have hTlt:=hT.lt
 have HV:=Lib.hid (So f M 64 hbit)
 clear hT hI hbit hC
 refine (callsIn_wide (n:=5)).1 ?_
 refine callsIn_of_wp_marks Tryz.func271 rfl trivial ?_ rfl
 simp only [Tryz.ntmps271,List.size_toArray,List.length_cons,List.length_nil,Nat.reduceAdd,Nat.reduceSub,Array.replicate_succ,Array.replicate_zero,List.push_toArray,List.append_toArray,List.nil_append,List.cons_append]
 gi_wp2
 refine ⟨trivial,?_⟩
 refine (callsIn_wide.2 (A55 C _)).mono ?_
 rintro e w1 ⟨rfl,rfl⟩
 have kb:=Ai (o:=.cells #[.pointer (some ⟨C,0,none⟩)] 313) (Ai (o:=.cells #[.slice none 0 0] 22) (Below.refl _ w))
 have hE:Lp (w.heap.size+1) C f M ((w.alloc (.cells #[.slice none 0 0] 22)).alloc (.cells #[.pointer (some ⟨C,0,none⟩)] 313)):=⟨Blk.new_at (by simp),HCC.out.alloc.alloc,HT.out.next kb⟩
 have hV:Blk ((w.alloc (.cells #[.slice none 0 0] 22)).alloc (.cells #[.pointer (some ⟨C,0,none⟩)] 313)) w.heap.size 22 #[.slice none 0 0]:=(Blk.new w 22 _).alloc
 have hs0:((w.alloc (.cells #[.slice none 0 0] 22)).alloc (.cells #[.pointer (some ⟨C,0,none⟩)] 313)).heap.size=w.heap.size+2:=by simp
 rw [show (w.alloc (.cells #[.slice none 0 0] 22)).heap.size=w.heap.size+1 by simp]
 generalize (w.alloc (.cells #[.slice none 0 0] 22)).alloc _=W0 at *
 have HE:=Lib.hid hE
 have HV0:=Lib.hid hV
 have HKB:=Lib.hid kb
 clear hE hV kb
 gi_wp2
 refine wpIn_rangeFunc_ownF rfl (by omega) (gf:=315) (lb:=#[.pointer (some ⟨w.heap.size+1,0,none⟩)]) rfl trivial (enters_of Tryz.func315 (by kernel_rfl) rfl)
  (U7 _ (by omega) (w.heap.size+1) C f M hM W0 HE.out) (fun h k=>C0.t h k) (fun W l o o' hl _ _ _=>C0.put (w:=W0) (by omega) (by omega) (by omega) hl) (Below.refl _ _) (fun _=>rfl)
  (fun pre W=>(∃ v,Blk W w.heap.size 22 #[v]/\Ah G7 2 W (w.heap.size+2) 53 v (Le f pre)/\w.heap.size+2<=W.heap.size)/\Below w.heap.size w W)
  (fun _ _ _=>False)
  (OwnFrom.and (Own.from (fun s A B row hs hg hr=>by obtain ⟨v,h1,h2,h3⟩:=hs;exact ⟨v,h1.own hg hr,h2.abides hg hr,Nat.le_trans h3 hg.size⟩) _) (ownFrom_below (Nat.le_refl _) (by omega)))
  (fun _ _ _ _ _ hs _ _=>hs)
  ⟨⟨_,HV0.out,Ah.nil_ _ _ _,by omega⟩,HKB.out⟩
  (fun x=>{ tmps:=#[.pointer (some ⟨C,0,none⟩),undef,.slice none 0 0,.pointer (some ⟨w.heap.size,0,none⟩),.int .i64 (x.1:Nat),.int .i64 (f x.1),.pointer (some ⟨C,0,none⟩),A50 (w.heap.size+1),.int .i64 (x.1:Nat),.int .i64 (f x.1),undef,undef,undef,undef,undef,undef,undef],defers:=[] }) ?assign ?body ?done ?stop
 case assign =>
  intro r x W K hK
  dsimp only [L8]
  gi_wp2
  exact hK
 case body =>
  rintro r pre ⟨x,hx⟩ W ⟨⟨v,hB,hown,hs2⟩,hb⟩ hlen
  dsimp only
  have b0:=hB.cell 0
  have z0:=hB.frozen 0
  simp only [List.getElem?_toArray,List.getElem?_cons_zero] at b0
  have hs:=hb.size
  have hlt:=hown.lt
  have hBlt:=hB.lt
  have hsz:(Le f pre).length < 1073741824:=by simp only [Le,List.length_map];omega
  have hi:=HI.out x hx
  have HB:=Lib.hid hB
  have HO:=Lib.hid hown
  have Hb:=Lib.hid hb
  have HSN:=Lib.hid (A71 f pre ⟨x,hx⟩)
  obtain ⟨A5,c5,rfl⟩:=hown.form
  clear hB hown hb
  generalize f x=q at *
  gi_wp2_with (gi_at_builtin;refine A89 U4 Tryz.underlying22 (by omega) (by omega) Zr rfl (.tmp 10) (.tmp 14) rfl (w.heap.size+2) _ _ rfl HO.out #[.int .i64 q,.int .i64 x] ⟨q,x⟩ rfl ⟨rfl,hi,I64.of (by simp only;omega) (by simp only;omega)⟩ rfl hsz (by omega) ?_;intro v1 w1 ha;obtain ⟨A6,c6,rfl⟩:=ha.own.form;have hB1:=ha.blk (fun e=>by have:=(hlt _ e).1;omega) HB.out.alloc;have b1:=hB1.cell 0;have z1:=hB1.frozen 0;simp only [List.getElem?_toArray,List.getElem?_cons_zero] at b1)
  have hs1:=ha.size
  have h2:=HO.out.next (Ai (o:=.cells #[.int .i64 q,.int .i64 x] 53) (Below.refl _ W))
  have hko:KeepsOthers (W.alloc (.cells #[.int .i64 q,.int .i64 x] 53)) w1:=h2.keepsOthers ha.grown
  have hke:C0 (w.heap.size+1) C (W.alloc (.cells #[.int .i64 q,.int .i64 x] 53)) w1:=C0.grown ha.grown (by simp only [World.size_alloc];omega) (by simp only [World.size_alloc];omega) (by simp only [World.size_alloc];omega) fun r hr=>by
   have:=(hlt r hr).1
   exact ⟨by omega,by omega,by omega⟩
  have hb2:=ha.low w (by omega) (Ai Hb.out)
  simp only [World.size_alloc] at hs1
  refine ⟨((KeepsOthers.alloc _ _).trans hko).trans (KeepsOthers.setCell _ _ _),C0.t (C0.t (C0.of_below (Ai (Below.refl _ W)) (by omega) (by omega) (by omega)) hke) (C0.far (by simp only;omega) (by simp only;omega) (by simp only;omega)),⟨_,hB1.set_ 0 _,?_,?_⟩,?_⟩
  ·try rw [HSN.out]
   have:=Ah.set_other ha.own (p:=⟨w.heap.size,0,none⟩) (fun e=>by have h9:=(ha.own.lt _ e).1;simp only at h9;omega) (.slice A6 ((Le f pre).length+1) c6)
   simpa using this
  ·simp;omega
  ·exact A62 hb2 (by simp)
 case done =>
  rintro D ys W hD hys ⟨⟨v,hB,hown,hs2⟩,hb⟩ hK
  have b0:=hB.cell 0
  have z0:=hB.frozen 0
  simp only [List.getElem?_toArray,List.getElem?_cons_zero] at b0
  have hres:Le f ys=Fi f:=by
   rw [Fi,HV.out,<-hys,List.map_map]
   rfl
  rw [hres] at hown
  obtain ⟨A6,c6,rfl⟩:=hown.form
  have HO:=Lib.hid hown
  have Hb:=Lib.hid hb
  have HK:=Lib.hid hK
  clear hB hb hys hK hres hown
  gi_wp2
  have hown2:=HO.out.kept (grownBy_putObj' W D (.deferred none)) (.inr fun e=>by
   obtain ⟨cs,t,f,hc⟩:=HO.out.cells e
   rw [HK.out] at hc
   cases hc)
  refine ⟨by simp,.inl ⟨_,_,rfl,run_takeDeferred HK.out,?_⟩⟩
  refine ⟨.slice A6 (Fi f).length c6,by simp [results,Tryz.f271,go_sem],⟨_,rfl,hown2.base (by omega)⟩,Hb.out.trans (belowK_b (w:=w) (Nat.le_refl _) W D _ _ (by have:=HKB.out.size;omega) HK.out rfl rfl)⟩
 case stop =>
  rintro E d pre W hD _ h hK
  exact h.elim
end Go.Proofs.YtblfjaedaijfoaaGreatDoor
namespace Go.Proofs.YtblfjaedaijfoaaGreatDoor
open Go.ChangeShapes Go.WideShapes Go.ChangeAt Go.RowKit Go.Shelf
attribute [local go_sem] Oper.semAt_some
def Kg (f d:Nat->Int) (pre:List (Fin 64)) (n:Nat):Int:=if pre.any (fun x=>decide (x.1=n))=true then max (f n) (d n) else f n
theorem B92 (f d:Nat->Int):Kg f d []=f:=by funext n;simp [Kg]
theorem Av7 (f d:Nat->Int) (pre:List (Fin 64)) (x:Fin 64):(fun k=>if k=x.1 then max (Kg f d pre x.1) (d x.1) else Kg f d pre k)=Kg f d (pre++[x]):=by
 funext k
 by_cases hk:k=x.1
 ·subst hk
  rw [if_pos rfl,Kg,Kg,List.any_append]
  simp only [List.any_cons,List.any_nil,Bool.or_false,decide_true,Bool.or_true,if_true]
  split<;>omega
 ·rw [if_neg hk,Kg,Kg,List.any_append]
  simp [show ¬ x.1=k from fun e=>hk e.symm]
theorem Ag4 {l:List Ab} {ys:List (Fin 64)} (hys:ys.map (·.1)=Ch (D3 l) 64) {n:Nat} (hn:n < 64):ys.any (fun x=>decide (x.1=n))=!decide (Aa l n=0):=by
 rw [<-Mm hn,Bool.eq_iff_iff]
 have:n∈ys.map (·.1)↔(D3 l).testBit n=true:=by rw [hys,N2];exact ⟨fun h=>h.2,fun h=>⟨hn,h⟩⟩
 rw [<-this,List.any_eq_true,List.mem_map]
 exact ⟨fun ⟨x,h1,h2⟩=>⟨x,h1,by simpa using h2⟩,fun ⟨x,h1,h2⟩=>⟨x,h1,by simpa using h2⟩⟩
set_option maxRecDepth 100000 in
set_option maxHeartbeats 3200000 in
theorem Ze (ls:List (List Ab)) (v:Value) (w:World) (h:J5 w w.heap.size v ls) (hT:A8 w) :
  Calls Tryz.prog 199 #[v] w fun e w'=>(∃ v',e=.returned v'/\Ah G7 2 w' w.heap.size 53 v' (Di ls))/\Below w.heap.size w w':=by
 have hle:=h.len_le
 have HH:=Lib.hid h
 have hI:∀ l∈ls,W7 l:=fun l hl=>by
  obtain ⟨i,hi⟩:=List.mem_iff_getElem?.1 hl
  obtain ⟨_,_,_,vi,_,_,_,hs⟩:=Yz h hi
  exact U8 hs
 have HI:=Lib.hid hI
 have HT:=Lib.hid hT
 have hTlt:=hT.lt
 obtain ⟨A,c,rfl,-⟩:=id h
 clear h hI hT
 refine (callsIn_wide (n:=5)).1 ?_
 refine callsIn_of_wp_marks Tryz.func199 rfl trivial ?_ rfl
 simp only [Tryz.ntmps199,List.size_toArray,List.length_cons,List.length_nil,Nat.reduceAdd,Nat.reduceSub,Array.replicate_succ,Array.replicate_zero,List.push_toArray,List.append_toArray,List.nil_append,List.cons_append]
 gi_wp2
 rw [show Tryz.zeroCells275=Ey (fun _=>0) 0 by kernel_rfl]
 have hC0:Blk (w.alloc (.cells (Ey (fun _=>0) 0) 275)) w.heap.size 275 (Ey (fun _=>0) 0):=Blk.new _ _ _
 have kb0:=Ai (o:=.cells (Ey (fun _=>0) 0) 275) (Below.refl _ w)
 have hs0:(w.alloc (.cells (Ey (fun _=>0) 0) 275)).heap.size=w.heap.size+1:=by simp
 generalize w.alloc _=W0 at *
 refine wpIn_loop (fun a W=>∃ (m:Nat) (Ds:List Nat) (M:Nat) (u5 u11 u12 u13 u14 u15 u34:Value),m<=ls.length/\M < 18446744073709551616/\(∀ n,n < 64->M.testBit n=decide (0 < Fb (ls.take m) n))/\Fc (w.heap.size+1) Ds W /\
   Blk W w.heap.size 275 (Ey (Fb (ls.take m)) M)/\Below w.heap.size w W/\w.heap.size+1<=W.heap.size /\
   a={ tmps:=#[.slice A ls.length c,undef,.slice none 0 0,.pointer (some ⟨w.heap.size,0,none⟩),undef,u5,undef,undef,.slice A ls.length c,.int .i64 ls.length,.int .i64 m,u11,u12,u13,u14,u15,undef,undef,undef,undef,undef,undef,undef,undef,undef,undef,undef,undef,undef,undef,undef,undef,undef,undef,u34,undef],defers:=N3 Ds })
  (fun a _=>ls.length - (intOf (a.tmps.getD 10 undef)).toNat) ⟨0,[],0,undef,undef,undef,undef,undef,undef,undef,Nat.zero_le _,by omega,fun n _=>by simp [Fb],Fc.nil _ _,hC0,kb0,by omega,rfl⟩ ?_
 clear hC0 kb0 hs0
 rintro a W ⟨m,Ds,M,u5,u11,u12,u13,u14,u15,u34,hm,hM,hbit,hmk,hC,hb,hsz,rfl⟩
 have Hbit:=Lib.hid hbit
 have Hmk:=Lib.hid hmk
 have HC:=Lib.hid hC
 have Hb:=Lib.hid hb
 clear hbit hmk hC
 by_cases hlt:m < ls.length
 ·obtain ⟨x,hx⟩ : ∃ x,ls[m]? = some x:=⟨ls[m],List.getElem?_eq_getElem hlt⟩
  obtain ⟨b,off,_,vi,hv',hbb,e0,hs⟩:=Yz (HH.out.next hb) hx
  injection hv' with hv1 hv2 hv3
  subst hv1
  have HTk:=Lib.hid (Du hx)
  have HSS:=Lib.hid hs
  obtain ⟨A1,c1,rfl,-⟩:=id hs
  have i1:(m:Int) < (ls.length:Int):=by omega
  have i2:(0:Int)<=(m:Int):=by omega
  have HXI:=Lib.hid (HI.out x (List.mem_of_getElem? hx))
  clear hv2 hv3 hs hx hb
  gi_wp2
  refine ⟨trivial,?_⟩
  refine (callsIn_wide.2 (A92 x _ _ HSS.out (HT.out.next Hb.out))).mono ?_
  rintro e w2 ⟨Bn,D,rfl,hE,hBn,hD,hb2⟩
  have HE:=Lib.hid hE
  have HM2:=Lib.hid (Hmk.out.next hb2)
  have HC2:=Lib.hid (HC.out.next hb2)
  have HB2:=Lib.hid (Av Hb.out hb2)
  have hs2:=hb2.size
  have l1:=hE.box.lt
  have l2:=hE.cnt.lt
  have l3:=hE.tab.lt
  have hMx:=M6 x
  clear hE hb2 e0
  gi_wp2
  generalize hf:Fb (ls.take m)=f at *
  have HF:=Lib.hid hf
  clear hf
  have hMlt:=HM2.out.lt
  refine wpIn_rangeFunc_ownF rfl (by omega) (gf:=315) (lb:=#[.pointer (some ⟨Bn,0,none⟩)]) rfl trivial (enters_of Tryz.func315 (by kernel_rfl) rfl)
   (U7 _ (by omega) Bn D (fun n=>Aa x n) (D3 x) hMx w2 HE.out) (fun h k=>C0.t h k) (fun W l o o' hl _ _ _=>C0.put l1 l2 l3 hl) (Below.refl _ _) (fun _=>rfl)
   (fun pre W'=>((∃ M',M' < 18446744073709551616/\(∀ n,n < 64->M'.testBit n=(M.testBit n || pre.any fun x=>decide (x.1=n)))/\Blk W' w.heap.size 275 (Ey (Kg f (fun n=>Aa x n) pre) M'))/\w2.heap.size<=W'.heap.size)/\(Fc (w.heap.size+1) Ds W'/\Below w.heap.size w W'))
   (fun _ _ _=>False)
   (OwnFrom.and (Own.from (fun s A B row hs hg hr=>by obtain ⟨⟨M',h1,h2,h3⟩,h4⟩:=hs;exact ⟨⟨M',h1,h2,h3.own hg hr⟩,Nat.le_trans h4 hg.size⟩) _) (OwnFrom.and (Bp3 Ds hMlt) (ownFrom_below (Nat.le_refl _) (by omega))))
   (fun _ _ _ _ _ hs _ _=>hs)
   ⟨⟨⟨M,hM,fun n _=>by simp,by rw [B92];exact HC2.out⟩,Nat.le_refl _⟩,HM2.out,HB2.out⟩
   (fun y=>{ tmps:=#[.slice (some ⟨b,off,none⟩) ls.length c,undef,.slice none 0 0,.pointer (some ⟨w.heap.size,0,none⟩),undef,.slice A1 x.length c1,.int .i64 (y.1:Nat),.int .i64 (Aa x (y.1:Nat)),.slice (some ⟨b,off,none⟩) ls.length c,.int .i64 ls.length,.int .i64 m,.bool true,.pointer (some ⟨b,off+m,none⟩),.slice A1 x.length c1,.slice A1 x.length c1,A50 Bn,.int .i64 (y.1:Nat),.int .i64 (Aa x (y.1:Nat)),undef,undef,undef,undef,undef,undef,undef,undef,undef,undef,undef,undef,undef,undef,undef,undef,u34,undef],defers:=[] }) ?assign ?body ?done ?stop
  case assign =>
   intro r y W' K hK
   dsimp only [L8]
   gi_wp2
   exact hK
  case body =>
   rintro r pre ⟨y,hy⟩ W' ⟨⟨⟨M',hM',hbit',hC'⟩,hsz'⟩,hmk',hb'⟩ _
   dsimp only
   have c0:=(hC'.cell y).trans (Q9 hy)
   have c1':=(hC'.cell 64).trans Rq
   have z0:=hC'.frozen y
   have z1:=hC'.frozen 64
   have hwl:=hC'.lt
   have hxi:(y:Int) < 64:=by omega
   have Hbit':=Lib.hid hbit'
   have HC':=Lib.hid hC'
   have Hmk':=Lib.hid hmk'
   have Hb':=Lib.hid hb'
   have HMX:=Lib.hid (Av7 f (fun n=>Aa x n) pre ⟨y,hy⟩)
   have hSB:=Lib.hid (Bf3 (n:=y) hM' hy)
   clear hbit' hC' hmk' hb'
   generalize hp:Kg f (fun n=>Aa x n) pre y=p at c0
   have HP:=Lib.hid hp
   generalize hq:Aa x y=q
   have HQ:=Lib.hid hq
   clear hp hq
   gi_wp2
   all_goals
    have hk2:=(KeepsOthers.setCell W' ⟨w.heap.size,y,none⟩ (.int .i64 (max p q))).trans (KeepsOthers.setCell _ ⟨w.heap.size,64,none⟩ (.int .u64 ((M'|||2 ^ y:Nat):Int)))
    rename_i hcmp
    refine (show ∀ v,v=max p q->ownPostK _ _ _ _ _ _ _ ((W'.setCell ⟨w.heap.size,y,none⟩ (.int .i64 v)).setCell _ _) from ?_) _ (by omega)
    rintro v rfl
    rw [hSB.out]
    refine ⟨hk2,C0.t (C0.far (by simp only;omega) (by simp only;omega) (by simp only;omega)) (C0.far (by simp only;omega) (by simp only;omega) (by simp only;omega)),⟨⟨M'|||2 ^ y,Ww hM' hy,fun n hn=>?_,?_⟩,by simpa using hsz'⟩,Hmk'.out.keeps hk2,A62 (A62 Hb'.out (Nat.le_refl _)) (Nat.le_refl _)⟩
    ·rw [B76,Hbit'.out n hn,List.any_append,Bool.or_assoc]
     simp
    ·have h1:=(HC'.out.set_ y (.int .i64 (max p q))).set_ 64 (.int .u64 ((M'|||2 ^ y:Nat):Int))
     rw [Az7 hy,Vs] at h1
     rw [<-HMX.out,HP.out,HQ.out]
     exact h1
  case done =>
   rintro E ys W' hE hys ⟨⟨⟨M',hM',hbit',hC'⟩,hsz'⟩,hmk',hb'⟩ hK
   have hfun:∀ n,n < 64->Kg f (fun n=>Aa x n) ys n=Fb (ls.take (m+1)) n:=fun n hn=>by
    rw [HTk.out,U2,HF.out,Kg,Ag4 hys hn]
    have h0:0<=f n:=by rw [<-HF.out];exact Vl _ _
    by_cases hz:Aa x n=0
    ·rw [hz];simp;omega
    ·rw [if_pos (by simpa using hz)]
   have hC2:Blk W' w.heap.size 275 (Ey (Fb (ls.take (m+1))) M'):=by
    rw [show Ey (Fb (ls.take (m+1))) M'=Ey (Kg f (fun n=>Aa x n) ys) M' from Ga fun i _=>by
     split
     ·rename_i hi;rw [hfun i hi]
     ·rfl]
    exact hC'
   have hbits:∀ n,n < 64->M'.testBit n=decide (0 < Fb (ls.take (m+1)) n):=fun n hn=>by
    rw [hbit' n hn,Hbit.out n hn,Ag4 hys hn,HTk.out,U2,HF.out]
    have h1:=Ed x n
    rw [Bool.eq_iff_iff]
    simp only [Bool.or_eq_true,decide_eq_true_eq,Bool.not_eq_true',decide_eq_false_iff_not]
    omega
   have HC3:=Lib.hid hC2
   have HB3:=Lib.hid hbits
   have HM3:=Lib.hid (hmk'.more (D:=E) (fun F hF=>by have:=hMlt F hF;omega) (by omega) hK)
   have Hb3:=Lib.hid hb'
   clear hC' hfun hC2 hbits hys hmk' hb' hK hbit'
   gi_wp2
   refine ⟨⟨m+1,E :: Ds,M',_,_,_,_,_,_,_,by omega,hM',HB3.out,HM3.out,HC3.out,Hb3.out,by omega,rfl⟩,by simp [intOf];omega⟩
  case stop =>
   rintro E d pre W hD _ h hK
   exact h.elim
 ·obtain rfl:m=ls.length:=by omega
  have hC2:Blk W w.heap.size 275 (Ey (Fb ls) M):=by have:=HC.out;rwa [List.take_length] at this
  have HL:=Lib.hid (B32 w.heap.size (Fb ls) M W hC2 hM (fun n hn=>by rw [Hbit.out n hn,List.take_length]) (Ad5 HI.out) (HT.out.next Hb.out))
  clear hC2 hb
  gi_wp2
  refine ⟨trivial,?_⟩
  refine (callsIn_wide.2 HL.out).mono ?_
  rintro e w3 ⟨⟨v',rfl,hown⟩,hb3⟩
  have hmk3:=Hmk.out.next hb3
  obtain ⟨A6,c6,rfl⟩:=hown.form
  have hfin:=Fc.own (B':=w.heap.size+1) (s:=()) (I:=fun (_:Unit) W=>Ah G7 2 W w.heap.size 53 (.slice A6 (Fi (Fb ls)).length c6) (Fi (Fb ls))/\Below w.heap.size w W)
   (OwnFrom.and (Own.from (fun _ _ _ _ hs hg hr=>hs.abides hg hr) _) (ownFrom_below (Nat.le_refl _) (by omega))) (Nat.le_refl _) Ds w3 hmk3 ⟨hown.base (by omega),Av Hb.out hb3⟩
  have HF:=Lib.hid hfin
  have HMK:=Lib.hid hmk3
  clear hown hfin hmk3 HL
  gi_wp2
  exact Ly Ds w3 HMK.out ⟨.slice A6 (Fi (Fb ls)).length c6,by simp [results,Tryz.f199,go_sem],⟨_,rfl,HF.out.1⟩,HF.out.2⟩
theorem B31 (a:List Ab) (s:Ab) (v:Value) (w:World) (h:C8 w w.heap.size v a) (i1:I64 s.count) (i2:I64 s.node) (hT:A8 w) :
  Calls Tryz.prog 212 #[v,.agg #[.int .i64 s.count,.int .i64 s.node]] w fun e w'=>(∃ v',e=.returned v'/\Ah G7 2 w' w.heap.size 53 v' (Di [a,[s]]))/\Below w.heap.size w w':=by
 obtain ⟨A,c,rfl,-⟩:=id h
 have HH:=Lib.hid h
 have HT:=Lib.hid hT
 clear h hT
 go_enter Tryz.func212,Tryz.ntmps212
 go_wp2_with fail
 have hrow:∀ (W W2:World) (g:Nat),Below w.heap.size w W->W2=W.alloc (.cells #[.int .i64 s.count,.int .i64 s.node] 53)->g=W.heap.size ->
   J5 (W2.alloc (.cells #[.slice A a.length c,.slice (some ⟨g,0,none⟩) 1 1] 22)) (W2.alloc (.cells #[.slice A a.length c,.slice (some ⟨g,0,none⟩) 1 1] 22)).heap.size (.slice (some ⟨W2.heap.size,0,none⟩) 2 2) [a,[s]]:=by
  rintro W W2 g hb rfl rfl
  have h1:C8 _ _ (.slice (some ⟨W.heap.size,0,none⟩) 1 1) [s]:=B88 (e:=53) (w:=W) (cs:=#[.int .i64 s.count,.int .i64 s.node]) (size:=2) (R:=G7) (y:=s) ⟨rfl,i1,i2⟩ rfl
  have ha:=Ai (o:=.cells #[.slice A a.length c,.slice (some ⟨W.heap.size,0,none⟩) 1 1] 22) (Below.refl _ (W.alloc (.cells #[.int .i64 s.count,.int .i64 s.node] 53)))
  exact (Ah.of_blk (R:=W5 _ _) (k:=1) (l:=[a,[s]]) (Blk.new _ 22 _) ⟨[_],_,rfl,rfl,⟨_,rfl,(HH.out.next (Ai hb)).next ha⟩,[_],[],rfl,rfl,⟨_,rfl,h1.next ha⟩,rfl⟩ (by simp)).sl
 have kb:=Ai (o:=.cells #[.slice A a.length c,.slice (some ⟨w.heap.size+1,0,none⟩) 1 1] 22) (Ai (o:=.cells #[.int .i64 s.count,.int .i64 s.node] 53) (Ai (o:=.cells #[.int .i64 s.count,.int .i64 s.node] 53) (Below.refl _ w)))
 have h2:=hrow (w.alloc (.cells #[.int .i64 s.count,.int .i64 s.node] 53)) _ (w.heap.size+1) (Ai (Below.refl _ w)) rfl (by simp)
 rw [show ((w.alloc (.cells #[.int .i64 s.count,.int .i64 s.node] 53)).alloc (.cells #[.int .i64 s.count,.int .i64 s.node] 53)).heap.size=w.heap.size+1+1 by simp] at h2
 refine (Ze [a,[s]] _ _ h2 (HT.out.next kb)).mono ?_
 rintro e w1 ⟨⟨v',rfl,hown⟩,hb1⟩
 have hs:=kb.size
 obtain ⟨A6,c6,rfl⟩:=hown.form
 have HO:=Lib.hid (hown.base hs)
 clear hown h2 hrow
 go_wp2_with fail
 go_ret
 exact ⟨⟨_,rfl,HO.out⟩,Av kb hb1⟩
end Go.Proofs.YtblfjaedaijfoaaGreatDoor
namespace Go.Proofs.YtblfjaedaijfoaaGreatDoor
open Go.ChangeShapes Go.WideShapes Go.ChangeAt Go.RowKit
def E53 (ls:List (List Ao)) (o:Nat):Bool:=ls.any fun l=>Bm l o
def Dx1 (f d:Nat->Bool) (k n:Nat):Bool:=if n < k then (f n || d n) else f n
def Dp4 (f d:Nat->Bool) (k n:Nat):Bool:=if n < k then (f n&&d n) else f n
def Ch0 (ls:List (List Ab)):IV:=.sl 1 (ls.map fun l=>[stI l])
def Ch2 (ls:List (List Ao)):IV:=.sl 1 (ls.map fun l=>[spI l])
theorem Al0 {E:Env} {V w:World} {v:Value} {ls:List (List Ab)} (hV:Ext V w) (h:Bd E V v (.iv (Ch0 ls))):J5 w w.heap.size v ls:=by
 cases h with
 | iv h =>
  refine (Cp.to_typed (R:=W5 w w.heap.size) (l:=ls) (enc:=fun l=>[stI l]) h fun cs x _ hx=>?_).ext (fun _ _ h=>h) hV
  match cs,hx with
  | [v],⟨hx,_⟩=>exact ⟨v,rfl,hx.stamps.ext (fun _ _ h=>h) hV⟩
theorem Aw6 {E:Env} {V w:World} {v:Value} {ls:List (List Ao)} (hV:Ext V w) (h:Bd E V v (.iv (Ch2 ls))):Mv w w.heap.size v ls:=by
 cases h with
 | iv h =>
  refine (Cp.to_typed (R:=Bj1 w w.heap.size) (l:=ls) (enc:=fun l=>[spI l]) h fun cs x _ hx=>?_).ext (fun _ _ h=>h) hV
  match cs,hx with
  | [v],⟨hx,_⟩=>exact ⟨v,rfl,hx.spans.ext (fun _ _ h=>h) hV⟩
theorem Vz {E:Env} {X:World} {v:Value} {a b:Value} (h:Bd E X v (.agg [.val a,.val b])):v=.agg #[a,b]:=by
 cases h with
 | @agg vs _ h1 h2 =>
  obtain ⟨l⟩:=vs
  match l,h1 with
  | [v0,v1],_ =>
   have a0:=h2 0 v0 _ rfl rfl
   have a1:=h2 1 v1 _ rfl rfl
   cases a0;cases a1;rfl
theorem Fh (l:List Ab):A7 Tryz.prog A8 98 [.iv (stI l)] (.val (.bool (Ak l))) [] :=
 Bt Tryz.func98 rfl (by kernel_rfl) fun V w E vs hV hG hr=>by
  obtain ⟨v0,rfl,h0⟩:=H6 hr
  exact Lw l _ w (Cl hV h0)
theorem Pn (l:List Ab) (m:List Ab):A7 Tryz.prog A8 194 [.iv (stI l),.iv (stI m)] (.val (.bool (Aw l m))) [] :=
 Bt Tryz.func194 rfl (by kernel_rfl) fun V w E vs hV hG hr=>by
  obtain ⟨v0,v1,rfl,h0,h1⟩:=Kr hr
  exact Pm l m _ _ w (Cl hV h0) (Cl hV h1) hG
theorem Ap1 (l:List Ab) (n:Int):A7 Tryz.prog A8 270 [.iv (stI l),.val (.int .i64 n)] (.val (.int .i64 (Aa l n))) [] :=
 Bt Tryz.func270 rfl (by kernel_rfl) fun V w E vs hV hG hr=>by
  obtain ⟨v0,v1,rfl,h0,h1⟩:=Kr hr
  cases h1
  exact Xo l n _ w (Cl hV h0)
theorem We (l:List Ab) (s:Ab):A7 Tryz.prog A8 196 [.iv (stI l),.agg [.val (.int .i64 s.count),.val (.int .i64 s.node)]] (.val (.bool (E4 l s))) [] :=
 Bt Tryz.func196 rfl (by kernel_rfl) fun V w E vs hV hG hr=>by
  obtain ⟨v0,v1,rfl,h0,h1⟩:=Kr hr
  obtain rfl:=Vz h1
  exact A91 l s _ w (Cl hV h0)
theorem L6 (l:List Ab):A7 Tryz.prog A8 116 [.iv (stI l)] (.val (.bool (Ak l))) [] :=
 Bt Tryz.func116 rfl (by kernel_rfl) fun V w E vs hV hG hr=>by
  obtain ⟨v0,rfl,h0⟩:=H6 hr
  exact Jm l _ w (Cl hV h0)
theorem T5 (l:List Ab) (m:List Ab):A7 Tryz.prog A8 205 [.iv (stI l),.iv (stI m)] (.val (.bool (Aw l m))) [] :=
 Bt Tryz.func205 rfl (by kernel_rfl) fun V w E vs hV hG hr=>by
  obtain ⟨v0,v1,rfl,h0,h1⟩:=Kr hr
  exact Wu l m _ _ w (Cl hV h0) (Cl hV h1)
theorem G9 (l:List Ab) (m:List Ab):A7 Tryz.prog A8 45 [.iv (stI l),.iv (stI m)] (.val (.bool (decide (l=m)))) [] :=
 Bt Tryz.func45 rfl (by kernel_rfl) fun V w E vs hV hG hr=>by
  obtain ⟨v0,v1,rfl,h0,h1⟩:=Kr hr
  exact A08 l m _ _ w (Cl hV h0) (Cl hV h1)
theorem B60 (l:List Ab) (s:Ab):A7 Tryz.prog A8 206 [.iv (stI l),.agg [.val (.int .i64 s.count),.val (.int .i64 s.node)]] (.val (.bool (E4 l s))) [] :=
 Bt Tryz.func206 rfl (by kernel_rfl) fun V w E vs hV hG hr=>by
  obtain ⟨v0,v1,rfl,h0,h1⟩:=Kr hr
  obtain rfl:=Vz h1
  exact Bx2 l s _ w (Cl hV h0)
theorem Pu (l:List Ao):A7 Tryz.prog A8 75 [.iv (spI l)] (.val (.bool (Br l))) [] :=
 Bt Tryz.func75 rfl (by kernel_rfl) fun V w E vs hV hG hr=>by
  obtain ⟨v0,rfl,h0⟩:=H6 hr
  exact Ka l _ w (Ji hV h0)
theorem Bl3 (l:List Ao) (o:Int):A7 Tryz.prog A8 167 [.iv (spI l),.val (.int .i64 o)] (.val (.bool (Er l o))) [] :=
 Bt Tryz.func167 rfl (by kernel_rfl) fun V w E vs hV hG hr=>by
  obtain ⟨v0,v1,rfl,h0,h1⟩:=Kr hr
  cases h1
  exact Xq l o _ w (Ji hV h0)
theorem Qt (l:List Ao) (m:List Ao):A7 Tryz.prog A8 135 [.iv (spI l),.iv (spI m)] (.val (.bool (decide (l=m)))) [] :=
 Bt Tryz.func135 rfl (by kernel_rfl) fun V w E vs hV hG hr=>by
  obtain ⟨v0,v1,rfl,h0,h1⟩:=Kr hr
  exact Qw l m _ _ w (Ji hV h0) (Ji hV h1)
theorem Xb (l:List Ab) (m:List Ab):A7 Tryz.prog A8 35 [.iv (stI l),.iv (stI m)] (.val (.bool (decide (l=m)))) [] :=
 Bt Tryz.func35 rfl (by kernel_rfl) fun V w E vs hV hG hr=>by
  obtain ⟨v0,v1,rfl,h0,h1⟩:=Kr hr
  exact Ay2 l m _ _ w (Cl hV h0) (Cl hV h1)
theorem J4 (x:Bc):A7 Tryz.prog A8 112 [Ft x] (.val (.bool (Ax x))) [] :=
 Bt Tryz.func112 rfl (by kernel_rfl) fun V w E vs hV hG hr=>by
  obtain ⟨v0,rfl,h0⟩:=H6 hr
  obtain ⟨n0,n1,n2,n3,rfl,H0⟩:=Nw hV h0
  exact R3 x _ _ _ _ w H0 hG
theorem Q2 (x:Bc) (l:List Ab):A7 Tryz.prog A8 200 [Ft x,.iv (stI l)] (.val (.bool (Aw l x.start))) [] :=
 Bt Tryz.func200 rfl (by kernel_rfl) fun V w E vs hV hG hr=>by
  obtain ⟨v0,v1,rfl,h0,h1⟩:=Kr hr
  obtain ⟨n0,n1,n2,n3,rfl,H0⟩:=Nw hV h0
  exact Bz6 x l _ _ _ _ _ w H0 (Cl hV h1) hG
theorem A76 (x:Bc):A7 Tryz.prog A8 123 [Ft x] (.val (.bool (Ax x))) [] :=
 Bt Tryz.func123 rfl (by kernel_rfl) fun V w E vs hV hG hr=>by
  obtain ⟨v0,rfl,h0⟩:=H6 hr
  obtain ⟨n0,n1,n2,n3,rfl,H0⟩:=Nw hV h0
  exact T9 x _ _ _ _ w H0
theorem Ar9 (x:Bc) (l:List Ab):A7 Tryz.prog A8 124 [Ft x,.iv (stI l)] (.val (.bool (Aw l x.start))) [] :=
 Bt Tryz.func124 rfl (by kernel_rfl) fun V w E vs hV hG hr=>by
  obtain ⟨v0,v1,rfl,h0,h1⟩:=Kr hr
  obtain ⟨n0,n1,n2,n3,rfl,H0⟩:=Nw hV h0
  exact C82 x l _ _ _ _ _ w H0 (Cl hV h1)
theorem Mb (ls:List (List Ab)):A7 Tryz.prog A8 199 [.iv (Ch0 ls)] (.own 0) [.row 0 53 2 ((Di ls).map Rj)] :=
 El (fun _ _ _ h=>Wk h) Tryz.func199 rfl (by kernel_rfl) fun V w E vs hV hG hr=>by
  obtain ⟨v0,rfl,h0⟩:=H6 hr
  exact Ze ls _ w (Al0 hV h0) hG
theorem B27 (l:List Ab) (s:Ab) (i1:I64 s.count) (i2:I64 s.node):A7 Tryz.prog A8 212 [.iv (stI l),.agg [.val (.int .i64 s.count),.val (.int .i64 s.node)]] (.own 0) [.row 0 53 2 ((Di [l,[s]]).map Rj)] :=
 El (fun _ _ _ h=>Wk h) Tryz.func212 rfl (by kernel_rfl) fun V w E vs hV hG hr=>by
  obtain ⟨v0,v1,rfl,h0,h1⟩:=Kr hr
  obtain rfl:=Vz h1
  exact B31 l s _ w (Cl hV h0) i1 i2 hG
theorem B58 (l:List Ab) (m:List Ab):A7 Tryz.prog A8 125 [.iv (stI l),.iv (stI m)] (.own 0) [.row 0 53 2 ((Di [l,m]).map Rj)] :=
 El (fun _ _ _ h=>Wk h) Tryz.func125 rfl (by kernel_rfl) fun V w E vs hV hG hr=>by
  obtain ⟨v0,v1,rfl,h0,h1⟩:=Kr hr
  exact Bm8 l m _ _ w (Cl hV h0) (Cl hV h1)
theorem Ar5 (l:List Ab):A7 Tryz.prog A8 126 [.iv (stI l)] (.own 0) [.row 0 53 2 ((l).map Rj)] :=
 El (fun _ _ _ h=>Wk h) Tryz.func126 rfl (by kernel_rfl) fun V w E vs hV hG hr=>by
  obtain ⟨v0,rfl,h0⟩:=H6 hr
  exact B69 l _ w (Cl hV h0)
theorem Am5 (l:List Ab):A7 Tryz.prog A8 149 [.iv (stI l)] (.own 0) [.row 0 53 2 ((l).map Rj)] :=
 El (fun _ _ _ h=>Wk h) Tryz.func149 rfl (by kernel_rfl) fun V w E vs hV hG hr=>by
  obtain ⟨v0,rfl,h0⟩:=H6 hr
  exact B07 l _ w (Cl hV h0)
theorem Am6 (l:List Ao):A7 Tryz.prog A8 77 [.iv (spI l)] (.own 0) [.row 0 121 2 ((l).map Nl)] :=
 El (fun _ _ _ h=>Ts h) Tryz.func77 rfl (by kernel_rfl) fun V w E vs hV hG hr=>by
  obtain ⟨v0,rfl,h0⟩:=H6 hr
  exact Bd3 l _ w (Ji hV h0)
theorem Ar6 (l:List Ao):A7 Tryz.prog A8 141 [.iv (spI l)] (.own 0) [.row 0 121 2 ((l).map Nl)] :=
 El (fun _ _ _ h=>Ts h) Tryz.func141 rfl (by kernel_rfl) fun V w E vs hV hG hr=>by
  obtain ⟨v0,rfl,h0⟩:=H6 hr
  exact As5 l _ w (Ji hV h0)
attribute [local irreducible] Jf
def Ge (f:Nat->Bool):List IV:=(setRow f).toList.map IV.val
def Bd5 (c:Nat->Int):List IV:=(E7 c).toList.map IV.val
attribute [local irreducible] Ge Bd5 setRow E7
theorem N9 (l:List Ap):A7 Tryz.prog A8 215 [.iv (wrI l)] (.own 0) [.row 0 102 4 (l.map enW)] :=
 El (fun _ _ _ h=>Cd0 h) Tryz.func215 rfl (by kernel_rfl) fun V w E vs hV hG hr=>by
  obtain ⟨v0,rfl,h0⟩:=H6 hr
  exact B03 l _ w (Bq3 hV h0)
end Go.Proofs.YtblfjaedaijfoaaGreatDoor
