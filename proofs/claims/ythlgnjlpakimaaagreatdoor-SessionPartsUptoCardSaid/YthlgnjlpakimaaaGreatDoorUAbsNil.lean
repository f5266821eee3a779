/- What is known of a value may be told weaker: of slots, of boxes' cells, of results. No program is known here. -/
import Derived.Test.YthlgnjlpakimaaaGreatDoorUAbsIter
set_option linter.all false
set_option linter.unnecessarySimpa false
set_option linter.unusedSimpArgs false
set_option linter.unusedVariables false
namespace Go.Proofs.YthlgnjlpakimaaaGreatDoor
open Go.ChangeShapes Go.WideShapes Go.ChangeAt Go.RowKit
def Cf7 (G:World->Prop):Prop:=∀ w r (o':Obj),G w->(∃ o:Obj,w.heap[r]? = some o/\Kk o=true)->G (w.putObj r o')
section
variable {P : Program} {G : World -> Prop} {α : Type} {encs : α -> List AV} {Sp : List α -> Prop} {Y : YC P G encs Sp} {n : Nat} {K : Exit -> Ys α -> Ah -> Prop}
def Bz9 (K:Exit->Ys α->Ah->Prop) (pu:List (Nat×AV)) (I:List α->Prop):Exit->Ys α->Ah->Prop
 | .normal,.going q,_=>I q
 | .ret,.going q,_=>K .ret (.over (some q)) ⟨pu,[]⟩
 | .ret,.left,_=>K .ret (.over none) ⟨pu,[]⟩
 | .exit id,.going q,_=>K (.exit id) (.over (some q)) ⟨pu,[]⟩
 | .exit id,.left,_=>K (.exit id) (.over none) ⟨pu,[]⟩
 | _,_,_=>False
theorem B27 {X Xn W W':World} {row:Option Nat} (hX:Ext X W) (hg:W.grownBy W' row) (hr:∀ r,row=some r->∃ o:Obj,W.heap[r]? = some o/\Kk o=true) :
  Ext X (vis X W W' [])/\Ext (vis X W W' []) W'/\(∀ p,p.block < W.heap.size->(vis X W W' []).cell? p=X.cell? p):=by
 refine ⟨⟨by rw [E9];exact Nat.le_trans hX.size hg.size,fun p u hp=>?_⟩,⟨by rw [E9];exact Nat.le_refl _,fun p u hp=>?_⟩,fun p hp=>Gw hp (Nat.lt_of_lt_of_le hp hg.size)⟩
 ·have hlt:=Nat.lt_of_lt_of_le (World.block_lt_of_cell? X p hp) hX.size
  rw [Gw hlt (Nat.lt_of_lt_of_le hlt hg.size)];exact hp
 ·rcases (Pr hp).2 with ⟨_,h2⟩ | ⟨_,_,h2⟩
  ·exact K1 (hX.cell p u h2) hg hr
  ·exact h2
theorem Nf {X W W':World} {row:Option Nat} (hX:Ext X W) (hg:W.grownBy W' row) (hr:∀ r,row=some r->∃ o:Obj,W.heap[r]? = some o/\Kk o=true):Ext X W' :=
 ⟨Nat.le_trans hX.size hg.size,fun p u hp=>K1 (hX.cell p u hp) hg hr⟩
theorem Mm {w w':World} (h:Below w.heap.size w w'):w.grownBy w' none:=⟨h.os,h.tape,h.output,h.size,fun k hk _=>h.block k hk⟩
theorem Gn.turn {β:Type} {B:Nat} {J:β->World->World->Prop} (hJ:Gn B J) {s:β} {X W:World} {r:Nat} {o o':Obj} (h:J s X W) (hX:Ext X W) (hB:B<=r) (ho:W.heap[r]? = some o) (hc:Kk o=true):J s X (W.putObj r o') :=
 hJ s X W X _ (some r) h (grownBy_putObj' W r o') (fun r' e=>by cases e;exact ⟨hB,o,ho,hc⟩) (Ext.refl _) (Nf hX (grownBy_putObj' W r o') fun r' e=>by cases e;exact ⟨o,ho,hc⟩) fun _ _=>rfl
theorem AWY.range {α':Type} {g:Operand} {ps:Array Tmp} {assign body:Code} {gf:FuncId} {caps:List AV} {encs':α'->List AV} {S' Sp':List α'->Prop} {pre0:List α} {pu:List (Nat×AV)}
  (hit:Bd P G gf caps encs' S' Sp') (hcalm:Cf7 G) (I:List α'->List α->Prop) (hI:I [] pre0) (hro:Y.ro=none) (hg:ev pu g=.fn gf caps) (hpu:A20 pu=true) (hps:A23 n [] ps.toList=true) (henc:∀ x,(encs' x).length=ps.size/\Md.pures (encs' x)=true)
  (hbody:∀ Y1:YC P G encs Sp,Y1.l=Y.l->∀ pre x q,Sp' (pre++[x])->I pre q->AWY Y1 n assign (.going q) ⟨Tf ps.toList (encs' x) pu,[]⟩ fun e y1 σ1=>e=.normal/\y1=.going q/\σ1.bk=[] /\
   ∀ Y2:YC P G encs Sp,Y2.l=Y.l->AWY Y2 n body (.going q) σ1 (Bz9 K pu (I (pre++[x]))))
  (hdone:∀ xs q,S' xs->I xs q->K .normal (.over (some q)) ⟨pu,[]⟩):AWY Y n (.rangeFunc g ps assign body) (.going pre0) ⟨pu,[]⟩ K:=fun a w ⟨V,w0,m0,E0,hn,hds0,hs,hGw0,hwb,hX0V,ht0⟩=>by
 refine wpIn_rangeFunc fun fn hfn=>?_
 rw [show (FW Y.ro).round=none from hro]
 have hlow:=hs.low.size
 have hgv:=hs.ev g
 simp only [hg] at hgv
 obtain ⟨K0,hK⟩ : ∃ K0,w.heap.size=K0:=⟨_,rfl⟩
 have hVX:Ext V (vis V w0 w (Ac E0 [])):=M6 hs.ext hs.low
 have hXw:Ext (vis V w0 w (Ac E0 [])) w:=hs.in_
 have hJ0:Y.J pre0 (vis V w0 w (Ac E0 [])) w:=Y.sJ pre0 V w0 _ w none ht0 (Mm hs.low) (fun r e=>by cases e) hVX hXw fun p hp=>Gw hp (Nat.lt_of_lt_of_le hp hs.low.size)
 have hslots:=hs.slots
 obtain ⟨X0,hX0⟩ : ∃ X0,vis V w0 w (Ac E0 [])=X0:=⟨_,rfl⟩
 simp only [hX0] at hgv hVX hXw hJ0 hslots
 have hYX0:Ext Y.X0 X0:=hX0V.trans hVX
 obtain ⟨lb,hge,hlb⟩ : ∃ lb:Array Value,a.eval g=.func (.func gf) #[] lb/\At E0 X0 lb.toList caps:=by
  generalize a.eval g=gv at hgv
  cases hgv with
  | @fn _ lb _ h1 h2=>exact ⟨lb,rfl,by simpa using h1,fun j v c e1 e2=>h2 j v c (by simpa using e1) e2⟩
 obtain ⟨mk,hmk⟩ : ∃ mk:LoopState->Option Code->Loop,mk=fun st pe=>{ state:=st,pending:=pe,fn,tmps:=a.tmps,params:=ps,assign,body,defers:=K0 }:=⟨_,rfl⟩
 obtain ⟨W1,hW1⟩ : ∃ W1,(w.alloc (.deferred (some []))).alloc (.loop (mk .ready none))=W1:=⟨_,rfl⟩
 have hs1:W1.heap.size=K0+2:=by rw [<-hW1];simp [hK]
 have hR1:Ed (K0+1) K0 mk .ready none W1:=by
  refine ⟨?_,?_⟩
  ·rw [<-hW1]
   have:=World.alloc_heap_new (w.alloc (.deferred (some []))) (.loop (mk .ready none))
   rwa [World.size_alloc,hK] at this
  ·rw [<-hW1]
   have:=World.alloc_heap_new w (.deferred (some []))
   rw [hK] at this
   exact (Below.heap_alloc _ _ _ (by simp [hK])).trans this
 have hb1:Below w.heap.size w W1:=by rw [<-hW1];exact Af (Af (Below.refl _ w))
 have hG1:G W1:=Y.hG w0 W1 hGw0 (hs.next hb1).low
 have hwbK:Y.wb.heap.size<=K0:=by omega
 have hsz0:a.tmps.size=n:=by rw [hs.size.1,hn]
 have hdef0:a.defers=[]:=by rw [hs.defers.1,hds0];rfl
 have hpu0:∀ i,Md (Ct pu i)=true:=S6 hpu
 -- the record lies where others turn what is theirs
 have recS:∀ {st:LoopState} {pe:Option Code} {W W':World} {row:Option Nat},Ed (K0+1) K0 mk st pe W->W.grownBy W' row->(∀ r,row=some r->W1.heap.size<=r)->Ed (K0+1) K0 mk st pe W':=fun h hg hr =>
  ⟨(hg.block _ (Array.getElem?_eq_some_iff.1 h.rec_).1 fun e=>by have:=hr _ e.symm;omega).trans h.rec_,(hg.block _ (Array.getElem?_eq_some_iff.1 h.dfr).1 fun e=>by have:=hr _ e.symm;omega).trans h.dfr⟩
 have recK:∀ {st:LoopState} {pe:Option Code} {W W':World},Ed (K0+1) K0 mk st pe W->F4 Y.wb.heap.size W W'->Ed (K0+1) K0 mk st pe W':=fun h hk =>
  ⟨hk.same _ _ (by omega) h.rec_ rfl,hk.same _ _ (by omega) h.dfr rfl⟩
 let T:Ys α->World->World->Prop:=fun y X W=>Y.tells y X W
 have hT:Gn Y.wb.heap.size T:=fun y X W X' W' row h=>by
  cases y with
  | going q=>exact Y.sJ q X W X' W' row h
  | left=>exact fun h1 h2 h3 h4 h5=>let ⟨q,hq⟩:=h;⟨q,Y.sJx q X W X' W' row hq h1 h2 h3 h4 h5⟩
  | over r=>cases r with
   | some q=>exact Y.sJ q X W X' W' row h
   | none=>exact fun h1 h2 h3 h4 h5=>let ⟨q,hq⟩:=h;⟨q,Y.sJx q X W X' W' row hq h1 h2 h3 h4 h5⟩
 let J:List α'->World->World->Prop:=fun pre X W=>∃ q X',I pre q/\Y.J q X' W/\Ext X0 X'/\Ext X X'/\Ext X' W/\W1.heap.size<=W.heap.size/\Ed (K0+1) K0 mk .ready none W
 let Jx:List α'->World->World->Prop:=fun pre X W=>∃ c e y X',((c=.ret/\e=.ret)\/∃ id,c=.exit id/\e=.exit id)/\(∃ r,y=.over r)/\K e y ⟨pu,[]⟩/\T y X' W/\Ext X' W/\W1.heap.size<=W.heap.size/\Ed (K0+1) K0 mk .done (some c) W
 have hJ:Gn W1.heap.size J:=fun pre X W X' W' row ⟨q,Z,h1,h2,h3,h4,h5,h6,h7⟩ hgr hr e1 e2 e3=>by
  obtain ⟨m1,m2,m3⟩:=B27 (Xn:=X') h5 hgr fun r e=>(hr r e).2
  refine ⟨q,vis Z W W' [],h1,Y.sJ q Z W _ W' row h2 hgr (fun r e=>⟨by have:=(hr r e).1;omega,(hr r e).2⟩) m1 m2 m3,h3.trans m1,⟨by rw [E9];exact e2.size,fun p u hp=>?_⟩,m2,Nat.le_trans h6 hgr.size,recS h7 hgr fun r e=>(hr r e).1⟩
  by_cases hlt:p.block < W.heap.size
  ·rw [e3 p hlt] at hp
   rw [m3 p hlt]
   exact h4.cell p u hp
  ·rw [Gx (by omega),if_neg (by simp)]
   exact e2.cell p u hp
 have hJx:Gn W1.heap.size Jx:=fun pre X W X' W' row ⟨c,e,y,Z,h0,h1,h2,h3,h4,h5,h6⟩ hgr hr e1 e2 e3 =>
  ⟨c,e,y,Z,h0,h1,h2,hT y Z W Z W' row h3 hgr (fun r e=>⟨by have:=(hr r e).1;omega,(hr r e).2⟩) (Ext.refl _) (Nf h4 hgr fun r e=>(hr r e).2) (fun _ _=>rfl),Nf h4 hgr fun r e=>(hr r e).2,Nat.le_trans h5 hgr.size,recS h6 hgr fun r e=>(hr r e).1⟩
 refine ⟨K0+1,[{ target:=.collected K0,args:=#[] }],W1,{ target:=.fn (.func gf) lb,args:=#[.func (.yield (K0+1)) #[] #[]] },W1,gf,#[.func (.yield (K0+1)) #[] #[]]++lb,W1,?_,?_,fun _ _=>trivial,?_,(fun e=>by cases e),?_⟩
 ·rw [<-hW1,hmk]
  have:=run_enterLoop_outer (P:=P) (w:=w) fn a.tmps ps assign body
  rw [hK] at this
  exact this
 ·simp only [resolve,hge]
  simp [go_sem]
 ·simp [invoke,go_sem,hit.1]
 have hx1:Ext X0 W1:=hXw.trans (Ext.of_below hb1)
 have hJ1:Y.J pre0 X0 W1:=Y.sJ pre0 X0 w X0 W1 none hJ0 (Mm hb1) (fun r e=>by cases e) (Ext.refl _) hx1 fun _ _=>rfl
 refine callsIn_wide.2 ((hit.2 X0 W1 E0 lb hx1 hG1 hlb (K0+1) J Jx hJ hJx ?_ ⟨pre0,X0,hI,hJ1,Ext.refl _,Ext.refl _,hx1,Nat.le_refl _,hR1⟩).mono ?_)
 ·rintro pre x X W vs E1 ⟨q,Z,hi,hYJ,hX0Z,hXZ,hZW,hsW,hrec⟩ hX0X hXW hszW hGW hvs hSp
  have hvl:vs.size=ps.size:=by have:=hvs.1;rw [(henc x).1] at this;simpa using this
  have hy:=run_yield (P:=P) (args:=vs) hrec.rec_ (by rw [hmk];exact hvl)
  rw [hmk] at hy
  refine ⟨fn,_,assign,body,hy,roundIn_of_wpIn hfn ?_⟩
  clear hy
  -- the caller, as the round's code knows it
  obtain ⟨YR,hYR⟩ : ∃ YR:LoopState->YC P G encs Sp,∀ st,(YR st).l=Y.l/\(YR st).ro=some (K0+1)/\(YR st).X0=Z/\(YR st).wb=W /\
    (∀ q' X' W',(YR st).J q' X' W'↔Y.J q' X' W'/\Ext Z X'/\F4 W1.heap.size W W'/\Ed (K0+1) K0 mk st none W') /\
    (∀ q' X' W',(YR st).Jx q' X' W'↔Y.Jx q' X' W'/\Ext Z X'/\F4 W1.heap.size W W'/\Ed (K0+1) K0 mk st none W'):=by
   have st3:∀ (T:List α->World->World->Prop),Gn Y.wb.heap.size T->∀ st,Gn W.heap.size fun q' X' W'=>T q' X' W'/\Ext Z X'/\F4 W1.heap.size W W'/\Ed (K0+1) K0 mk st none W':=fun T sT st q' X' W' X2 W2 row ⟨k1,k2,k3,k4⟩ hgr hr e1 e2 e3 =>
    ⟨sT q' X' W' X2 W2 row k1 hgr (fun r e=>⟨by have:=(hr r e).1;omega,(hr r e).2⟩) e1 e2 e3,k2.trans e1,⟨Nat.le_trans k3.size hgr.size,fun g o hB ho hc=>by
     have h1:=k3.same g o hB ho hc
     have hgl:=(Array.getElem?_eq_some_iff.1 ho).1
     refine (hgr.block g (Array.getElem?_eq_some_iff.1 h1).1 fun e=>?_).trans h1
     have:=(hr g e.symm).1
     omega⟩,recS k4 hgr fun r e=>by have:=(hr r e).1;omega⟩
   exact ⟨fun st=>⟨Z,W,Y.l,some (K0+1),_,_,st3 Y.J Y.sJ st,st3 Y.Jx Y.sJx st,Y.hG,fun pre2 x2 X2 W2 vs2 E2 ⟨k1,k2,k3,k4⟩ p1 p2 p3 p4 p5 p6=>by
    obtain ⟨f1,t1,as1,b1,r1,r2⟩:=Y.round pre2 x2 X2 W2 vs2 E2 k1 ((hYX0.trans hX0Z).trans p1) p2 (by omega) p4 p5 p6
    refine ⟨f1,t1,as1,b1,r1,RoundIn.mono r2 ?_⟩
    rintro e W3 ⟨s1,s2,s3,s4,s5⟩
    have s6:F4 W.heap.size W2 W3:=⟨s4.size,fun g o hB ho hc=>s4.same g o (by omega) ho hc⟩
    have s7:F4 W1.heap.size W2 W3:=⟨s4.size,fun g o hB ho hc=>s4.same g o (by omega) ho hc⟩
    exact ⟨s1,s2,s3,s6,s5.imp (fun h=>⟨h.1,h.2,k2,k3.trans s7,recK k4 s4⟩) fun h=>⟨h.1,h.2,k2,k3.trans s7,recK k4 s4⟩⟩⟩,fun st=>⟨rfl,rfl,rfl,rfl,fun _ _ _=>Iff.rfl,fun _ _ _=>Iff.rfl⟩⟩
  obtain ⟨hl1,hro1,hx01,hwb1,hj1,hjx1⟩:=hYR .ready
  obtain ⟨hl2,hro2,hx02,hwb2,hj2,hjx2⟩:=hYR .busy
  have hpst:∀ (X2 W2:World) (E2:Env),Ext X0 X2->Ext X2 W2->St X2 W2 ⟨⟨n,[],true⟩,fun _=>undef,[],fun _=>none,0⟩ E2 ⟨pu,[]⟩ { tmps:=a.tmps,defers:=[] } W2:=fun X2 W2 E2 h1 h2 =>
   ⟨h2,Below.refl _ _,List.nodup_nil,(fun g hg=>by cases hg),(fun b hb=>by cases hb),fun i=>(hslots i).pure (h1.trans (M6 h2 (Below.refl _ _))) (hpu0 i),⟨hsz0,fun i hi=>by cases hi⟩,⟨rfl,List.nodup_nil,fun D hD=>by cases hD⟩,Nat.zero_le _,fun g o e=>by cases e⟩
  have hst0:=hpst Z W E1 hX0Z hZW
  have hvsr:At E1 (vis Z W W []) vs.toList (encs' x):=⟨hvs.1,fun j v c e1 e2=>(hvs.2 j v c e1 e2).pure (hXZ.trans (M6 hZW (Below.refl _ _))) (Lc (henc x).2 e2)⟩
  have hst1:=St.params (σ:=⟨pu,[]⟩) ps.toList vs.toList (encs' x) pu _ hst0 (Ul hps) hvsr (by simpa using hvl)
  have hfold:(ps.zip vs).foldl (fun t (p,v)=>t.setIfInBounds p v) a.tmps=(ps.toList.zip vs.toList).foldl (fun t pv=>t.setIfInBounds pv.1 pv.2) a.tmps:=by
   rw [<-Array.foldl_toList,Array.toList_zip]
  have hat1:(YR .ready).at_ n (.going q) ⟨Tf ps.toList (encs' x) pu,[]⟩ { tmps:=(ps.zip vs).foldl (fun t (p,v)=>t.setIfInBounds p v) a.tmps,defers:=[] } W:=by
   rw [YC.at_go rfl]
   refine ⟨Z,W,_,E1,rfl,rfl,by rw [hfold];exact hst1,hGW,by rw [hwb1];exact Nat.le_refl _,by rw [hx01];exact Ext.refl _,(hj1 q Z W).2 ⟨hYJ,Ext.refl _,F4.refl _ _,hrec⟩⟩
  have hb:=hbody (YR .ready) hl1 pre x q hSp hi _ W hat1
  rw [hro1] at hb
  refine wpIn_mono hb ?_
  rintro e a1 Wa ⟨y1,σ1,⟨rfl,rfl,hbk1,hbd⟩,hat⟩
  rw [YC.at_go rfl] at hat
  obtain ⟨V1,w1,m1,E2,hn1,hds1,hsa,hGw1,hwb1',hx1',htl1⟩:=hat
  rw [hwb1] at hwb1'
  obtain ⟨fr1,bk1⟩:=σ1
  obtain rfl:bk1=[]:=hbk1
  obtain ⟨k1,k2,k3,k4⟩:=(hj1 q V1 w1).1 htl1
  have hgra:=Mm hsa.low
  have hreca:=recS k4 hgra fun r e=>by cases e
  have hbeg:=run_beginRound (P:=P) hreca.rec_ (by rw [hmk])
  have hbusy:({ mk .ready none with state:=.busy } : Loop)=mk .busy none:=by rw [hmk]
  rw [hbusy] at hbeg
  refine ⟨_,hbeg,?_⟩
  -- the record is turned: a new base
  have hV1a:Ext V1 (vis V1 w1 Wa []):=M6 hsa.ext hsa.low
  have hVaW:Ext (vis V1 w1 Wa []) Wa:=Rs hsa.ext hsa.low
  have hVaW2:Ext (vis V1 w1 Wa []) (Wa.putObj (K0+1) (.loop (mk .busy none))):=Nf hVaW (grownBy_putObj' _ _ _) fun r e=>by cases e;exact ⟨_,hreca.rec_,rfl⟩
  have hYJa:Y.J q (vis V1 w1 Wa []) Wa:=Y.sJ q V1 w1 _ Wa none k1 hgra (fun r e=>by cases e) hV1a hVaW fun p hp=>Gw hp (Nat.lt_of_lt_of_le hp hsa.low.size)
  have hYJ2:Y.J q (vis V1 w1 Wa []) (Wa.putObj (K0+1) (.loop (mk .busy none))):=Y.sJ.turn hYJa hVaW (by omega) hreca.rec_ rfl
  have hrec2:Ed (K0+1) K0 mk .busy none (Wa.putObj (K0+1) (.loop (mk .busy none))):=hreca.put (by omega)
  have hG2:G (Wa.putObj (K0+1) (.loop (mk .busy none))):=hcalm _ _ _ (Y.hG w1 Wa hGw1 hsa.low) ⟨_,hreca.rec_,rfl⟩
  have hkf2:F4 W1.heap.size W (Wa.putObj (K0+1) (.loop (mk .busy none))):=by
   refine ⟨by have:=k3.size;have:=hsa.low.size;simp;omega,fun g o hB ho hc=>?_⟩
   have h1:=k3.same g o hB ho hc
   have h2:=(hsa.low.block g (Array.getElem?_eq_some_iff.1 h1).1).trans h1
   exact (World.putObj_heap_other (by omega)).trans h2
  have hszW2:W.heap.size<=(Wa.putObj (K0+1) (.loop (mk .busy none))).heap.size:=hkf2.size
  have hZVa:Ext Z (vis V1 w1 Wa []):=k2.trans hV1a
  have hslots1:=hsa.slots
  have hsize1:=hsa.size
  have hdef1:a1.defers=[]:=by rw [hsa.defers.1,hds1];rfl
  generalize Wa.putObj (K0+1) (.loop (mk .busy none))=W2 at hVaW2 hYJ2 hrec2 hG2 hkf2 hszW2 ⊢
  have hat2:(YR .busy).at_ n (.going q) ⟨fr1,[]⟩ a1 W2:=by
   rw [YC.at_go rfl]
   refine ⟨vis V1 w1 Wa [],W2,⟨⟨n,[],true⟩,fun _=>undef,[],fun _=>none,0⟩,E2,rfl,rfl,⟨hVaW2,Below.refl _ _,List.nodup_nil,(fun g hg=>by cases hg),(fun b hb=>by cases hb),fun i=>(hslots1 i).mono (M6 hVaW2 (Below.refl _ _)),⟨by rw [hsize1.1,hn1],fun i hi=>by cases hi⟩,⟨by rw [hdef1];rfl,List.nodup_nil,fun D hD=>by cases hD⟩,Nat.zero_le _,fun g o e=>by cases e⟩,hG2,by rw [hwb2];exact hszW2,by rw [hx02];exact hZVa,(hj2 q _ W2).2 ⟨hYJ2,hZVa,hkf2,hrec2⟩⟩
  have hb2:=hbd (YR .busy) hl2 a1 W2 hat2
  rw [hro2] at hb2
  refine wpIn_mono hb2 ?_
  rintro e a3 W3 ⟨y3,σ3,hpost,hat3⟩
  -- however the round is left
  have fin:∀ (y:Ys α) (jump:Option Code),y.on=true->(YR .busy).go n y σ3 a3 W3->∃ W4 X3,(Instr.endRound (K0+1) jump).run P W3=.ok (.bool jump.isNone) W4/\W.heap.size<=W4.heap.size/\Ext X W4/\G W4/\F4 W1.heap.size W W4 /\
    T y X3 W4/\Ext X0 X3/\Ext X X3/\Ext X3 W4/\Ed (K0+1) K0 mk (if jump.isNone then .ready else .done) jump W4:=by
   rintro y jump hy ⟨V3,w3,m3,E3,hn3,hds3,hs3,hGw3,hwb3,hx3,htl3⟩
   rw [hx02] at hx3
   have hT3:T y V3 w3/\F4 W1.heap.size W w3/\Ed (K0+1) K0 mk .busy none w3:=by
    cases y with
    | going q'=>obtain ⟨t1,t2,t3,t4⟩:=(hj2 q' V3 w3).1 htl3;exact ⟨t1,t3,t4⟩
    | left=>obtain ⟨q',htl3⟩:=htl3;obtain ⟨t1,t2,t3,t4⟩:=(hjx2 q' V3 w3).1 htl3;exact ⟨⟨q',t1⟩,t3,t4⟩
    | over r=>cases hy
   obtain ⟨t1,t3,t4⟩:=hT3
   have hgr3:=Mm hs3.low
   have hrec3:=recS t4 hgr3 fun r e=>by cases e
   have hend:=run_endRound (P:=P) jump hrec3.rec_
   have hst3:({ mk .busy none with state:=if jump.isNone then .ready else .done,pending:=jump } : Loop)=mk (if jump.isNone then .ready else .done) jump:=by rw [hmk]
   rw [hst3] at hend
   have hV3:Ext V3 (vis V3 w3 W3 []):=M6 hs3.ext hs3.low
   have hV3W:Ext (vis V3 w3 W3 []) W3:=Rs hs3.ext hs3.low
   have hV3W4:Ext (vis V3 w3 W3 []) (W3.putObj (K0+1) (.loop (mk (if jump.isNone then .ready else .done) jump))):=Nf hV3W (grownBy_putObj' _ _ _) fun r e=>by cases e;exact ⟨_,hrec3.rec_,rfl⟩
   have hTa:T y (vis V3 w3 W3 []) W3:=hT y V3 w3 _ W3 none t1 hgr3 (fun r e=>by cases e) hV3 hV3W fun p hp=>Gw hp (Nat.lt_of_lt_of_le hp hs3.low.size)
   have hZ3:Ext Z (vis V3 w3 W3 []):=hx3.trans hV3
   have hkW3:=t3.size
   have hkW4:=hs3.low.size
   refine ⟨_,vis V3 w3 W3 [],hend,by simp;omega,(hXZ.trans hZ3).trans hV3W4,hcalm _ _ _ (Y.hG w3 W3 hGw3 hs3.low) ⟨_,hrec3.rec_,rfl⟩,⟨by simp;omega,fun g o hB ho hc=>?_⟩,hT.turn hTa hV3W (by omega) hrec3.rec_ rfl,hX0Z.trans hZ3,hXZ.trans hZ3,hV3W4,hrec3.put (by omega)⟩
   have h1:=t3.same g o hB ho hc
   have h2:=(hs3.low.block g (Array.getElem?_eq_some_iff.1 h1).1).trans h1
   exact (World.putObj_heap_other (by omega)).trans h2
  cases e with
  | normal =>
   cases y3 with
   | going q' =>
    rw [YC.at_go rfl] at hat3
    obtain ⟨W4,X3,h1,h2,h3,h4,h5,h6,h7,h8,h9,h10⟩:=fin (.going q') none rfl hat3
    exact ⟨_,W4,h1,h2,h3,h4,h5,.inl ⟨rfl,q',X3,hpost,h6,h7,h8,h9,by omega,h10⟩⟩
   | left=>exact hpost.elim
   | over r=>exact hpost.elim
  | ret =>
   cases y3 with
   | going q' =>
    rw [YC.at_go rfl] at hat3
    obtain ⟨W4,X3,h1,h2,h3,h4,h5,h6,h7,h8,h9,h10⟩:=fin (.going q') (some .ret) rfl hat3
    exact ⟨_,W4,h1,h2,h3,h4,h5,.inr ⟨rfl,_,_,_,X3,.inl ⟨rfl,rfl⟩,⟨_,rfl⟩,hpost,h6,h9,by omega,h10⟩⟩
   | left =>
    rw [YC.at_go rfl] at hat3
    obtain ⟨W4,X3,h1,h2,h3,h4,h5,h6,h7,h8,h9,h10⟩:=fin .left (some .ret) rfl hat3
    exact ⟨_,W4,h1,h2,h3,h4,h5,.inr ⟨rfl,_,_,_,X3,.inl ⟨rfl,rfl⟩,⟨_,rfl⟩,hpost,h6,h9,by omega,h10⟩⟩
   | over r=>exact hpost.elim
  | exit id =>
   cases y3 with
   | going q' =>
    rw [YC.at_go rfl] at hat3
    obtain ⟨W4,X3,h1,h2,h3,h4,h5,h6,h7,h8,h9,h10⟩:=fin (.going q') (some (.exit id)) rfl hat3
    exact ⟨_,W4,h1,h2,h3,h4,h5,.inr ⟨rfl,_,_,_,X3,.inr ⟨id,rfl,rfl⟩,⟨_,rfl⟩,hpost,h6,h9,by omega,h10⟩⟩
   | left =>
    rw [YC.at_go rfl] at hat3
    obtain ⟨W4,X3,h1,h2,h3,h4,h5,h6,h7,h8,h9,h10⟩:=fin .left (some (.exit id)) rfl hat3
    exact ⟨_,W4,h1,h2,h3,h4,h5,.inr ⟨rfl,_,_,_,X3,.inr ⟨id,rfl,rfl⟩,⟨_,rfl⟩,hpost,h6,h9,by omega,h10⟩⟩
   | over r=>exact hpost.elim
  | goto t=>cases y3<;>exact hpost.elim
  | panic ch=>cases y3<;>exact hpost.elim
  | outgrown=>cases y3<;>exact hpost.elim
 ·rintro e W2 ⟨⟨v,rfl⟩,hend⟩
  have out:∀ {st:LoopState} {pe:Option Code},st≠.busy->Ed (K0+1) K0 mk st pe W2->(Instr.endLoop (K0+1)).run P W2=.ok pe (W2.putObj (K0+1) (.loop (mk .exhausted pe))):=by
   intro st pe hst h
   have:=run_endLoop (P:=P) h.rec_ (by rw [hmk];exact hst)
   have e1:({ mk st pe with state:=.exhausted } : Loop)=mk .exhausted pe:=by rw [hmk]
   have e2:(mk st pe).pending=pe:=by rw [hmk]
   rw [e1,e2] at this
   exact this
  have marked:∀ {st:LoopState} {pe:Option Code} {r:Option (List α)} {X:World},Ed (K0+1) K0 mk st pe W2->T (.over r) X W2->Ext X W2->Y.at_ n (.over r) ⟨pu,[]⟩ { a with defers:={ target:=.collected K0,args:=#[] } :: a.defers } (W2.putObj (K0+1) (.loop (mk .exhausted pe))):=by
   intro st pe r X hrec hTX hX
   refine ⟨X,[K0],by rw [hdef0];rfl,⟨by simp,fun D hD=>?_⟩,Nf hX (grownBy_putObj' _ _ _) fun r e=>by cases e;exact ⟨_,hrec.rec_,rfl⟩,hT.turn hTX hX (by omega) hrec.rec_ rfl⟩
   obtain rfl:D=K0:=by simpa using hD
   exact ⟨hwbK,(World.putObj_heap_other (by omega)).trans hrec.dfr⟩
  rcases hend with ⟨xs,X,hS,q,Z,hi,hYJ,hX0Z,hXZ,hZW,_,hrec⟩ | ⟨pre,X,c,e,y,Z,hce,⟨r,rfl⟩,hk,hTZ,hZW,_,hrec⟩
  ·exact ⟨none,_,out (by simp) hrec,.over (some q),_,hdone xs q hS hi,marked (r:=some q) hrec hYJ hZW⟩
  ·refine ⟨some c,_,out (by simp) hrec,?_⟩
   rcases hce with ⟨rfl,rfl⟩ | ⟨id,rfl,rfl⟩
   ·exact wpIn_ret ⟨.over r,_,hk,marked hrec hTZ hZW⟩
   ·exact wpIn_exit ⟨.over r,_,hk,marked hrec hTZ hZW⟩
end
def Dz (x y:AV):Prop:=∀ (E:Env) (X:World) (v:Value),Bb E X v x->Bb E X v y
theorem Dz.rfl_ (x:AV):Dz x x:=fun _ _ _ h=>h
theorem D6 (k:Nat):Dz (.val (.slice none 0 0)) (.iv (.sl k [])):=Wr
theorem Wy (x:AV):Dz x .any:=fun _ _ _ _=>.any
theorem M4.get {xs ys:List AV} (h:xs.length=ys.length) (hs:∀ p∈xs.zip ys,Dz p.1 p.2) (j:Nat) (x y:AV) (hx:xs[j]? = some x) (hy:ys[j]? = some y):Dz x y :=
 hs (x,y) (List.mem_iff_getElem?.2 ⟨j,by rw [List.getElem?_zip_eq_some];exact ⟨hx,hy⟩⟩)
theorem Ns {xs ys:List AV} (h:xs.length=ys.length) (hs:∀ p∈xs.zip ys,Dz p.1 p.2):Dz (.tup xs) (.tup ys):=fun E X v hv=>by
 cases hv with
 | @tup vs _ h1 h2 =>
  refine .tup (h1.trans h) fun j v c a b=>?_
  have hj:=(List.getElem?_eq_some_iff.1 b).1
  rw [<-h] at hj
  exact M4.get h hs j _ c (List.getElem?_eq_getElem hj) b _ _ _ (h2 j v _ a (List.getElem?_eq_getElem hj))
theorem Aa7 {xs ys:List AV} (h:xs.length=ys.length) (hs:∀ p∈xs.zip ys,Dz p.1 p.2):Dz (.agg xs) (.agg ys):=fun E X v hv=>by
 cases hv with
 | @agg vs _ h1 h2 =>
  refine .agg (h1.trans h) fun j v c a b=>?_
  have hj:=(List.getElem?_eq_some_iff.1 b).1
  rw [<-h] at hj
  exact M4.get h hs j _ c (List.getElem?_eq_getElem hj) b _ _ _ (h2 j v _ a (List.getElem?_eq_getElem hj))
theorem Ev {k:Nat} {r:List AV} : Dz (.tup (.val (.slice none 0 0) :: r)) (.tup (.iv (.sl k []) :: r)):=by
 refine Ns rfl fun p hp=>?_
 rw [List.zip_cons_cons] at hp
 rcases List.mem_cons.1 hp with rfl | hp
 ·exact D6 k
 ·obtain ⟨a,b⟩:=p
  obtain ⟨j,hj⟩:=List.mem_iff_getElem?.1 hp
  rw [List.getElem?_zip_eq_some] at hj
  obtain rfl:a=b:=Option.some.inj (hj.1.symm.trans hj.2)
  exact Dz.rfl_ a
theorem Gq {x:AV} {r:List AV} : Dz (.tup (x :: r)) (.tup (.any :: r)):=by
 refine Ns rfl fun p hp=>?_
 rw [List.zip_cons_cons] at hp
 rcases List.mem_cons.1 hp with rfl | hp
 ·exact Wy x
 ·obtain ⟨a,b⟩:=p
  obtain ⟨j,hj⟩:=List.mem_iff_getElem?.1 hp
  rw [List.getElem?_zip_eq_some] at hj
  obtain rfl:a=b:=Option.some.inj (hj.1.symm.trans hj.2)
  exact Dz.rfl_ a
section
variable {P : Program} {G : World -> Prop} {ro : Option Nat} {V w0 : World} {n : Nd} {σ : Ah} {K : Exit -> Ah -> Prop}
theorem AW.sub {c:Code} (i:Nat) (x y:AV) (hi:Ct σ.fr i=x) (hxy:Dz x y) (h:AW P G ro V w0 n c ⟨(i,y) :: σ.fr,σ.bk⟩ K):AW P G ro V w0 n c σ K:=fun hG m0 E a w hn hs=>by
 refine h hG m0 E a w hn ⟨hs.ext,hs.low,hs.apart,hs.base,hs.holds,fun j=>?_,hs.size,hs.defers,hs.hold⟩
 simp only [Ct]
 split
 ·rename_i e1
  subst e1
  have:=hs.slots j
  rw [hi] at this
  exact hxy _ _ _ this
 ·exact hs.slots j
end
theorem AWY.freeze {P:Program} {G:World->Prop} {α:Type} {encs:α->List AV} {Sp:List α->Prop} {Y:YC P G encs Sp} {n:Nat} {y:Ys α} {σ:Ah} {K:Exit->Ys α->Ah->Prop} {c:Code} (b:Nat) (x:BA) (hx:Cd b σ.bk=some x) (hok:okB x)
  (h:AWY Y n c y ⟨Wh x σ.fr,Gv x (D2 b [] σ.bk)⟩ K) (hy:y.on=true:=by rfl):AWY Y n c y σ K:=fun a W hs=>by
 rw [YC.at_go hy] at hs
 obtain ⟨V,w0,m0,E,h1,h2,hst,h4⟩:=hs
 refine h a W ?_
 rw [YC.at_go hy]
 obtain ⟨pre,post,e1,e2,e3⟩:=De hx
 obtain ⟨fr,bk⟩:=σ
 simp only at e1 e3 hst ⊢
 have e4:=e3 []
 subst e1
 rw [e4]
 exact ⟨V,w0,m0,E,h1,h2,by simpa using St.frz hst hok,h4⟩
-- slices of none, one and two elements: rows of one's own (bs), or data (bd)
section
variable {k : Nat} {L : Operand -> AV} {K K' : List (List IV) -> Prop} {x0 x1 : Operand} {c0 c1 : List IV}
theorem bg1 (hk:0 < k/\1*k<=16777216) (h2:okC (L x0)=true) (h3:toIs (Bh (L x0))=some c0) (h1:c0.length=k) (h4:Ft (Bh (L x0))) (hK:K [c0]\/K' [c0]):bsQ L k 1 #[(0,x0)] K K' :=
 ⟨[c0],rfl,hk.1,hk.2,fun i cs h=>by
  match i,h with
  | 0,h=>simp at h;subst h;exact ⟨h1,x0,rfl,h2,.of h3 h4⟩
  | i+1,h=>simp at h,rfl,hK⟩
theorem bs1 (hk:0 < k/\1*k<=16777216) (h2:okC (L x0)=true) (h3:toIs (Bh (L x0))=some c0) (h1:c0.length=k) (h4:Ft (Bh (L x0))) (hK:K [c0]):bsQ L k 1 #[(0,x0)] K K':=bg1 hk h2 h3 h1 h4 (.inl hK)
theorem bd1 (hk:0 < k/\1*k<=16777216) (h2:okC (L x0)=true) (h3:toIs (Bh (L x0))=some c0) (h1:c0.length=k) (h4:Ft (Bh (L x0))) (hK:K' [c0]):bsQ L k 1 #[(0,x0)] K K':=bg1 hk h2 h3 h1 h4 (.inr hK)
theorem bn1 (hk:0 < k/\1*k<=16777216) (h2:okC (L x0)=true) (h3:AsI (Bh (L x0)) c0) (h1:c0.length=k) (hK:K [c0]):bsQ L k 1 #[(0,x0)] K K' :=
 ⟨[c0],rfl,hk.1,hk.2,fun i cs h=>by
  match i,h with
  | 0,h=>simp at h;subst h;exact ⟨h1,x0,rfl,h2,h3⟩
  | i+1,h=>simp at h,rfl,.inl hK⟩
theorem bg2 {d1:List IV} (hk:0 < k/\2*k<=16777216) (h2:okC (L x0)=true) (h3:toIs (Bh (L x0))=some c0) (h1:c0.length=k) (h4:Ft (Bh (L x0))) (g2:okC (L x1)=true) (g3:toIs (Bh (L x1))=some d1) (g1:d1.length=k) (g4:Ft (Bh (L x1))) (hK:K [c0,d1]\/K' [c0,d1]):bsQ L k 2 #[(0,x0),(1,x1)] K K' :=
 ⟨[c0,d1],rfl,hk.1,hk.2,fun i cs h=>by
  match i,h with
  | 0,h=>simp at h;subst h;exact ⟨h1,x0,rfl,h2,.of h3 h4⟩
  | 1,h=>simp at h;subst h;exact ⟨g1,x1,rfl,g2,.of g3 g4⟩
  | i+2,h=>simp at h,rfl,hK⟩
theorem bs2 {d1:List IV} (hk:0 < k/\2*k<=16777216) (h2:okC (L x0)=true) (h3:toIs (Bh (L x0))=some c0) (h1:c0.length=k) (h4:Ft (Bh (L x0))) (g2:okC (L x1)=true) (g3:toIs (Bh (L x1))=some d1) (g1:d1.length=k) (g4:Ft (Bh (L x1))) (hK:K [c0,d1]):bsQ L k 2 #[(0,x0),(1,x1)] K K':=bg2 hk h2 h3 h1 h4 g2 g3 g1 g4 (.inl hK)
theorem bd2 {d1:List IV} (hk:0 < k/\2*k<=16777216) (h2:okC (L x0)=true) (h3:toIs (Bh (L x0))=some c0) (h1:c0.length=k) (h4:Ft (Bh (L x0))) (g2:okC (L x1)=true) (g3:toIs (Bh (L x1))=some d1) (g1:d1.length=k) (g4:Ft (Bh (L x1))) (hK:K' [c0,d1]):bsQ L k 2 #[(0,x0),(1,x1)] K K':=bg2 hk h2 h3 h1 h4 g2 g3 g1 g4 (.inr hK)
end
@[go_sem] theorem Cj3 {v:Value} : toI (.val v)=some (.val v):=rfl
@[go_sem] theorem Ct9 {i:IV} : toI (.iv i)=some i:=rfl
@[go_sem] theorem Cu0 {cs:List IV} : toI (.ip cs)=some (.pt cs):=rfl
@[go_sem] theorem C63:toIs []=some []:=rfl
@[go_sem] theorem Bu6 {c:AV} {cs:List AV} : toIs (c :: cs)=(match toI c,toIs cs with
  | some i,some is=>some (i :: is)
  | _,_=>none):=rfl
-- stores, by what they are put to
theorem Ai {P:Program} {t:TypeId} {b p:Nat} {y:AV} {bk:List BA} {K:List BA->Prop} : Ar P t (.bp b p) y bk K=(match tyK P t with
  | some (_,s)=>okC y=true/\(Bh y).length=s/\match Cd b bk with
   | some (.box _ cs)=>p+s<=cs.length/\K (D2 b [.box b (Es cs p (Bh y))] bk)
   | some (.arr _ cs)=>∃ is,toIs (Bh y)=some is/\Ft (Bh y)/\p+s<=cs.length/\Ej (K (D2 b [.arr b (Es cs p is)] bk))
   | _=>False
  | none=>False):=by unfold Ar Ej;rfl
theorem An {P:Program} {t:TypeId} {b k i j:Nat} {y:AV} {bk:List BA} {K:List BA->Prop} : Ar P t (.rp b k i j) y bk K=(match tyK P t with
  | some (_,s)=>okC y=true/\(Bh y).length=s/\match Cd b bk with
   | some (.row _ e k' l)=>k'=k/\∃ is cs,toIs (Bh y)=some is/\Ft (Bh y)/\l[i]? = some cs/\j+s<=k/\Ej (K (D2 b [.row b e k (l.set i (Es cs j is))] bk))
   | _=>False
  | none=>False):=by unfold Ar Ej;rfl
end Go.Proofs.YthlgnjlpakimaaaGreatDoor
