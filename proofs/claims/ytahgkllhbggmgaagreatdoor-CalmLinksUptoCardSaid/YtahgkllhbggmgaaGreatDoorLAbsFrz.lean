/- A block of one's own that will not turn any more: from here on it is data. No program is known here. -/
import Derived.Test.YtahgkllhbggmgaaGreatDoorLAbsSimp
set_option linter.all false
set_option linter.unnecessarySimpa false
set_option linter.unusedSimpArgs false
set_option linter.unusedVariables false
namespace Go.Proofs.YtahgkllhbggmgaaGreatDoor
open Go.ChangeShapes Go.WideShapes Go.ChangeAt Go.RowKit
structure Ac0 (B:Nat) (W W':World):Prop where
 size:W.heap.size<=W'.heap.size
 same:∀ (g:Nat) (o:Obj),B<=g->W.heap[g]? = some o->Ll o=true->W'.heap[g]? = some o
def Nh {β:Type} (B:Nat) (J:β->World->World->Prop):Prop :=
 ∀ s X W X' W' row,J s X W->W.grownBy W' row->(∀ r,row=some r->B<=r/\∃ o:Obj,W.heap[r]? = some o/\Ll o=true)->Ext X X'->Ext X' W'->(∀ p,p.block < W.heap.size->X'.cell? p=X.cell? p)->J s X' W'
def P4:AV->Bool
 | .bp _ _=>false
 | .rp _ _ _ _=>false
 | .own _=>false
 | .mv _=>false
 | .agg cs=>pures cs
 | .tup cs=>pures cs
 | .fn _ cs=>pures cs
 | _=>true
where pures:List AV->Bool
 | []=>true
 | a :: l=>P4 a&&pures l
def Aw (P:Program) (G:World->Prop) (gf:FuncId) (caps:List AV) {α:Type} (encs:α->List AV) (S Sp:List α->Prop):Prop :=
 (∀ (vs:Array Value) (w:World),(callFunc gf vs).run P w=.ok (.enter gf vs) w) /\
 ∀ (X0 w:World) (E:Env) (lb:Array Value),Ext X0 w->G w->An E X0 lb.toList caps ->
  ∀ (l:Nat) (J Jx:List α->World->World->Prop),Nh w.heap.size J->Nh w.heap.size Jx ->
   (∀ pre x X W (vs:Array Value) E,J pre X W->Ext X0 X->Ext X W->w.heap.size<=W.heap.size->G W->An E X vs.toList (encs x)->Sp (pre++[x]) ->
    YieldAt (FW none) 0 P l vs W fun e W'=>W.heap.size<=W'.heap.size/\Ext X W'/\G W'/\Ac0 w.heap.size W W'/\((e=.returned (.bool true)/\J (pre++[x]) X W')\/(e=.returned (.bool false)/\Jx (pre++[x]) X W'))) ->
   J [] X0 w->Calls P gf (#[.func (.yield l) #[] #[]]++lb) w fun e W'=>(∃ v,e=.returned v)/\((∃ xs X,S xs/\J xs X W')\/(∃ pre X,Jx pre X W'))
-- what is pure speaks of no block of one's own
theorem Md:∀ {cs:List AV},P4.pures cs=true->∀ {j:Nat} {c:AV},cs[j]? = some c->P4 c=true
 | [],_,j,c,h=>by simp at h
 | d :: cs,h,0,c,e=>by
  simp only [P4.pures,Bool.and_eq_true] at h
  simp at e;subst e;exact h.1
 | d :: cs,h,j+1,c,e=>by
  simp only [P4.pures,Bool.and_eq_true] at h
  exact Md h.2 (by simpa using e)
theorem Au.pure {E E':Env} {X X':World} (he:Ext X X') {v:Value} {c:AV} (h:Au E X v c):P4 c=true->Au E' X' v c:=by
 induction h with
 | any=>exact fun _=>.any
 | val=>exact fun _=>.val
 | iv h=>exact fun _=>.iv (h.ext he)
 | ip f h1 h2=>exact fun _=>.ip f (fun j u hu=>he.cell _ _ (h1 j u hu)) fun j u hu=>(h2 j u hu).ext he
 | bp=>exact fun h=>by cases h
 | rp=>exact fun h=>by cases h
 | own h=>exact fun h=>by cases h
 | mv=>exact fun h=>by cases h
 | aggI h=>exact fun _=>.aggI (h.ext he)
 | agg h1 h2 ih=>exact fun hp=>.agg h1 fun j v c a b=>ih j v c a b (Md hp b)
 | tup h1 h2 ih=>exact fun hp=>.tup h1 fun j v c a b=>ih j v c a b (Md hp b)
 | fn h1 h2 ih=>exact fun hp=>.fn h1 fun j v c a b=>ih j v c a b (Md hp b)
def Ai4:List (Nat×AV)->Bool
 | []=>true
 | (_,c) :: r=>P4 c&&Ai4 r
theorem Xj:∀ {fr:List (Nat×AV)},Ai4 fr=true->∀ i,P4 (look fr i)=true
 | [],_,_=>rfl
 | (j,c) :: r,h,i=>by
  simp only [Ai4,Bool.and_eq_true] at h
  simp only [look]
  split
  ·exact h.1
  ·exact Xj h.2 i
def Ai7:List Nat->List AV->List (Nat×AV)->List (Nat×AV)
 | p :: ps,c :: cs,fr=>Ai7 ps cs ((p,c) :: fr)
 | _,_,fr=>fr
@[go_sem] theorem Ck8 {p:Nat} {ps:List Nat} {c:AV} {cs:List AV} {fr:List (Nat×AV)} : Ai7 (p :: ps) (c :: cs) fr=Ai7 ps cs ((p,c) :: fr):=rfl
@[go_sem] theorem Cz1 {fr:List (Nat×AV)} : Ai7 [] [] fr=fr:=rfl
section
variable {V w0 : World} {m : Fm} {E : Env} {σ : Ab} {a : Act} {w w' : World}
theorem St.dress (h:St V w0 m E σ a w) (m':Fm) (a':Act) (ht:a'.tmps=a.tmps) (hn:m'.nd.n=m.nd.n) (hf:∀ i∈m'.nd.fx,a.tmps.getD i undef=m'.fix i) (hd:a'.defers=G8 m'.ds/\m'.fine w0) (hl:m'.lo<=w.heap.size) (hh:∀ g o,m'.hold g=some o->w.heap[g]? = some o/\g∉Ac E σ.bk):St V w0 m' E σ a' w :=
 ⟨h.ext,h.low,h.apart,h.base,h.holds,by rw [ht];exact h.slots,by rw [ht,hn];exact ⟨h.size.1,hf⟩,hd,hl,hh⟩
theorem St.other2 {row:Option Nat} (h:St V w0 m E σ a w) (hg:w.grownBy w' row) (hr:∀ r,row=some r->w0.heap.size<=r/\m.hold r=none/\∃ o:Obj,w.heap[r]? = some o/\Ll o=true):St V w0 m E σ a w' :=
 (h.other hg fun r e=>⟨(hr r e).1,(hr r e).2.2⟩).dress m a rfl rfl h.size.2 h.defers (Nat.le_trans h.hold.1 hg.size) fun g o e=>⟨(hg.block g (Array.getElem?_eq_some_iff.1 (h.hold.2 g o e).1).1 fun e'=>by
  have:=(hr g e'.symm).2.1
  rw [e] at this;cases this).trans (h.hold.2 g o e).1,(h.hold.2 g o e).2⟩
def N5 (W:World) (gs:List Nat) (g:Nat):Option Obj:=if g∈gs then none else W.heap[g]?
theorem Dy {W:World} {gs:List Nat} {g:Nat} {o:Obj} : N5 W gs g=some o↔W.heap[g]? = some o/\g∉gs:=by
 unfold N5
 by_cases h:g∈gs<;>simp [h]
theorem St.seen {W:World} {gs:List Nat} (h:St V w0 m E σ a w) (hm:∀ g o,N5 W gs g=some o->m.hold g=some o) (hs:W.heap.size<=w.heap.size):Ext (vis V w0 W gs) (vis V w0 w (Ac E σ.bk)) :=
 D1 hs fun p u _ h2 h3 h4=>by
  obtain ⟨h5,h6⟩:=h.hold.2 p.block _ (hm p.block W.heap[p.block] (Dy.2 ⟨Array.getElem?_eq_getElem h2,h3⟩))
  exact ⟨h6,(World.cell?_of_block (h5.trans (Array.getElem?_eq_getElem h2).symm)).trans h4⟩
theorem St.not_owned {g:Nat} {o:Obj} (h:St V w0 m E σ a w) (hg:w.heap[g]? = some o) (ho:Ll o=true):g∉Ac E σ.bk:=fun hm=>by
 obtain ⟨b,hb,hgb⟩:=Bk.1 hm
 obtain ⟨o',h1,h2⟩:=BA.owned_cells (h.holds b hb) g hgb
 rw [hg] at h1
 obtain rfl:=Option.some.inj h1
 rw [ho] at h2;cases h2
theorem St.sees {X X':World} {row:Option Nat} (h:St V w0 m E σ a w) (hx:Ext X (vis V w0 w (Ac E σ.bk))) (hg:w.grownBy w' row) (hr:∀ r,row=some r->∃ o:Obj,w.heap[r]? = some o/\Ll o=true) (h1:Ext X' w') (h2:∀ p,p.block < w.heap.size->X'.cell? p=X.cell? p):Ext X' (vis V w0 w' (Ac E σ.bk)) :=
 ⟨by rw [Ff];exact h1.size,fun p u hp=>by
  by_cases hlt:p.block < w.heap.size
  ·rw [h2 p hlt] at hp
   have h3:=hx.cell p u hp
   have h4:Ext (vis V w0 w (Ac E σ.bk)) (vis V w0 w' (Ac E σ.bk)):=D1 hg.size fun p u _ _ h3 h4=>⟨h3,Qd h4 hg hr⟩
   exact h4.cell p u h3
  ·have:=h.low.size
   rw [Gz (by omega),if_neg fun hm=>hlt (h.lt _ hm)]
   exact h1.cell p u hp⟩
theorem St.params:∀ (ps:List Nat) (vs:List Value) (cs:List AV) (fr:List (Nat×AV)) (a:Act),St V w0 m E ⟨fr,σ.bk⟩ a w->(∀ p∈ps,p < m.nd.n/\p∉m.nd.fx)->An E (vis V w0 w (Ac E σ.bk)) vs cs->vs.length=ps.length ->
  St V w0 m E ⟨Ai7 ps cs fr,σ.bk⟩ { tmps:=(ps.zip vs).foldl (fun t pv=>t.setIfInBounds pv.1 pv.2) a.tmps,defers:=a.defers } w
 | [],[],[],fr,a,h,_,_,_=>h
 | p :: ps,v :: vs,c :: cs,fr,a,h,hp,hv,hl=>by
  obtain ⟨v',vs',e,h1,h2⟩:=An.cons_iff.1 hv
  injection e with e1 e2
  subst e1 e2
  have:=h.put (dst:=some p) (v:=v) (r:=c) (fun d e=>by cases e;exact hp p (by simp)) h1
  exact St.params ps vs cs ((p,c) :: fr) (a.put (some p) v) this (fun q hq=>hp q (List.mem_cons_of_mem _ hq)) h2 (by simpa using hl)
 | [],_ :: _,_,_,_,_,_,_,hl=>by simp at hl
 | _ :: _,[],_,_,_,_,_,_,hl=>by simp at hl
 | [],[],_ :: _,_,_,_,_,hv,_=>by have:=hv.1;simp at this
 | _ :: _,_ :: _,[],_,_,_,_,hv,_=>by have:=hv.1;simp at this
end
def C28 (K:Exit->Ab->Prop) (fx pu:List (Nat×AV)) (I:Prop) (B:List BA):Exit->Ab->Prop
 | .normal,σ=>I/\∃ ρ,LeS ρ ⟨fx,B⟩ σ
 | .ret,σ=>∃ ρ bk,LeS ρ ⟨fx,bk⟩ σ/\K .ret ⟨fx++pu,bk⟩
 | .exit id,σ=>∃ ρ bk,LeS ρ ⟨fx,bk⟩ σ/\K (.exit id) ⟨fx++pu,bk⟩
 | _,_=>False
def Ai6 (n:Nat) (fx:List Nat):List Nat->Bool
 | []=>true
 | p :: ps=>Nat.blt p n&&!A84 p fx&&Ai6 n fx ps
theorem A08 {n:Nat} {fx:List Nat} : ∀ {ps:List Nat},Ai6 n fx ps=true->∀ p∈ps,p < n/\p∉fx
 | q :: ps,h,p,hp=>by
  simp only [Ai6,Bool.and_eq_true,Bool.not_eq_true'] at h
  rcases List.mem_cons.1 hp with rfl | hp
  ·exact ⟨Bs.1 h.1.1,Mh h.1.2⟩
  ·exact A08 h.2 p hp
theorem Bm7 {i:Nat} : ∀ {fr:List (Nat×AV)},i∉fr.map (·.1)->look fr i=.any
 | [],_=>rfl
 | (j,c) :: r,h=>by
  simp only [List.map_cons,List.mem_cons,not_or] at h
  simp only [look,if_neg h.1]
  exact Bm7 h.2
theorem Xy {i:Nat} {b:List (Nat×AV)} : ∀ {a:List (Nat×AV)},look (a++b) i=if i∈a.map (·.1) then look a i else look b i
 | []=>by simp
 | (j,c) :: r=>by
  simp only [List.cons_append,look,List.map_cons,List.mem_cons]
  by_cases e:i=j
  ·simp [e]
  ·simp only [if_neg e,e,false_or]
   exact Xy
section
variable {V w0 : World} {E : Env} {fx pu : List (Nat × AV)} {bk : List BA} {a a' : Act} {m m' : Fm} {X w W : World}
end
theorem K4.put {l K:Nat} {mk:LoopState->Option Code->Loop} {st st':LoopState} {pe pe':Option Code} {W:World} (h:K4 l K mk st pe W) (hne:K≠l):K4 l K mk st' pe' (W.putObj l (.loop (mk st' pe'))) :=
 ⟨World.putObj_heap_same (Array.getElem?_eq_some_iff.1 h.rec_).1,(World.putObj_heap_other hne).trans h.dfr⟩
section
variable {P : Program} {G : World -> Prop} {V w0 : World} {n : Nd} {K : Exit -> Ab -> Prop}
theorem AW.rangeG {α:Type} {g:Operand} {ps:Array Tmp} {assign body:Code} {gf:FuncId} {caps:List AV} {encs:α->List AV} {S Sp:List α->Prop} {bk:List BA} (hrun:∀ (vs:Array Value) (w:World),(callFunc gf vs).run P w=.ok (.enter gf vs) w) (fx pu:List (Nat×AV)) (B:List α->List BA) (I:List α->Prop)
  (hit:∀ (m0:Fm) (E0:Env) (a:Act) (w W1:World) (lb:Array Value),m0.nd=n->St V w0 m0 E0 ⟨fx++pu,B []⟩ a w->a.eval g=.func (.func gf) #[] lb->An E0 (vis V w0 w (Ac E0 (B []))) lb.toList caps->Ext (vis V w0 w (Ac E0 (B []))) W1->G W1 ->
   ∀ (l:Nat) (J Jx:List α->World->World->Prop),Nh W1.heap.size J->Nh W1.heap.size Jx->(∀ pre X W,J pre X W->∃ E,St V w0 m0 E ⟨fx++pu,B pre⟩ a W) ->
    (∀ pre x X W (vs:Array Value) E,J pre X W->Ext (vis V w0 w (Ac E0 (B []))) X->Ext X W->W1.heap.size<=W.heap.size->G W->An E X vs.toList (encs x)->Sp (pre++[x]) ->
     YieldAt (FW none) 0 P l vs W fun e W'=>W.heap.size<=W'.heap.size/\Ext X W'/\G W'/\Ac0 W1.heap.size W W'/\((e=.returned (.bool true)/\J (pre++[x]) X W')\/(e=.returned (.bool false)/\Jx (pre++[x]) X W'))) ->
    J [] (vis V w0 w (Ac E0 (B []))) W1->Calls P gf (#[.func (.yield l) #[] #[]]++lb) W1 fun e W'=>(∃ v,e=.returned v)/\((∃ xs X,S xs/\J xs X W')\/(∃ pre X,Jx pre X W')))
  (hB:B []=bk) (hI:I []) (hr:n.rnd=false) (hg:ev (fx++pu) g=.fn gf caps) (hpu:Ai4 pu=true) (hps:Ai6 n.n (fx.map (·.1)) ps.toList=true) (henc:∀ x,(encs x).length=ps.size/\P4.pures (encs x)=true)
  (hbody:∀ l pre x,Sp (pre++[x])->I pre->AW P G (some l) V w0 ⟨n.n,fx.map (·.1),true⟩ assign ⟨Ai7 ps.toList (encs x) (fx++pu),B pre⟩ fun e σ1=>e=.normal/\AW P G (some l) V w0 ⟨n.n,fx.map (·.1),true⟩ body σ1 (C28 K fx pu (I (pre++[x])) (B (pre++[x]))))
  (hdone:∀ xs,S xs->I xs->K .normal ⟨fx++pu,B xs⟩):AW P G none V w0 n (.rangeFunc g ps assign body) ⟨fx++pu,bk⟩ K:=fun hG m0 E0 a w hn hs=>by
 subst hB
 refine wpIn_rangeFunc fun fn hfn=>?_
 have hro:(FW none).round=none:=rfl
 rw [hro]
 have hlow:=hs.low.size
 have hgv:=hs.ev g
 simp only [hg] at hgv
 obtain ⟨K0,hK⟩ : ∃ K0,w.heap.size=K0:=⟨_,rfl⟩
 obtain ⟨X0,hX0⟩ : ∃ X0,vis V w0 w (Ac E0 (B []))=X0:=⟨_,rfl⟩
 simp only [hX0] at hgv
 obtain ⟨lb,hge,hlb⟩ : ∃ lb:Array Value,a.eval g=.func (.func gf) #[] lb/\An E0 X0 lb.toList caps:=by
  generalize a.eval g=gv at hgv
  cases hgv with
  | @fn _ lb _ h1 h2=>exact ⟨lb,rfl,by simpa using h1,fun j v c e1 e2=>h2 j v c (by simpa using e1) e2⟩
 obtain ⟨mk,hmk⟩ : ∃ mk:LoopState->Option Code->Loop,mk=fun st pe=>{ state:=st,pending:=pe,fn,tmps:=a.tmps,params:=ps,assign,body,defers:=K0 }:=⟨_,rfl⟩
 obtain ⟨W1,hW1⟩ : ∃ W1,(w.alloc (.deferred (some []))).alloc (.loop (mk .ready none))=W1:=⟨_,rfl⟩
 have hs1:W1.heap.size=K0+2:=by rw [<-hW1];simp [hK]
 have hR1:K4 (K0+1) K0 mk .ready none W1:=by
  refine ⟨?_,?_⟩
  ·rw [<-hW1]
   have:=World.alloc_heap_new (w.alloc (.deferred (some []))) (.loop (mk .ready none))
   rwa [World.size_alloc,hK] at this
  ·rw [<-hW1]
   have:=World.alloc_heap_new w (.deferred (some []))
   rw [hK] at this
   exact (Below.heap_alloc _ _ _ (by simp [hK])).trans this
 have hb1:Below w.heap.size w W1:=by rw [<-hW1];exact Ap (Ap (Below.refl _ w))
 have hS1:=hs.next hb1
 have hx1:Ext X0 W1:=by rw [<-hX0];exact hs.in_.trans (Ext.of_below hb1)
 have hH0:∀ r,K0<=r->m0.hold r=none:=fun r hr=>by
  cases e:m0.hold r with
  | none=>rfl
  | some o =>
   have:=(Array.getElem?_eq_some_iff.1 (hs.hold.2 r o e).1).1
   omega
 have hpu0:∀ i,P4 (look pu i)=true/\(i∉fx.map (·.1)->Au E0 X0 (a.tmps.getD i undef) (look pu i)):=fun i=>⟨Xj hpu i,fun hi=>by
  have:=hs.slots i
  simp only [Xy,if_neg hi,hX0] at this
  exact this⟩
 -- what the record's turns leave
 have turn:∀ {E:Env} {fr:List (Nat×AV)} {b:List BA} {W:World} {st:LoopState} {pe:Option Code} {ac:Act} (o':Obj),K4 (K0+1) K0 mk st pe W->St V w0 m0 E ⟨fr,b⟩ ac W->St V w0 m0 E ⟨fr,b⟩ ac (W.putObj (K0+1) o'):=fun o' hr h =>
  h.other2 (grownBy_putObj' _ _ _) fun r e=>by cases e;exact ⟨by omega,hH0 _ (by omega),_,hr.rec_,rfl⟩
 have turnV:∀ {gs:List Nat} {W:World} {st:LoopState} {pe:Option Code} (o':Obj),K4 (K0+1) K0 mk st pe W->Ext (vis V w0 W gs) (vis V w0 (W.putObj (K0+1) o') gs):=fun o' hr =>
  D1 (by simp) fun p u _ _ h3 h4=>⟨h3,Qd h4 (grownBy_putObj' _ _ _) fun r e=>by cases e;exact ⟨_,hr.rec_,rfl⟩⟩
 let J:List α->World->World->Prop:=fun pre X W=>(I pre/\∃ E,St V w0 m0 E ⟨fx++pu,B pre⟩ a W/\Ext X (vis V w0 W (Ac E (B pre))))/\K4 (K0+1) K0 mk .ready none W
 let Jx:List α->World->World->Prop:=fun pre X W=>∃ c e E b,((c=.ret/\e=.ret)\/∃ id,c=.exit id/\e=.exit id)/\K e ⟨fx++pu,b⟩/\St V w0 m0 E ⟨fx++pu,b⟩ a W/\K4 (K0+1) K0 mk .done (some c) W
 have recS:∀ {st:LoopState} {pe:Option Code} {W W':World} {row:Option Nat},K4 (K0+1) K0 mk st pe W->W.grownBy W' row->(∀ r,row=some r->W1.heap.size<=r)->K4 (K0+1) K0 mk st pe W':=fun h hg hr =>
  ⟨(hg.block _ (Array.getElem?_eq_some_iff.1 h.rec_).1 fun e=>by have:=hr _ e.symm;omega).trans h.rec_,(hg.block _ (Array.getElem?_eq_some_iff.1 h.dfr).1 fun e=>by have:=hr _ e.symm;omega).trans h.dfr⟩
 have hJ:Nh W1.heap.size J:=fun pre X W X' W' row ⟨⟨hi,E,h1,h2⟩,h3⟩ hg hr e1 e2 e3 =>
  ⟨⟨hi,E,h1.other2 hg fun r e=>⟨by have:=(hr r e).1;omega,hH0 r (by have:=(hr r e).1;omega),(hr r e).2⟩,h1.sees h2 hg (fun r e=>(hr r e).2) e2 e3⟩,recS h3 hg fun r e=>(hr r e).1⟩
 have hJx:Nh W1.heap.size Jx:=fun pre X W X' W' row ⟨c,e,E,b,h0,h1,h2,h3⟩ hg hr e1 e2 e3 =>
  ⟨c,e,E,b,h0,h1,h2.other2 hg fun r e=>⟨by have:=(hr r e).1;omega,hH0 r (by have:=(hr r e).1;omega),(hr r e).2⟩,recS h3 hg fun r e=>(hr r e).1⟩
 have hit1:=hit m0 E0 a w W1 lb hn hs hge
 rw [hX0] at hit1
 refine ⟨K0+1,[{ target:=.collected K0,args:=#[] }],W1,{ target:=.fn (.func gf) lb,args:=#[.func (.yield (K0+1)) #[] #[]] },W1,gf,#[.func (.yield (K0+1)) #[] #[]]++lb,W1,?_,?_,fun _ _=>trivial,?_,(fun e=>by cases e),?_⟩
 ·rw [<-hW1,hmk]
  have:=run_enterLoop_outer (P:=P) (w:=w) fn a.tmps ps assign body
  rw [hK] at this
  exact this
 ·simp only [resolve,hge]
  simp [go_sem]
 ·simp [invoke,go_sem,hrun]
 refine callsIn_wide.2 ((hit1 hlb hx1 (hG W1 (hs.next hb1).low) (K0+1) J Jx hJ hJx (fun pre X W h=>h.1.2.imp fun E h=>h.1) ?_ ⟨⟨hI,E0,hS1,by rw [<-hX0];exact D1 hb1.size fun p u _ _ h3 h4=>⟨h3,Ao hb1 h4⟩⟩,hR1⟩).mono ?_)
 ·rintro pre x X W vs E1 ⟨⟨hi,E,hst,hXv⟩,hrec⟩ hX0X hXW hsz hGW hvs hSp
  have hvl:vs.size=ps.size:=by have:=hvs.1;rw [(henc x).1] at this;simpa using this
  have hy:=run_yield (P:=P) (args:=vs) hrec.rec_ (by rw [hmk];exact hvl)
  rw [hmk] at hy
  refine ⟨fn,_,assign,body,hy,roundIn_of_wpIn hfn ?_⟩
  clear hy
  -- the round's own account
  obtain ⟨mr,hmr⟩ : ∃ mr:Nat->World->List Nat->Fm,mr=fun lo W gs=>⟨⟨n.n,fx.map (·.1),true⟩,fun i=>a.tmps.getD i undef,[],N5 W gs,lo⟩:=⟨_,rfl⟩
  have hnn:m0.nd.n=n.n:=by rw [hn]
  have hst0:St V w0 (mr W.heap.size W (Ac E (B pre))) E ⟨fx++pu,B pre⟩ { tmps:=a.tmps,defers:=[] } W:=by
   rw [hmr]
   exact hst.dress _ _ rfl hnn.symm (fun i _=>rfl) ⟨rfl,List.nodup_nil,fun D hD=>by cases hD⟩ (Nat.le_refl _) fun g o e=>Dy.1 e
  have hvsr:An E (vis V w0 W (Ac E (B pre))) vs.toList (encs x):=⟨hvs.1,fun j v c e1 e2=>(hvs.2 j v c e1 e2).pure hXv (Md (henc x).2 e2)⟩
  have hst1:=St.params (σ:=⟨fx++pu,B pre⟩) ps.toList vs.toList (encs x) (fx++pu) _ hst0 (by rw [hmr];exact A08 hps) hvsr (by simpa using hvl)
  have hfold:(ps.zip vs).foldl (fun t (p,v)=>t.setIfInBounds p v) a.tmps=(ps.toList.zip vs.toList).foldl (fun t pv=>t.setIfInBounds pv.1 pv.2) a.tmps:=by
   rw [<-Array.foldl_toList,Array.toList_zip]
  have hG0:=hG
  refine wpIn_mono (hbody (K0+1) pre x hSp hi hG (mr W.heap.size W (Ac E (B pre))) E { tmps:=(ps.zip vs).foldl (fun t (p,v)=>t.setIfInBounds p v) a.tmps,defers:=[] } W (by rw [hmr]) (by rw [hfold];exact hst1)) ?_
  rintro e a1 Wa ⟨m1,E2,σ1,hle1,⟨rfl,hbd⟩,hsa⟩
  have hrl:∀ {st:LoopState} {pe:Option Code} {W W':World} {gs:List Nat} {m:Fm} {E:Env} {σ:Ab} {ac:Act},K4 (K0+1) K0 mk st pe W->(∀ g o,N5 W gs g=some o->m.hold g=some o)->(∀ g o,W.heap[g]? = some o->Ll o=true->g∉gs)->St V w0 m E σ ac W'->K4 (K0+1) K0 mk st pe W' :=
   fun h h1 h2 h3=>⟨(h3.hold.2 _ _ (h1 _ _ (Dy.2 ⟨h.rec_,h2 _ _ h.rec_ rfl⟩))).1,(h3.hold.2 _ _ (h1 _ _ (Dy.2 ⟨h.dfr,h2 _ _ h.dfr rfl⟩))).1⟩
  have hh1:∀ g o,N5 W (Ac E (B pre)) g=some o->m1.hold g=some o:=fun g o e=>hle1.hold g o (by rw [hmr];exact e)
  have hlo1:W.heap.size<=Wa.heap.size:=Nat.le_trans (by have:=hle1.lo;rw [hmr] at this;exact this) hsa.hold.1
  have hreca:=hrl hrec hh1 (fun g o e1 e2=>hst.not_owned e1 e2) hsa
  have hbeg:=run_beginRound (P:=P) hreca.rec_ (by rw [hmk])
  have hbusy:({ mk .ready none with state:=.busy } : Loop)=mk .busy none:=by rw [hmk]
  rw [hbusy] at hbeg
  refine ⟨_,hbeg,?_⟩
  have hrec2:K4 (K0+1) K0 mk .busy none (Wa.putObj (K0+1) (.loop (mk .busy none))):=hreca.put (by omega)
  have hvis1:=hsa.seen hh1 hlo1
  have hvis2:=turnV (gs:=Ac E2 σ1.bk) (.loop (mk .busy none)) hreca
  have hds1:m1.ds=[]:=by have:=hle1.ds (by rw [hmr]);rw [this,hmr]
  have hnd1:m1.nd=⟨n.n,fx.map (·.1),true⟩:=by have:=hle1.nd;rw [this,hmr]
  have hfix1:m1.fix=fun i=>a.tmps.getD i undef:=by have:=hle1.fix;rw [this,hmr]
  obtain ⟨W2,hW2⟩ : ∃ W2,Wa.putObj (K0+1) (.loop (mk .busy none))=W2:=⟨_,rfl⟩
  have hszW2:W2.heap.size=Wa.heap.size:=by rw [<-hW2];simp
  have hsb:St V w0 (mr W2.heap.size W2 (Ac E2 σ1.bk)) E2 σ1 a1 W2:=by
   have h1:=hsa.other (w':=W2) (row:=some (K0+1)) (by rw [<-hW2];exact grownBy_putObj' _ _ _) fun r e=>by cases e;exact ⟨by omega,_,hreca.rec_,rfl⟩
   rw [hmr]
   refine h1.dress _ a1 rfl (by rw [show m1.bare.nd=m1.nd from rfl,hnd1]) (fun i hi=>?_) ⟨by rw [hsa.defers.1,hds1],List.nodup_nil,fun D hD=>by cases hD⟩ (Nat.le_refl _) fun g o e=>Dy.1 e
   have:=hsa.size.2 i (by rw [hnd1];exact hi)
   rw [hfix1] at this
   exact this
  rw [hW2] at hrec2 hvis2 ⊢
  refine wpIn_mono (hbd hG _ E2 a1 W2 (by rw [hmr]) hsb) ?_
  rintro e a3 W3 ⟨m3,E3,σ3,hle3,hpost,hs3⟩
  have hh3:∀ g o,N5 W2 (Ac E2 σ1.bk) g=some o->m3.hold g=some o:=fun g o e=>hle3.hold g o (by rw [hmr];exact e)
  have hlo3:W2.heap.size<=W3.heap.size:=Nat.le_trans (by have:=hle3.lo;rw [hmr] at this;exact this) hs3.hold.1
  have hrec3:=hrl hrec2 hh3 (fun g o e1 e2=>hsb.not_owned e1 e2) hs3
  have hvis3:=hs3.seen hh3 hlo3
  have hnd3:m3.nd=⟨n.n,fx.map (·.1),true⟩:=by have:=hle3.nd;rw [this,hmr]
  have hfix3:m3.fix=fun i=>a.tmps.getD i undef:=by have:=hle3.fix;rw [this,hmr]
  have hXW3:Ext X (vis V w0 W3 (Ac E3 σ3.bk)):=((hXv.trans hvis1).trans hvis2).trans hvis3
  -- however the round is left
  have fin:∀ (ρ:Nat->Nat) (b:List BA) (jump:Option Code),LeS ρ ⟨fx,b⟩ σ3->∃ W4,(Instr.endRound (K0+1) jump).run P W3=.ok (.bool jump.isNone) W4/\W.heap.size<=W4.heap.size/\Ext X W4/\G W4/\Ac0 W1.heap.size W W4 /\
    St V w0 m0 (E3.ren ρ) ⟨fx++pu,b⟩ a W4/\Ext X (vis V w0 W4 (Ac (E3.ren ρ) b))/\K4 (K0+1) K0 mk (if jump.isNone then .ready else .done) jump W4:=by
   intro ρ b jump hl
   have hend:=run_endRound (P:=P) jump hrec3.rec_
   have hst3:({ mk .busy none with state:=if jump.isNone then .ready else .done,pending:=jump } : Loop)=mk (if jump.isNone then .ready else .done) jump:=by rw [hmk]
   rw [hst3] at hend
   have hle:=hs3.le hl
   have hsub:∀ g,g∉Ac E3 σ3.bk->g∉Ac (E3.ren ρ) b:=fun g hg hm=>by
    obtain ⟨q,hq,hgq⟩:=Bk.1 hm
    rw [BA.ren_owned] at hgq
    exact hg (Bk.2 ⟨_,(Ga (W5 hl.2.1 q hq)).1,hgq⟩)
   have hXb:Ext X (vis V w0 W3 (Ac (E3.ren ρ) b)):=hXW3.trans (D1 (Nat.le_refl _) fun p u _ _ h3 h4=>⟨hsub _ h3,h4⟩)
   -- blocks of which m0 speaks
   have hm0:∀ g o,m0.hold g=some o->W3.heap[g]? = some o/\g∉Ac E3 σ3.bk:=fun g o e=>by
    have q0:=hst.hold.2 g o e
    have q1:=hsa.hold.2 g o (hh1 g o (Dy.2 q0))
    have hne:g≠K0+1:=fun e'=>by rw [hH0 g (by omega)] at e;cases e
    have q2:W2.heap[g]? = some o:=by rw [<-hW2];exact (World.putObj_heap_other hne).trans q1.1
    exact hs3.hold.2 g o (hh3 g o (Dy.2 ⟨q2,q1.2⟩))
   have hback:St V w0 m0 (E3.ren ρ) ⟨fx++pu,b⟩ a W3:=by
    refine ⟨hle.ext,hle.low,hle.apart,hle.base,hle.holds,fun i=>?_,hst.size,hst.defers,Nat.le_trans hst.hold.1 (by omega),fun g o e=>⟨(hm0 g o e).1,hsub _ (hm0 g o e).2⟩⟩
    simp only [Xy]
    split
    ·rename_i hi'
     have h1:=hle.slots i
     rw [hle.size.2 i (by rw [hnd3];exact hi'),hfix3] at h1
     exact h1
    ·rename_i hi'
     exact ((hpu0 i).2 hi').pure (hX0X.trans hXb) (hpu0 i).1
   refine ⟨_,hend,?_,?_,?_,⟨?_,fun g o hB hg hc=>?_⟩,turn _ hrec3 hback,hXb.trans (turnV _ hrec3),hrec3.put (by omega)⟩
   ·simp;omega
   ·exact (hXb.trans (turnV _ hrec3)).trans (turn _ hrec3 hback).in_
   ·exact hG _ (turn _ hrec3 hback).low
   ·simp;omega
   ·have q1:=hsa.hold.2 g o (hh1 g o (Dy.2 ⟨hg,hst.not_owned hg hc⟩))
    have q2:W2.heap[g]? = some o:=by rw [<-hW2];exact (World.putObj_heap_other (by omega)).trans q1.1
    have q3:=hs3.hold.2 g o (hh3 g o (Dy.2 ⟨q2,q1.2⟩))
    exact (World.putObj_heap_other (by omega)).trans q3.1
  cases e with
  | normal =>
   obtain ⟨hi',ρ,hl⟩:=hpost
   obtain ⟨W4,h1,h2,h3,h4,h5,h6,h7,h8⟩:=fin ρ _ none hl
   exact ⟨_,W4,h1,h2,h3,h4,h5,.inl ⟨rfl,⟨hi',_,h6,h7⟩,h8⟩⟩
  | ret =>
   obtain ⟨ρ,b,hl,hk⟩:=hpost
   obtain ⟨W4,h1,h2,h3,h4,h5,h6,h7,h8⟩:=fin ρ b (some .ret) hl
   exact ⟨_,W4,h1,h2,h3,h4,h5,.inr ⟨rfl,_,_,_,b,.inl ⟨rfl,rfl⟩,hk,h6,h8⟩⟩
  | exit id =>
   obtain ⟨ρ,b,hl,hk⟩:=hpost
   obtain ⟨W4,h1,h2,h3,h4,h5,h6,h7,h8⟩:=fin ρ b (some (.exit id)) hl
   exact ⟨_,W4,h1,h2,h3,h4,h5,.inr ⟨rfl,_,_,_,b,.inr ⟨id,rfl,rfl⟩,hk,h6,h8⟩⟩
  | goto t=>exact hpost.elim
  | panic ch=>exact hpost.elim
  | outgrown=>exact hpost.elim
 ·rintro e W2 ⟨⟨v,rfl⟩,hend⟩
  have out:∀ {st:LoopState} {pe:Option Code},st≠.busy->K4 (K0+1) K0 mk st pe W2->(Instr.endLoop (K0+1)).run P W2=.ok pe (W2.putObj (K0+1) (.loop (mk .exhausted pe))):=by
   intro st pe hst h
   have:=run_endLoop (P:=P) h.rec_ (by rw [hmk];exact hst)
   have e1:({ mk st pe with state:=.exhausted } : Loop)=mk .exhausted pe:=by rw [hmk]
   have e2:(mk st pe).pending=pe:=by rw [hmk]
   rw [e1,e2] at this
   exact this
  -- with the mark
  have marked:∀ {st:LoopState} {pe:Option Code} {E:Env} {b:List BA},K4 (K0+1) K0 mk st pe W2->St V w0 m0 E ⟨fx++pu,b⟩ a W2->∃ m',Fm.le m0 m'/\St V w0 m' E ⟨fx++pu,b⟩ { a with defers:={ target:=.collected K0,args:=#[] } :: a.defers } (W2.putObj (K0+1) (.loop (mk .exhausted pe))):=by
   intro st pe E b hrec hst
   have h1:=turn (.loop (mk .exhausted pe)) hrec hst
   have hd:(W2.putObj (K0+1) (.loop (mk .exhausted pe))).heap[K0]? = some (.deferred (some [])):=(World.putObj_heap_other (by omega)).trans hrec.dfr
   have hK0:m0.hold K0=none:=hH0 K0 (Nat.le_refl _)
   refine ⟨⟨m0.nd,m0.fix,K0 :: m0.ds,fun g=>if g=K0 then some (.deferred (some [])) else m0.hold g,m0.lo⟩,⟨rfl,rfl,Nat.le_refl _,fun e=>(by rw [hn,hr] at e;cases e),fun g o e=>?_⟩,h1.dress _ _ rfl rfl hst.size.2 ⟨by rw [hst.defers.1];rfl,List.nodup_cons.2 ⟨fun hm=>?_,hst.defers.2.1⟩,fun D hD=>?_⟩ h1.hold.1 fun g o e=>?_⟩
   ·have:g≠K0:=fun e'=>by rw [e',hK0] at e;cases e
    simp only [if_neg this];exact e
   ·have:=(hst.defers.2.2 K0 hm).2
    rw [hK0] at this;cases this
   ·rcases List.mem_cons.1 hD with rfl | hD
    ·exact ⟨by omega,by simp⟩
    ·have:=hst.defers.2.2 D hD
     refine ⟨this.1,?_⟩
     have hne:D≠K0:=fun e'=>by rw [e',hK0] at this;cases this.2
     simp only [if_neg hne];exact this.2
   ·by_cases e':g=K0
    ·subst e'
     simp only [if_true] at e
     obtain rfl:=Option.some.inj e
     exact ⟨hd,h1.not_owned hd rfl⟩
    ·simp only [if_neg e'] at e
     exact h1.hold.2 g o e
  rcases hend with ⟨xs,X,hS,⟨hi,E,hst,_⟩,hrec⟩ | ⟨pre,X,c,e,E,b,hce,hk,hst,hrec⟩
  ·obtain ⟨m',h1,h2⟩:=marked hrec hst
   exact ⟨none,_,out (by simp) hrec,m',E,_,h1,hdone xs hS hi,h2⟩
  ·obtain ⟨m',h1,h2⟩:=marked hrec hst
   refine ⟨some c,_,out (by simp) hrec,?_⟩
   rcases hce with ⟨rfl,rfl⟩ | ⟨id,rfl,rfl⟩
   ·exact wpIn_ret ⟨m',E,_,h1,hk,h2⟩
   ·exact wpIn_exit ⟨m',E,_,h1,hk,h2⟩
theorem AW.range {α:Type} {g:Operand} {ps:Array Tmp} {assign body:Code} {gf:FuncId} {caps:List AV} {encs:α->List AV} {S Sp:List α->Prop} {bk:List BA} (hit:Aw P G gf caps encs S Sp) (fx pu:List (Nat×AV)) (B:List α->List BA) (I:List α->Prop)
  (hB:B []=bk) (hI:I []) (hr:n.rnd=false) (hg:ev (fx++pu) g=.fn gf caps) (hpu:Ai4 pu=true) (hps:Ai6 n.n (fx.map (·.1)) ps.toList=true) (henc:∀ x,(encs x).length=ps.size/\P4.pures (encs x)=true)
  (hbody:∀ l pre x,Sp (pre++[x])->I pre->AW P G (some l) V w0 ⟨n.n,fx.map (·.1),true⟩ assign ⟨Ai7 ps.toList (encs x) (fx++pu),B pre⟩ fun e σ1=>e=.normal/\AW P G (some l) V w0 ⟨n.n,fx.map (·.1),true⟩ body σ1 (C28 K fx pu (I (pre++[x])) (B (pre++[x]))))
  (hdone:∀ xs,S xs->I xs->K .normal ⟨fx++pu,B xs⟩):AW P G none V w0 n (.rangeFunc g ps assign body) ⟨fx++pu,bk⟩ K :=
 AW.rangeG hit.1 fx pu B I (fun _ E0 _ w W1 lb _ hs _ hlb hx hG l J Jx hJ hJx _ hy h0=>hit.2 _ W1 E0 lb hx hG hlb l J Jx hJ hJx hy h0) hB hI hr hg hpu hps henc hbody hdone
end
def Ef (x:BA):AV->AV
 | .own b=>if b=x.id then Jz (fun _=>some x) (.own b) else .own b
 | .bp b o=>if b=x.id then Jz (fun _=>some x) (.bp b o) else .bp b o
 | .rp b k i j=>if b=x.id then .any else .rp b k i j
 | .mv b=>if b=x.id then .any else .mv b
 | .agg cs=>.agg (frzs cs)
 | .tup cs=>.tup (frzs cs)
 | .fn f cs=>.fn f (frzs cs)
 | a=>a
where frzs:List AV->List AV
 | []=>[]
 | a :: l=>Ef x a :: frzs l
def Zj (x:BA):List (Nat×AV)->List (Nat×AV)
 | []=>[]
 | (i,c) :: r=>(i,Ef x c) :: Zj x r
def Ay1 (x:BA) (b e k:Nat) (l:List (List IV)) (i j c:Nat):BA:=if c=x.id then (match x with
  | .row _ _ k' m=>.row b e k (Ya l i j (.sl k' m))
  | _=>.rowN b e k l i j c) else .rowN b e k l i j c
theorem Ay0 {x:BA} {b e k:Nat} {l:List (List IV)} {i j c:Nat} (E:Env):(Ay1 x b e k l i j c).owned E=(E.row b).ownBlock.toList:=by
 unfold Ay1
 split
 ·cases x<;>rfl
 ·rfl
def Gf (x:BA):List BA->List BA
 | []=>[]
 | .box b cs :: r=>.box b (Ef.frzs x cs) :: Gf x r
 | .rowN b e k l i j c :: r=>Ay1 x b e k l i j c :: Gf x r
 | y :: r=>y :: Gf x r
theorem Pm {x:BA} : ∀ {cs:List AV} {j:Nat},(Ef.frzs x cs)[j]? = (cs[j]?).map (Ef x)
 | [],j=>by simp [Ef.frzs]
 | _ :: _,0=>by simp [Ef.frzs]
 | _ :: cs,j+1=>by simp only [Ef.frzs,List.getElem?_cons_succ];exact Pm
theorem Pk {x:BA} : ∀ {cs:List AV},(Ef.frzs x cs).length=cs.length
 | []=>rfl
 | _ :: cs=>congrArg Nat.succ (Pk (cs:=cs))
theorem A26 {x:BA} : ∀ {fr:List (Nat×AV)} {i:Nat},look (Zj x fr) i=Ef x (look fr i)
 | [],i=>rfl
 | (j,c) :: r,i=>by
  simp only [Zj,look]
  split
  ·rfl
  ·exact A26
theorem Ej {E:Env} {x:BA} : ∀ {bs:List BA},Ac E (Gf x bs)=Ac E bs
 | []=>rfl
 | .box b cs :: r=>by simp only [Gf,Ac,BA.owned,Ej (bs:=r)]
 | .arr b cs :: r=>by simp only [Gf,Ac,Ej (bs:=r)]
 | .row b e k l :: r=>by simp only [Gf,Ac,Ej (bs:=r)]
 | .mp b k kv :: r=>by simp only [Gf,Ac,Ej (bs:=r)]
 | .opq b F :: r=>by simp only [Gf,Ac,Ej (bs:=r)]
 | .rowN b e k l i j c :: r=>by simp only [Gf,Ac,Ay0,Ej (bs:=r)];rfl
theorem Kz {x:BA} : ∀ {bs:List BA} {y:BA},y∈Gf x bs->∃ z∈bs,y=match z with
  | .box b cs=>.box b (Ef.frzs x cs)
  | .rowN b e k l i j c=>Ay1 x b e k l i j c
  | z=>z
 | .box b cs :: r,y,h=>by
  simp only [Gf] at h
  rcases List.mem_cons.1 h with rfl | h
  ·exact ⟨.box b cs,by simp,rfl⟩
  ·obtain ⟨z,h1,h2⟩:=Kz h
   exact ⟨z,List.mem_cons_of_mem _ h1,h2⟩
 | .arr b cs :: r,y,h=>by
  simp only [Gf] at h
  rcases List.mem_cons.1 h with rfl | h
  ·exact ⟨.arr b cs,by simp,rfl⟩
  ·obtain ⟨z,h1,h2⟩:=Kz h
   exact ⟨z,List.mem_cons_of_mem _ h1,h2⟩
 | .row b e k l :: r,y,h=>by
  simp only [Gf] at h
  rcases List.mem_cons.1 h with rfl | h
  ·exact ⟨.row b e k l,by simp,rfl⟩
  ·obtain ⟨z,h1,h2⟩:=Kz h
   exact ⟨z,List.mem_cons_of_mem _ h1,h2⟩
 | .mp b k kv :: r,y,h=>by
  simp only [Gf] at h
  rcases List.mem_cons.1 h with rfl | h
  ·exact ⟨.mp b k kv,by simp,rfl⟩
  ·obtain ⟨z,h1,h2⟩:=Kz h
   exact ⟨z,List.mem_cons_of_mem _ h1,h2⟩
 | .opq b F :: r,y,h=>by
  simp only [Gf] at h
  rcases List.mem_cons.1 h with rfl | h
  ·exact ⟨.opq b F,by simp,rfl⟩
  ·obtain ⟨z,h1,h2⟩:=Kz h
   exact ⟨z,List.mem_cons_of_mem _ h1,h2⟩
 | .rowN b e k l i j c :: r,y,h=>by
  simp only [Gf] at h
  rcases List.mem_cons.1 h with rfl | h
  ·exact ⟨.rowN b e k l i j c,by simp,rfl⟩
  ·obtain ⟨z,h1,h2⟩:=Kz h
   exact ⟨z,List.mem_cons_of_mem _ h1,h2⟩
def okB:BA->Prop
 | .box _ cs=>J8 cs
 | _=>True
section
variable {V w0 : World} {m : Fm} {E : Env} {a : Act} {w : World} {fr : List (Nat × AV)} {pre post : List BA} {x : BA}
theorem St.frz_rep (h:St V w0 m E ⟨fr,pre++x :: post⟩ a w) (hok:okB x) {v:Value} {c:AV} (hv:Au E (vis V w0 w (Ac E (pre++x :: post))) v c):Au E (vis V w0 w (Ac E (pre++post))) v (Ef x c):=by
 have hsub:∀ g,g∈Ac E (pre++post)->g∈Ac E (pre++x :: post):=fun g hg=>by
  simp only [Am,Ac,List.mem_append] at hg ⊢
  rcases hg with hg | hg
  ·exact .inl hg
  ·exact .inr (.inr hg)
 have hx:Ext (vis V w0 w (Ac E (pre++x :: post))) (vis V w0 w (Ac E (pre++post))):=D1 (Nat.le_refl _) fun p u _ _ h3 h4=>⟨fun hm=>h3 (hsub _ hm),h4⟩
 have hfree:∀ g∈x.owned E,g∉Ac E (pre++post):=fun g hg hm=>by
  have hap:=h.apart
  simp only [Am,Ac,List.mem_append] at hap hm
  obtain ⟨_,a2,a3⟩:=List.nodup_append.1 hap
  obtain ⟨_,_,a4⟩:=List.nodup_append.1 a2
  rcases hm with hm | hm
  ·exact a3 g hm g (List.mem_append_left _ hg) rfl
  ·exact a4 g hg g hm rfl
 have blkc:∀ {g:Nat} {t:TypeId} {C:Array Value},g∈x.owned E->Blk w g t C->∀ (j:Nat) u,C[j]? = some u->(vis V w0 w (Ac E (pre++post))).cell? ⟨g,j,none⟩=some u:=fun hg hB j u hu=>by
  rw [Gz (h.base _ (Bk.2 ⟨x,by simp,hg⟩)),if_neg (hfree _ hg),hB.cell];exact hu
 have hh:=h.holds x (by simp)
 induction hv with
 | any=>exact .any
 | val=>exact .val
 | iv h=>exact .iv (h.ext hx)
 | ip f h1 h2=>exact (Au.ip f h1 h2).mono hx
 | aggI h=>exact .aggI (h.ext hx)
 | @rp b k i j =>
  simp only [Ef]
  split
  ·exact .any
  ·exact .rp
 | @mv b =>
  simp only [Ef]
  split
  ·exact .any
  ·exact .mv
 | @bp b o =>
  simp only [Ef]
  split
  case isFalse=>exact .bp
  rename_i hb
  subst hb
  simp only [Jz]
  cases x with
  | row b' e k l=>exact .any
  | mp b' k kv=>exact .any
  | opq b' F=>exact .any
  | rowN b' e k l i j c=>exact .any
  | arr b' cs =>
   obtain ⟨C,t,h3,h4⟩:=hh
   have hg:E.blk b'∈(BA.arr b' cs).owned E:=by simp [BA.owned]
   refine .ip (fun j=>(C[o+j]?).getD undef) (fun j u hu=>?_) (fun j u hu=>?_)
   ·rw [List.getElem?_drop] at hu
    have hj:o+j < C.size:=by
     have:=(List.getElem?_eq_some_iff.1 hu).1
     rw [<-h4.len] at this;simpa using this
    rw [Array.getElem?_eq_getElem hj]
    exact blkc hg h3 _ _ (Array.getElem?_eq_getElem hj)
   ·rw [List.getElem?_drop] at hu
    have hj:o+j < C.size:=by
     have:=(List.getElem?_eq_some_iff.1 hu).1
     rw [<-h4.len] at this;simpa using this
    simp only [Array.getElem?_eq_getElem hj,Option.getD_some]
    exact (h4.get (j:=o+j) (by rw [Array.getElem?_toList,Array.getElem?_eq_getElem hj]) hu).ext hx
  | box b' cs =>
   simp only
   cases hi:toIs cs with
   | none=>exact .any
   | some is =>
    obtain ⟨C,t,h3,h4⟩:=hh
    have h5:=An.toIs h4 hi hok
    have hg:E.blk b'∈(BA.box b' cs).owned E:=by simp [BA.owned]
    refine .ip (fun j=>(C[o+j]?).getD undef) (fun j u hu=>?_) (fun j u hu=>?_)
    ·rw [List.getElem?_drop] at hu
     have hj:o+j < C.size:=by
      have:=(List.getElem?_eq_some_iff.1 hu).1
      rw [<-h5.len] at this;simpa using this
     rw [Array.getElem?_eq_getElem hj]
     exact blkc hg h3 _ _ (Array.getElem?_eq_getElem hj)
    ·rw [List.getElem?_drop] at hu
     have hj:o+j < C.size:=by
      have:=(List.getElem?_eq_some_iff.1 hu).1
      rw [<-h5.len] at this;simpa using this
     simp only [Array.getElem?_eq_getElem hj,Option.getD_some]
     exact (h5.get (j:=o+j) (by rw [Array.getElem?_toList,Array.getElem?_eq_getElem hj]) hu).ext hx
 | @own b A m cc he =>
  simp only [Ef]
  split
  case isFalse=>exact .own he
  rename_i hb
  subst hb
  simp only [Jz]
  cases x with
  | arr b' cs=>exact .any
  | box b' cs=>exact .any
  | mp b' k kv=>exact .any
  | opq b' F=>exact .any
  | rowN b' e k l i j c=>exact .any
  | row b' e k l =>
   obtain ⟨h3,h4⟩:=hh
   have he':E.row b'=.slice A m cc:=he
   rw [he'] at h3
   refine .iv (C7.of_sl ?_)
   obtain ⟨A',c',hv',p1,p2,p3⟩:=h3.sl
   refine ⟨A',c',hv',p1,p2,fun hne=>?_⟩
   obtain ⟨g,off,hA,q1,q2⟩:=p3 hne
   refine ⟨g,off,hA,by rw [Ff];exact q1,fun i x hx'=>?_⟩
   obtain ⟨cs,r1,r2,r3⟩:=q2 i x hx'
   refine ⟨cs,r1.ext hx,r2,fun j u hu=>?_⟩
   have hgm:g∈(BA.row b' e k l).owned E:=by simp [BA.owned,he',hv',hA,Value.ownBlock]
   rw [Gz (h.base _ (Bk.2 ⟨_,by simp,hgm⟩)),if_neg (hfree _ hgm)]
   exact r3 j u hu
 | agg h1 h2 ih =>
  exact .agg (by rw [Pk];exact h1) fun j v d a b=>by
   rw [Pm,Option.map_eq_some_iff] at b
   obtain ⟨d',hd,rfl⟩:=b
   exact ih j v d' a hd
 | tup h1 h2 ih =>
  exact .tup (by rw [Pk];exact h1) fun j v d a b=>by
   rw [Pm,Option.map_eq_some_iff] at b
   obtain ⟨d',hd,rfl⟩:=b
   exact ih j v d' a hd
 | fn h1 h2 ih =>
  exact .fn (by rw [Pk];exact h1) fun j v d a b=>by
   rw [Pm,Option.map_eq_some_iff] at b
   obtain ⟨d',hd,rfl⟩:=b
   exact ih j v d' a hd
theorem St.frz (h:St V w0 m E ⟨fr,pre++x :: post⟩ a w) (hok:okB x):St V w0 m E ⟨Zj x fr,Gf x (pre++post)⟩ a w:=by
 have hsub:List.Sublist (Ac E (pre++post)) (Ac E (pre++x :: post)):=by
  simp only [Am,Ac]
  exact (List.Sublist.refl _).append (List.sublist_append_right _ _)
 have hx:Ext (vis V w0 w (Ac E (pre++x :: post))) (vis V w0 w (Ac E (pre++post))):=D1 (Nat.le_refl _) fun p u _ _ h3 h4=>⟨fun hm=>h3 (hsub.subset hm),h4⟩
 refine ⟨h.ext,h.low,by rw [Ej];exact h.apart.sublist hsub,fun g hg=>h.base g (hsub.subset (by rw [Ej] at hg;exact hg)),fun b hb=>?_,fun i=>?_,h.size,h.defers,h.hold.1,fun g o hg=>⟨(h.hold.2 g o hg).1,fun hm=>(h.hold.2 g o hg).2 (hsub.subset (by rw [Ej] at hm;exact hm))⟩⟩
 ·simp only [Ej]
  obtain ⟨z,hz,rfl⟩:=Kz hb
  have hz':z∈pre++x :: post:=by
   rcases List.mem_append.1 hz with hz | hz
   ·exact List.mem_append_left _ hz
   ·exact List.mem_append_right _ (List.mem_cons_of_mem _ hz)
  have hh:=h.holds z hz'
  cases z with
  | box b cs =>
   obtain ⟨C,t,h1,h2⟩:=hh
   exact ⟨C,t,h1,by rw [Pk];exact h2.1,fun j v d e1 e2=>by
    rw [Pm,Option.map_eq_some_iff] at e2
    obtain ⟨d',hd,rfl⟩:=e2
    exact h.frz_rep hok (h2.2 j v d' e1 hd)⟩
  | arr b cs=>exact BA.holds_ext (Env.same_refl 0 0 E) hx (fun _ _=>rfl) (BA.off_none _) hh
  | row b e k l=>exact BA.holds_ext (Env.same_refl 0 0 E) hx (fun _ _=>rfl) (BA.off_none _) hh
  | mp b k kv=>exact BA.holds_ext (Env.same_refl 0 0 E) hx (fun _ _=>rfl) (BA.off_none _) hh
  | opq b F=>exact BA.holds_ext (Env.same_refl 0 0 E) hx (fun _ _=>rfl) (BA.off_none _) hh
  | rowN b e k l i j c =>
   simp only [Ay1]
   split
   case isFalse=>exact BA.holds_ext (Env.same_refl 0 0 E) hx (fun _ _=>rfl) (BA.off_none _) hh
   rename_i hc
   cases x with
   | row b' e' k' m' =>
    refine ⟨hh.1.rel (by rw [Dr,A27]) fun q y y' cs p1 p2 hr=>A23 hx (fun v hv=>?_) p1 p2 hr,hh.2⟩
    have h3:=h.frz_rep hok hv
    rw [show Ef (.row b' e' k' m') (.own c)=.iv (.sl k' m') by simp only [Ef];rw [if_pos hc];rfl] at h3
    cases h3 with | iv h4=>exact h4
   | _=>exact BA.holds_ext (Env.same_refl 0 0 E) hx (fun _ _=>rfl) (BA.off_none _) hh
 ·rw [A26]
  simp only [Ej]
  exact h.frz_rep hok (h.slots i)
end
section
variable {P : Program} {G : World -> Prop} {V w0 : World} {n : Nd} {ro : Option Nat} {σ : Ab} {K : Exit -> Ab -> Prop}
theorem AW.freeze {c:Code} (b:Nat) (x:BA) (hx:C8 b σ.bk=some x) (hok:okB x) (h:AW P G ro V w0 n c ⟨Zj x σ.fr,Gf x (Cg b [] σ.bk)⟩ K):AW P G ro V w0 n c σ K:=fun hG m E a w hn hs=>by
 obtain ⟨pre,post,e1,e2,e3⟩:=Do hx
 obtain ⟨fr,bk⟩:=σ
 simp only at e1 e3 h hs
 have e4:=e3 []
 subst e1
 rw [e4] at h
 exact h hG m E a w hn (by simpa using St.frz hs hok)
theorem A7.frz {f:FuncId} {args:List AV} {r:AV} {x:BA} {nb:List BA} (h:A7 P G f args r (x :: nb)) (hok:okB x):A7 P G f args (Ef x r) (Gf x nb) :=
 ⟨h.1,fun V w E vs hV hG hr=>(h.2 V w E vs hV hG hr).mono fun e w' ⟨v,E',he,hb,hnd,hnew,hh,hv⟩=>by
  have hs:St V w ⟨⟨0,[],false⟩,fun _=>undef,[],fun _=>none,0⟩ E' ⟨[],x :: nb⟩ { tmps:=#[],defers:=[] } w' :=
   ⟨hV,hb,hnd,hnew,hh,fun i=>.any,⟨rfl,fun i hi=>by cases hi⟩,⟨rfl,List.nodup_nil,fun D hD=>by cases hD⟩,Nat.zero_le _,fun g o e=>by cases e⟩
  have h2:=St.frz (pre:=[]) hs hok
  refine ⟨v,E',he,hb,h2.apart,h2.base,h2.holds,?_⟩
  rw [Ej]
  exact St.frz_rep (pre:=[]) hs hok hv⟩
end
section
variable {x : BA}
@[go_sem] theorem D25:Ef x .any=.any:=rfl
@[go_sem] theorem D23 {v:Value} : Ef x (.val v)=.val v:=rfl
@[go_sem] theorem Dh6 {i:IV} : Ef x (.iv i)=.iv i:=rfl
@[go_sem] theorem Dh7 {cs:List IV} : Ef x (.ip cs)=.ip cs:=rfl
@[go_sem] theorem Cl8 {cs:List IV} : Ef x (.aggI cs)=.aggI cs:=rfl
@[go_sem] theorem D26 {cs:List AV} : Ef x (.agg cs)=.agg (Ef.frzs x cs):=rfl
@[go_sem] theorem D24 {cs:List AV} : Ef x (.tup cs)=.tup (Ef.frzs x cs):=rfl
@[go_sem] theorem Dh8 {f:Nat} {cs:List AV} : Ef x (.fn f cs)=.fn f (Ef.frzs x cs):=rfl
@[go_sem] theorem D14:Ef.frzs x []=[]:=rfl
@[go_sem] theorem Cl4 {c:AV} {cs:List AV} : Ef.frzs x (c :: cs)=Ef x c :: Ef.frzs x cs:=rfl
@[go_sem] theorem By1 {b c e k:Nat} {l:List (List IV)} : Ef (.row b e k l) (.own c)=if c=b then .iv (.sl k l) else .own c:=rfl
@[go_sem] theorem By2 {b c:Nat} {cs:List AV} : Ef (.box b cs) (.own c)=if c=b then .any else .own c:=rfl
@[go_sem] theorem By3 {b c:Nat} {cs:List IV} : Ef (.arr b cs) (.own c)=if c=b then .any else .own c:=rfl
@[go_sem] theorem C45 {b c o e k:Nat} {l:List (List IV)} : Ef (.row b e k l) (.bp c o)=if c=b then .any else .bp c o:=rfl
@[go_sem] theorem C47 {b c o:Nat} {cs:List IV} : Ef (.arr b cs) (.bp c o)=if c=b then .ip (cs.drop o) else .bp c o:=rfl
@[go_sem] theorem C46 {b c o:Nat} {cs:List AV} : Ef (.box b cs) (.bp c o)=if c=b then (match toIs cs with
  | some is=>.ip (is.drop o)
  | none=>.any) else .bp c o:=rfl
@[go_sem] theorem C42 {b c k' i j e k:Nat} {l:List (List IV)} : Ef (.row b e k l) (.rp c k' i j)=if c=b then .any else .rp c k' i j:=rfl
@[go_sem] theorem C43 {b c k' i j:Nat} {cs:List AV} : Ef (.box b cs) (.rp c k' i j)=if c=b then .any else .rp c k' i j:=rfl
@[go_sem] theorem C44 {b c k' i j:Nat} {cs:List IV} : Ef (.arr b cs) (.rp c k' i j)=if c=b then .any else .rp c k' i j:=rfl
@[go_sem] theorem D17:Zj x []=[]:=rfl
@[go_sem] theorem Cl6 {i:Nat} {c:AV} {r:List (Nat×AV)} : Zj x ((i,c) :: r)=(i,Ef x c) :: Zj x r:=rfl
@[go_sem] theorem D20:Gf x []=[]:=rfl
@[go_sem] theorem D21 {b:Nat} {cs:List AV} {r:List BA} : Gf x (.box b cs :: r)=.box b (Ef.frzs x cs) :: Gf x r:=rfl
@[go_sem] theorem D22 {b:Nat} {cs:List IV} {r:List BA} : Gf x (.arr b cs :: r)=.arr b cs :: Gf x r:=rfl
@[go_sem] theorem Cl7 {b e k i j c:Nat} {l:List (List IV)} {r:List BA} : Gf x (.rowN b e k l i j c :: r)=Ay1 x b e k l i j c :: Gf x r:=rfl
@[go_sem] theorem D16 {b e k i j c b' e' k':Nat} {l m:List (List IV)} : Ay1 (.row b' e' k' m) b e k l i j c=if c=b' then .row b e k (Ya l i j (.sl k' m)) else .rowN b e k l i j c:=rfl
@[go_sem] theorem D18 {b e k:Nat} {l:List (List IV)} {r:List BA} : Gf x (.row b e k l :: r)=.row b e k l :: Gf x r:=rfl
end
end Go.Proofs.YtahgkllhbggmgaaGreatDoor
