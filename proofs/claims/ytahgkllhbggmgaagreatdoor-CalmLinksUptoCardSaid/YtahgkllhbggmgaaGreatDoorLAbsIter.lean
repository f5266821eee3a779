/- Iterators over abstract states: a walk that yields. No program is known here. -/
import Derived.Test.YtahgkllhbggmgaaGreatDoorLAbsFrz
set_option linter.all false
set_option linter.unnecessarySimpa false
set_option linter.unusedSimpArgs false
set_option linter.unusedVariables false
namespace Go.Proofs.YtahgkllhbggmgaaGreatDoor
open Go.ChangeShapes Go.WideShapes Go.ChangeAt Go.RowKit
inductive Ys (α:Type) where
 | going (pre:List α)
 | left
 | over (r:Option (List α))
def Ys.on {α:Type} : Ys α->Bool
 | .over _=>false
 | _=>true
def Ys.stop {α:Type} : Ys α->Ys α
 | .going pre=>.over (some pre)
 | .left=>.over none
 | y=>y
structure YC (P:Program) (G:World->Prop) {α:Type} (encs:α->List AV) (Sp:List α->Prop) where
 X0:World
 wb:World
 l:Nat
 ro:Option Nat
 J:List α->World->World->Prop
 Jx:List α->World->World->Prop
 sJ:Nh wb.heap.size J
 sJx:Nh wb.heap.size Jx
 hG:∀ w w',G w->Below w.heap.size w w'->G w'
 round:∀ pre x X W (vs:Array Value) E,J pre X W->Ext X0 X->Ext X W->wb.heap.size<=W.heap.size->G W->An E X vs.toList (encs x)->Sp (pre++[x]) ->
  YieldAt (FW none) 0 P l vs W fun e W'=>W.heap.size<=W'.heap.size/\Ext X W'/\G W'/\Ac0 wb.heap.size W W'/\((e=.returned (.bool true)/\J (pre++[x]) X W')\/(e=.returned (.bool false)/\Jx (pre++[x]) X W'))
section
variable {P : Program} {G : World -> Prop} {α : Type} {encs : α -> List AV} {Sp : List α -> Prop}
def YC.tells (Y:YC P G encs Sp) (y:Ys α) (V w:World):Prop :=
 match y with
 | .going pre=>Y.J pre V w
 | .left=>∃ pre,Y.Jx pre V w
 | .over (some pre)=>Y.J pre V w
 | .over none=>∃ pre,Y.Jx pre V w
def YC.go (Y:YC P G encs Sp) (n:Nat) (y:Ys α) (σ:Ab) (a:Act) (W:World):Prop :=
 ∃ V w0 m E,m.nd=⟨n,[],true⟩/\m.ds=[]/\St V w0 m E σ a W/\G w0/\Y.wb.heap.size<=w0.heap.size/\Ext Y.X0 V/\Y.tells y V w0
def YC.at_ (Y:YC P G encs Sp) (n:Nat) (y:Ys α) (σ:Ab) (a:Act) (W:World):Prop :=
 match y with
 | .over r=>∃ X ds,a.defers=G8 ds/\Ec Y.wb.heap.size ds W/\Ext X W/\Y.tells (.over r) X W
 | y=>Y.go n y σ a W
variable {Y : YC P G encs Sp} {n : Nat} {y : Ys α} {σ : Ab} {K : Exit -> Ys α -> Ab -> Prop}
theorem YC.at_go {a:Act} {W:World} (hy:y.on=true):Y.at_ n y σ a W=Y.go n y σ a W:=by
 cases y<;>first | rfl | cases hy
def AWY (Y:YC P G encs Sp) (n:Nat) (c:Code) (y:Ys α) (σ:Ab) (K:Exit->Ys α->Ab->Prop):Prop :=
 ∀ a W,Y.at_ n y σ a W->c.wpIn (FW Y.ro) 0 P (fun e a' W'=>∃ y' σ',K e y' σ'/\Y.at_ n y' σ' a' W') a W
theorem AWY.seq {c d:Code} (h:AWY Y n c y σ fun e y' σ'=>match e with
  | .normal=>AWY Y n d y' σ' K
  | e=>K e y' σ'):AWY Y n (.seq c d) y σ K:=fun a W hs=>by
 refine wpIn_seq (wpIn_mono (h a W hs) ?_)
 rintro e a' w' ⟨y',σ',hK,hs'⟩
 cases e with
 | normal=>exact hK a' w' hs'
 | _=>exact ⟨y',σ',hK,hs'⟩
theorem AWY.block {id:Nat} {c:Code} (h:AWY Y n c y σ fun e y' σ'=>match e with
  | .exit j=>if j=id then K .normal y' σ' else K (.exit j) y' σ'
  | e=>K e y' σ'):AWY Y n (.block id c) y σ K:=fun a W hs=>by
 refine wpIn_block (wpIn_mono (h a W hs) ?_)
 rintro e a' w' ⟨y',σ',hK,hs'⟩
 cases e with
 | exit j =>
  simp only [Exit.inBlock]
  simp only at hK
  by_cases e:j=id
  ·rw [if_pos e];rw [if_pos e] at hK;exact ⟨y',σ',hK,hs'⟩
  ·rw [if_neg e];rw [if_neg e] at hK;exact ⟨y',σ',hK,hs'⟩
 | _=>exact ⟨y',σ',hK,hs'⟩
theorem AWY.exit {id:Nat} (h:K (.exit id) y σ):AWY Y n (.exit id) y σ K:=fun _ _ hs=>wpIn_exit ⟨y,σ,h,hs⟩
theorem AWY.ret (h:K .ret y σ):AWY Y n .ret y σ K:=fun _ _ hs=>wpIn_ret ⟨y,σ,h,hs⟩
theorem AWY.skip (h:K .normal y σ):AWY Y n .skip y σ K:=fun _ _ hs=>wpIn_skip ⟨y,σ,h,hs⟩
theorem AWY.cond {c:Operand} {x z:Code} {t:Bool} (hc:nrm (ev σ.fr c)=.val (.bool t)) (h1:t=true->AWY Y n x y σ K) (h2:t=false->AWY Y n z y σ K) (hy:y.on=true:=by rfl):AWY Y n (.cond c x z) y σ K:=fun a W hs=>by
 have hs0:=hs
 rw [YC.at_go hy] at hs
 obtain ⟨V,w0,m,E,_,_,hst,_⟩:=hs
 have hv:=(hst.ev c).nrm_
 rw [hc] at hv
 generalize hu:a.eval c=u at hv
 cases hv
 exact wpIn_cond_split hu (fun e=>h1 e a W hs0) (fun e=>h2 e a W hs0)
theorem YC.at_le {ρ:Nat->Nat} {S:Ab} {a:Act} {W:World} (hl:LeS ρ S σ) (h:Y.at_ n y σ a W):Y.at_ n y S a W:=by
 have key:Y.go n y σ a W->Y.go n y S a W:=fun ⟨V,w0,m,E,hn,hd,hs,r⟩=>⟨V,w0,m,_,hn,hd,hs.le hl,r⟩
 cases y with
 | over r=>exact h
 | going pre=>exact key h
 | left=>exact key h
theorem Z1 {F:Fence} {nF:Nat} {β:Type} {Q:Exit->Act->World->Prop} {c:Code} {a:Act} {w:World} (R:β->Act->World->Prop) (μ:β->Nat) (x0:β) (h0:R x0 a w)
  (round:∀ x a w,R x a w->c.wpIn F nF P (fun e a' w'=>match e with
   | .normal=>∃ y,R y a' w'/\μ y < μ x
   | e=>Q e a' w') a w):(Code.loop c).wpIn F nF P Q a w:=by
 classical
 have hI:∀ (a:Act) (w:World),(∃ x,R x a w)->∃ k x,R x a w/\μ x=k/\∀ y,R y a w->k<=μ y:=fun a w h=>by
  have hex:∃ k,∃ x,R x a w/\μ x=k:=by
   obtain ⟨x,h⟩:=h
   exact ⟨_,x,h,rfl⟩
  obtain ⟨k,⟨x,h1,h2⟩,h3⟩:=A16 hex
  exact ⟨k,x,h1,h2,fun y h4=>h3 _ ⟨y,h4,rfl⟩⟩
 let m:Act->World->Nat:=fun a w=>if h:∃ x,R x a w then Classical.choose (hI a w h) else 0
 have hm:∀ a w,(∃ x,R x a w)->∃ x,R x a w/\μ x=m a w:=fun a w h=>by
  obtain ⟨x,h1,h2,_⟩:=Classical.choose_spec (hI a w h)
  exact ⟨x,h1,by simp only [m,dif_pos h];exact h2⟩
 have hm2:∀ a w y,R y a w->m a w<=μ y:=fun a w y h=>by
  have hh:∃ x,R x a w:=⟨y,h⟩
  obtain ⟨_,_,_,h3⟩:=Classical.choose_spec (hI a w hh)
  simp only [m,dif_pos hh]
  exact h3 y h
 refine wpIn_loop (fun a w=>∃ x,R x a w) m ⟨x0,h0⟩ fun a w hi=>?_
 obtain ⟨x,h1,h2⟩:=hm a w hi
 refine wpIn_mono (round x a w h1) ?_
 rintro e a' w' hp
 cases e with
 | normal =>
  obtain ⟨y,h3,hlt⟩:=hp
  refine ⟨⟨y,h3⟩,?_⟩
  have:=hm2 a' w' y h3
  show m a' w' < m a w
  omega
 | _=>exact hp
theorem AWY.loop {β:Type} (S:β->Ys α×Ab) (μ:β->Nat) (x0:β) (ρ0:Nat->Nat) {c:Code} (h0:y=(S x0).1/\LeS ρ0 (S x0).2 σ)
  (round:∀ x,AWY Y n c (S x).1 (S x).2 fun e y' σ'=>match e with
   | .normal=>∃ z ρ,y'=(S z).1/\LeS ρ (S z).2 σ'/\μ z < μ x
   | e=>K e y' σ'):AWY Y n (.loop c) y σ K:=fun a W hs=>by
 refine Z1 (fun x a W=>Y.at_ n (S x).1 (S x).2 a W) μ x0 (by rw [<-h0.1];exact YC.at_le h0.2 hs) fun x a W h=>wpIn_mono (round x a W h) ?_
 rintro e a' W' ⟨y',σ',hk,hs'⟩
 cases e with
 | normal =>
  obtain ⟨z,ρ,h1,h2,h3⟩:=hk
  exact ⟨z,by rw [<-h1];exact YC.at_le h2 hs',h3⟩
 | _=>exact ⟨y',σ',hk,hs'⟩
def Ax9:List BA->List BA->List (Nat×AV)->(List (Nat×AV)->Prop)->Prop
 | _ :: f,x :: r,fr,K=>okB x/\Ax9 f (Gf x r) (Zj x fr) K
 | _,[],fr,K=>K fr
 | [],_ :: _,_,_=>False
theorem Am4 {V w0:World} {m:Fm} {E:Env} {a:Act} {W:World} : ∀ (f bk:List BA) (fr:List (Nat×AV)) (K:List (Nat×AV)->Prop),Ax9 f bk fr K->St V w0 m E ⟨fr,bk⟩ a W->∃ fr',K fr'/\St V w0 m E ⟨fr',[]⟩ a W
 | _ :: f,x :: r,fr,K,h,hs=>Am4 f _ _ K h.2 (by simpa using St.frz (pre:=[]) hs h.1)
 | [],[],fr,K,h,hs=>⟨fr,h,hs⟩
 | _ :: _,[],fr,K,h,hs=>⟨fr,h,hs⟩
 | [],_ :: _,_,_,h,_=>h.elim
def Be5 (encs:α->List AV) (Sp:List α->Prop) (l:Nat) (o:Oper) (y:Ys α) (σ:Ab) (K:Value->Ys α->Ab->Prop):Prop :=
 ∃ f args ats,o.op=.call { callee:=.value f,args:=args,argTypes:=ats }/\ev σ.fr f=.val (.func (.yield l) #[] #[])/\∃ pre x,y=.going pre/\Sbs (args.toList.map (ev σ.fr)) (encs x)/\Sp (pre++[x]) /\
  Ax9 σ.bk σ.bk σ.fr fun fr=>K (.bool true) (.going (pre++[x])) ⟨Ee o.dst (.val (.bool true)) fr,[]⟩/\K (.bool false) .left ⟨Ee o.dst (.val (.bool false)) fr,[]⟩
def As (Y:YC P G encs Sp) (ops:List Oper):List Oper->Ys α->Ab->(Ys α->Ab->Prop)->Prop
 | [],y,σ,K=>K y σ
 | o :: rest,y,σ,K=>N6 ops σ.fr o.guard ((vop P G σ o fun r bk=>As Y ops rest y ⟨Ee o.dst r σ.fr,bk⟩ K)\/Be5 encs Sp Y.l o y σ fun _ y' σ'=>As Y ops rest y' σ' K) (As Y ops rest y ⟨Ee o.dst (.val undef) σ.fr,σ.bk⟩ K)
theorem B60 {ops:List Oper} {Q:Exit->Act->World->Prop} : ∀ (l:List Oper) (y:Ys α) (σ:Ab) (K:Ys α->Ab->Prop) (a:Act) (w:World),y.on=true->Di ⟨n,[],true⟩ l=true->As Y ops l y σ K->Y.go n y σ a w ->
  (∀ (y':Ys α) (σ':Ab) (a':Act) (w':World),K y' σ'->Y.at_ n y' σ' a' w'->Q .normal a' w')->wpListIn (FW Y.ro) 0 P ops.toArray Q l a w:=by
 intro l
 induction l with
 | nil=>exact fun y σ K a w hy _ h hs hQ=>hQ y σ a w h (by rw [YC.at_go hy];exact hs)
 | cons o rest ih =>
  intro y σ K a w hy0 hd h ⟨V,w0,m,E,hn,hds,hs,hg,hb,hx,ht⟩ hQ
  simp only [Di,Bool.and_eq_true] at hd
  have hdst:∀ d,o.dst=some d->d < m.nd.n/\d∉m.nd.fx:=fun d e=>by
   have:=hd.1
   rw [e] at this
   simp only [Bool.and_eq_true,Bool.not_eq_true'] at this
   rw [hn]
   exact ⟨Bs.1 this.1,Mh this.2⟩
  refine wpListIn_step fun K' hK'=>?_
  rcases Ub hs h with ⟨hw,hr⟩ | ⟨hw,hr⟩
  ·rw [if_pos hw]
   rcases hr with hr | ⟨f,args,ats,ho,hf,pre,x,rfl,hsub,hSp,hfz⟩
   ·obtain ⟨r,bk',hK,hu⟩:=A42 hr
    exact hu V w0 m E a w hs (fun w' hb'=>Y.hG w0 w' hg hb') K' Q (fun v w' E' hs' hv=>hK' _ _ (ih y ⟨Ee o.dst r σ.fr,bk'⟩ K (a.put o.dst v) w' hy0 hd.2 hK ⟨V,w0,m,E',hn,hds,hs'.put hdst hv,hg,hb,hx,ht⟩ hQ)) Y.ro
   ·-- yield
    obtain ⟨fr',⟨hk1,hk2⟩,hs2⟩:=Am4 σ.bk σ.bk σ.fr _ hfz hs
    have hfe:a.eval f=.func (.yield Y.l) #[] #[]:=by
     have:=hs.ev f
     rw [hf] at this
     generalize a.eval f=u at this
     cases this;rfl
    have hxall:Ext (vis V w0 w (Ac E σ.bk)) (vis V w0 w []):=D1 (Nat.le_refl _) fun p u _ _ _ h4=>⟨by simp,h4⟩
    have hargs:An E (vis V w0 w []) (args.map a.eval).toList (encs x):=by
     refine hsub _ _ _ (An.mono hxall ⟨by simp,fun j v c e1 e2=>?_⟩)
     simp only [Array.toList_map,List.getElem?_map,Option.map_eq_some_iff] at e1 e2
     obtain ⟨q,hq,rfl⟩:=e1
     obtain ⟨q',hq',rfl⟩:=e2
     rw [hq] at hq'
     obtain rfl:=Option.some.inj hq'
     exact hs.ev q
    have hvin:Ext (vis V w0 w []) w:=R8 hs.ext hs.low
    have hXX:Ext Y.X0 (vis V w0 w []):=hx.trans (Ur hs.ext hs.low)
    have hJ:Y.J pre (vis V w0 w []) w:=Y.sJ pre V w0 (vis V w0 w []) w none ht ⟨hs.low.os,hs.low.tape,hs.low.output,hs.low.size,fun k hk _=>hs.low.block k hk⟩ (fun r e=>by cases e) (Ur hs.ext hs.low) hvin
     fun p hp=>Mq hp (Nat.lt_of_lt_of_le hp hs.low.size)
    obtain ⟨fnl,tmps,assign,body,hy,hRd⟩:=Y.round pre x (vis V w0 w []) w (args.map a.eval) E hJ hXX hvin (Nat.le_trans hb hs.low.size) (Y.hG w0 w hg hs.low) hargs hSp
    refine ⟨fun _ _=>trivial,?_⟩
    have hexec:(o.semAt (FW Y.ro).round a.eval).run P w=.ok (.round Y.l fnl tmps assign body) w:=by
     rw [Oper.semAt_plain _ _ _ (by rw [ho];intro c e;cases e)]
     obtain ⟨dst,op,ty,pos,after,gd⟩:=o
     simp only at ho
     subst ho
     generalize a.eval=ρ at hfe hy ⊢
     simp [execOp,resolve,invoke,hfe,go_sem,hy]
    rw [hexec]
    refine ⟨(fun e=>by cases e),RoundIn.mono (F:=FW Y.ro) hRd ?_⟩
    rintro e W' ⟨q1,q2,q3,_,hres⟩
    have hst:∀ (v:Value) (r:AV),Au E (vis (vis V w0 w []) W' W' []) v r->St (vis V w0 w []) W' m.bare E ⟨Ee o.dst r fr',[]⟩ (a.put o.dst v) W':=fun v r hv=>by
     have h1:St (vis V w0 w []) W' m.bare E ⟨fr',[]⟩ { a with defers:=[] } W':=by
      refine ⟨q2,Below.refl _ _,List.nodup_nil,(fun g hg=>by cases hg),(fun b hb=>by cases hb),fun i=>?_,hs.size,⟨rfl,List.nodup_nil,fun D hD=>by cases hD⟩,Nat.zero_le _,fun g o e=>by cases e⟩
      exact (hs2.slots i).mono (Ur q2 (Below.refl _ _))
     have ha:({ a with defers:=[] } : Act)=a:=by
      have:=hs.defers.1
      rw [hds] at this
      cases a;simp only [G8,List.map_nil] at this;subst this;rfl
     rw [ha] at h1
     exact h1.put hdst hv
    rcases hres with ⟨rfl,hj⟩ | ⟨rfl,hj⟩
    ·exact hK' _ _ (ih _ _ K _ W' rfl hd.2 hk1 ⟨vis V w0 w [],W',m.bare,E,hn,rfl,hst _ _ .val,q3,Nat.le_trans hb (Nat.le_trans hs.low.size q1),hXX,hj⟩ hQ)
    ·exact hK' _ _ (ih _ _ K _ W' rfl hd.2 hk2 ⟨vis V w0 w [],W',m.bare,E,hn,rfl,hst _ _ .val,q3,Nat.le_trans hb (Nat.le_trans hs.low.size q1),hXX,_,hj⟩ hQ)
  ·rw [if_neg (by rw [hw];simp)]
   exact ⟨fun _ _=>trivial,hK' _ _ (ih y ⟨Ee o.dst (.val undef) σ.fr,σ.bk⟩ K (a.put o.dst undef) w hy0 hd.2 hr ⟨V,w0,m,E,hn,hds,hs.put hdst .val,hg,hb,hx,ht⟩ hQ)⟩
theorem AWY.region {id:Nat} {l:List Oper} (hd:Di ⟨n,[],true⟩ l=true) (h:As Y l l y σ fun y' σ'=>K .normal y' σ') (hy:y.on=true:=by rfl):AWY Y n (.region id l.toArray false) y σ K :=
 fun a W hs=>wpIn_region_lit (B60 l y σ _ a W hy hd h (by rw [<-YC.at_go hy];exact hs) fun y' σ' a' w' hK hs'=>⟨y',σ',hK,hs'⟩)
theorem Aw.ofR {S : List α -> Prop} {gf : FuncId} {fn : Func} {c : Code} {caps : List AV} (hf : P.funcs[gf]? = some fn) (hb : fn.body = some c) (hname : (fn.name == "runtime.NumGoroutine") = false) (hn : fn.ntmps = n) (hres0 : fn.results = #[]) (hal : caps.length + 1 <= n)
  (hG:∀ w w',G w->Below w.heap.size w w'->G w')
  (h:AV.okd.okds caps->∀ Y:YC P G encs Sp,Y.ro=none->AWY Y n c (.going []) ⟨Uo 0 (.val (.func (.yield Y.l) #[] #[]) :: caps),[]⟩ fun e y _=>(e=.ret\/e=.normal)/\match y with
   | .going xs=>S xs
   | .over (some xs)=>S xs
   | _=>True):Aw P G gf caps encs S Sp:=by
 refine ⟨fun vs w=>?_,fun X0 w E lb hX hGw hargs l J Jx sJ sJx round h0=>?_⟩
 ·have hname' : ¬ fn.name = "runtime.NumGoroutine" := by simpa using hname
  simp [callFunc,program,Sem.run,hf,hname',hb]
 have hok:AV.okd.okds caps:=Sn fun j c hj=>(hargs.2 j _ c (List.getElem?_eq_getElem (by rw [hargs.1];exact (List.getElem?_eq_some_iff.1 hj).1)) hj).okd
 let Y:YC P G encs Sp:=⟨X0,w,l,none,J,Jx,sJ,sJx,hG,round⟩
 have hl:lb.size=caps.length:=by simpa using hargs.1
 have hargs2:An E X0 (#[Value.func (.yield l) #[] #[]]++lb).toList (.val (.func (.yield l) #[] #[]) :: caps):=by
  rw [Array.toList_append]
  exact An.cons .val hargs
 have hsz:(#[Value.func (.yield l) #[] #[]]++lb).size=caps.length+1:=by simp [hl];omega
 have hs:St X0 w ⟨⟨n,[],true⟩,fun _=>undef,[],fun _=>none,0⟩ E ⟨Uo 0 (.val (.func (.yield l) #[] #[]) :: caps),[]⟩ { tmps:=(#[Value.func (.yield l) #[] #[]]++lb)++Array.replicate (fn.ntmps - (#[Value.func (.yield l) #[] #[]]++lb).size) undef,defers:=[] } w:=by
  have hx:Ext X0 (vis X0 w w []):=Ur hX (Below.refl _ w)
  generalize (#[Value.func (.yield l) #[] #[]]++lb)=vs at hargs2 hsz
  refine ⟨hX,Below.refl _ w,List.nodup_nil,(fun g hg=>by cases hg),(fun b hb=>by cases hb),fun i=>?_,⟨by simp [hn,hsz];omega,fun i hi=>by cases hi⟩,⟨rfl,List.nodup_nil,fun D hD=>by cases hD⟩,Nat.zero_le _,fun g o e=>by cases e⟩
  rw [Un]
  simp only [Nat.zero_le,if_true,Nat.sub_zero]
  by_cases hi:i < caps.length+1
  ·have hi':i < (AV.val (.func (.yield l) #[] #[]) :: caps).length:=by simpa using hi
   rw [List.getElem?_eq_getElem hi']
   have:vs[i]? = some (vs[i]'(by omega)):=Array.getElem?_eq_getElem _
   have h2:=hargs2.2 i (vs[i]'(by omega)) _ (by rw [Array.getElem?_toList];exact this) (List.getElem?_eq_getElem hi')
   rw [Array.getD_eq_getD_getElem?,Array.getElem?_append_left (by omega),this]
   exact h2.mono hx
  ·rw [List.getElem?_eq_none (by simpa using Nat.le_of_not_lt hi)]
   exact .any
 refine (callsIn_wide (n:=0)).1 (callsIn_of_wp_marks (F:=FW none) hf hb trivial (wpIn_mono (h hok Y rfl _ w ⟨X0,w,_,E,rfl,rfl,hs,hGw,Nat.le_refl _,Ext.refl _,h0⟩) ?_) rfl)
 rintro e a' W' ⟨y',σ',⟨he,hy⟩,hat⟩
 have hfin:∃ ds,a'.defers=G8 ds/\Ec w.heap.size ds W'/\((∃ xs X,S xs/\J xs X (shut ds W'))\/(∃ pre X,Jx pre X (shut ds W'))):=by
  have hgo:Y.go n y' σ' a' W'->y'.on=true->∃ ds,a'.defers=G8 ds/\Ec w.heap.size ds W'/\((∃ xs X,S xs/\J xs X (shut ds W'))\/(∃ pre X,Jx pre X (shut ds W'))):=by
   rintro ⟨V,w0,m,E',_,hds,hs',_,hwb,_,ht⟩ hon
   refine ⟨[],by rw [hs'.defers.1,hds],Ec.nil _ _,?_⟩
   have hgr:w0.grownBy W' none:=⟨hs'.low.os,hs'.low.tape,hs'.low.output,hs'.low.size,fun k hk _=>hs'.low.block k hk⟩
   cases y' with
   | going xs=>exact .inl ⟨xs,_,hy,sJ xs V w0 (vis V w0 W' []) W' none ht hgr (fun r e=>by cases e) (Ur hs'.ext hs'.low) (R8 hs'.ext hs'.low) fun p hp=>Mq hp (Nat.lt_of_lt_of_le hp hs'.low.size)⟩
   | left =>
    obtain ⟨pre,ht⟩:=ht
    exact .inr ⟨pre,_,sJx pre V w0 (vis V w0 W' []) W' none ht hgr (fun r e=>by cases e) (Ur hs'.ext hs'.low) (R8 hs'.ext hs'.low) fun p hp=>Mq hp (Nat.lt_of_lt_of_le hp hs'.low.size)⟩
   | over r=>cases hon
  cases y' with
  | going xs=>exact hgo hat rfl
  | left=>exact hgo hat rfl
  | over r =>
   obtain ⟨X,ds,h1,h2,h3,h4⟩:=hat
   refine ⟨ds,h1,h2,?_⟩
   have own:∀ (T:List α->World->World->Prop),Nh w.heap.size T->∀ pre,T pre X W'->T pre X (shut ds W'):=fun T sT pre hT =>
    (Tp (B:=w.heap.size) (I:=fun W=>Ext X W/\T pre X W) (fun A B row ⟨q1,q2⟩ hg hr=>by
     have hx:Ext X B:=⟨Nat.le_trans q1.size hg.size,fun p u hp=>Qd (q1.cell p u hp) hg fun r e=>(hr r e).2⟩
     exact ⟨hx,sT pre X A X B row q2 hg hr (Ext.refl _) hx fun _ _=>rfl⟩) ds W' h2 ⟨h3,hT⟩).2
   cases r with
   | some xs=>exact .inl ⟨xs,X,hy,own J sJ xs h4⟩
   | none =>
    obtain ⟨pre,h4⟩:=h4
    exact .inr ⟨pre,X,own Jx sJx pre h4⟩
 obtain ⟨ds,hd,hm,hres⟩:=hfin
 have hend:=N3 (F:=FW none) (n:=0) (P:=P) (fn:=fn) (tmps:=a'.tmps) (R:=fun e W'=>(∃ v,e=.returned v)/\((∃ xs X,S xs/\J xs X W')\/(∃ pre X,Jx pre X W'))) ds W' hm ⟨_,results_none hres0 _ _ _,⟨_,rfl⟩,hres⟩
 rw [<-hd] at hend
 rcases he with rfl | rfl
 ·exact hend
 ·exact hend
theorem Aw.of {S : List α -> Prop} {gf : FuncId} {fn : Func} {c : Code} {caps : List AV} (hf : P.funcs[gf]? = some fn) (hb : fn.body = some c) (hname : (fn.name == "runtime.NumGoroutine") = false) (hn : fn.ntmps = n) (hres0 : fn.results = #[]) (hal : caps.length + 1 <= n)
  (hG:∀ w w',G w->Below w.heap.size w w'->G w')
  (h:AV.okd.okds caps->∀ Y:YC P G encs Sp,AWY Y n c (.going []) ⟨Uo 0 (.val (.func (.yield Y.l) #[] #[]) :: caps),[]⟩ fun e y _=>(e=.ret\/e=.normal)/\match y with
   | .going xs=>S xs
   | .over (some xs)=>S xs
   | _=>True):Aw P G gf caps encs S Sp :=
 Aw.ofR hf hb hname hn hres0 hal hG fun hok Y _=>h hok Y
end
section
variable {P : Program} {G : World -> Prop} {α : Type} {encs : α -> List AV} {Sp : List α -> Prop} {Y : YC P G encs Sp} {fr : List (Nat × AV)} {bk : List BA} {ops rest : List Oper} {y : Ys α} {KK : Ys α -> Ab -> Prop} {dst : Option Tmp} {op : Op} {ty : TypeId} {pos : String} {after : Array Edge} {j : Nat} {b : Bool}
section
variable {f : Operand} {args : Array Operand} {ats : Array TypeId} {pre : List α}
theorem Bt6 (x:α) (hf:ev fr f=.val (.func (.yield Y.l) #[] #[])) (hs:Sbs (args.toList.map (ev fr)) (encs x)) (hSp:Sp (pre++[x]))
  (h:Ax9 bk bk fr fun fr=>As Y ops rest (.going (pre++[x])) ⟨Ee dst (.val (.bool true)) fr,[]⟩ KK/\As Y ops rest .left ⟨Ee dst (.val (.bool false)) fr,[]⟩ KK) :
  As Y ops (⟨dst,.call { callee:=.value f,args:=args,argTypes:=ats },ty,pos,after,none⟩ :: rest) (.going pre) ⟨fr,bk⟩ KK:=.inr ⟨f,args,ats,rfl,hf,pre,x,rfl,hs,hSp,h⟩
end
@[go_sem] theorem D15 {f:List BA} {K:List (Nat×AV)->Prop} : Ax9 f [] fr K=K fr:=by cases f<;>rfl
@[go_sem] theorem Cl5 {u x:BA} {f r:List BA} {K:List (Nat×AV)->Prop} : Ax9 (u :: f) (x :: r) fr K=(okB x/\Ax9 f (Gf x r) (Zj x fr) K):=rfl
@[go_sem] theorem Dg2 {b:Nat} {cs:List AV} : okB (.box b cs)=J8 cs:=rfl
@[go_sem] theorem Dg3 {b:Nat} {cs:List IV} : okB (.arr b cs)=True:=rfl
@[go_sem] theorem Cz4 {b e k i j d:Nat} {l:List (List IV)} : okB (.rowN b e k l i j d)=True:=rfl
@[go_sem] theorem Dg1 {b e k:Nat} {l:List (List IV)} : okB (.row b e k l)=True:=rfl
end
theorem Bk1 {cs:List IV} {m s:Nat} {u:IV} {K:AV->Prop} (h:cs[m]? = some u) (hk:K (nrm (.iv u))):rdI 0 s (cs.drop m) K:=by
 have hm:=(List.getElem?_eq_some_iff.1 h).1
 obtain ⟨l,hl⟩ : ∃ l,cs.drop m=u :: l:=⟨cs.drop (m+1),by rw [List.drop_eq_getElem_cons hm,(List.getElem?_eq_some_iff.1 h).2]⟩
 rw [hl]
 exact hk
section
variable {P : Program} {G : World -> Prop} {f : FuncId} {args args' : List AV} {dst : Option Tmp} {bk nb : List BA} {K : AV -> List BA -> Prop} {r : AV}
theorem Aa (h:A7 P G f args r nb) (hs:(r.small&&Kr nb)=true) (hk:K (r.sh (cid dst)) (shB (cid dst) nb++bk)):Ax P G f args dst bk K:=.inl ⟨r,nb,args,.inl ⟨Sbs.rfl_ _,h⟩,hs,hk⟩
theorem Bq2 (h:A7 P G f args' r nb) (hsub:Sbs args args') (hs:(r.small&&Kr nb)=true) (hk:K (r.sh (cid dst)) (shB (cid dst) nb++bk)):Ax P G f args dst bk K:=.inl ⟨r,nb,args',.inl ⟨hsub,h⟩,hs,hk⟩
theorem Yt (h:A7 P G f args' r nb) (ho:Aj9 bk) (hr:K3 r=true) (hn:B38 nb) (hsub:Sbs (Jz.viewAs (fun b=>C8 b bk) args) args') (hs:(r.small&&Kr nb)=true) (hk:K (r.sh (cid dst)) (shB (cid dst) nb++bk)):Ax P G f args dst bk K :=
 .inl ⟨r,nb,args',.inr ⟨A15 ho,hr,hn,hsub,h⟩,hs,hk⟩
theorem Ce3 {B kr:List BA} {bx:List (Nat×List AV)} (pre post:List BA) (ρ:Nat->Nat) (h:Py P G f args' r B nb bx kr) (ha:AV.ren.rens ρ args'=args) (hb:bk=pre++(Gi ρ B++post)) (hs:(r.small&&Kr nb&&X3 bx&&T8 B bx&&Xb B kr)=true) (hk:K (r.sh (cid dst)) ((shB (cid dst) nb++(bxS ρ (cid dst) bx++Gi ρ kr))++(pre++post))):Ax P G f args dst bk K :=
 .inr ⟨args',r,B,nb,bx,kr,ρ,pre,post,h,ha,hb,hs,hk⟩
end
section
variable {c : Nat}
@[go_sem] theorem Ds1:AV.any.sh c=.any:=rfl
@[go_sem] theorem Dr5 {v:Value} : (AV.val v).sh c=.val v:=rfl
@[go_sem] theorem E03 {i:IV} : (AV.iv i).sh c=.iv i:=rfl
@[go_sem] theorem E04 {cs:List IV} : (AV.ip cs).sh c=.ip cs:=rfl
@[go_sem] theorem Df3 {cs:List IV} : (AV.aggI cs).sh c=.aggI cs:=rfl
@[go_sem] theorem E06 {b o:Nat} : (AV.bp b o).sh c=.bp (b+c) o:=rfl
@[go_sem] theorem Dr8 {b:Nat} : (AV.own b).sh c=.own (b+c):=rfl
@[go_sem] theorem Ds2 {cs:List AV} : (AV.agg cs).sh c=.agg (AV.sh.shs c cs):=rfl
@[go_sem] theorem Dr6 {cs:List AV} : (AV.tup cs).sh c=.tup (AV.sh.shs c cs):=rfl
@[go_sem] theorem E05 {f:Nat} {cs:List AV} : (AV.fn f cs).sh c=.fn f (AV.sh.shs c cs):=rfl
@[go_sem] theorem Cx4:AV.sh.shs c []=[]:=rfl
@[go_sem] theorem Cj3 {a:AV} {l:List AV} : AV.sh.shs c (a :: l)=a.sh c :: AV.sh.shs c l:=rfl
@[go_sem] theorem Cx5:shB c []=[]:=rfl
@[go_sem] theorem Cj4 {b:BA} {l:List BA} : shB c (b :: l)=b.sh c :: shB c l:=rfl
@[go_sem] theorem Dr9 {b:Nat} {cs:List AV} : (BA.box b cs).sh c=.box (b+c) (AV.sh.shs c cs):=rfl
@[go_sem] theorem Ds0 {b:Nat} {cs:List IV} : (BA.arr b cs).sh c=.arr (b+c) cs:=rfl
@[go_sem] theorem Df2 {b e k i j d:Nat} {l:List (List IV)} : (BA.rowN b e k l i j d).sh c=.rowN (b+c) e k l i j (d+c):=rfl
@[go_sem] theorem Dr7 {b e k:Nat} {l:List (List IV)} : (BA.row b e k l).sh c=.row (b+c) e k l:=rfl
end
theorem Ad7:∀ (C:List IV),toIs (C.map AV.iv)=some C
 | []=>rfl
 | i :: C=>by simp only [List.map_cons,toIs,toI,Ad7 C]
theorem Ak0:∀ (C:List IV),J8 (C.map AV.iv)
 | []=>trivial
 | _ :: C=>⟨trivial,Ak0 C⟩
theorem Af7 {α:Type} : ∀ (ds a b:List α),b.length=ds.length->Et (a++b) a.length ds=a++ds
 | [],a,b,h=>by
  obtain rfl:b=[]:=List.eq_nil_of_length_eq_zero h
  rfl
 | d :: ds,a,b,h=>by
  cases b with
  | nil=>simp at h
  | cons x b =>
   show Et ((a++x :: b).set a.length d) (a.length+1) ds=_
   have:=Af7 ds (a++[d]) b (by simpa using h)
   simp only [List.length_append,List.length_cons,List.length_nil,Nat.zero_add,List.append_assoc,List.cons_append,List.nil_append] at this
   rw [<-this]
   simp
theorem B74 {α:Type} {cs ds:List α} (h:cs.length=ds.length):Et cs 0 ds=ds:=Af7 ds [] cs h
-- the rules of a walk that yields
def isY (fr:List (Nat×AV)):Op->Bool
 | .call c=>match c.callee with
  | .value f=>match ev fr f with
   | .val (.func (.yield _) _ _)=>true
   | _=>false
  | _=>false
 | _=>false
section
variable {P : Program} {G : World -> Prop} {α : Type} {encs : α -> List AV} {Sp : List α -> Prop} {Y : YC P G encs Sp} {σ σ' : Ab} {ops rest l : List Oper} {y : Ys α} {KK : Ys α -> Ab -> Prop} {d : Option Tmp} {op : Op} {ty : TypeId} {pos : String} {after : Array Edge} {j n : Nat} {g : Bool} {K : Exit -> Ys α -> Ab -> Prop} {c a b : Code} {id : Nat} {B0 : Prop}
theorem Ba4 {l:Nat} {gd:Option (Nat×Bool)} {KV:Value->Ys α->Ab->Prop} (h:isY σ.fr op=false):¬ Be5 encs Sp l ⟨d,op,ty,pos,after,gd⟩ y σ KV:=by
 rintro ⟨f,args,ats,ho,hf,_⟩
 simp only at ho
 subst ho
 simp [isY,hf] at h
@[congr] theorem Cp3 (h:σ=σ') (_:Tk=B0):As Y ops l y σ KK=As Y ops l y σ' KK:=by rw [h]
@[congr] theorem Dz1 (h:σ=σ') (_:Tk=B0):AWY Y n c y σ K=AWY Y n c y σ' K:=by rw [h]
@[go_sem] theorem Cg6:As Y ops [] y σ KK=KK y σ:=rfl
@[go_sem] theorem Da4 (h:isY σ.fr op=false):As Y ops (⟨d,op,ty,pos,after,none⟩ :: rest) y σ KK=vop P G σ ⟨d,op,ty,pos,after,none⟩ fun r bk=>As Y ops rest y ⟨Ee d r σ.fr,bk⟩ KK:=by
 show (_\/_)=_
 exact propext ⟨fun h'=>h'.elim id fun h'=>(Ba4 h h').elim,.inl⟩
def W1Y (Y:YC P G encs Sp) (n:Nat):Code->Ys α->Ab->(Exit->Ys α->Ab->Prop)->Prop
 | .skip,y,σ,K=>K .normal y σ
 | .ret,y,σ,K=>K .ret y σ
 | .exit id,y,σ,K=>K (.exit id) y σ
 | .seq a b,y,σ,K=>W1Y Y n a y σ fun e y' σ'=>match e with
  | .normal=>AWY Y n b y' σ' K
  | e=>K e y' σ'
 | .block id c,y,σ,K=>W1Y Y n c y σ fun e y' σ'=>match e with
  | .exit j=>if j=id then K .normal y' σ' else K (.exit j) y' σ'
  | e=>K e y' σ'
 | .cond c a b,y,σ,K=>Rk y.on (L8 (nrm (ev σ.fr c)) (AWY Y n a y σ K) (AWY Y n b y σ K))
 | .region _ ops false,y,σ,K=>Rk (y.on&&Di ⟨n,[],true⟩ ops.toList) (As Y ops.toList ops.toList y σ fun y' σ'=>K .normal y' σ')
 | c,y,σ,K=>AWY Y n c y σ K
theorem C13:∀ {c:Code} {y:Ys α} {σ:Ab} {K:Exit->Ys α->Ab->Prop},W1Y Y n c y σ K->AWY Y n c y σ K:=by
 intro c
 induction c with
 | skip=>exact fun h=>AWY.skip h
 | ret=>exact fun h=>AWY.ret h
 | exit id=>exact fun h=>AWY.exit h
 | seq x y ihx _=>exact fun h=>AWY.seq (ihx h)
 | block id c ih=>exact fun h=>AWY.block (ih h)
 | cond c x y _ _=>exact fun ⟨hy,t,h0,h1,h2⟩=>AWY.cond h0 h1 h2 hy
 | region id ops d =>
  cases d with
  | false =>
   intro y σ K h
   have h0:=h.1
   rw [Bool.and_eq_true] at h0
   exact AWY.region (l:=ops.toList) h0.2 h.2 h0.1
  | true=>exact fun h=>h
 | _=>exact fun h=>h
def Cx3:Code->Bool
 | .label _=>false
 | .scope _=>false
 | c=>Bh4 c
theorem B72 (_:Cx3 c=true) (h:W1Y Y n c y σ K):AWY Y n c y σ K:=C13 h
@[congr] theorem Dy3 (h:σ=σ') (_:Tk=B0):W1Y Y n c y σ K=W1Y Y n c y σ' K:=by rw [h]
@[go_sem] theorem D84:W1Y Y n .skip y σ K=K .normal y σ:=rfl
@[go_sem] theorem Dm0:W1Y Y n .ret y σ K=K .ret y σ:=rfl
@[go_sem] theorem D86:W1Y Y n (.exit id) y σ K=K (.exit id) y σ:=rfl
@[go_sem] theorem Dl9:W1Y Y n (.seq a b) y σ K=W1Y Y n a y σ fun e y' σ'=>match e with
  | .normal=>AWY Y n b y' σ' K
  | e=>K e y' σ':=rfl
@[go_sem] theorem Co5:W1Y Y n (.block id a) y σ K=W1Y Y n a y σ fun e y' σ'=>match e with
  | .exit j=>if j=id then K .normal y' σ' else K (.exit j) y' σ'
  | e=>K e y' σ':=rfl
@[go_sem] theorem D87 {q:Operand} : W1Y Y n (.cond q a b) y σ K=Rk y.on (L8 (nrm (ev σ.fr q)) (AWY Y n a y σ K) (AWY Y n b y σ K)):=rfl
@[go_sem] theorem Cf8:W1Y Y n (.region id l.toArray false) y σ K=Rk (y.on&&Di ⟨n,[],true⟩ l) (As Y l l y σ fun y' σ'=>K .normal y' σ'):=rfl
@[go_sem] theorem Co4 {q:Array Oper} : W1Y Y n (.region id q true) y σ K=AWY Y n (.region id q true) y σ K:=rfl
@[go_sem] theorem D85:W1Y Y n (.loop a) y σ K=AWY Y n (.loop a) y σ K:=rfl
@[go_sem] theorem Co3 {q:Operand} {ps:Array Tmp} : W1Y Y n (.rangeFunc q ps a b) y σ K=AWY Y n (.rangeFunc q ps a b) y σ K:=rfl
end
end Go.Proofs.YtahgkllhbggmgaaGreatDoor
