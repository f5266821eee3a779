/- The tables that are laid, ahead of a run. -/
import Derived.Test.YtahgkllhbggmgaaGreatDoorKConD
import Derived.Test.YtahgkllhbggmgaaGreatDoorKAbsDraw2
import Derived.Test.YtahgkllhbggmgaaGreatDoorKDisk
set_option linter.all false
set_option linter.unnecessarySimpa false
set_option linter.unusedSimpArgs false
set_option linter.unusedVariables false
namespace Go.Proofs.YtahgkllhbggmgaaGreatDoor
open Go.ChangeShapes Go.WideShapes Go.ChangeAt Go.RowKit
section
variable {P : Program} {eqT : Nat -> Bool} {rec : Lt -> GH -> Option (CV × GH)} {ρ ρ' : Nat -> Nat × Nat} {B : Nat} {s s' : FrS} {a : Act} {w w' : World} {h h' : GH}
theorem SlR.set {ok:Nat->Prop} {sl:Bg} {n:Nat} {tmps:Array Value} (hs:SlR ok ρ sl n tmps) {d:Nat} {x:CV} {v:Value} (hd:d < n) (hv:RC ok ρ x v):SlR ok ρ (sl.set d x) n (tmps.setIfInBounds d v):=by
 refine ⟨by simp [hs.1],fun i=>?_⟩
 rw [TR.get_set]
 by_cases hi:i=d
 ·subst hi
  rw [if_pos rfl,Array.getD_eq_getD_getElem?,Array.getElem?_setIfInBounds_self_of_lt (by rw [hs.1];exact hd)]
  exact hv
 ·rw [if_neg hi,Array.getD_eq_getD_getElem?,Array.getElem?_setIfInBounds_ne (Ne.symm hi),<-Array.getD_eq_getD_getElem?]
  exact hs.2 i
theorem Aa2 {ok:Nat->Prop} {n:Nat} : ∀ (ps:List Tmp) (l:List CV) (vs:List Value) (sl sl':Bg) (tmps:Array Value),Aa3 ps l sl n=some sl'->vs.length=l.length->(∀ (j:Nat) x u,l[j]? = some x->vs[j]? = some u->RC ok ρ x u)->SlR ok ρ sl n tmps->SlR ok ρ sl' n ((ps.zip vs).foldl (fun t pv=>t.setIfInBounds pv.1 pv.2) tmps)/\ps.length=l.length
 | [],[],vs,sl,sl',tmps,e,hl,_,hs=>by
  cases e
  obtain rfl:=List.eq_nil_of_length_eq_zero hl
  exact ⟨hs,rfl⟩
 | [],_ :: _,vs,sl,sl',tmps,e,hl,_,hs=>by cases e
 | _ :: _,[],vs,sl,sl',tmps,e,hl,_,hs=>by cases e
 | p :: ps,x :: l,vs,sl,sl',tmps,e,hl,hv,hs=>by
  cases vs with
  | nil=>simp at hl
  | cons v vs =>
   simp only [Aa3] at e
   obtain ⟨hp,e⟩:=Cw e
   obtain ⟨h1,h2⟩:=Aa2 ps l vs _ sl' _ e (by simpa using hl) (fun j x u a b=>hv (j+1) x u (by simpa using a) (by simpa using b)) (hs.set (Bk.1 hp) (hv 0 x v rfl rfl))
   exact ⟨h1,by simp [h2]⟩
theorem Bf9 {l:Nat} : (FW none).inRound l=FW (some l):=rfl
theorem Ax8 (hE:Mo P eqT) (hR:Ke P rec) (hD:Xa P eqT rec) (fu:Nat) {c:Nat} {l:List CV} {x:CV} (s0:SR ρ h B w) (hg:Ki P ρ h) {vs:Array Value} (hvs:RCL (okH h) ρ l vs) {L:GL} (hL:h.get c=some (.lp L)) {sl:Bg} (hsl:Aa3 L.ps l L.sl L.n=some sl)
  {s1:FrS} (h1:Gs P eqT rec fu (some c) L.asg ⟨sl,L.n,[],h⟩=some (.normal,s1)) (hd1:s1.ds=[]) {L1:GL} (hL1:s1.h.get c=some (.lp L1)) (hst:L1.st=.ready) {hb:GH} (hb1:s1.h.put c (.lp { L1 with st:=.busy })=some hb)
  {e:Ex} {s2:FrS} (h2:Gs P eqT rec fu (some c) L.bd ⟨s1.sl,L.n,[],hb⟩=some (e,s2)) (hd2:s2.ds=[]) {L2:GL} (hL2:s2.h.get c=some (.lp L2)) {j:Option Code} (hj:j=match e with
   | .normal=>none
   | .ret=>some .ret
   | .exit id=>some (.exit id)) (he:s2.h.put c (.lp { L2 with st:=if j.isNone then .ready else .done,pe:=j })=some h') :
  YieldAt (FW none) 0 P (ρ c).1 vs w fun e w'=>∃ v ρ',e=.returned v/\D5 ρ h h' B w w' ρ'/\RC (okH h') ρ' (.v (.bool j.isNone)) v:=by
 obtain ⟨fn,tmps,hl,hok,hsl0⟩:=s0.holds hL
 obtain ⟨p1,p2⟩:=Aa2 (ρ:=ρ) L.ps l vs.toList L.sl sl tmps hsl (by simpa using hvs.1) (fun j x u a b=>hvs.2 j x u a (by rw [<-Array.getElem?_toList];exact b)) hsl0
 have hc:=(s0.ok hL).1
 have hy:=run_yield (P:=P) (args:=vs) hl (by simp [p2,hvs.1])
 refine ⟨_,_,_,_,hy,roundIn_of_wpIn trivial ?_⟩
 simp only
 rw [Bf9]
 have hfold:(L.ps.toArray.zip vs).foldl (fun t (p,v)=>t.setIfInBounds p v) tmps=(L.ps.zip vs.toList).foldl (fun t pv=>t.setIfInBounds pv.1 pv.2) tmps:=by
  rw [<-Array.foldl_toList,Array.toList_zip]
 have c0:CR P ρ ⟨sl,L.n,[],h⟩ B { tmps:=(L.ps.toArray.zip vs).foldl (fun t (p,v)=>t.setIfInBounds p v) tmps,defers:=[] } w:=⟨s0,hg,by rw [hfold];exact p1,(fun d hd=>by cases hd),rfl⟩
 have w1:=F6 hE hR hD fu (ro:=some c) L.asg _ _ _ h1 ρ w _ c0 fun l hl=>by cases hl;exact hc
 refine wpIn_mono w1 ?_
 rintro e' a1 wa ⟨rfl,ρ1,q1,c1,hn1⟩
 obtain ⟨fn1,tmps1,hl1,hok1,hsl1⟩:=c1.sr.holds hL1
 have hc1:(ρ1 c).1=(ρ c).1:=by rw [q1.same c hc]
 have hbeg:=run_beginRound (P:=P) (l:=(ρ c).1) (w:=wa) (by rw [<-hc1];exact hl1) hst
 refine ⟨_,hbeg,?_⟩
 have hlt1:=(Array.getElem?_eq_some_iff.1 hl1).1
 have pb:=c1.sr.put hb1 hL1 (fun _ _ _ g=>by cases g) rfl (w':=wa.putObj (ρ1 c).1 (.loop { state:=.busy,pending:=L1.pe,fn:=fn1,tmps:=tmps1,params:=L1.ps.toArray,assign:=L1.asg,body:=L1.bd,defers:=(ρ1 L1.d).1 })) (by simp) ⟨rfl,rfl,rfl⟩ (fun g hg=>World.putObj_heap_other hg) ⟨fn1,tmps1,World.putObj_heap_same hlt1,hok1,hsl1⟩
 rw [hc1] at pb
 have cb:CR P ρ1 ⟨s1.sl,L.n,[],hb⟩ B a1 (wa.putObj (ρ c).1 (.loop { state:=.busy,pending:=L1.pe,fn:=fn1,tmps:=tmps1,params:=L1.ps.toArray,assign:=L1.asg,body:=L1.bd,defers:=(ρ1 L1.d).1 })):=by
  refine ⟨pb.sr,c1.gl.post pb,?_,(fun d hd=>by cases hd),?_⟩
  ·have:=c1.sl.ext pb.ext
   rw [hn1] at this
   exact this
  ·rw [c1.ds,hd1]
 have w2:=F6 hE hR hD fu (ro:=some c) L.bd _ _ _ h2 ρ1 _ a1 cb fun l hl=>by cases hl;exact Nat.lt_of_lt_of_le hc (q1.trans pb).le.nx
 have hro:roA ρ1 (some c)=some (ρ c).1:=by simp [roA,hc1]
 rw [hro] at w2
 refine wpIn_mono w2 ?_
 rintro e' a2 wb ⟨rfl,ρ2,q2,c2,hn2⟩
 obtain ⟨fn2,tmps2,hl2,hok2,hsl2⟩:=c2.sr.holds hL2
 have hc2:(ρ2 c).1=(ρ c).1:=by rw [q2.same c (Nat.lt_of_lt_of_le hc (q1.trans pb).le.nx),hc1]
 have hlt2:=(Array.getElem?_eq_some_iff.1 hl2).1
 have fin:∃ v w',(Instr.endRound (ρ c).1 j).run P wb=.ok v w'/\∃ v' ρ',Ending.returned v=.returned v'/\D5 ρ h h' B w w' ρ'/\RC (okH h') ρ' (.v (.bool j.isNone)) v':=by
  have hend:=run_endRound (P:=P) (l:=(ρ c).1) (w:=wb) j (by rw [<-hc2];exact hl2)
  have pe:=c2.sr.put he hL2 (fun _ _ _ g=>by cases g) rfl (w':=wb.putObj (ρ2 c).1 (.loop { state:=if j.isNone then .ready else .done,pending:=j,fn:=fn2,tmps:=tmps2,params:=L2.ps.toArray,assign:=L2.asg,body:=L2.bd,defers:=(ρ2 L2.d).1 })) (by simp) ⟨rfl,rfl,rfl⟩ (fun g hg=>World.putObj_heap_other hg) ⟨fn2,tmps2,World.putObj_heap_same hlt2,hok2,hsl2⟩
  rw [hc2] at pe
  exact ⟨_,_,hend,_,ρ2,rfl,q1.trans (pb.trans (q2.trans pe)),RC.bool⟩
 cases e with
 | normal=>subst hj;exact fin
 | ret=>subst hj;exact fin
 | exit id=>subst hj;exact fin
theorem As4 {sl:Bg} {n:Nat} (s0:SR ρ h B w) {tmps:Array Value} (hs:SlR (okH h) ρ sl n tmps):∀ (rs:List ResultVar) (l:List CV),rs.mapM (Bv4 P sl h)=some l->∃ vs:List Value,(rs.mapM (Vi tmps)).run P w=.ok vs w/\vs.length=l.length/\∀ (j:Nat) x u,l[j]? = some x->vs[j]? = some u->RC (okH h) ρ x u
 | [],l,e=>by
  simp at e;subst e
  exact ⟨[],rfl,rfl,fun j x u a=>by simp at a⟩
 | r :: rs,l,e=>by
  simp only [List.mapM_cons,Option.bind_eq_bind,Option.bind_eq_some_iff,Option.pure_def,Option.some.injEq] at e
  obtain ⟨x,hx,l',hl,rfl⟩:=e
  obtain ⟨vs,h1,h2,h3⟩:=As4 s0 hs rs l' hl
  have hone:∃ v,(Vi tmps r).run P w=.ok v w/\RC (okH h) ρ x v:=by
   cases r with
   | tmp t =>
    have hv:=hs.2 t
    have hx:sl.get t=some x:=hx
    rw [hx] at hv
    exact ⟨tmps.getD t undef,rfl,hv⟩
   | cell d t =>
    simp only [Bv4] at hx
    split at hx
    ·rename_i q n' c o ht hd
     simp only [Option.bind_eq_some_iff] at hx
     obtain ⟨l0,hl0,hx⟩:=hx
     have hv:=hs.2 d
     rw [hd] at hv
     obtain ⟨v,r1,r2⟩:=B83 (P:=P) s0 ht hl0 hx
     have hpv:=(show RC (okH h) ρ (.p c o) (tmps.getD d undef) from hv).p_inv.1
     have r1':(loadVar t ⟨(ρ c).1,o,none⟩).run P w=.ok v w:=by simpa [Instr.loadAt,Instr.sureAddr] using r1
     refine ⟨v,?_,r2⟩
     simp [Vi,hpv,asAddr,r1']
    ·cases hx
  obtain ⟨v,r1,r2⟩:=hone
  refine ⟨v :: vs,by simp [List.mapM_cons,r1,h1],by simp [h2],fun j y u a b=>?_⟩
  cases j with
  | zero=>simp at a b;subst a b;exact r2
  | succ j=>exact h3 j y u (by simpa using a) (by simpa using b)
theorem Ag4 {ok:Nat->Prop} : ∀ (l:List CV) (i:Nat) (sl:Bg) (t:Nat),(X8 i l sl).get t=if i<=t/\t < i+l.length then l[t - i]? else sl.get t
 | [],i,sl,t=>by simp [X8];omega
 | x :: l,i,sl,t=>by
  rw [X8,Ag4 (ok:=ok) l (i+1),TR.get_set]
  by_cases h1:t=i
  ·subst h1
   rw [if_neg (by omega),if_pos rfl,if_pos (by simp)]
   simp
  ·by_cases h2:i+1<=t/\t < i+1+l.length
   ·rw [if_pos h2,if_pos (by simp;omega),show t - i=(t - (i+1))+1 by omega]
    simp
   ·rw [if_neg h2,if_neg h1,if_neg (by simp;omega)]
theorem A80 {fn:Func} {tmps:Array Value} {R:Ending->World->Prop} : ∀ (ds:List Nat) (h h':GH) (ρ:Nat->Nat×Nat) (w:World),A81 ds h=some h'->SR ρ h B w->(∀ w',D5 ρ h h' B w w' ρ->LeavesInM (FW none) 0 P fn tmps R [] .returning w')->LeavesInM (FW none) 0 P fn tmps R (Fq (ds.map fun d=>(ρ d).1)) .returning w
 | [],h,h',ρ,w,e,s,hq=>by cases e;exact hq w (D5.refl s)
 | d :: ds,h,h',ρ,w,e,s,hq=>by
  simp only [A81] at e
  split at e
  ·rename_i hd
   simp only [Option.bind_eq_some_iff] at e
   obtain ⟨h1,hp,e⟩:=e
   have hw:w.heap[(ρ d).1]? = some (.deferred (some [])):=s.holds hd
   have p1:=s.put hp hd (fun _ _ _ g=>by cases g) rfl (w':=w.putObj (ρ d).1 (.deferred none)) (by simp) ⟨rfl,rfl,rfl⟩ (fun g hg=>World.putObj_heap_other hg) trivial
   exact ⟨by simp,.inl ⟨(ρ d).1,_,rfl,run_takeDeferred hw,A80 ds h1 h' ρ _ e p1.sr fun w' p2=>hq w' (p1.trans p2)⟩⟩
  ·cases e
def Bg0 (P:Program) (gw:FuncId) (l:List CV) (h:GH) (x:CV) (h':GH):Prop:=∀ (ρ:Nat->Nat×Nat) (B:Nat) (w:World) (vs:Array Value),SR ρ h B w->Ki P ρ h->RCL (okH h) ρ l vs ->
 (∀ (w:World),(callFunc gw vs).run P w=.ok (.enter gw vs) w)/\Calls P gw vs w fun e w'=>∃ v ρ',e=.returned v/\D5 ρ h h' B w w' ρ'/\RC (okH h') ρ' x v
def Bn4 (P:Program) (sp:Sp):Prop:=∀ f g,sp f=some g->∀ l h x h',g h l=some (x,h')->Bg0 P f l h x h'
def C19 (P:Program) (gw:Nat):Prop:=∀ l h x h',At5 h l=some (x,h')->Bg0 P gw l h x h'
theorem Bd9 (hE : Mo P eqT) (hR : Ke P rec) (hD : Xa P eqT rec) (fu : Nat) {f : FuncId} {fn : Func} {c : Code} {l : List CV} {vs : Array Value} {e : Ex} {x : CV} (hf : P.funcs[f]? = some fn) (hb : fn.body = some c) (hname : (fn.name == "runtime.NumGoroutine") = false) (hal : l.length <= fn.ntmps)
  (s0:SR ρ h B w) (hg:Ki P ρ h) (hvs:RCL (okH h) ρ l vs) (hc:Gs P eqT rec fu none c ⟨X8 0 l .lf,fn.ntmps,[],h⟩=some (e,s)) (he:∀ id,e≠.exit id) (hsh:A81 s.ds s.h=some h') (hr:Bv3 P s.sl h' fn.results.toList=some x) :
  (∀ (w:World),(callFunc f vs).run P w=.ok (.enter f vs) w)/\Calls P f vs w fun e w'=>∃ v ρ',e=.returned v/\D5 ρ h h' B w w' ρ'/\RC (okH h') ρ' x v:=by
 have hname' : ¬ fn.name = "runtime.NumGoroutine" := by simpa using hname
 refine ⟨fun w=>by simp [callFunc,program,Sem.run,hf,hname',hb],?_⟩
 have hsz:=hvs.1
 have c0:CR P ρ ⟨X8 0 l .lf,fn.ntmps,[],h⟩ B { tmps:=vs++Array.replicate (fn.ntmps - vs.size) undef,defers:=[] } w:=by
  refine ⟨s0,hg,⟨by simp;omega,fun i=>?_⟩,(fun d hd=>by cases hd),rfl⟩
  rw [Ag4 (ok:=okH h)]
  simp only [Nat.zero_le,true_and,Nat.zero_add,Nat.sub_zero]
  by_cases hi:i < l.length
  ·rw [if_pos hi,List.getElem?_eq_getElem hi]
   have hv:vs[i]? = some (vs[i]'(by omega)):=Array.getElem?_eq_getElem _
   rw [Array.getD_eq_getD_getElem?,Array.getElem?_append_left (by omega),hv]
   exact hvs.2 i _ _ (List.getElem?_eq_getElem hi) hv
  ·rw [if_neg hi]
   show RC _ _ (.v undef) _
   rw [Array.getD_eq_getD_getElem?,Array.getElem?_append_right (by omega),Array.getElem?_replicate]
   split<;>exact RC.undef
 refine (callsIn_wide (n:=0)).1 (callsIn_of_wp_marks (F:=FW none) hf hb trivial (wpIn_mono (F6 hE hR hD fu (ro:=none) c _ _ _ hc ρ w _ c0 fun l hl=>by cases hl) ?_) rfl)
 rintro e' a' w2 ⟨rfl,ρ',p1,c1,hn⟩
 have hend:LeavesInM (FW none) 0 P fn a'.tmps (fun e w'=>∃ v ρ',e=.returned v/\D5 ρ h h' B w w' ρ'/\RC (okH h') ρ' x v) a'.defers .returning w2:=by
  rw [c1.ds]
  refine A80 (B:=B) s.ds s.h h' ρ' w2 hsh c1.sr fun w3 p2=>?_
  have hsl:=c1.sl.ext p2.ext
  unfold Bv3 at hr
  simp only [Option.map_eq_some_iff] at hr
  obtain ⟨rl,hrl,hx⟩:=hr
  obtain ⟨us,r1,r2,r3⟩:=As4 p2.sr hsl _ _ hrl
  have hmap:(fn.results.mapM (Vi a'.tmps)).run P w3=.ok us.toArray w3:=by
   rw [Array.mapM_eq_mapM_toList]
   simp [r1]
  have hfun:results fn a'.tmps=(fn.results.mapM (Vi a'.tmps) >>= fun vs=>pure (if h:vs.size=1 then vs[0] else .tuple vs)):=by
   unfold results
   congr 1
  have hres:(results fn a'.tmps).run P w3=.ok (if h:us.toArray.size=1 then us.toArray[0] else .tuple us.toArray) w3:=by
   rw [hfun,Sem.run_bind,hmap]
   rfl
  refine ⟨_,hres,_,ρ',rfl,p1.trans p2,?_⟩
  match rl,us,r2,r3,hx with
  | [y],[u],_,r3,hx =>
   have hx:y=x:=hx
   subst hx
   exact r3 0 y u rfl rfl
  | [],[],_,_,hx =>
   have hx:CV.t []=x:=hx
   subst hx
   exact .t rfl fun j x u a=>by simp at a
  | y :: y' :: r,u :: u' :: us,r2,r3,hx =>
   have hx:CV.t (y :: y' :: r)=x:=hx
   subst hx
   have:¬ (u :: u' :: us).toArray.size=1:=by simp
   rw [dif_neg this]
   exact .t (by simpa using r2) fun j x w a b=>r3 j x w a (by simpa using b)
 cases e with
 | exit id=>exact absurd rfl (he id)
 | normal=>exact hend
 | ret=>exact hend
theorem As3 {sp:Sp} (hE:Mo P eqT) (hG:Bn4 P sp) (hD:∀ rec,Ke P rec->Xa P eqT rec):∀ fu,Ke P (Vb P eqT sp fu)
 | 0=>⟨(fun f l h x h' e=>by cases e),(fun c l h x h' e=>by cases e)⟩
 | fu+1=>by
  have hR:=As3 hE hG hD fu
  constructor
  ·intro f l h x h' e ρ B w vs s0 hg hvs
   simp only [Vb] at e
   cases hq:sp f with
   | some g =>
    rw [hq] at e
    exact hG f g hq l h x h' e ρ B w vs s0 hg hvs
   | none =>
    rw [hq] at e
    simp only at e
    split at e
    case h_2=>cases e
    rename_i fn hf
    split at e
    case h_2=>cases e
    rename_i c hb
    cases hn : (fn.name == "runtime.NumGoroutine" || Nat.blt fn.ntmps l.length) with
    | true=>rw [hn] at e;cases e
    | false =>
     rw [hn] at e
     simp only [Bool.or_eq_false_iff] at hn
     simp only [cond_false] at e
     have hal:l.length<=fn.ntmps:=by
      rcases Nat.lt_or_ge fn.ntmps l.length with g | g
      ·rw [Bk.2 g] at hn;cases hn.2
      ·exact g
     split at e
     ·cases e
     ·rename_i e1 s1 hne hc
      split at e
      ·rename_i h2 hsh
       simp only [Option.map_eq_some_iff] at e
       obtain ⟨y,hr,e⟩:=e
       cases e
       exact Bd9 hE hR (hD _ hR) fu hf hb hn.1 hal s0 hg hvs hc (fun id g=>hne id g) hsh hr
      ·cases e
     ·cases e
  ·intro c l h x h' e ρ B w vs s0 hg hok hvs
   simp only [Vb] at e
   split at e
   case h_2=>cases e
   rename_i L hL
   split at e
   case h_2=>cases e
   rename_i sl hsl
   cases hst:(L.st==.ready) with
   | false=>rw [hst] at e;cases e
   | true =>
    rw [hst] at e
    simp only [cond_true] at e
    split at e
    case h_2=>cases e
    rename_i s1 h1
    split at e
    case h_2=>cases e
    rename_i L1 hd1 hL1
    split at e
    case h_2=>cases e
    rename_i hb hb1
    split at e
    case h_2=>cases e
    rename_i e2 s2 h2
    split at e
    case h_2=>cases e
    rename_i L2 hd2 hL2
    simp only [Option.map_eq_some_iff] at e
    obtain ⟨h3,he,e⟩:=e
    cases e
    cases hs1:(L1.st==.ready) with
    | false=>rw [hs1] at hb1;cases hb1
    | true =>
     rw [hs1] at hb1
     simp only [cond_true] at hb1
     have hst1:L1.st=.ready:=by cases hq:L1.st<;>rw [hq] at hs1<;>first | rfl | cases hs1
     cases e2<;>exact Ax8 (x:=.u) hE hR (hD _ hR) fu s0 hg hvs hL hsl h1 hd1 hL1 hst1 hb1 h2 hd2 hL2 rfl he
end
theorem Ae3 {acc:List Nat} {j:Nat} : ∀ (ds:List Nat) (s:Nat),s.testBit j=true\/(∃ d∈ds,j=d\/(acc.getD d 0).testBit j=true)->(ds.foldl (fun s d=>s|||2 ^ d|||acc.getD d 0) s).testBit j=true
 | [],s,h=>h.elim id fun ⟨_,h,_⟩=>by cases h
 | d :: ds,s,h=>by
  refine Ae3 ds _ ?_
  rcases h with h | ⟨d',h1,h2⟩
  ·exact .inl (by simp [Nat.testBit_or,h])
  ·rcases List.mem_cons.1 h1 with rfl | h1
   ·refine .inl ?_
    rcases h2 with rfl | h2
    ·simp [Nat.testBit_or,Nat.testBit_two_pow]
    ·rw [Nat.testBit_or,h2,Bool.or_true]
   ·exact .inr ⟨d',h1,h2⟩
theorem Bf1:∀ (r:List (List Nat)) (acc:List Nat) (i j d:Nat),d∈r.getD i []->d < acc.length+i->(j=d\/((bef acc r).getD d 0).testBit j=true)->((bef acc r).getD (acc.length+i) 0).testBit j=true
 | [],acc,i,j,d,h,_,_=>by simp at h
 | ds :: r,acc,0,j,d,h,hd,hj=>by
  simp only [bef,Nat.add_zero] at hd hj ⊢
  rw [Ru r _ acc.length (by simp)]
  simp only [List.getD_eq_getElem?_getD,List.getElem?_append_right (Nat.le_refl _),Nat.sub_self,List.getElem?_cons_zero,Option.getD_some]
  refine Ae3 _ _ (.inr ⟨d,by simpa using h,hj.elim Or.inl fun hj=>.inr ?_⟩)
  rw [Ru r _ d (by simp;omega)] at hj
  simpa [List.getD_eq_getElem?_getD,List.getElem?_append_left hd] using hj
 | ds :: r,acc,i+1,j,d,h,hd,hj=>by
  have h':=Bf1 r (acc++[ds.foldl (fun s d=>s|||2 ^ d|||acc.getD d 0) 0]) i j d (by simpa using h) (by simp;omega) (by simpa [bef] using hj)
  simp only [bef]
  simpa [Nat.add_assoc,Nat.add_comm 1 i] using h'
section
variable {ops : List Oper}
def ahd (ops:List Oper) (i j:Nat):Prop:=((bef [] (ops.map Cd)).getD i 0).testBit j=true
theorem Kd (hlt:∀ (i:Nat) o,ops[i]? = some o->∀ d∈Cd o,d < i) {i j:Nat} (hi:i < ops.length) (h:ahd ops i j):j < i:=(Nt (S:=fun _=>true) hlt (fun _ _ _ _ _ _=>rfl) i hi (fun _ _ _ _=>rfl) j h).2
theorem B30 (hlt:∀ (i:Nat) o,ops[i]? = some o->∀ d∈Cd o,d < i):∀ (i:Nat),i < ops.length->∀ k j,ahd ops i k->ahd ops k j->ahd ops i j:=by
 intro i
 induction i using Nat.strongRecOn with
 | _ i ih =>
  intro hi k j hk hj
  have ho:ops[i]? = some ops[i]:=List.getElem?_eq_getElem hi
  have hr:(ops.map Cd).getD i []=Cd ops[i]:=by rw [List.getD_eq_getElem?_getD,List.getElem?_map,ho];rfl
  obtain ⟨d,h1,h2⟩:=Aq4 (ops.map Cd) [] i k (by rw [List.length_nil,Nat.zero_add];exact hk) (by simpa using hi) (fun d hdm=>by
   rw [hr] at hdm
   simpa using hlt i _ ho d hdm)
  have hdi:=hlt i _ ho d (by rw [hr] at h1;exact h1)
  have:=Bf1 (ops.map Cd) [] i j d h1 (by simpa using hdi) (by
   rcases h2 with rfl | h2
   ·exact .inr hj
   ·exact .inr (ih d hdi (by omega) k j h2 hj))
  rw [List.length_nil,Nat.zero_add] at this
  exact this
end
section
variable {P : Program} {eqT : Nat -> Bool} {rec : Lt -> GH -> Option (CV × GH)} {L L' : Operand -> CV} {h : GH}
theorem Si {l:List Operand} (e:∀ y∈l,L y=L' y):l.map L=l.map L':=List.map_congr_left e
theorem Az3 {o:Oper} (e:∀ y∈o.op.operands.toList,L y=L' y):opC P eqT rec L h o=opC P eqT rec L' h o:=by
 obtain ⟨dst,op,ty,pos,after,gd⟩:=o
 unfold opC
 cases op with
 | build t ps =>
  have:(ps.toList.map fun p=>(p.1,L p.2))=ps.toList.map fun p=>(p.1,L' p.2):=List.map_congr_left fun p hp=>by rw [e p.2 (by simp only [Op.operands];exact List.mem_map.2 ⟨p,hp,rfl⟩)]
  simp only [opD,this]
 | buildSlice t n ps =>
  have:(ps.toList.map fun p=>(p.1,L p.2))=ps.toList.map fun p=>(p.1,L' p.2):=List.map_congr_left fun p hp=>by rw [e p.2 (by simp only [Op.operands];exact List.mem_map.2 ⟨p,hp,rfl⟩)]
  simp only [opD,this]
 | makeFunc fn first caps =>
  have:caps.toList.map L=caps.toList.map L':=Si fun y hy=>e y (by simp only [Op.operands,Array.toList_append,List.mem_append];exact .inr hy)
  simp only [opD,this]
 | makeMap t r =>
  cases r with
  | none=>rfl
  | some y=>simp only [opD,Option.map_some,e y (by simp [Op.operands])]
 | slice t x lo hi mx =>
  have h1:=e x (by simp [Op.operands])
  have h2:lo.map L=lo.map L':=by cases lo with | none=>rfl | some y=>simp only [Option.map_some,e y (by simp [Op.operands])]
  have h3:hi.map L=hi.map L':=by cases hi with | none=>rfl | some y=>simp only [Option.map_some,e y (by simp [Op.operands])]
  have h4:mx.map L=mx.map L':=by cases mx with | none=>rfl | some y=>simp only [Option.map_some,e y (by simp [Op.operands])]
  simp only [opD,h1,h2,h3,h4]
 | call c =>
  obtain ⟨callee,args,ats⟩:=c
  cases callee with
  | value f =>
   have h1:=e f (by simp [Op.operands,Call.operands])
   have h2:args.toList.map L=args.toList.map L':=Si fun y hy=>e y (by simp only [Op.operands,Call.operands];simp at hy ⊢;try (exact .inr hy))
   simp only [opD,B38,h1,h2]
  | invoke r m=>rfl
  | builtin b =>
   have h2:args.toList.map L=args.toList.map L':=Si fun y hy=>e y (by simp only [Op.operands,Call.operands];simp at hy ⊢;try (exact hy))
   simp only [opD,B38,h2]
 | _=>first | rfl | (simp only [Op.operands,List.mem_cons,List.not_mem_nil,or_false,forall_eq_or_imp,forall_eq] at e;simp only [opD,e])
end
def dn (f:Nat->Nat):Nat->List Nat
 | 0=>[]
 | j+1=>f j :: dn f j
theorem Ap8 (f:Nat->Nat):∀ (i j:Nat),j < i->(dn f i).getD (i - 1 - j) 0=f j
 | 0,j,h=>by omega
 | i+1,j,h=>by
  by_cases hj:j=i
  ·subst hj;simp [dn]
  ·have:=Ap8 f i j (by omega)
   rw [show i+1 - 1 - j=(i - 1 - j)+1 by omega]
   simpa [dn] using this
theorem Nq {f g:Nat->Nat} : ∀ (i:Nat),(∀ j,j < i->f j=g j)->dn f i=dn g i
 | 0,_=>rfl
 | i+1,h=>by simp only [dn];rw [h i (by omega),Nq i fun j hj=>h j (by omega)]
theorem Pz (a b:List (Nat×Nat)) (c:Nat):Df (a++b) c=(Df a c || Df b c):=by
 induction a with
 | nil=>rfl
 | cons p a ih=>simp only [List.cons_append,Df,ih,Bool.or_assoc]
theorem Rn (a:Nat) (f:Nat->Nat) (c:Nat):∀ (j:Nat),Df (Ql a (dn f j) (j - 1) (f j)) c=true↔∃ k,k < j/\a.testBit k=false/\f k<=c/\c < f (k+1)
 | 0=>by simp [dn,Ql,Df]
 | j+1=>by
  have ih:=Rn a f c j
  have split:(∃ k,k < j+1/\a.testBit k=false/\f k<=c/\c < f (k+1))↔(a.testBit j=false/\f j<=c/\c < f (j+1))\/∃ k,k < j/\a.testBit k=false/\f k<=c/\c < f (k+1) :=
   ⟨fun ⟨k,h1,h2⟩=>by
    by_cases hk:k=j
    ·subst hk;exact .inl h2
    ·exact .inr ⟨k,by omega,h2⟩,fun h=>h.elim (fun h=>⟨j,by omega,h⟩) fun ⟨k,h1,h2⟩=>⟨k,by omega,h2⟩⟩
  rw [split,<-ih]
  simp only [dn,Nat.add_sub_cancel,Ql]
  cases hb:(Nat.beq (f j) (f (j+1)) || a.testBit j) with
  | true =>
   simp only [cond_true]
   rw [Bool.or_eq_true] at hb
   refine ⟨.inr,fun h=>h.elim (fun ⟨h1,h2,h3⟩=>?_) id⟩
   rcases hb with hb | hb
   ·have:=Nat.eq_of_beq_eq_true hb;omega
   ·rw [h1] at hb;cases hb
  | false =>
   simp only [cond_false,Df,Bool.or_eq_true,Bool.and_eq_true]
   rw [Bool.or_eq_false_iff] at hb
   refine or_congr ⟨fun ⟨h1,h2⟩=>⟨hb.2,Nat.le_of_ble_eq_true h1,Bk.1 h2⟩,fun ⟨_,h1,h2⟩=>⟨Nat.ble_eq_true_of_le h1,Bk.2 h2⟩⟩ Iff.rfl
section
variable {P : Program} {eqT : Nat -> Bool} {rec : Lt -> GH -> Option (CV × GH)} {ops : List Oper} {n : Nat}
structure Bf7 (P:Program) (eqT:Nat->Bool) (rec:Lt->GH->Option (CV×GH)) (ops:List Oper) (n:Nat) (d:DI) (i:Nat) (H:Nat->GH) (Sl:Nat->Bg) (X:Nat->CV) (W:Nat->Bool) (bk:Nat->Nat):Prop where
 want:Qp ops (Sl i) d.o=some (W i)
 put:Vm (Sl i) n d.o.dst (X i)=some (Sl (i+1))
 blk:W i=true->bk i=Mk (evC P (Sl i)) d.o
 no:W i=false->X i=.v undef/\H (i+1)=H i
 yes:W i=true->B20 P eqT rec d i (dn (fun j=>(H j).nx) i) (dn bk i) (Sl i) (H i)=some (X i,H (i+1))
theorem Bo5:∀ (l:List DI) (i:Nat) (H0:Nat->GH) (Sl0:Nat->Bg) (X0:Nat->CV) (W0:Nat->Bool) (bk0:Nat->Nat) (sl':Bg) (h':GH),
  drC P eqT rec ops n l i (dn (fun j=>(H0 j).nx) i) (dn bk0 i) (Sl0 i) (H0 i)=some (sl',h') ->
  ∃ H Sl X W bk,(∀ j,j<=i->H j=H0 j/\Sl j=Sl0 j)/\(∀ j,j < i->X j=X0 j/\W j=W0 j/\bk j=bk0 j)/\H (i+l.length)=h'/\Sl (i+l.length)=sl'/\∀ j d,l[j]? = some d->Bf7 P eqT rec ops n d (i+j) H Sl X W bk
 | [],i,H0,Sl0,X0,W0,bk0,sl',h',e=>by
  cases e
  exact ⟨H0,Sl0,X0,W0,bk0,fun _ _=>⟨rfl,rfl⟩,fun _ _=>⟨rfl,rfl,rfl⟩,rfl,rfl,fun j d h=>by simp at h⟩
 | d :: l,i,H0,Sl0,X0,W0,bk0,sl',h',e=>by
  have e:Bz7 P eqT rec ops n d (drC P eqT rec ops n l) i (dn (fun j=>(H0 j).nx) i) (dn bk0 i) (Sl0 i) (H0 i)=some (sl',h'):=e
  have key:∀ (x:CV) (wt:Bool) (b:Nat) (sl1:Bg) (h1:GH),Qp ops (Sl0 i) d.o=some wt->Vm (Sl0 i) n d.o.dst x=some sl1->(wt=true->b=Mk (evC P (Sl0 i)) d.o)->(wt=false->x=.v undef/\h1=H0 i) ->
    (wt=true->B20 P eqT rec d i (dn (fun j=>(H0 j).nx) i) (dn bk0 i) (Sl0 i) (H0 i)=some (x,h1))->drC P eqT rec ops n l (i+1) ((H0 i).nx :: dn (fun j=>(H0 j).nx) i) (b :: dn bk0 i) sl1 h1=some (sl',h') ->
    ∃ H Sl X W bk,(∀ j,j<=i->H j=H0 j/\Sl j=Sl0 j)/\(∀ j,j < i->X j=X0 j/\W j=W0 j/\bk j=bk0 j)/\H (i+(d :: l).length)=h'/\Sl (i+(d :: l).length)=sl'/\∀ j d',(d :: l)[j]? = some d'->Bf7 P eqT rec ops n d' (i+j) H Sl X W bk:=by
   intro x wt b sl1 h1 hw hp hb hno hyes hrest
   obtain ⟨H,Sl,X,W,bk,g1,g2,g3,g4,g5⟩:=Bo5 l (i+1) (fun j=>if j<=i then H0 j else h1) (fun j=>if j<=i then Sl0 j else sl1) (fun j=>if j < i then X0 j else x) (fun j=>if j < i then W0 j else wt) (fun j=>if j < i then bk0 j else b) sl' h' (by
    have e1:dn (fun j=>(if j<=i then H0 j else h1).nx) (i+1)=(H0 i).nx :: dn (fun j=>(H0 j).nx) i:=by
     simp only [dn,Nat.le_refl,if_true]
     rw [Nq (g:=fun j=>(H0 j).nx) i fun j hj=>by rw [if_pos (by omega)]]
    have e2:dn (fun j=>if j < i then bk0 j else b) (i+1)=b :: dn bk0 i:=by
     simp only [dn,Nat.lt_irrefl,if_false]
     rw [Nq (g:=bk0) i fun j hj=>by rw [if_pos hj]]
    rw [e1,e2,if_neg (by omega),if_neg (by omega)]
    exact hrest)
   have gi:=g1 i (by omega)
   have gi1:=g1 (i+1) (by omega)
   have gx:=g2 i (by omega)
   simp only [Nat.le_refl,if_true,Nat.lt_irrefl,if_false,show ¬ i+1<=i by omega] at gi gi1 gx
   refine ⟨H,Sl,X,W,bk,fun j hj=>?_,fun j hj=>?_,by rw [List.length_cons,<-g3];congr 1;omega,by rw [List.length_cons,<-g4];congr 1;omega,fun j d' hd=>?_⟩
   ·have:=g1 j (by omega);simpa [hj] using this
   ·have:=g2 j (by omega);simpa [hj] using this
   ·cases j with
    | zero =>
     have hd:d=d':=by simpa using hd
     subst hd
     have e1:dn (fun j=>(H j).nx) i=dn (fun j=>(H0 j).nx) i:=Nq i fun j hj=>by
      have:=(g1 j (by omega)).1
      rw [this,if_pos (by omega)]
     have e2:dn bk i=dn bk0 i:=Nq i fun j hj=>by
      have:=(g2 j (by omega)).2.2
      rw [this,if_pos hj]
     refine ⟨?_,?_,?_,?_,?_⟩<;>simp only [Nat.add_zero,e1,e2,gi.1,gi.2,gi1.1,gi1.2,gx.1,gx.2.1,gx.2.2]
     ·exact hw
     ·exact hp
     ·exact hb
     ·exact hno
     ·exact hyes
    | succ j =>
     have:=g5 j d' (by simpa using hd)
     rwa [show i+1+j=i+(j+1) by omega] at this
  unfold Bz7 at e
  split at e
  ·rename_i hw
   split at e
   ·rename_i x h1 hdo
    split at e
    ·rename_i sl1 hp
     exact key x true _ sl1 h1 hw hp (fun _=>rfl) (fun h=>by cases h) (fun _=>hdo) e
    ·cases e
   ·cases e
  ·rename_i hw
   split at e
   ·rename_i sl1 hp
    exact key _ false 0 sl1 _ hw hp (fun h=>by cases h) (fun _=>⟨rfl,rfl⟩) (fun h=>by cases h) e
   ·cases e
  ·cases e
theorem Bg8 {ok:Nat->Prop} {ρ:Nat->Nat×Nat} {sl:Bg} {a:Act} {o:Oper} {b:Bool} (hs:∀ j b' d,o.guard=some (j,b')->(ops[j]?).bind (·.dst)=some d->RC ok ρ ((sl.get d).getD (.v undef)) (a.tmps.getD d undef)) (e:Qp ops sl o=some b):Region.wanted o (yielded ops.toArray a.tmps)=b:=by
 unfold Region.wanted
 unfold Qp at e
 cases hg:o.guard with
 | none=>rw [hg] at e;cases e;rfl
 | some g =>
  obtain ⟨j,want⟩:=g
  rw [hg] at e
  have e:Wd ops sl j want=some b:=e
  unfold Wd at e
  split at e
  case h_2=>cases e
  rename_i d hd
  obtain ⟨o',ho',hd'⟩:=Option.bind_eq_some_iff.1 hd
  have hv:=hs j want d hg hd
  have hy:∀ u,a.tmps.getD d undef=u->u≠undef->a.tmps[d]? = some u:=fun u hu hne=>by
   rw [Array.getD_eq_getD_getElem?] at hu
   cases hdd:a.tmps[d]? with
   | none=>rw [hdd] at hu;exact absurd hu.symm hne
   | some y=>rw [hdd] at hu;simp at hu;rw [hu]
  split at e
  ·rename_i x hx
   cases e
   rw [hx] at hv
   have h1:=hy _ hv.v_inv (by intro h;cases h)
   simp [yielded,ho',hd',h1]
  ·rename_i t hx
   cases e
   rw [hx] at hv
   have h1:a.tmps.getD d undef=.tuple t:=hv.v_inv
   rw [Array.getD_eq_getD_getElem?] at h1
   cases hdd:a.tmps[d]? with
   | none=>simp [yielded,ho',hd',hdd]
   | some y=>rw [hdd] at h1;simp at h1;simp [yielded,ho',hd',hdd,h1]
  ·cases e
theorem evD {ok:Nat->Prop} {ρ:Nat->Nat×Nat} {sl:Bg} {a:Act} {y:Operand} (hs:∀ t,y=.tmp t->RC ok ρ ((sl.get t).getD (.v undef)) (a.tmps.getD t undef)) (hg:∀ g,g < P.globals.size->ok g/\(ρ g).1=g):RC ok ρ (evC P sl y) (a.eval y):=by
 cases y with
 | tmp t =>
  have h1:evC P sl (.tmp t)=(sl.get t).getD (.v undef):=Cl3
  rw [h1]
  exact hs t rfl
 | const v=>exact RC.ofV v
 | global g =>
  show RC _ _ (bif Nat.blt g P.globals.size then CV.p g 0 else .u) (.pointer (some ⟨g,0,none⟩))
  cases hq:Nat.blt g P.globals.size with
  | false=>exact .u
  | true =>
   obtain ⟨h1,h2⟩:=hg g (Bk.1 hq)
   have:=RC.p (ρ:=ρ) (o:=0) h1
   rwa [h2] at this
 | func f=>exact .f rfl fun j x u a=>by simp at a
theorem Ai9 {ok:Nat->Prop} {ρ:Nat->Nat×Nat} {w:World} {c o:Nat} {l m l':List CV} {kin:List Nat} (hb:(GB.cs l kin false).holds ok ρ w (ρ c)) (hl':l'=l.take o++m++l.drop (o+m.length)) (ho:o+m.length<=l.length) {vs:List Value} (hm:RCs ok ρ m vs) :
  ∃ w1,(storeCells ⟨(ρ c).1,o,none⟩ vs).run P w=.ok () w1/\(GB.cs l' [] false).holds ok ρ w1 (ρ c)/\(w1.os=w.os/\w1.tape=w.tape/\w1.output=w.output)/\w.heap.size<=w1.heap.size/\∀ g,g≠(ρ c).1->w1.heap[g]? = w.heap[g]? := by
 obtain ⟨C,t,fr,h1,h2,h3,h4,h5⟩:=hb
 obtain rfl:=h2 rfl
 have hC:l.length<=C.toList.length:=by simpa using h3
 have hv:o+vs.length<=C.size:=by rw [<-hm.1];omega
 have hst:=run_storeCells_at (P:=P) (ρ c).1 o t vs 0 C w h1 (by simpa using hv) hm.one
 refine ⟨_,hst,?_,⟨rfl,rfl,rfl⟩,by simp,fun g hg=>setRow_other w _ g _ hg⟩
 obtain ⟨p1,p2⟩:=RCs.put (C:=C.toList) (fun j x u a b=>h5 j x u a (by rw [<-Array.getElem?_toList];exact b)) hm (show o<=l.length by omega) hC (by simpa using hv)
 simp only [Nat.add_zero]
 refine ⟨_,t,(0,0),setRow_heap w _ C _ t (0,0) h1,fun _=>rfl,?_,?_,?_⟩
 ·rw [hl'];simpa using p1
 ·simp only [List.size_toArray,List.length_append,List.length_take,List.length_drop,Array.length_toList];omega
 ·rw [hl']
  exact fun j x u a b=>p2 j x u a (by simpa using b)
theorem Aw8 {L:Operand->CV} {h h':GH} {o:Oper} {x:CV} (hk:Cs o=2) (hs:Ar8 h (Mk L o)=true) (e:opC P eqT rec L h o=some (x,h')) :
  ∃ c l l',Mk L o=c+1/\h.get c=some (.cs l [] false)/\h.fl<=c/\h'=⟨h.t.set c (.cs l' [] false),h.nx,h.fl,h.hid⟩/\x=.v undef/\(∃ y∈o.op.operands.toList,∃ off,L y=.p c off) /\
   ∀ (ok:Nat->Prop) (ρ:Nat->Nat×Nat) (w:World) (a:Act),(GB.cs l [] false).holds ok ρ w (ρ c)->(∀ y,y∈o.op.operands.toList->RC ok ρ (L y) (a.eval y)) ->
    ∃ w1,(execOp a.eval o).run P w=.ok .skip w1/\(GB.cs l' [] false).holds ok ρ w1 (ρ c)/\(w1.os=w.os/\w1.tape=w.tape/\w1.output=w.output)/\w.heap.size<=w1.heap.size/\∀ g,g≠(ρ c).1->w1.heap[g]? = w.heap[g]? := by
 obtain ⟨dst,op,ty,pos,after,gd⟩:=o
 unfold Cs at hk
 split at hk<;>try cases hk
 rename_i t y z ho
 simp only at ho
 subst ho
 have e:Un P t (L y) (L z) h=some (x,h'):=e
 unfold Un at e
 split at e
 ·rename_i c o hy
  split at e
  ·rename_i q n ht
   simp only [Option.bind_eq_some_iff] at e
   obtain ⟨l,hl,e⟩:=e
   obtain ⟨h1,e⟩:=Cw e
   simp only [Bool.and_eq_true,Option.bind_eq_some_iff,Option.map_eq_some_iff] at h1 e
   obtain ⟨l',hset,h2,hw,e⟩:=e
   cases e
   obtain ⟨p1,p2⟩:=H7 hset
   have hbk:Mk L ⟨dst,.store t y z,ty,pos,after,gd⟩=c+1:=by simp only [Mk,hy]
   obtain ⟨l0,kin,hc,hf,hq,rfl⟩:=GH.wr_some hw
   rw [hbk] at hs
   obtain ⟨kin',ro',hc'⟩:=GH.cells_some hl
   rw [hc] at hc'
   injection hc' with hc'
   injection hc' with q1 q2 q3
   subst q1
   have hkin:kin=[]:=by
    unfold Ar8 at hs
    rw [Nat.add_sub_cancel,hc] at hs
    cases kin with
    | nil=>rfl
    | cons=>cases hs
   subst hkin
   refine ⟨c,l0,l',hbk,hc,hf,rfl,rfl,⟨y,by simp [Op.operands],o,hy⟩,fun ok ρ w a hb hL=>?_⟩
   have hyv:=hL y (by simp [Op.operands])
   rw [hy] at hyv
   have hm:=(hL z (by simp [Op.operands])).cellsR h1.1
   have hn:=Nat.eq_of_beq_eq_true h1.2
   obtain ⟨w1,r1,r2⟩:=Ai9 (P:=P) hb p2 p1 hm
   obtain ⟨ha,hz⟩:=Cv (w:=w) ht
   have hsz:(a.eval z).cells.size=n:=by have:=hm.1;rw [hn] at this;simpa using this.symm
   refine ⟨w1,?_,r2⟩
   simp only [execOp,hyv.p_inv.1,Instr.storeAt,Instr.sureAddr,storeVar]
   simp [hz,hsz,r1]
  ·cases e
 ·cases e
theorem Ai1 {ro:Option Nat} {o:Oper} {a:Act} {w:World} {C:Prop} (h:o.wpIn (FW ro) 0 P a w (fun _ _=>C) (fun _ _ _=>False)):C:=by
 have h:=h.2
 have hroom:∀ k,(FW ro).room k:=fun k _ h=>by cases h
 have out:¬ LetsOut fun _ _ _=>False:=fun ⟨_,_,h⟩=>h
 generalize (o.semAt (FW ro).round a.eval).run P w=r at h
 cases r with
 | ok x w' =>
  cases x with
  | value v=>exact h
  | skip=>exact h
  | defer d=>exact h
  | enter f args =>
   obtain ⟨e,w'',fr,hr,_⟩:=h.2.2 [] (hroom _)
   cases e with
   | returned v=>exact hr
   | panicked ch=>exact hr.elim
   | outgrown=>exact (out hr).elim
  | row r args =>
   obtain ⟨v,w'',hr,_⟩:=h.2 (Frame.ofRow P r args .normal) [] (hroom _)
   exact hr
  | round l f tmps assign body =>
   obtain ⟨e,w'',hr,_⟩:=h.2.2 (Frame.round l f tmps assign body .normal) [] (hroom _)
   cases e with
   | returned v=>exact hr
   | panicked ch=>exact hr.elim
   | outgrown=>exact (out hr).elim
  | _=>exact h.elim
 | halt x w'=>cases x<;>exact h.elim
end
def Mq (ops:List Oper) (i j:Nat):Prop:=¬ ahd ops i j/\¬ ahd ops j i/\i≠j
theorem Mq.symm {ops:List Oper} {i j:Nat} (h:Mq ops i j):Mq ops j i:=⟨h.2.1,h.1,Ne.symm h.2.2⟩
structure DrF (ops:List Oper) (i:Nat) (d:DI):Prop where
 op:ops[i]? = some d.o
 an:∀ j,d.an.testBit j=true↔ahd ops i j
 cut:d.cut=true->∀ j,j < ops.length->¬ Mq ops i j
 cf:∀ j o',j < i->ops[j]? = some o'->Mq ops i j->(Cs d.o=1/\Cs o'=2\/Cs d.o=2/\Cs o'=1\/Cs d.o=2/\Cs o'=2)->j∈d.cf
 bad:d.bad=false->∀ j o',ops[j]? = some o'->Mq ops i j->¬ (Cs d.o=3/\Cs o'=2)/\¬ (Cs d.o=2/\Cs o'=3)
 slot:∀ t∈Bv9 d.o,∀ j,Br ops j=some t->i=j\/ahd ops i j\/ahd ops j i
 guard:∀ j b,d.o.guard=some (j,b)->ahd ops i j
theorem Wh {ops:List Oper} {i j:Nat} : (!(((bef [] (ops.map Cd)).getD i 0).testBit j || ((bef [] (ops.map Cd)).getD j 0).testBit i || i==j))=true↔Mq ops i j:=by
 unfold Mq ahd
 cases ((bef [] (ops.map Cd)).getD i 0).testBit j<;>cases ((bef [] (ops.map Cd)).getD j 0).testBit i<;>simp
theorem A38 {ops:List Oper} {l:List DI} (h:Wq ops=some l):(Rl ops.toArray=true/\(F7 ops).Nodup)/\l.length=ops.length/\∀ i d,l[i]? = some d->DrF ops i d:=by
 unfold Wq at h
 obtain ⟨hok,h⟩:=Cw h
 unfold Cq7 at hok
 simp only [Bool.and_eq_true,List.all_eq_true,List.mem_range] at hok
 obtain ⟨⟨h1,h2⟩,h3⟩:=hok
 obtain rfl:=Option.some.inj h
 refine ⟨⟨h1,M8 h2⟩,by simp,fun i d hd=>?_⟩
 rw [List.getElem?_map,Option.map_eq_some_iff] at hd
 obtain ⟨⟨o,i'⟩,hz,hd⟩:=hd
 rw [List.getElem?_zipIdx] at hz
 obtain ⟨o',ho,hz⟩:=Option.map_eq_some_iff.1 hz
 cases hz
 rw [Nat.zero_add] at hd
 have hi:=(List.getElem?_eq_some_iff.1 ho).1
 have h3:=h3 i hi
 rw [ho] at h3
 simp only [Bool.and_eq_true,List.all_eq_true,List.mem_range] at h3
 obtain ⟨h4,h5⟩:=h3
 subst hd
 refine ⟨ho,fun j=>Iff.rfl,fun hc j hj hf=>?_,fun j o' hji ho' hf hk=>?_,fun hb j o' ho' hf=>?_,fun t ht j hd=>?_,fun j b hg=>?_⟩
 ·simp only [List.all_eq_true,List.mem_range] at hc
  have:=hc j hj
  rw [Wh.2 hf] at this
  cases this
 ·simp only [List.mem_filter,List.mem_range]
  refine ⟨hji,?_⟩
  rw [Wh.2 hf,ho']
  simp only [Option.map_some,Bool.true_and] at hk ⊢
  rcases hk with ⟨a,b⟩ | ⟨a,b⟩ | ⟨a,b⟩<;>(rw [a,b];first | done | rfl)
 ·simp only [List.any_eq_false,List.mem_range] at hb
  have:=hb j (List.getElem?_eq_some_iff.1 ho').1
  rw [Wh.2 hf,ho'] at this
  simp only [Option.map_some,Bool.true_and] at this ⊢
  constructor
  ·rintro ⟨a,b⟩;rw [a,b] at this;exact this rfl
  ·rintro ⟨a,b⟩;rw [a,b] at this;exact this rfl
 ·have:=h5 j (by unfold Br at hd;obtain ⟨o'',h,_⟩:=Option.bind_eq_some_iff.1 hd;exact (List.getElem?_eq_some_iff.1 h).1)
  unfold Br at hd
  rw [hd] at this
  simp only [Bool.or_eq_true,Bool.not_eq_true',beq_iff_eq] at this
  rcases this with ((h | h) | h) | h
  ·rw [List.contains_eq_mem,decide_eq_false_iff_not] at h;exact absurd ht h
  ·exact .inl h
  ·exact .inr (.inl h)
  ·exact .inr (.inr h)
 ·rw [hg] at h4
  exact h4
section
variable (ops : List Oper) (D : Nat -> DI) (H : Nat -> GH) (Sl : Nat -> Bg) (X : Nat -> CV) (W : Nat -> Bool) (bk : Nat -> Nat) (S : Nat -> Bool)
def tch (i c:Nat):Prop:=W i=true/\((D i).cut=true\/(Cs (D i).o=2/\bk i=c+1)\/((H i).nx<=c/\c < (H (i+1)).nx))
def Pb (i c:Nat):Prop:=c < (H i).nx/\Df (H 0).hid c=false/\∀ k,k < i->(H k).nx<=c->c < (H (k+1)).nx->ahd ops i k
def okL:Nat->Nat->Prop
 | 0,c=>okH (H 0) c
 | i+1,c=>Pb ops H i c\/((H i).nx<=c/\c < (H (i+1)).nx)
def Ent:Nat->Nat->GB->Nat->Prop
 | 0,c,b,m=>(H 0).get c=some b/\m=0
 | k+1,c,b,m=>(S k=true/\tch D H W bk k c/\(H (k+1)).get c=some b/\m=k+1)\/(¬ (S k=true/\tch D H W bk k c)/\Ent k c b m)
structure FkP (i:Nat):Prop where
 nx:(H i).nx<=(H (i+1)).nx
 fl:(H (i+1)).fl=(H i).fl
 hid:(H (i+1)).hid=(H i).hid
 old:∀ c,c < (H 0).fl->(H (i+1)).t.get c=(H i).t.get c
 keep:∀ c,¬ tch D H W bk i c->(H (i+1)).t.get c=(H i).t.get c
 junk:∀ c,(H (i+1)).nx<=c->(H (i+1)).t.get c=none
 stv:W i=true->(D i).cut=false->Cs (D i).o=2->∃ c,bk i=c+1/\Pb ops H i c/\(H (i+1)).nx=(H i).nx
structure Ctx (P:Program) (eqT:Nat->Bool) (rec:Lt->GH->Option (CV×GH)) (n:Nat):Prop where
 dr:∀ i,i < ops.length->DrF ops i (D i)
 tr:∀ i,i < ops.length->Bf7 P eqT rec ops n (D i) i H Sl X W bk
 lt:∀ (i:Nat) o,ops[i]? = some o->∀ d∈Cd o,d < i
 nd:(F7 ops).Nodup
 fl0:(H 0).fl<=(H 0).nx
 hid0:∀ c,(H 0).fl<=c->Df (H 0).hid c=false
 junk0:∀ c,(H 0).nx<=c->(H 0).t.get c=none
end
section
variable {ops : List Oper} {D : Nat -> DI} {H : Nat -> GH} {Sl : Nat -> Bg} {X : Nat -> CV} {W : Nat -> Bool} {bk : Nat -> Nat} {S S' : Nat -> Bool} {P : Program} {eqT : Nat -> Bool} {rec : Lt -> GH -> Option (CV × GH)} {n : Nat} {i : Nat}
theorem nxm:∀ {i:Nat},(∀ k,k < i->FkP ops D H W bk k)->∀ {j:Nat},j<=i->(H j).nx<=(H i).nx
 | 0,_,j,h=>by rw [show j=0 by omega];exact Nat.le_refl _
 | i+1,hF,j,h=>by
  by_cases hj:j=i+1
  ·rw [hj];exact Nat.le_refl _
  ·exact Nat.le_trans (nxm (fun k hk=>hF k (by omega)) (by omega)) (hF i (by omega)).nx
theorem Ctx.base (C:Ctx ops D H Sl X W bk P eqT rec n):∀ {i:Nat},(∀ k,k < i->FkP ops D H W bk k)->(H i).fl=(H 0).fl/\(H i).hid=(H 0).hid/\(∀ c,(H i).nx<=c->(H i).t.get c=none)/\∀ c,c < (H 0).fl->(H i).t.get c=(H 0).t.get c
 | 0,_=>⟨rfl,rfl,C.junk0,fun _ _=>rfl⟩
 | i+1,hF=>by
  obtain ⟨h1,h2,_,h4⟩:=C.base (i:=i) fun k hk=>hF k (by omega)
  have f:=hF i (by omega)
  exact ⟨f.fl.trans h1,f.hid.trans h2,f.junk,fun c hc=>(f.old c hc).trans (h4 c hc)⟩
theorem Ctx.slot (C:Ctx ops D H Sl X W bk P eqT rec n):∀ (i:Nat),i<=ops.length->∀ t,(∀ j,j < i->Br ops j=some t->(Sl i).get t=some (X j))/\((∀ j,j < i->Br ops j≠some t)->(Sl i).get t=(Sl 0).get t)
 | 0,_,t=>⟨fun j h=>by omega,fun _=>rfl⟩
 | i+1,hi,t=>by
  obtain ⟨h1,h2⟩:=C.slot i (by omega) t
  have hp:=(C.tr i (by omega)).put
  have ho:=(C.dr i (by omega)).op
  have hd:Br ops i=(D i).o.dst:=by unfold Br;rw [ho];rfl
  have get:(Sl (i+1)).get t=if Br ops i=some t then some (X i) else (Sl i).get t:=by
   rw [hd]
   unfold Vm at hp
   cases hq:(D i).o.dst with
   | none =>
    rw [hq] at hp
    have hp:some (Sl i)=some (Sl (i+1)):=hp
    rw [<-Option.some.inj hp]
    simp
   | some d =>
    rw [hq] at hp
    simp only at hp
    cases hb:Nat.ble (Nat.succ d) n with
    | false=>rw [hb] at hp;cases hp
    | true =>
     rw [hb] at hp
     have hp:some ((Sl i).set d (X i))=some (Sl (i+1)):=hp
     rw [<-Option.some.inj hp,TR.get_set]
     by_cases ht:t=d
     ·rw [if_pos ht,if_pos (by rw [ht])]
     ·rw [if_neg ht,if_neg (fun e=>ht (Option.some.inj e).symm)]
  rw [get]
  refine ⟨fun j hj hjt=>?_,fun hn=>?_⟩
  ·by_cases hji:j=i
   ·subst hji;rw [if_pos hjt]
   ·rw [if_neg fun e=>hji (Gr C.nd hjt e)]
    exact h1 j (by omega) hjt
  ·rw [if_neg (hn i (by omega))]
   exact h2 fun j hj=>hn j (by omega)
theorem Ent.congr {c:Nat} {b:GB} {m:Nat} : ∀ {K:Nat},(∀ k,k < K->tch D H W bk k c->(S k=true↔S' k=true))->(Ent D H W bk S K c b m↔Ent D H W bk S' K c b m)
 | 0,_=>Iff.rfl
 | K+1,h=>by
  have ih:=Ent.congr (b:=b) (m:=m) (K:=K) fun k hk=>h k (by omega)
  have hK:=h K (by omega)
  have e1:(S K=true/\tch D H W bk K c)↔(S' K=true/\tch D H W bk K c):=⟨fun ⟨a,t⟩=>⟨(hK t).1 a,t⟩,fun ⟨a,t⟩=>⟨(hK t).2 a,t⟩⟩
  have e2:(S K=true/\tch D H W bk K c/\(H (K+1)).get c=some b/\m=K+1)↔(S' K=true/\tch D H W bk K c/\(H (K+1)).get c=some b/\m=K+1):=by rw [<-and_assoc,e1,and_assoc]
  simp only [Ent]
  rw [e1,e2,ih]
theorem Ent.cutoff {c:Nat} {b:GB} {m K:Nat} : ∀ {K':Nat},K<=K'->(∀ k,K<=k->k < K'->¬ (S k=true/\tch D H W bk k c))->(Ent D H W bk S K' c b m↔Ent D H W bk S K c b m)
 | 0,hK,_=>by rw [show K=0 by omega]
 | K'+1,hK,h=>by
  by_cases he:K=K'+1
  ·rw [he]
  ·rw [<-Ent.cutoff (K':=K') (by omega) fun k h1 h2=>h k h1 (by omega)]
   have:=h K' (by omega) (by omega)
   simp only [Ent]
   exact ⟨fun h=>h.elim (fun h=>absurd ⟨h.1,h.2.1⟩ this) (·.2),fun h=>.inr ⟨this,h⟩⟩
theorem Ent.level {c:Nat} {b:GB} {m:Nat} : ∀ {K:Nat},Ent D H W bk S K c b m->m=0\/∃ k,k < K/\m=k+1/\S k=true/\tch D H W bk k c
 | 0,h=>.inl h.2
 | K+1,h=>by
  rcases h with ⟨h1,h2,_,h3⟩ | ⟨_,h⟩
  ·exact .inr ⟨K,by omega,h3,h1,h2⟩
  ·rcases Ent.level h with h | ⟨k,h1,h2⟩
   ·exact .inl h
   ·exact .inr ⟨k,by omega,h2⟩
theorem Ent.of {c:Nat} {b:GB} (hh:∀ k,k < i->¬ tch D H W bk k c->(H (k+1)).get c=some b->(H k).get c=some b) (hs:∀ k,k < i->tch D H W bk k c->S k=true):(H i).get c=some b->∃ m,Ent D H W bk S i c b m:=by
 induction i with
 | zero=>exact fun h=>⟨0,h,rfl⟩
 | succ i ih =>
  intro h
  by_cases ht:tch D H W bk i c
  ·exact ⟨i+1,.inl ⟨hs i (by omega) ht,ht,h,rfl⟩⟩
  ·obtain ⟨m,hm⟩:=ih (fun k hk=>hh k (by omega)) (fun k hk=>hs k (by omega)) (hh i (by omega) ht h)
   exact ⟨m,.inr ⟨fun h=>ht h.2,hm⟩⟩
theorem FkP.get (f:FkP ops D H W bk i) {c:Nat} (ht:¬ tch D H W bk i c):(H (i+1)).get c=(H i).get c:=by rw [GH.get_eq,GH.get_eq,f.hid,f.keep c ht]
theorem Ent.last {c:Nat} {b:GB} {m K:Nat} (hi:i < K) (hS:S i=true) (ht:tch D H W bk i c) (hn:∀ k,i < k->k < K->¬ (S k=true/\tch D H W bk k c)) (h:Ent D H W bk S K c b m):(H (i+1)).get c=some b/\m=i+1:=by
 have h:=(Ent.cutoff (K:=i+1) hi fun k h1 h2=>hn k (by omega) h2).1 h
 rcases h with ⟨_,_,h1,h2⟩ | ⟨h,_⟩
 ·exact ⟨h1,h2⟩
 ·exact absurd ⟨hS,ht⟩ h
theorem Ctx.ok0 (C:Ctx ops D H Sl X W bk P eqT rec n) (hF:∀ k,k < i->FkP ops D H W bk k) {c:Nat} (h:okL ops H 0 c):Pb ops H i c :=
 ⟨Nat.lt_of_lt_of_le h.1 (nxm hF (Nat.zero_le _)),h.2,fun k hk h1 _=>by have:=nxm (fun k' hk'=>hF k' (by omega)) (Nat.zero_le k);have:=h.1;omega⟩
theorem Ctx.okS (C:Ctx ops D H Sl X W bk P eqT rec n) (hi:i < ops.length) (hF:∀ k,k < i->FkP ops D H W bk k) {k:Nat} (hk:ahd ops i k) {c:Nat} (h:okL ops H (k+1) c):Pb ops H i c:=by
 have hki:=Kd C.lt hi hk
 have hm:=nxm hF (show k+1<=i by omega)
 rcases h with ⟨h1,h2,h3⟩ | ⟨h1,h2⟩
 ·have:=(hF k hki).nx
  refine ⟨by omega,h2,fun j hj a b=>?_⟩
  by_cases hjk:j < k
  ·exact B30 C.lt i hi k j hk (h3 j hjk a b)
  ·have:=nxm (fun k' hk'=>hF k' (by omega)) (show k<=j by omega)
   omega
 ·have h0:=nxm (fun k' hk'=>hF k' (by omega)) (Nat.zero_le k)
  refine ⟨by omega,C.hid0 c (Nat.le_trans C.fl0 (by omega)),fun j hj a b=>?_⟩
  by_cases hjk:j=k
  ·rw [hjk];exact hk
  ·exfalso
   rcases Nat.lt_or_ge j k with h | h
   ·have:=nxm (fun k' hk'=>hF k' (by omega)) (show j+1<=k by omega)
    omega
   ·have:=nxm (fun k' hk'=>hF k' (by omega)) (show k+1<=j by omega)
    omega
theorem Ctx.okT (C:Ctx ops D H Sl X W bk P eqT rec n) (hi:i < ops.length) (hF:∀ k,k < i->FkP ops D H W bk k) {m:Nat} (hm:m=0\/∃ k,m=k+1/\ahd ops i k) {c:Nat} (h:okL ops H m c):Pb ops H i c:=by
 rcases hm with rfl | ⟨k,rfl,hk⟩
 ·exact C.ok0 hF h
 ·exact C.okS hi hF hk h
end
section
variable (ops : List Oper) (D : Nat -> DI) (H : Nat -> GH) (Sl : Nat -> Bg) (X : Nat -> CV) (W : Nat -> Bool) (bk : Nat -> Nat) (n : Nat) (B : Nat) (ρ0 : Nat -> Nat × Nat) (a0 : Act) (w0 : World) (ρ : Nat -> Nat × Nat) (S : Nat -> Bool)
structure Kh (a:Act) (w:World):Prop where
 low0:Below B w0 w
 same:∀ c,c < (H 0).nx->ρ c=ρ0 c
 holds:∀ c b m,Ent D H W bk S ops.length c b m->okL ops H m c/\b.holds (okL ops H m) ρ w (ρ c)
 apart:∀ c d b b' m m',Ent D H W bk S ops.length c b m->Ent D H W bk S ops.length d b' m'->b.live=true->b'.live=true->(ρ c).1=(ρ d).1->c=d\/Q2 c b b'\/Q2 d b' b
 low:∀ c b m,Ent D H W bk S ops.length c b m->b.live=true->(H 0).fl<=c->B<=(ρ c).1
 base:B<=w.heap.size
 tsz:a.tmps.size=n
 defs:a.defers=a0.defers
 slots1:∀ j t,j < ops.length->Br ops j=some t->S j=true->RC (okL ops H (j+1)) ρ (X j) (a.tmps.getD t undef)
 slots0:∀ t,(∀ j,j < ops.length->Br ops j=some t->S j=false)->RC (okL ops H 0) ρ (((Sl 0).get t).getD (.v undef)) (a.tmps.getD t undef)
end
theorem Aa5 {a:Act} {dst:Option Tmp} {v:Value} (hd:∀ d,dst=some d->d < a.tmps.size) (t:Nat):(a.put dst v).tmps.getD t undef=if dst=some t then v else a.tmps.getD t undef:=by
 cases dst with
 | none=>simp [Act.put]
 | some d =>
  show (a.tmps.setIfInBounds d v).getD t undef=_
  have hd:=hd d rfl
  by_cases ht:t=d
  ·subst ht
   rw [if_pos rfl,Array.getD_eq_getD_getElem?,Array.getElem?_setIfInBounds_self_of_lt hd];rfl
  ·rw [if_neg fun e=>ht (Option.some.inj e).symm,Array.getD_eq_getD_getElem?,Array.getElem?_setIfInBounds_ne (Ne.symm ht),<-Array.getD_eq_getD_getElem?]
theorem Bi7 {sl sl':Bg} {n:Nat} {dst:Option Tmp} {x:CV} (h:Vm sl n dst x=some sl'):∀ d,dst=some d->d < n:=by
 rintro d rfl
 have h:Bool.rec (motive:=fun _=>Option Bg) none (some (sl.set d x)) (Nat.ble (Nat.succ d) n)=some sl':=h
 cases hq:Nat.ble (Nat.succ d) n with
 | false=>rw [hq] at h;cases h
 | true=>exact Nat.le_of_ble_eq_true hq
theorem SR.junk {ρ:Nat->Nat×Nat} {h:GH} {B:Nat} {w:World} (s:SR ρ h B w) {c:Nat} (hc:h.nx<=c):h.t.get c=none:=by
 cases e:h.t.get c with
 | none=>rfl
 | some b =>
  have:=(s.ok (GH.get_of (s.hid c (Nat.le_trans s.fl hc)) e)).1
  omega
theorem Au9 {b i:Nat} {fs:List Nat} : ∀ {cf:List Nat},Bd8 b i fs cf=true->∀ j∈cf,fs.getD (i - 1 - j) 0≠b
 | [],_,j,h=>by cases h
 | k :: r,h,j,hj=>by
  simp only [Bd8,Bool.and_eq_true,Bool.not_eq_true'] at h
  rcases List.mem_cons.1 hj with rfl | hj
  ·exact Nat.ne_of_beq_eq_false h.1
  ·exact Au9 h.2 j hj
section
variable {ops : List Oper} {D : Nat -> DI} {H : Nat -> GH} {Sl : Nat -> Bg} {X : Nat -> CV} {W : Nat -> Bool} {bk : Nat -> Nat} {n : Nat} {B : Nat} {ρ0 : Nat -> Nat × Nat} {a0 : Act} {w0 : World} {ρ : Nat -> Nat × Nat} {S : Nat -> Bool} {P : Program} {eqT : Nat -> Bool} {rec : Lt -> GH -> Option (CV × GH)} {i : Nat} {a : Act} {w : World}
theorem Kh.next (C:Ctx ops D H Sl X W bk P eqT rec n) (hi:i < ops.length) (I:Kh ops D H Sl X W bk n B ρ0 a0 w0 ρ S a w)
  (hfree:∀ c k,i < k->k < ops.length->S k=true->tch D H W bk i c->¬ tch D H W bk k c) {ρ':Nat->Nat×Nat} {v:Value} {w':World} (h1:Below B w w')
  (h2:∀ m,(m=0\/∃ k,k < ops.length/\m=k+1/\S k=true)->∀ c,okL ops H m c->ρ' c=ρ c) (h20:∀ c,c < (H 0).nx->ρ' c=ρ c)
  (h3:∀ c b,tch D H W bk i c->(H (i+1)).get c=some b->okL ops H (i+1) c/\b.holds (okL ops H (i+1)) ρ' w' (ρ' c))
  (h4:∀ c b m,Ent D H W bk S ops.length c b m->b.live=true->¬ tch D H W bk i c->w'.heap[(ρ c).1]? = w.heap[(ρ c).1]?)
  (h5:∀ c b d b',tch D H W bk i c->(H (i+1)).get c=some b->((tch D H W bk i d/\(H (i+1)).get d=some b')\/(¬ tch D H W bk i d/\∃ m,Ent D H W bk S ops.length d b' m))->b.live=true->b'.live=true->(ρ' c).1=(ρ' d).1->c=d\/Q2 c b b'\/Q2 d b' b)
  (h6:∀ c b,tch D H W bk i c->(H (i+1)).get c=some b->b.live=true->(H 0).fl<=c->B<=(ρ' c).1)
  (h7:RC (okL ops H (i+1)) ρ' (X i) v):Kh ops D H Sl X W bk n B ρ0 a0 w0 ρ' (fun j=>S j || decide (j=i)) (a.put (D i).o.dst v) w':=by
 have ent:∀ {c b m},Ent D H W bk (fun j=>S j || decide (j=i)) ops.length c b m->(tch D H W bk i c/\(H (i+1)).get c=some b/\m=i+1)\/(¬ tch D H W bk i c/\Ent D H W bk S ops.length c b m):=fun {c b m} h=>by
  by_cases ht:tch D H W bk i c
  ·refine .inl ⟨ht,Ent.last hi (by simp) ht (fun k hk hkl=>?_) h⟩
   rintro ⟨a1,a2⟩
   simp only [Bool.or_eq_true,decide_eq_true_eq] at a1
   rcases a1 with a1 | a1
   ·exact hfree c k hk hkl a1 ht a2
   ·omega
  ·refine .inr ⟨ht,(Ent.congr fun k _ hkt=>?_).1 h⟩
   simp only [Bool.or_eq_true,decide_eq_true_eq]
   exact ⟨fun h=>h.elim id fun e=>absurd (e ▸ hkt) ht,.inl⟩
 have lev:∀ {c b m},Ent D H W bk S ops.length c b m->(m=0\/∃ k,k < ops.length/\m=k+1/\S k=true):=fun h=>h.level.elim .inl fun ⟨k,a1,a2,a3,_⟩=>.inr ⟨k,a1,a2,a3⟩
 have old:∀ {c b m},Ent D H W bk S ops.length c b m->ρ' c=ρ c:=fun h=>h2 _ (lev h) _ (I.holds _ _ _ h).1
 have hd:=(C.tr i hi).put
 have hdl:∀ d,(D i).o.dst=some d->d < a.tmps.size:=by rw [I.tsz];exact Bi7 hd
 have hdst:Br ops i=(D i).o.dst:=by unfold Br;rw [(C.dr i hi).op];rfl
 refine ⟨I.low0.trans h1,fun c hc=>(h20 c hc).trans (I.same c hc),fun c b m h=>?_,fun c d b b' m m' h h' l l' e=>?_,fun c b m h l hc=>?_,Nat.le_trans I.base h1.size,?_,?_,fun j t hj hjt hS=>?_,fun t ht=>?_⟩
 ·rcases ent h with ⟨a1,a2,rfl⟩ | ⟨a1,a2⟩
  ·exact h3 c b a1 a2
  ·obtain ⟨p1,p2⟩:=I.holds c b m a2
   refine ⟨p1,?_⟩
   rw [old a2]
   exact p2.ext (fun c' hc'=>⟨hc',h2 m (lev a2) c' hc'⟩) fun hl=>h4 c b m a2 hl a1
 ·rcases ent h with ⟨a1,a2,rfl⟩ | ⟨a1,a2⟩
  ·rcases ent h' with ⟨b1,b2,rfl⟩ | ⟨b1,b2⟩
   ·exact h5 c b d b' a1 a2 (.inl ⟨b1,b2⟩) l l' e
   ·exact h5 c b d b' a1 a2 (.inr ⟨b1,_,b2⟩) l l' e
  ·rcases ent h' with ⟨b1,b2,rfl⟩ | ⟨b1,b2⟩
   ·rcases h5 d b' c b b1 b2 (.inr ⟨a1,_,a2⟩) l' l e.symm with q | q | q
    ·exact .inl q.symm
    ·exact .inr (.inr q)
    ·exact .inr (.inl q)
   ·rw [old a2,old b2] at e
    exact I.apart c d b b' m m' a2 b2 l l' e
 ·rcases ent h with ⟨a1,a2,rfl⟩ | ⟨a1,a2⟩
  ·exact h6 c b a1 a2 l hc
  ·rw [old a2];exact I.low c b m a2 l hc
 ·rw [<-I.tsz]
  cases (D i).o.dst<;>simp [Act.put]
 ·rw [<-I.defs]
  cases (D i).o.dst<;>rfl
 ·rw [Aa5 hdl]
  by_cases hji:j=i
  ·subst hji
   rw [<-hdst,if_pos hjt]
   exact h7
  ·rw [<-hdst,if_neg fun e=>hji (Gr C.nd hjt e)]
   have hS:S j=true:=by simpa [hji] using hS
   exact (I.slots1 j t hj hjt hS).ext fun c hc=>⟨hc,h2 (j+1) (.inr ⟨j,hj,rfl,hS⟩) c hc⟩
 ·rw [Aa5 hdl,<-hdst,if_neg fun e=>by have:=ht i hi e;simp at this]
  exact (I.slots0 t fun j hj hjt=>by have:=ht j hj hjt;simp only [Bool.or_eq_false_iff] at this;exact this.1).ext fun c hc=>⟨hc,h2 0 (.inl rfl) c hc⟩
theorem Kh.read (C:Ctx ops D H Sl X W bk P eqT rec n) (hi:i < ops.length) (hF:∀ k,k < i->FkP ops D H W bk k) (hSi:S i=false) (hcl:∀ k,ahd ops i k->S k=true) (hcl2:∀ k,k < ops.length->S k=true->∀ j,ahd ops k j->S j=true)
  (I:Kh ops D H Sl X W bk n B ρ0 a0 w0 ρ S a w) {t:Nat} (ht:∀ j,Br ops j=some t->i=j\/ahd ops i j\/ahd ops j i):RC (Pb ops H i) ρ (((Sl i).get t).getD (.v undef)) (a.tmps.getD t undef):=by
 obtain ⟨s1,s2⟩:=C.slot i (by omega) t
 have zero:(∀ j,j < ops.length->Br ops j=some t->S j=false/\i<=j)->RC (Pb ops H i) ρ (((Sl i).get t).getD (.v undef)) (a.tmps.getD t undef):=fun h=>by
  rw [s2 fun j hj hjt=>by have:=(h j (by omega) hjt).2;omega]
  exact (I.slots0 t fun j hj hjt=>(h j hj hjt).1).ext fun c hc=>⟨C.ok0 hF hc,rfl⟩
 by_cases hw:∃ j,j < ops.length/\Br ops j=some t
 ·obtain ⟨j,hj,hjt⟩:=hw
  have one:∀ k,Br ops k=some t->k=j:=fun k hk=>Gr C.nd hk hjt
  rcases ht j hjt with e | h | h
  ·exact zero fun k _ hk=>by rw [one k hk,<-e];exact ⟨hSi,Nat.le_refl _⟩
  ·rw [s1 j (Kd C.lt hi h) hjt]
   exact (I.slots1 j t hj hjt (hcl j h)).ext fun c hc=>⟨C.okS hi hF h hc,rfl⟩
  ·refine zero fun k _ hk=>?_
   rw [one k hk]
   refine ⟨?_,Nat.le_of_lt (Kd C.lt hj h)⟩
   cases hS:S j with
   | false=>rfl
   | true=>have:=hcl2 j hj hS i h;rw [hSi] at this;cases this
 ·exact zero fun j hj hjt=>absurd ⟨j,hj,hjt⟩ hw
theorem A39 {d:DI} {ss fs:List Nat} {sl:Bg} {h:GH} {r:CV×GH} (hc:d.cut=false) (e:B20 P eqT rec d i ss fs sl h=some r):d.bad=false/\(∀ j∈d.cf,fs.getD (i - 1 - j) 0≠Mk (evC P sl) d.o) /\
  (Cs d.o=2/\Ar8 h (Mk (evC P sl) d.o)=true/\opC P eqT rec (evC P sl) h d.o=some r\/Cs d.o≠2/\∃ q,opC P eqT rec (evC P sl) ⟨Nr (Cs d.o) (Mk (evC P sl) d.o) h,h.nx,h.nx,Ql d.an ss (i - 1) h.nx++h.hid⟩ d.o=some (r.1,q)/\Ba6 (Cs d.o) h q=some r.2):=by
 unfold B20 at e
 rw [hc] at e
 simp only [cond_false] at e
 cases hq:(d.bad || !Bd8 (Mk (evC P sl) d.o) i fs d.cf) with
 | true=>rw [hq] at e;cases e
 | false =>
  rw [hq] at e
  simp only [cond_false] at e
  rw [Bool.or_eq_false_iff] at hq
  refine ⟨hq.1,Au9 (by simpa using hq.2),?_⟩
  cases hk:Nat.beq (Cs d.o) 2 with
  | true =>
   rw [hk] at e
   simp only [cond_true] at e
   obtain ⟨h1,h2⟩:=Cw e
   exact .inl ⟨Nat.eq_of_beq_eq_true hk,h1,h2⟩
  | false =>
   rw [hk] at e
   simp only [cond_false,Option.bind_eq_some_iff,Option.map_eq_some_iff] at e
   obtain ⟨⟨x,q⟩,h1,h',h2,rfl⟩:=e
   exact .inr ⟨Nat.ne_of_beq_eq_false hk,q,h1,h2⟩
theorem Ctx.conf (C:Ctx ops D H Sl X W bk P eqT rec n) (hi:i < ops.length) (hW:W i=true) (hc:(D i).cut=false) {c:Nat} (hk:Cs (D i).o=3\/((Cs (D i).o=1\/Cs (D i).o=2)/\Mk (evC P (Sl i)) (D i).o=c+1)) :
  ∀ k,k < ops.length->Mq ops i k->W k=true->(D k).cut=false->Cs (D k).o=2->bk k≠c+1:=by
 intro k hkl hf hWk hck hkk
 obtain ⟨p1,p2,_⟩:=A39 hc ((C.tr i hi).yes hW)
 obtain ⟨q1,q2,_⟩:=A39 hck ((C.tr k hkl).yes hWk)
 have ok:=(C.dr k hkl).op
 have oi:=(C.dr i hi).op
 rcases hk with h3 | ⟨h12,hb⟩
 ·exact absurd ⟨h3,hkk⟩ ((C.dr i hi).bad p1 k _ ok hf).1
 ·rcases Nat.lt_or_ge k i with hki | hki
  ·have:=p2 k ((C.dr i hi).cf k _ hki ok hf (by rcases h12 with h | h<;>simp [h,hkk]))
   rw [Ap8 bk i k hki,hb] at this
   exact this
  ·have hne:=hf.2.2
   have:=q2 i ((C.dr k hkl).cf i _ (by omega) oi hf.symm (by rcases h12 with h | h<;>simp [h,hkk]))
   rw [Ap8 bk k i (by omega),(C.tr i hi).blk hW,hb,<-(C.tr k hkl).blk hWk] at this
   exact fun e=>this e.symm
theorem Ctx.near (C:Ctx ops D H Sl X W bk P eqT rec n) (hi:i < ops.length) (hSi:S i=false) (hcl2:∀ k,k < ops.length->S k=true->∀ j,ahd ops k j->S j=true)
  (hF:∀ k,k < ops.length->(k < i\/∃ m,S m=true/\i < m/\m < ops.length/\k<=m)->FkP ops D H W bk k) {c:Nat} (hv:Pb ops H i c) (hcf:∀ k,k < ops.length->Mq ops i k->W k=true->(D k).cut=false->Cs (D k).o=2->bk k≠c+1) :
  ∀ k,k < ops.length->(k < i\/S k=true)->tch D H W bk k c->ahd ops i k:=by
 intro k hk hor ht
 by_cases hik:ahd ops i k
 ·exact hik
 ·exfalso
  have hne:i≠k:=fun e=>by
   subst e
   rcases hor with h | h
   ·omega
   ·rw [hSi] at h;cases h
  have hki:¬ ahd ops k i:=fun h=>by
   rcases hor with h' | h'
   ·have:=Kd C.lt hk h;omega
   ·have:=hcl2 k hk h' i h;rw [hSi] at this;cases this
  have hf:Mq ops i k:=⟨hik,hki,hne⟩
  obtain ⟨hW,h | h | h⟩:=ht
  ·exact (C.dr k hk).cut h i hi hf.symm
  ·cases hc:(D k).cut with
   | true=>exact (C.dr k hk).cut hc i hi hf.symm
   | false=>exact hcf k hk hf hW hc h.1 h.2
  ·rcases Nat.lt_or_ge k i with hki | hki
   ·exact hik (hv.2.2 k hki h.1 h.2)
   ·have hS:S k=true:=hor.elim (fun h'=>by omega) id
    have:=nxm (ops:=ops) (D:=D) (H:=H) (W:=W) (bk:=bk) (i:=k) (fun j hj=>hF j (by omega) (.inr ⟨k,hS,by omega,hk,by omega⟩)) (show i<=k by omega)
    have:=hv.1
    omega
theorem Ctx.view (C:Ctx ops D H Sl X W bk P eqT rec n) (hi:i < ops.length) (hSi:S i=false) (hcl:∀ k,ahd ops i k->S k=true) (hF:∀ k,k < i->FkP ops D H W bk k) {c:Nat} (hn:∀ k,k < ops.length->(k < i\/S k=true)->tch D H W bk k c->ahd ops i k) {b:GB} (h:(H i).get c=some b) :
  ∃ m,Ent D H W bk S ops.length c b m/\(m=0\/∃ k,m=k+1/\ahd ops i k):=by
 obtain ⟨m,hm⟩:=Ent.of (S:=S) (fun k hk ht e=>by rw [<-(hF k hk).get ht];exact e) (fun k hk ht=>hcl k (hn k (by omega) (.inl hk) ht)) h
 refine ⟨m,(Ent.cutoff (by omega) fun k h1 h2=>?_).2 hm,?_⟩
 ·rintro ⟨a1,a2⟩
  have:=Kd C.lt hi (hn k h2 (.inr a1) a2)
  omega
 ·rcases hm.level with h | ⟨k,h1,h2,h3,h4⟩
  ·exact .inl h
  ·exact .inr ⟨k,h2,hn k (by omega) (.inl h1) h4⟩
end
theorem Bf3 {k b c:Nat} {h:GH} {g:GB} (e:(Nr k b h).get c=some g):k=3/\h.t.get c=some g\/k=1/\b=c+1/\h.get c=some g:=by
 unfold Nr at e
 cases hk:Nat.beq k 3 with
 | true=>rw [hk] at e;exact .inl ⟨Nat.eq_of_beq_eq_true hk,e⟩
 | false =>
  rw [hk] at e
  simp only [cond_false] at e
  cases hq:(Nat.beq k 1&&Nat.blt 0 b) with
  | false=>rw [hq] at e;cases e
  | true =>
   rw [hq] at e
   simp only [cond_true] at e
   rw [Bool.and_eq_true] at hq
   have hb:=Bk.1 hq.2
   split at e
   ·rename_i g' hg
    rw [TR.get_set] at e
    by_cases hc:c=b - 1
    ·rw [if_pos hc] at e
     obtain rfl:=Option.some.inj e
     exact .inr ⟨Nat.eq_of_beq_eq_true hq.1,by omega,by rw [hc];exact hg⟩
    ·rw [if_neg hc] at e;cases e
   ·cases e
theorem B02 {k:Nat} {h r h1:GH} {b:Nat} {hid:List (Nat×Nat)} {ρ:Nat->Nat×Nat} {B:Nat} {w:World} (e:Ba6 k h r=some h1) (hr:HLe ⟨Nr k b h,h.nx,h.nx,hid⟩ r) (s:SR ρ r B w) (hj:∀ c,h.nx<=c->h.t.get c=none) :
  h1.nx=r.nx/\h1.fl=h.fl/\h1.hid=h.hid/\(∀ c,h.nx<=c->c < r.nx->h1.t.get c=r.t.get c)/\(∀ c,c < h.nx->h1.t.get c=h.t.get c)/\∀ c,r.nx<=c->h1.t.get c=none:=by
 have hnx:h.nx<=r.nx:=hr.nx
 unfold Ba6 at e
 cases hk:Nat.beq k 3 with
 | true =>
  rw [hk] at e
  simp only [cond_true,Option.some.injEq] at e
  subst e
  refine ⟨rfl,rfl,rfl,fun _ _ _=>rfl,fun c hc=>?_,fun c hc=>s.junk hc⟩
  have:=hr.old c hc
  have hb:Nr k b h=h.t:=by unfold Nr;rw [hk];rfl
  rw [hb] at this
  exact this
 | false =>
  rw [hk] at e
  simp only [cond_false] at e
  cases hq:Nat.beq r.nx h.nx with
  | true =>
   rw [hq] at e
   simp only [cond_true,Option.some.injEq] at e
   subst e
   have hq:=Nat.eq_of_beq_eq_true hq
   exact ⟨hq.symm,rfl,rfl,fun c _ _=>by omega,fun _ _=>rfl,fun c hc=>hj c (by omega)⟩
  | false =>
   rw [hq] at e
   simp only [cond_false] at e
   obtain ⟨hn,e⟩:=Cw e
   have hn:=Nat.eq_of_beq_eq_true hn
   split at e
   ·rename_i g hg
    obtain rfl:=Option.some.inj e
    refine ⟨hn.symm,rfl,rfl,fun c h1 h2=>?_,fun c hc=>?_,fun c hc=>?_⟩
    ·have:c=h.nx:=by omega
     subst this
     show (h.t.set h.nx g).get h.nx=_
     rw [TR.get_set,if_pos rfl,hg]
    ·show (h.t.set h.nx g).get c=_
     rw [TR.get_set,if_neg (by omega)]
    ·show (h.t.set h.nx g).get c=_
     rw [TR.get_set,if_neg (by omega)]
     exact hj c (by omega)
   ·cases e
section
variable (ops : List Oper) (D : Nat -> DI) (H : Nat -> GH) (W : Nat -> Bool) (bk : Nat -> Nat) (S : Nat -> Bool) (i : Nat)
structure Rdy:Prop where
 hi:i < ops.length
 hSi:S i=false
 hcl:∀ k,ahd ops i k->S k=true
 hcl2:∀ k,k < ops.length->S k=true->∀ j,ahd ops k j->S j=true
 hF:∀ k,k < ops.length->(k < i\/∃ m,S m=true/\i < m/\m < ops.length/\k<=m)->FkP ops D H W bk k
end
section
variable {ops : List Oper} {D : Nat -> DI} {H : Nat -> GH} {Sl : Nat -> Bg} {X : Nat -> CV} {W : Nat -> Bool} {bk : Nat -> Nat} {n : Nat} {B : Nat} {ρ0 : Nat -> Nat × Nat} {a0 : Act} {w0 : World} {ρ : Nat -> Nat × Nat} {S : Nat -> Bool} {P : Program} {eqT : Nat -> Bool} {rec : Lt -> GH -> Option (CV × GH)} {i : Nat} {a : Act} {w : World}
theorem Rdy.lo (R:Rdy ops D H W bk S i):∀ k,k < i->FkP ops D H W bk k:=fun k hk=>R.hF k (by have:=R.hi;omega) (.inl hk)
theorem Rdy.free (C:Ctx ops D H Sl X W bk P eqT rec n) (R:Rdy ops D H W bk S i) {k:Nat} (hk:i < k) (hkl:k < ops.length) (hS:S k=true):Mq ops i k:=⟨(fun h=>by have:=Kd C.lt R.hi h;omega),(fun h=>by have:=R.hcl2 k hkl hS i h;rw [R.hSi] at this;cases this),by omega⟩
theorem Ar6 (C:Ctx ops D H Sl X W bk P eqT rec n) (R:Rdy ops D H W bk S i) (hW:W i=false) (I:Kh ops D H Sl X W bk n B ρ0 a0 w0 ρ S a w) :
  Kh ops D H Sl X W bk n B ρ0 a0 w0 ρ (fun j=>S j || decide (j=i)) (a.put (D i).o.dst undef) w/\FkP ops D H W bk i:=by
 obtain ⟨e1,e2⟩:=(C.tr i R.hi).no hW
 have nt:∀ {c},¬ tch D H W bk i c:=fun h=>by rw [h.1] at hW;cases hW
 refine ⟨I.next C R.hi (fun c k _ _ _ h=>absurd h nt) (Below.refl _ _) (fun _ _ _ _=>rfl) (fun _ _=>rfl) (fun c b h=>absurd h nt) (fun _ _ _ _ _ _=>rfl) (fun c b d b' h=>absurd h nt) (fun c b h=>absurd h nt) (by rw [e1];exact RC.undef),?_⟩
 exact ⟨by rw [e2];exact Nat.le_refl _,by rw [e2],by rw [e2],fun c _=>by rw [e2],fun c _=>by rw [e2],fun c hc=>by rw [e2] at hc ⊢;exact (C.base R.lo).2.2.1 c hc,fun h=>by rw [h] at hW;cases hW⟩
theorem N7 (C:Ctx ops D H Sl X W bk P eqT rec n) (R:Rdy ops D H W bk S i) (hg:Ki P ρ0 (H 0)) (I:Kh ops D H Sl X W bk n B ρ0 a0 w0 ρ S a w):∀ y,y∈(D i).o.op.operands.toList->RC (Pb ops H i) ρ (evC P (Sl i) y) (a.eval y):=fun y hy=>by
 refine evD (fun t e=>?_) fun g hgl=>?_
 ·subst e
  refine I.read C R.hi R.lo R.hSi R.hcl R.hcl2 fun j hj=>(C.dr i R.hi).slot t ?_ j hj
  unfold Bv9
  exact List.mem_filterMap.2 ⟨_,hy,rfl⟩
 ·obtain ⟨h1,h2⟩:=hg g hgl
  exact ⟨C.ok0 R.lo h1,by rw [I.same g h1.1];exact h2⟩
open Classical in
noncomputable def At0 (o:Oper) (L:Operand->CV) (y:Operand):CV:=if y∈o.op.operands.toList then L y else .u
theorem Ab8 {o:Oper} {L:Operand->CV} {h:GH} : opC P eqT rec (At0 o L) h o=opC P eqT rec L h o:=Az3 fun y hy=>by unfold At0;rw [if_pos hy]
theorem Ab7 {ok:Nat->Prop} {o:Oper} {L:Operand->CV} (h:∀ y,y∈o.op.operands.toList->RC ok ρ (L y) (a.eval y)) (y:Operand):RC ok ρ (At0 o L y) (a.eval y):=by
 unfold At0
 split
 ·exact h y (by assumption)
 ·exact .u
theorem B56 (hE:Mo P eqT) (hR:Ke P rec) (C:Ctx ops D H Sl X W bk P eqT rec n) (R:Rdy ops D H W bk S i) (hW:W i=true) (hc:(D i).cut=true) (hg:Ki P ρ0 (H 0)) (I:Kh ops D H Sl X W bk n B ρ0 a0 w0 ρ S a w) {ro:Option Nat} {N:Act->World->Prop} {Q:Exit->Act->World->Prop}
  (hN:∀ ρ' a' w',Kh ops D H Sl X W bk n B ρ0 a0 w0 ρ' (fun j=>S j || decide (j=i)) a' w'->FkP ops D H W bk i->N a' w'):(D i).o.wpIn (FW ro) 0 P a w N Q:=by
 have e:=(C.tr i R.hi).yes hW
 unfold B20 at e
 rw [hc] at e
 simp only [cond_true] at e
 rw [<-Ab8] at e
 obtain ⟨f1,f2,f3,f4⟩:=C.base R.lo
 have all:∀ k,k < i->ahd ops i k:=fun k hk=>by
  by_cases h:ahd ops i k
  ·exact h
  ·have hi:=R.hi
   exact absurd ⟨h,(fun h=>by have:=Kd C.lt (show k < ops.length by omega) h;omega),by omega⟩ ((C.dr i R.hi).cut hc k (by omega))
 have done:∀ k,k < ops.length->S k=true->ahd ops i k:=fun k hk hS=>by
  by_cases h:ahd ops i k
  ·exact h
  ·exact absurd ⟨h,(fun h=>by have:=R.hcl2 k hk hS i h;rw [R.hSi] at this;cases this),(fun h=>by subst h;rw [R.hSi] at hS;cases hS)⟩ ((C.dr i R.hi).cut hc k hk)
 have hv:∀ {c b},(H i).get c=some b->∃ m,Ent D H W bk S ops.length c b m/\(m=0\/∃ k,m=k+1/\ahd ops i k):=fun h=>C.view R.hi R.hSi R.hcl R.lo (fun k hk h _=>h.elim (all k) (done k hk)) h
 have okv:∀ {c},Pb ops H i c->okH (H i) c:=fun h=>⟨h.1,by rw [f2];exact h.2.1⟩
 have n0:=nxm R.lo (Nat.zero_le i)
 have s:SR ρ (H i) B w:=⟨⟨fun c b h=>by
   obtain ⟨m,h1,h2⟩:=hv h
   obtain ⟨p1,p2⟩:=I.holds c b m h1
   exact ⟨okv (C.okT R.hi R.lo h2 p1),p2.ext (fun c' hc'=>⟨okv (C.okT R.hi R.lo h2 hc'),rfl⟩) fun _=>rfl⟩,fun c d b b' h h' l l' e=>by
   obtain ⟨m,h1,_⟩:=hv h
   obtain ⟨m',h1',_⟩:=hv h'
   exact I.apart c d b b' m m' h1 h1' l l' e,fun c b h l hc=>by
   obtain ⟨m,h1,_⟩:=hv h
   exact I.low c b m h1 l (by rw [<-f1];exact hc),I.base⟩,by rw [f1];exact Nat.le_trans C.fl0 n0,fun c hc=>by rw [f2];exact C.hid0 c (by rw [<-f1];exact hc)⟩
 have gl:Ki P ρ (H i):=fun g hgl=>by
  obtain ⟨h1,h2⟩:=hg g hgl
  exact ⟨okv (C.ok0 R.lo h1),by rw [I.same g h1.1];exact h2⟩
 refine Am6 hE hR e ρ B w a ro s gl (Ab7 fun y hy=>(N7 C R hg I y hy).ext fun c hc=>⟨okv hc,rfl⟩) N Q fun ρ' v w' p hx=>hN ρ' _ w' ?_ ?_
 ·have ok':∀ {c},okH (H (i+1)) c->okL ops H (i+1) c:=fun {c} h=>by
   by_cases hc:c < (H i).nx
   ·exact .inl ⟨hc,by have:=h.2;rwa [p.le.hid,f2] at this,fun k hk _ _=>all k hk⟩
   ·exact .inr ⟨by omega,h.1⟩
  have tc:∀ c,tch D H W bk i c:=fun c=>⟨hW,.inl hc⟩
  refine I.next C R.hi (fun c k hk hkl hS _=>by have:=Kd C.lt R.hi (done k hkl hS);omega) p.low (fun m hm c hc=>p.same c ?_) (fun c hc=>p.same c (by omega)) (fun c b _ h=>?_) (fun c b m _ _ h=>absurd (tc c) h) (fun c b d b' _ h h' l l' e=>?_) (fun c b _ h l hc=>p.sr.rel.low c b h l (by rw [p.le.fl,f1];exact hc)) (hx.ext fun c hc=>⟨ok' hc,rfl⟩)
  ·exact (C.okT R.hi R.lo (hm.imp id fun ⟨k,h1,h2,h3⟩=>⟨k,h2,done k h1 h3⟩) hc).1
  ·exact ⟨ok' (p.sr.ok h),(p.sr.holds h).ext (fun c' hc'=>⟨ok' hc',rfl⟩) fun _=>rfl⟩
  ·rcases h' with ⟨_,h'⟩ | ⟨h',_⟩
   ·exact p.sr.rel.apart c d b b' h h' l l' e
   ·exact absurd (tc d) h'
 ·exact ⟨p.le.nx,p.le.fl,p.le.hid,fun c hc=>p.le.old c (by rw [f1];exact hc),fun c h=>absurd ⟨hW,.inl hc⟩ h,fun c hc=>p.sr.junk hc,fun _ h=>by rw [hc] at h;cases h⟩
theorem Aj0 (hE:Mo P eqT) (C:Ctx ops D H Sl X W bk P eqT rec n) (R:Rdy ops D H W bk S i) (hW:W i=true) (hc:(D i).cut=false) (hk:Cs (D i).o=2) (hg:Ki P ρ0 (H 0)) (I:Kh ops D H Sl X W bk n B ρ0 a0 w0 ρ S a w) {ro:Option Nat} {N:Act->World->Prop} {Q:Exit->Act->World->Prop}
  (hN:∀ ρ' a' w',Kh ops D H Sl X W bk n B ρ0 a0 w0 ρ' (fun j=>S j || decide (j=i)) a' w'->FkP ops D H W bk i->N a' w'):(D i).o.wpIn (FW ro) 0 P a w N Q:=by
 have hi:=R.hi
 obtain ⟨_,_,⟨_,hs,e⟩ | ⟨h,_⟩⟩:=A39 hc ((C.tr i hi).yes hW)
 case inr=>exact absurd hk h
 obtain ⟨c,l,l',hb,hget,hfl,hH,hX,⟨y,hy,off,hLy⟩,run⟩:=Aw8 hk hs e
 have hop:=N7 C R hg I
 have hyv:=hop y hy
 rw [hLy] at hyv
 have hvis:Pb ops H i c:=by
  generalize a.eval y=u at hyv
  cases hyv;assumption
 obtain ⟨f1,f2,f3,f4⟩:=C.base R.lo
 have hbk:bk i=c+1:=by rw [(C.tr i hi).blk hW,hb]
 have near:=C.near hi R.hSi R.hcl2 R.hF hvis (C.conf hi hW hc (.inr ⟨.inr hk,hb⟩))
 obtain ⟨m,hm,hlev⟩:=C.view hi R.hSi R.hcl R.lo near hget
 obtain ⟨p1,p2⟩:=I.holds _ _ m hm
 have hB:=I.low _ _ m hm rfl (by rw [<-f1];exact hfl)
 obtain ⟨w1,r1,r2,r3,r4,r5⟩:=run (Pb ops H i) ρ w a (p2.ext (fun c' hc'=>⟨C.okT hi R.lo hlev hc',rfl⟩) fun _=>rfl) hop
 have hnx:(H (i+1)).nx=(H i).nx:=by rw [hH]
 have tc:∀ {c'},tch D H W bk i c'->c'=c:=fun {c'} h=>by
  rcases h.2 with h | h | h
  ·rw [hc] at h;cases h
  ·have:=h.2;omega
  ·omega
 have tcc:tch D H W bk i c:=⟨hW,.inr (.inl ⟨hk,hbk⟩)⟩
 have far:∀ {d b' m'},Ent D H W bk S ops.length d b' m'->b'.live=true->d≠c->(ρ d).1≠(ρ c).1:=fun {d b' m'} h hl hd he=>by
  rcases I.apart d c b' _ m' m h hm hl rfl he with h | (⟨_,_,_,_,_,_,h,h',_⟩ | ⟨_,_,_,_,_,h⟩) | (⟨_,_,_,_,_,h,_⟩ | ⟨_,_,_,_,h,_⟩)
  ·exact hd h
  ·cases h;cases h'
  ·cases h
  ·cases h
  ·cases h
 have hgc:∀ {b},(H (i+1)).get c=some b->b=.cs l' [] false:=fun {b} h=>by
  have:=(GH.get_some h).2
  rw [hH] at this
  have this:((H i).t.set c (.cs l' [] false)).get c=some b:=this
  rw [TR.get_set,if_pos rfl] at this
  exact (Option.some.inj this).symm
 have hkp:∀ c',c'≠c->(H (i+1)).t.get c'=(H i).t.get c':=fun c' h=>by
  rw [hH]
  show ((H i).t.set c (.cs l' [] false)).get c'=_
  rw [TR.get_set,if_neg h]
 refine Fa (fun q hq=>?_) ?_
 ·unfold Cs at hk;rw [hq] at hk;cases hk
 unfold Oper.wp
 rw [r1]
 refine hN ρ _ w1 ?_ ?_
 ·refine I.next C hi (fun c' k hk hkl hS h1 h2=>?_) ⟨r3.1,r3.2.1,r3.2.2,r4,fun g hg=>r5 g (by omega)⟩ (fun _ _ _ _=>rfl) (fun _ _=>rfl) (fun c' b h h'=>?_) (fun c' b m' h hl ht=>r5 _ (far h hl fun e=>ht (e ▸ tcc))) (fun c' b d b' h h1 h2 l1 l2 he=>?_) (fun c' b h h1 l1 hc'=>?_) (by rw [hX];exact RC.undef)
  ·have:=tc h1
   subst this
   have:=Kd C.lt hi (near k hkl (.inr hS) h2)
   omega
  ·obtain rfl:=tc h
   obtain rfl:=hgc h'
   exact ⟨.inl hvis,r2.ext (fun _ h=>⟨.inl h,rfl⟩) fun _=>rfl⟩
  ·obtain rfl:=tc h
   rcases h2 with ⟨h2,_⟩ | ⟨h2,m',h3⟩
   ·exact .inl (tc h2).symm
   ·exact absurd he.symm (far h3 l2 fun e=>h2 (e ▸ tcc))
  ·obtain rfl:=tc h
   exact hB
 ·refine ⟨by rw [hnx];exact Nat.le_refl _,by rw [hH],by rw [hH],fun c' hc'=>hkp c' (by omega),fun c' h=>hkp c' fun e=>h (e ▸ tcc),fun c' hc'=>?_,fun _ _ _=>⟨c,hbk,hvis,hnx⟩⟩
  rw [hnx] at hc'
  rw [hkp c' (by have:=hvis.1;omega)]
  exact f3 c' hc'
theorem B55 (hE:Mo P eqT) (hR:Ke P rec) (C:Ctx ops D H Sl X W bk P eqT rec n) (R:Rdy ops D H W bk S i) (hW:W i=true) (hc:(D i).cut=false) (hk:Cs (D i).o≠2) (hg:Ki P ρ0 (H 0)) (I:Kh ops D H Sl X W bk n B ρ0 a0 w0 ρ S a w) {ro:Option Nat} {N:Act->World->Prop} {Q:Exit->Act->World->Prop}
  (hN:∀ ρ' a' w',Kh ops D H Sl X W bk n B ρ0 a0 w0 ρ' (fun j=>S j || decide (j=i)) a' w'->FkP ops D H W bk i->N a' w'):(D i).o.wpIn (FW ro) 0 P a w N Q:=by
 have hi:=R.hi
 obtain ⟨_,_,⟨h,_⟩ | ⟨_,r,e,hm⟩⟩:=A39 hc ((C.tr i hi).yes hW)
 case inl=>exact absurd h hk
 rw [<-Ab8] at e
 have hm:Ba6 (Cs (D i).o) (H i) r=some (H (i+1)):=hm
 obtain ⟨f1,f2,f3,f4⟩:=C.base R.lo
 have n0:=nxm R.lo (Nat.zero_le i)
 have okd:∀ {c} {t:TR GB},okH ⟨t,(H i).nx,(H i).nx,Ql (D i).an (dn (fun j=>(H j).nx) i) (i - 1) (H i).nx++(H i).hid⟩ c↔Pb ops H i c:=fun {c t}=>by
  unfold okH Pb
  simp only
  rw [Pz,Bool.or_eq_false_iff,f2]
  refine and_congr Iff.rfl ⟨fun ⟨h1,h2⟩=>⟨h2,fun k hk a1 a2=>?_⟩,fun ⟨h1,h2⟩=>⟨?_,h1⟩⟩
  ·by_cases hh:ahd ops i k
   ·exact hh
   ·have:(D i).an.testBit k=false:=by
     cases hb:(D i).an.testBit k with
     | false=>rfl
     | true=>exact absurd (((C.dr i hi).an k).1 hb) hh
    rw [(Rn (D i).an (fun j=>(H j).nx) c i).2 ⟨k,hk,this,a1,a2⟩] at h1
    cases h1
  ·cases hb:Df (Ql (D i).an (dn (fun j=>(H j).nx) i) (i - 1) (H i).nx) c with
   | false=>rfl
   | true =>
    obtain ⟨k,q1,q2,q3,q4⟩:=(Rn (D i).an (fun j=>(H j).nx) c i).1 hb
    rw [((C.dr i hi).an k).2 (h2 k q1 q3 q4)] at q2
    cases q2
 have high:∀ c,(H i).nx<=c->Df (Ql (D i).an (dn (fun j=>(H j).nx) i) (i - 1) (H i).nx++(H i).hid) c=false:=fun c hc=>by
  rw [Pz,Bool.or_eq_false_iff,f2]
  refine ⟨?_,C.hid0 c (Nat.le_trans C.fl0 (by omega))⟩
  cases hb:Df (Ql (D i).an (dn (fun j=>(H j).nx) i) (i - 1) (H i).nx) c with
  | false=>rfl
  | true =>
   obtain ⟨k,q1,q2,q3,q4⟩:=(Rn (D i).an (fun j=>(H j).nx) c i).1 hb
   have:=nxm R.lo (show k+1<=i by omega)
   omega
 have hv:∀ {c b},(⟨Nr (Cs (D i).o) (Mk (evC P (Sl i)) (D i).o) (H i),(H i).nx,(H i).nx,Ql (D i).an (dn (fun j=>(H j).nx) i) (i - 1) (H i).nx++(H i).hid⟩ : GH).get c=some b->Pb ops H i c/\∃ m,Ent D H W bk S ops.length c b m/\(m=0\/∃ k,m=k+1/\ahd ops i k):=fun {c b} h=>by
  obtain ⟨h1,h2⟩:=GH.get_some h
  have h1:Df (Ql (D i).an (dn (fun j=>(H j).nx) i) (i - 1) (H i).nx++(H i).hid) c=false:=h1
  have h2:(Nr (Cs (D i).o) (Mk (evC P (Sl i)) (D i).o) (H i)).get c=some b:=h2
  have lt:(H i).t.get c=some b->Pb ops H i c:=fun h3=>by
   refine (okd (t:=.lf)).1 ⟨?_,h1⟩
   rcases Nat.lt_or_ge c (H i).nx with h | h
   ·exact h
   ·rw [f3 c h] at h3;cases h3
  rcases Bf3 h2 with ⟨k3,h3⟩ | ⟨k1,hb,h3⟩
  ·have hvis:=lt h3
   refine ⟨hvis,C.view hi R.hSi R.hcl R.lo (C.near hi R.hSi R.hcl2 R.hF hvis (C.conf hi hW hc (.inl k3))) (GH.get_of ?_ h3)⟩
   rw [f2];exact hvis.2.1
  ·have hvis:=lt (GH.get_some h3).2
   exact ⟨hvis,C.view hi R.hSi R.hcl R.lo (C.near hi R.hSi R.hcl2 R.hF hvis (C.conf hi hW hc (.inr ⟨.inl k1,hb⟩))) h3⟩
 have s:SR ρ ⟨Nr (Cs (D i).o) (Mk (evC P (Sl i)) (D i).o) (H i),(H i).nx,(H i).nx,Ql (D i).an (dn (fun j=>(H j).nx) i) (i - 1) (H i).nx++(H i).hid⟩ w.heap.size w:=⟨⟨fun c b h=>by
   obtain ⟨h0,m,h1,h2⟩:=hv h
   obtain ⟨p1,p2⟩:=I.holds c b m h1
   exact ⟨okd.2 h0,p2.ext (fun c' hc'=>⟨okd.2 (C.okT hi R.lo h2 hc'),rfl⟩) fun _=>rfl⟩,fun c d b b' h h' l l' e=>by
   obtain ⟨_,m,h1,_⟩:=hv h
   obtain ⟨_,m',h1',_⟩:=hv h'
   exact I.apart c d b b' m m' h1 h1' l l' e,fun c b h l hc=>by
   have:=(hv h).1.1
   have hc:(H i).nx<=c:=hc
   omega,Nat.le_refl _⟩,Nat.le_refl _,high⟩
 have gl:Ki P ρ ⟨Nr (Cs (D i).o) (Mk (evC P (Sl i)) (D i).o) (H i),(H i).nx,(H i).nx,Ql (D i).an (dn (fun j=>(H j).nx) i) (i - 1) (H i).nx++(H i).hid⟩:=fun g hgl=>by
  obtain ⟨h1,h2⟩:=hg g hgl
  exact ⟨okd.2 (C.ok0 R.lo h1),by rw [I.same g h1.1];exact h2⟩
 refine Am6 hE hR e ρ w.heap.size w a ro s gl (Ab7 fun y hy=>(N7 C R hg I y hy).ext fun c hc=>⟨okd.2 hc,rfl⟩) N Q fun ρ' v w' p hx=>?_
 obtain ⟨m1,m2,m3,m4,m5,m6⟩:=B02 hm p.le p.sr f3
 have hnx:(H i).nx<=r.nx:=p.le.nx
 have hrfl:r.fl=(H i).nx:=p.le.fl
 have tcr:∀ {c},tch D H W bk i c->(H i).nx<=c/\c < (H (i+1)).nx:=fun {c} h=>by
  rcases h.2 with h | h | h
  ·rw [hc] at h;cases h
  ·exact absurd h.1 hk
  ·exact h
 have Fi:FkP ops D H W bk i:=⟨by rw [m1];exact hnx,m2,m3,fun c hc=>m5 c (by have:=C.fl0;omega),fun c h=>by
   rcases Nat.lt_or_ge c (H i).nx with h1 | h1
   ·exact m5 c h1
   ·rcases Nat.lt_or_ge c (H (i+1)).nx with h2 | h2
    ·exact absurd ⟨hW,.inr (.inr ⟨h1,h2⟩)⟩ h
    ·rw [m6 c (by omega),f3 c h1],fun c hc=>m6 c (by omega),fun _ _ h=>absurd h hk⟩
 let ρ2:Nat->Nat×Nat:=fun c=>if (H i).nx<=c/\c < (H (i+1)).nx then ρ' c else ρ c
 have e1:∀ c,c < (H (i+1)).nx->ρ2 c=ρ' c:=fun c hc=>by
  by_cases h:(H i).nx<=c
  ·simp only [ρ2];rw [if_pos ⟨h,hc⟩]
  ·simp only [ρ2];rw [if_neg fun q=>h q.1];exact (p.same c (by show c < (H i).nx;omega)).symm
 have okr:∀ c,okH r c->okL ops H (i+1) c/\ρ2 c=ρ' c:=fun c h=>by
  have hlt:=h.1
  refine ⟨?_,e1 c (by omega)⟩
  rcases Nat.lt_or_ge c (H i).nx with h1 | h1
  ·exact .inl ((okd (t:=.lf)).1 ⟨h1,by have:=h.2;rw [p.le.hid] at this;exact this⟩)
  ·exact .inr ⟨h1,by omega⟩
 have getr:∀ {c b},tch D H W bk i c->(H (i+1)).get c=some b->r.get c=some b:=fun {c b} h h'=>by
  obtain ⟨a1,a2⟩:=tcr h
  refine GH.get_of (p.sr.hid c (by omega)) ?_
  rw [<-m4 c a1 (by omega)]
  exact (GH.get_some h').2
 refine hN ρ2 _ w' (I.next C hi (fun c k hk' hkl hS h1 h2=>?_) (p.low.mono I.base) (fun m hm' c hc'=>?_) (fun c hc'=>?_) (fun c b h h'=>?_) (fun c b m h hl _=>p.low.block _ ((I.holds c b m h).2.lt hl)) (fun c b d b' h h1 h2 l1 l2 he=>?_) (fun c b h h1 l1 _=>?_) (hx.ext okr)) Fi
 ·-- nothing touched twice
  obtain ⟨a1,a2⟩:=tcr h1
  have hf:=R.free C hk' hkl hS
  have fk:=R.hF k hkl (.inr ⟨k,hS,hk',hkl,Nat.le_refl _⟩)
  have mono:=nxm (ops:=ops) (D:=D) (H:=H) (W:=W) (bk:=bk) (i:=k) (fun j hj=>R.hF j (by omega) (.inr ⟨k,hS,hk',hkl,by omega⟩)) (show i+1<=k by omega)
  rcases h2.2 with h | h | h
  ·exact (C.dr k hkl).cut h i hi hf.symm
  ·cases hck:(D k).cut with
   | true=>exact (C.dr k hkl).cut hck i hi hf.symm
   | false =>
    obtain ⟨c',q1,q2,_⟩:=fk.stv h2.1 hck h.1
    have:c'=c:=by have:=h.2;omega
    subst this
    exact hf.2.1 (q2.2.2 i hk' a1 a2)
  ·omega
 ·-- elder names
  have:¬ ((H i).nx<=c/\c < (H (i+1)).nx):=fun ⟨a1,a2⟩=>by
   rcases hm' with rfl | ⟨k,hkl,rfl,hS⟩
   ·have:=hc'.1;omega
   ·rcases Nat.lt_or_ge k i with hki | hki
    ·have mono:=nxm R.lo (show k+1<=i by omega)
     have:=(R.lo k hki).nx
     rcases hc' with h | h
     ·have:=h.1;omega
     ·omega
    ·have hne:i≠k:=fun e=>by subst e;rw [R.hSi] at hS;cases hS
     have mono:=nxm (ops:=ops) (D:=D) (H:=H) (W:=W) (bk:=bk) (i:=k) (fun j hj=>R.hF j (by omega) (.inr ⟨k,hS,by omega,hkl,by omega⟩)) (show i+1<=k by omega)
     rcases hc' with h | h
     ·exact (R.free C (by omega) hkl hS).2.1 (h.2.2 i (by omega) a1 a2)
     ·omega
  simp only [ρ2];rw [if_neg this]
 ·simp only [ρ2];rw [if_neg (by omega)]
 ·have hr:=getr h h'
  obtain ⟨q1,q2⟩:=okr c (p.sr.ok hr)
  exact ⟨q1,by rw [q2];exact (p.sr.holds hr).ext okr fun _=>rfl⟩
 ·have hr:=getr h h1
  rw [e1 c (tcr h).2] at he
  rcases h2 with ⟨h2,h3⟩ | ⟨h2,m,h3⟩
  ·rw [e1 d (tcr h2).2] at he
   exact p.sr.rel.apart c d b b' hr (getr h2 h3) l1 l2 he
  ·have a1:=p.sr.rel.low c b hr l1 (by rw [hrfl];exact (tcr h).1)
   obtain ⟨b1,b2⟩:=I.holds d b' m h3
   have a2:=b2.lt l2
   have a3:ρ2 d=ρ d:=by
    simp only [ρ2]
    rw [if_neg fun q=>h2 ⟨hW,.inr (.inr q)⟩]
   rw [a3] at he
   omega
 ·have hr:=getr h h1
  rw [e1 c (tcr h).2]
  exact Nat.le_trans I.base (p.sr.rel.low c b hr l1 (by rw [hrfl];exact (tcr h).1))
end
section
variable {ops : List Oper} {D : Nat -> DI} {H : Nat -> GH} {Sl : Nat -> Bg} {X : Nat -> CV} {W : Nat -> Bool} {bk : Nat -> Nat} {n : Nat} {B : Nat} {ρ0 : Nat -> Nat × Nat} {a0 : Act} {w0 : World} {ρ : Nat -> Nat × Nat} {S : Nat -> Bool} {P : Program} {eqT : Nat -> Bool} {rec : Lt -> GH -> Option (CV × GH)} {i : Nat} {a : Act} {w : World}
theorem Ar5 (hE:Mo P eqT) (hR:Ke P rec) (C:Ctx ops D H Sl X W bk P eqT rec n) (R:Rdy ops D H W bk S i) (hW:W i=true) (hg:Ki P ρ0 (H 0)) (I:Kh ops D H Sl X W bk n B ρ0 a0 w0 ρ S a w) {ro:Option Nat} {N:Act->World->Prop} {Q:Exit->Act->World->Prop}
  (hN:∀ ρ' a' w',Kh ops D H Sl X W bk n B ρ0 a0 w0 ρ' (fun j=>S j || decide (j=i)) a' w'->FkP ops D H W bk i->N a' w'):(D i).o.wpIn (FW ro) 0 P a w N Q:=by
 cases hc:(D i).cut with
 | true=>exact B56 hE hR C R hW hc hg I hN
 | false =>
  by_cases hk:Cs (D i).o=2
  ·exact Aj0 hE C R hW hc hk hg I hN
  ·exact B55 hE hR C R hW hc hk hg I hN
theorem Aw9 (hE:Mo P eqT) (hR:Ke P rec) (C:Ctx ops D H Sl X W bk P eqT rec n) (R:Rdy ops D H W bk S i) (hg:Ki P ρ0 (H 0)) (I:Kh ops D H Sl X W bk n B ρ0 a0 w0 ρ S a w) :
  ∃ ρ' a' w',Kh ops D H Sl X W bk n B ρ0 a0 w0 ρ' (fun j=>S j || decide (j=i)) a' w'/\FkP ops D H W bk i:=by
 cases hW:W i with
 | false=>exact ⟨_,_,_,Ar6 C R hW I⟩
 | true=>exact Ai1 (ro:=none) (Ar5 hE hR C R hW hg I fun ρ' a' w' h1 h2=>⟨ρ',a',w',h1,h2⟩)
theorem Br4 (hE:Mo P eqT) (hR:Ke P rec) (C:Ctx ops D H Sl X W bk P eqT rec n) (hg:Ki P ρ0 (H 0)) (I:Kh ops D H Sl X W bk n B ρ0 a0 w0 ρ (fun _=>false) a w) :
  ∀ i,i<=ops.length->(∀ k,k < i->FkP ops D H W bk k)/\∃ ρ' a' w',Kh ops D H Sl X W bk n B ρ0 a0 w0 ρ' (fun j=>decide (j < i)) a' w'
 | 0,_=>⟨fun k hk=>by omega,ρ,a,w,by simpa using I⟩
 | i+1,hi=>by
  obtain ⟨h1,ρ',a',w',h2⟩:=Br4 hE hR C hg I i (by omega)
  have R:Rdy ops D H W bk (fun j=>decide (j < i)) i:=⟨hi,by simp,fun k hk=>by simpa using Kd C.lt hi hk,fun k hk hS j hj=>by
   have:=Kd C.lt hk hj
   simp only [decide_eq_true_eq] at hS ⊢
   omega,fun k hk h=>h.elim (h1 k) fun ⟨m,hS,hm,_⟩=>by
    simp only [decide_eq_true_eq] at hS
    omega⟩
  obtain ⟨ρ2,a2,w2,h3,h4⟩:=Aw9 hE hR C R hg h2
  refine ⟨fun k hk=>?_,ρ2,a2,w2,?_⟩
  ·by_cases hki:k=i
   ·rw [hki];exact h4
   ·exact h1 k (by omega)
  ·have:(fun j=>decide (j < i+1))=fun j=>decide (j < i) || decide (j=i):=by
    funext j
    rw [Bool.eq_iff_iff]
    simp only [decide_eq_true_eq,Bool.or_eq_true]
    omega
   rw [this]
   exact h3
end
theorem Bl8 {P:Program} {eqT:Nat->Bool} {rec:Lt->GH->Option (CV×GH)} (hP:P.follows .mixedOrders=true) (hE:Mo P eqT) (hR:Ke P rec):Xa P eqT rec:=by
 intro B id ops n l sl sl' h h' ro Q hdr hdc ρ w a s hg hs hQ
 obtain ⟨ops⟩:=ops
 have hdr:Wq ops=some l:=hdr
 have hdc:drC P eqT rec ops n l 0 [] [] sl h=some (sl',h'):=hdc
 obtain ⟨⟨hlex,hnd⟩,hlen,hdf⟩:=A38 hdr
 obtain ⟨H,Sl,X,W,bk,t1,_,t3,t4,t5⟩:=Bo5 (P:=P) (eqT:=eqT) (rec:=rec) (ops:=ops) (n:=n) l 0 (fun _=>h) (fun _=>sl) (fun _=>.u) (fun _=>false) (fun _=>0) sl' h' hdc
 obtain ⟨rfl,rfl⟩:=t1 0 (Nat.le_refl _)
 rw [Nat.zero_add,hlen] at t3 t4
 subst t3 t4
 let D:Nat->DI:=fun i=>l[i]?.getD ⟨default,false,0,[],false⟩
 have hD:∀ i,i < ops.length->l[i]? = some (D i):=fun i hi=>by
  have:l[i]? = some (l[i]'(by omega)):=List.getElem?_eq_getElem _
  simp only [D,this,Option.getD_some]
 have hlt:∀ (i:Nat) o,ops[i]? = some o->∀ d∈Cd o,d < i:=fun i o ho d hd=>by
  have hi:=(List.getElem?_eq_some_iff.1 ho).1
  have hlk:=List.all_eq_true.1 hlex i (List.mem_range.2 (by simpa using hi))
  have ho':ops.toArray[i]? = some o:=by simpa using ho
  rw [ho'] at hlk
  simp only [Option.map_some,Option.getD_some] at hlk
  rw [Array.all_eq_true_iff_forall_mem] at hlk
  unfold Cd at hd
  obtain ⟨e,he,hb⟩:=List.mem_filterMap.1 hd
  split at hb
  ·rename_i hbi
   obtain rfl:=Option.some.inj hb
   simpa [hbi] using hlk e (by simpa using he)
  ·cases hb
 have C:Ctx ops D H Sl X W bk P eqT rec n:=⟨fun i hi=>hdf i _ (hD i hi),fun i hi=>by have:=t5 i _ (hD i hi);rwa [Nat.zero_add] at this,hlt,hnd,s.fl,s.hid,fun c hc=>s.junk hc⟩
 have ent0:∀ {c b m},Ent D H W bk (fun _=>false) ops.length c b m->(H 0).get c=some b/\m=0:=fun {c b m} h=>(Ent.cutoff (K:=0) (Nat.zero_le _) fun k _ _ q=>by cases q.1).1 h
 have I0:Kh ops D H Sl X W bk n B ρ a w ρ (fun _=>false) a w.drew:=by
  refine ⟨⟨rfl,rfl,rfl,Nat.le_refl _,fun _ _=>rfl⟩,fun _ _=>rfl,fun c b m h=>?_,fun c d b b' m m' h1 h2 l1 l2 e=>s.rel.apart c d b b' (ent0 h1).1 (ent0 h2).1 l1 l2 e,fun c b m h hl hc=>s.rel.low c b (ent0 h).1 hl hc,s.rel.base,hs.1,rfl,(fun j t _ _ h=>by cases h),fun t _=>hs.2 t⟩
  obtain ⟨h1,rfl⟩:=ent0 h
  exact ⟨s.ok h1,(s.holds h1).ext (fun _ h=>⟨h,rfl⟩) fun _=>rfl⟩
 have F:=(Br4 hE hR C hg I0 ops.length (Nat.le_refl _)).1
 refine Mp hP hlex (fun S a' w'=>∃ ρ',Kh ops D H Sl X W bk n B ρ a w ρ' S a' w') ⟨ρ,I0⟩ ?_ ?_
 ·rintro i o S a1 w1 ho hSi haf hcl ⟨ρ1,I⟩
  have ho':ops[i]? = some o:=by simpa using ho
  have hi:=(List.getElem?_eq_some_iff.1 ho').1
  have hoD:=(C.dr i hi).op
  rw [ho'] at hoD
  obtain rfl:=Option.some.inj hoD
  have hdep:∀ {o:Oper} {T:Nat->Bool},(∀ e∈o.after,Region.binds .any e=true->T e.on=true)->∀ d∈Cd o,T d=true:=fun {o T} h d hd=>by
   unfold Cd at hd
   obtain ⟨e,he,hb⟩:=List.mem_filterMap.1 hd
   split at hb
   ·rename_i hbi
    obtain rfl:=Option.some.inj hb
    exact h e (by simpa using he) hbi
   ·cases hb
  have hcl':∀ (k:Nat) o',ops[k]? = some o'->S k=true->∀ d∈Cd o',S d=true:=fun k o' hk hSk=>hdep (hcl k o' (by simpa using hk) hSk)
  have R:Rdy ops D H W bk S i:=⟨hi,hSi,fun k hk=>(Nt hlt hcl' i hi (fun o2 ho2=>by
   rw [ho'] at ho2
   obtain rfl:=Option.some.inj ho2
   exact hdep haf) k hk).1,fun k hk hSk j hj=>(Nt hlt hcl' k hk (fun o2 ho2=>hcl' k o2 ho2 hSk) j hj).1,fun k hk _=>F k hk⟩
  have hw:=Bg8 (a:=a1) (fun j b' d hgd hjd=>I.read C hi R.lo R.hSi R.hcl R.hcl2 fun j' hj'=>.inr (.inl (by rw [Gr C.nd hj' hjd];exact (C.dr i hi).guard j b' hgd))) (C.tr i hi).want
  refine wpListIn_step fun K hK=>?_
  cases hW:W i with
  | true =>
   rw [hW] at hw
   rw [if_pos hw]
   exact Ar5 hE hR C R hW hg I fun ρ' a' w' h1 _=>hK _ _ ⟨ρ',h1⟩
  | false =>
   rw [hW] at hw
   rw [if_neg (by rw [hw];simp)]
   exact ⟨fun _ _=>trivial,hK _ _ ⟨ρ1,(Ar6 C R hW I).1⟩⟩
 ·rintro S a1 w1 hall ⟨ρ1,I⟩
  have hall:∀ i,i < ops.length->S i=true:=fun i hi=>hall i (by simpa using hi)
  obtain ⟨f1,f2,f3,f4⟩:=C.base F
  have hn:∀ {k},k<=ops.length->(H k).nx<=(H ops.length).nx:=fun hk=>nxm F hk
  have oke:∀ {m c},(m=0\/∃ k,k < ops.length/\m=k+1)->okL ops H m c->okH (H ops.length) c:=fun {m c} hm h=>by
   rcases hm with rfl | ⟨k,hk,rfl⟩
   ·exact ⟨Nat.lt_of_lt_of_le h.1 (hn (Nat.zero_le _)),by rw [f2];exact h.2⟩
   ·have h1:=hn (show k+1<=ops.length from hk)
    have h2:=(F k hk).nx
    rcases h with h | h
    ·exact ⟨by have:=h.1;omega,by rw [f2];exact h.2.1⟩
    ·exact ⟨by omega,by rw [f2];exact C.hid0 c (Nat.le_trans C.fl0 (Nat.le_trans (nxm (fun j hj=>F j (by omega)) (Nat.zero_le k)) h.1))⟩
  have hv:∀ {c b},(H ops.length).get c=some b->∃ m,Ent D H W bk S ops.length c b m/\(m=0\/∃ k,k < ops.length/\m=k+1):=fun {c b} h=>by
   obtain ⟨m,hm⟩:=Ent.of (S:=S) (fun k hk ht e=>by rw [<-(F k hk).get ht];exact e) (fun k hk _=>hall k hk) h
   exact ⟨m,hm,hm.level.elim .inl fun ⟨k,h1,h2,_⟩=>.inr ⟨k,h1,h2⟩⟩
  refine hQ ρ1 a1 w1 ⟨⟨hn (Nat.zero_le _),f1,f2,f4⟩,I.same,⟨⟨fun c b h=>?_,fun c d b b' h h' l l' e=>?_,fun c b h hl hc=>?_,I.base⟩,by rw [f1];exact Nat.le_trans C.fl0 (hn (Nat.zero_le _)),fun c hc=>by rw [f2];exact C.hid0 c (by rw [<-f1];exact hc)⟩,I.low0⟩ ⟨I.tsz,fun t=>?_⟩ I.defs
  ·obtain ⟨m,h1,h2⟩:=hv h
   obtain ⟨p1,p2⟩:=I.holds c b m h1
   exact ⟨oke h2 p1,p2.ext (fun c' hc'=>⟨oke h2 hc',rfl⟩) fun _=>rfl⟩
  ·obtain ⟨m,h1,_⟩:=hv h
   obtain ⟨m',h1',_⟩:=hv h'
   exact I.apart c d b b' m m' h1 h1' l l' e
  ·obtain ⟨m,h1,_⟩:=hv h
   exact I.low c b m h1 hl (by rw [<-f1];exact hc)
  ·obtain ⟨s1,s2⟩:=C.slot ops.length (Nat.le_refl _) t
   by_cases hw:∃ j,j < ops.length/\Br ops j=some t
   ·obtain ⟨j,hj,hjt⟩:=hw
    rw [s1 j hj hjt]
    exact (I.slots1 j t hj hjt (hall j hj)).ext fun c hc=>⟨oke (.inr ⟨j,hj,rfl⟩) hc,rfl⟩
   ·rw [s2 fun j hj hjt=>hw ⟨j,hj,hjt⟩]
    exact (I.slots0 t fun j hj hjt=>absurd ⟨j,hj,hjt⟩ hw).ext fun c hc=>⟨oke (.inl rfl) hc,rfl⟩
theorem Bv2 {P:Program} {eqT:Nat->Bool} {sp:Sp} (hP:P.follows .mixedOrders=true) (hE:Mo P eqT) (hG:Bn4 P sp) (fu:Nat):Ke P (Vb P eqT sp fu):=As3 hE hG (fun _ hR=>Bl8 hP hE hR) fu
def By7 (t:Nat):Bool:=Nat.beq t 38
theorem Bq9:Mo Tryz.prog By7:=fun t ht y z p q r s w=>by
 obtain rfl:t=38:=Nat.eq_of_beq_eq_true ht
 constructor
 ·by_cases h1:p=r<;>by_cases h2:q=s<;>go_simp<;>simp [h1,h2]
 ·by_cases h1:p=r<;>by_cases h2:q=s<;>go_simp<;>simp [h1,h2]
section
variable {P : Program} {ρ : Nat -> Nat × Nat} {h h' : GH} {B : Nat} {w : World}
theorem RCL.two {ok:Nat->Prop} {x y:CV} {vs:Array Value} (hv:RCL ok ρ [x,y] vs):∃ u v,vs=#[u,v]/\RC ok ρ x u/\RC ok ρ y v:=by
 have hsz:vs.size=2:=hv.1
 refine ⟨vs[0],vs[1],?_,hv.2 0 _ _ rfl (Array.getElem?_eq_getElem _),hv.2 1 _ _ rfl (Array.getElem?_eq_getElem _)⟩
 apply Array.ext
 ·simp [hsz]
 ·intro i h1 h2
  match i,h1,h2 with
  | 0,_,_=>rfl
  | 1,_,_=>rfl
  | i+2,h1,_=>omega
end
theorem Bk5:C19 Tryz.prog 369:=by
 intro l h x h' e ρ B w vs s _ hvs
 obtain ⟨nm,hnm,hf⟩:=A31.f4
 refine ⟨fun w=>by
  have hf:Tryz.prog.funcs[369]? = _:=hf
  have hnm' : ¬ nm = "runtime.NumGoroutine" := by simpa using hnm
  simp [callFunc,program,Sem.run,hf,Body8.n4,hnm'],?_⟩
 have hz1:Rz Tryz.prog 5=some [.v (.int .u8 0)]:=by kernel_rfl
 have ht:Cl Tryz.prog 44=some (5,1,1):=by kernel_rfl
 obtain ⟨i0,z0,hi0,hz0,hs0,hb0,hzc,hz2,hzs⟩:=Gy hz1 ht rfl
 unfold At5 at e
 split at e
 ·-- nil
  rename_i n
  obtain ⟨u0,u1,rfl,q0,q1⟩:=hvs.two
  obtain rfl:=q0.v_inv
  obtain rfl:=q1.v_inv
  obtain ⟨hc,e⟩:=Bj e
  simp only [Bool.and_eq_true] at hc
  have n0:=Bk.1 hc.1
  have n1:=Nat.le_of_ble_eq_true hc.2
  cases e
  have hG1:=grownCap_ge w (0+n) 0 5
  have hG2:=grownCap_le_maxLen w (0+n) 0 5 (by unfold maxLen;omega)
  refine (Any8.slices_Grow_grow A31 i0 z0 hi0 hz0 (by omega) none 0 0 n [] w (by omega) (by omega) (by rw [hb0];omega) (by omega) (by simp) (fun _=>rfl) (fun a e=>by cases e)).mono ?_
  rintro e w' ⟨rfl,rfl⟩
  have hG1':0+n<=grownCap w (0+n) 0 (Nj.t 25):=hG1
  have hG2':grownCap w (0+n) 0 (Nj.t 25)<=maxLen:=hG2
  generalize grownCap w (0+n) 0 (Nj.t 25)=G at hG1' hG2'
  generalize hC:(_:Array Value)++Builtin.zeroCells z0.cells (G - (0+n))=C'
  have hsz:C'.size=G:=by
   rw [<-hC]
   simp [Builtin.zeroCells,hzs]
   omega
  obtain ⟨ρ',p1,p2⟩:=P6 s (w0:=w.drew) (w':=w.drew.alloc (.cells C' (Nj.t 25))) (C:=C') (l:=[]) (t:=Nj.t 25) rfl ⟨rfl,rfl,rfl,rfl⟩ (by simp) (fun j x u a=>by simp at a) (n:=0) (k:=n) (K:=G) (e:=1) (by omega) (by omega) hG2' (fun h=>by cases h) (fun _=>by omega)
  exact ⟨_,ρ',rfl,p1,p2⟩
 ·rename_i c m cp e0 n
  obtain ⟨u0,u1,rfl,q0,q1⟩:=hvs.two
  obtain ⟨K,rfl,okc,k1,k2,k3,k4,k5⟩:=q0.s_inv
  obtain rfl:=q1.v_inv
  split at e
  case h_2=>cases e
  rename_i cells kin hg
  obtain ⟨hc,e⟩:=Bj e
  simp only [Bool.and_eq_true,Bool.or_eq_true] at hc
  obtain ⟨⟨⟨⟨c1,c2⟩,c3⟩,c4⟩,c5⟩:=hc
  have n0:=Bk.1 c1
  have n1:=Nat.le_of_ble_eq_true c2
  have c3:=Nat.eq_of_beq_eq_true c3
  have c4:=Nat.le_of_ble_eq_true c4
  cases e
  obtain ⟨C,t,fr,h1,h2,h3,h4,h5⟩:=s.holds hg
  have hKC:K<=C.size:=by
   rcases c5 with c5 | ⟨c5,c6⟩
   ·have:=k5 (by rw [Nat.eq_of_beq_eq_true c5];omega)
    rw [Nat.eq_of_beq_eq_true c5] at this
    omega
   ·have:=k4 (Nat.eq_of_beq_eq_true c5)
    have:=Nat.eq_of_beq_eq_true c6
    omega
  by_cases hroom:m+n<=K
  ·have he:e0=1:=by
    rcases c5 with c5 | ⟨c5,c6⟩
    ·exact Nat.eq_of_beq_eq_true c5
    ·have:=k4 (Nat.eq_of_beq_eq_true c5)
     have:=Nat.eq_of_beq_eq_true c6
     omega
   subst he
   have k5:=k5 (by omega)
   obtain ⟨w1,ρ',r1,r2,r3,r4⟩:=s.extend (P:=Tryz.prog) (ys:=[]) (news:=[]) hg c4 ⟨rfl,fun j x u a=>by simp at a⟩ (by simp only [List.length_nil];omega)
   have hw:(Result.ok () w:Result Unit)=.ok () w1:=r1
   obtain rfl:w=w1:=by cases hw;rfl
   rw [List.append_nil] at r3 r4
   refine (Any8.slices_Grow_room A31 _ m K n w (by omega) (by unfold maxLen at k3;omega) (by omega) hroom).mono ?_
   rintro e w' ⟨rfl,rfl⟩
   refine ⟨_,ρ',rfl,r4,?_⟩
   have:=RC.s (ρ:=ρ') (o:=0) (n:=m) (k:=m+n) (K:=K) (e:=1) r3 (by omega) hroom k3 (fun g=>by cases g) (fun _=>by rw [r2];exact k5)
   rwa [r2] at this
  ·have hG1:=grownCap_ge w (m+n) K 5
   have hG2:=grownCap_le_maxLen w (m+n) K 5 (by unfold maxLen;omega)
   refine (Any8.slices_Grow_grow A31 i0 z0 hi0 hz0 (by omega) (some ⟨(ρ c).1,0,none⟩) m K n (C.toList.take K) w (by omega) (by omega) (by rw [hb0];omega) (by omega) (by rw [hs0];simp;omega) (fun e=>by cases e) (fun a e j u hj=>by
    cases e
    have hj':C[j]? = some u:=by
     rw [List.getElem?_take] at hj
     split at hj
     ·rwa [Array.getElem?_toList] at hj
     ·cases hj
    simp [Dh,World.cell?,h1,hj'])).mono ?_
   rintro e w' ⟨rfl,rfl⟩
   have hG1':m+n<=grownCap w (m+n) K (Nj.t 25):=hG1
   have hG2':grownCap w (m+n) K (Nj.t 25)<=maxLen:=hG2
   generalize grownCap w (m+n) K (Nj.t 25)=G at hG1' hG2'
   generalize hC':(C.toList.take K).toArray++Builtin.zeroCells z0.cells (m+n - K)++Builtin.zeroCells z0.cells (G - (m+n))=C'
   have hsz:C'.size=G:=by
    rw [<-hC']
    simp only [Array.size_append,Builtin.zeroCells,Array.size_map,Array.size_range,hzs,List.size_toArray,List.length_take,Array.length_toList]
    omega
   have p1':D5 ρ h (h.setT c (.cs cells kin true)) B w w ρ:=s.shut hg c4
   obtain ⟨ρ',e1,p⟩:=p1'.sr.new (b:=.cs cells (c :: kin) false) (w':=w.drew.alloc (.cells C' (Nj.t 25))) (g:=(w.heap.size,C'.size)) ((Below.refl _ w).drew.alloc (Nat.le_refl _) _) rfl fun ρ' _ hx _=>⟨C',Nj.t 25,(0,0),World.alloc_heap_new _ _,fun _=>rfl,by omega,Nat.le_refl _,fun j x u a b=>by
    have hj:=(List.getElem?_eq_some_iff.1 a).1
    have hb:C[j]? = some u:=by
     rw [<-hC',Array.getElem?_append_left (by simp only [Array.size_append,List.size_toArray,List.length_take,Array.length_toList];omega),Array.getElem?_append_left (by simp only [List.size_toArray,List.length_take,Array.length_toList];omega),List.getElem?_toArray,List.getElem?_take,if_pos (by omega),Array.getElem?_toList] at b
     exact b
    exact ⟨(h5 j x u a hb).1.ext hx,(h5 j x u a hb).2⟩⟩
   refine ⟨_,ρ',rfl,p1'.trans p,?_⟩
   have:=RC.s (ρ:=ρ') (o:=0) (n:=m) (k:=m+n) (K:=G) (e:=1) (G7 p1'.sr (.cs cells (c :: kin) false)) (by omega) hG1' hG2' (fun g=>by cases g) (fun g=>by have h7:ρ' h.nx=_:=e1;rw [show (h.setT c (GB.cs cells kin true)).nx=h.nx from rfl,h7];simp only;omega)
   rwa [e1] at this
 ·cases e
noncomputable def spG:Sp:=fun f=>bif Nat.beq f 369 then some At5 else none
theorem B64:Bn4 Tryz.prog spG:=fun f g h l h0 x h' e=>by
 unfold spG at h
 cases hq:Nat.beq f 369 with
 | false=>rw [hq] at h;cases h
 | true =>
  rw [hq] at h
  obtain rfl:At5=g:=by simpa using h
  obtain rfl:=Nat.eq_of_beq_eq_true hq
  exact Bk5 l h0 x h' e
noncomputable def h0C (N:Nat) (tabs:List (Nat×IntKind×List Nat)):GH:=⟨tabs.foldr (fun p t=>t.set p.1 (.cs (p.2.2.map fun n=>.v (.int p.2.1 (n:Nat))) [] true)) .lf,N,N,[]⟩
theorem A30 {N:Nat} : ∀ {tabs:List (Nat×IntKind×List Nat)} {c:Nat} {b:GB},(h0C N tabs).t.get c=some b->∃ p∈tabs,c=p.1/\b=.cs (p.2.2.map fun n=>.v (.int p.2.1 (n:Nat))) [] true
 | [],c,b,h=>by cases h
 | p :: r,c,b,h=>by
  have h:((h0C N r).t.set p.1 (.cs (p.2.2.map fun n=>.v (.int p.2.1 (n:Nat))) [] true)).get c=some b:=h
  rw [TR.get_set] at h
  by_cases hc:c=p.1
  ·rw [if_pos hc] at h
   exact ⟨p,by simp,hc,(Option.some.inj h).symm⟩
  ·rw [if_neg hc] at h
   obtain ⟨q,h1,h2⟩:=A30 h
   exact ⟨q,List.mem_cons_of_mem _ h1,h2⟩
theorem X4 {w:World} {g j:Nat} {v:Value} (h:w.cell? ⟨g,j,none⟩=some v):∃ C t fr,w.heap[g]? = some (.cells C t fr)/\C[j]? = some v:=by
 unfold World.cell? at h
 split at h
 ·rename_i C t fr hg
  exact ⟨C,t,fr,hg,by simpa using h⟩
 ·cases h
theorem Bx6 {N:Nat} {tabs:List (Nat×IntKind×List Nat)} {w:World} (ht:∀ p∈tabs,p.1 < N/\0 < p.2.2.length/\∀ j,j < p.2.2.length->w.cell? ⟨p.1,j,none⟩=some (.int p.2.1 (p.2.2.getD j 0:Nat))):SR (fun c=>(c,0)) (h0C N tabs) w.heap.size w:=by
 refine ⟨⟨fun c b h=>?_,fun c d b b' _ _ _ _ e=>.inl e,fun c b h _ hc=>?_,Nat.le_refl _⟩,Nat.le_refl _,fun _ _=>rfl⟩
 ·obtain ⟨p,hp,rfl,rfl⟩:=A30 (GH.get_some h).2
  obtain ⟨h1,h2,h3⟩:=ht p hp
  refine ⟨⟨h1,rfl⟩,?_⟩
  obtain ⟨C,t,fr,hg,h0⟩:=X4 (h3 0 h2)
  have hC:∀ j,j < p.2.2.length->C[j]? = some (.int p.2.1 (p.2.2.getD j 0:Nat)):=fun j hj=>by
   obtain ⟨C',t',fr',hg',h0'⟩:=X4 (h3 j hj)
   rw [hg] at hg'
   cases hg'
   exact h0'
  have hlen:p.2.2.length<=C.size:=by
   have:=(Array.getElem?_eq_some_iff.1 (hC (p.2.2.length - 1) (by omega))).1
   omega
  refine ⟨C,t,fr,hg,(fun e=>by cases e),by simpa using hlen,Nat.zero_le _,fun j x u a b=>?_⟩
  rw [List.getElem?_map,Option.map_eq_some_iff] at a
  obtain ⟨n,hn,rfl⟩:=a
  have hj:=(List.getElem?_eq_some_iff.1 hn).1
  rw [hC j hj,List.getD_eq_getElem?_getD,hn] at b
  obtain rfl:=Option.some.inj b
  exact ⟨RC.int,rfl⟩
 ·obtain ⟨p,hp,rfl,_⟩:=A30 (GH.get_some h).2
  have:=(ht p hp).1
  have hc:N<=p.1:=hc
  omega
def As1:Option (CV×GH)->Bool
 | some (.v (.bool b),_)=>b
 | _=>false
theorem Af2 {P : Program} {eqT : Nat -> Bool} {sp : Sp} (hP : P.follows .mixedOrders = true) (hE : Mo P eqT) (hG : Bn4 P sp) {f : FuncId} {fn : Func} {c : Code} {fu : Nat} {tabs : List (Nat × IntKind × List Nat)} (hf : P.funcs[f]? = some fn) (hb : fn.body = some c) (hname : (fn.name == "runtime.NumGoroutine") = false)
  (hr:As1 (Vb P eqT sp fu (.call f []) (h0C P.globals.size tabs))=true) {G:World->Prop} (hT:∀ w,G w->∀ p∈tabs,p.1 < P.globals.size/\0 < p.2.2.length/\∀ j,j < p.2.2.length->w.cell? ⟨p.1,j,none⟩=some (.int p.2.1 (p.2.2.getD j 0:Nat))):A7 P G f [] (.val (.bool true)) []:=by
 refine ⟨fun vs w=>?_,fun V w E vs hV hGw hargs=>?_⟩
 ·have hname' : ¬ fn.name = "runtime.NumGoroutine" := by simpa using hname
  simp [callFunc,program,Sem.run,hf,hname',hb]
 ·obtain rfl:vs=#[]:=by
   have:=hargs.1
   simpa using this
  obtain ⟨h',hrun⟩ : ∃ h',Vb P eqT sp fu (.call f []) (h0C P.globals.size tabs)=some (.v (.bool true),h'):=by
   unfold As1 at hr
   split at hr
   ·rename_i b h' e
    subst hr
    exact ⟨h',e⟩
   ·cases hr
  have s:=Bx6 (hT w hGw)
  refine (((Bv2 hP hE hG fu).1 f [] _ _ _ hrun _ _ w #[] s (fun g hg=>⟨⟨hg,rfl⟩,rfl⟩) ⟨rfl,fun j x u a=>by simp at a⟩).2).mono ?_
  rintro e w' ⟨v,ρ',rfl,p,hv⟩
  obtain rfl:=hv.v_inv
  exact ⟨_,E,rfl,p.low,by simp [Ac],by simp [Ac],by simp,.val⟩
def Di7:Value->Value->Bool
 | .int k n,.int k' n'=>decide (k=k')&&decide (n=n')
 | .bool a,.bool b=>a==b
 | .string a,.string b=>a.data.toList==b.data.toList
 | .slice none 0 0,.slice none 0 0=>true
 | .tuple a,.tuple b=>a.isEmpty&&b.isEmpty
 | _,_=>false
mutual
def Ct0:CV->CV->Bool
 | .v x,.v y=>Di7 x y
 | .p c o,.p c' o'=>Nat.beq c c'&&Nat.beq o o'
 | .s c o n k e,.s c' o' n' k' e'=>Nat.beq c c'&&Nat.beq o o'&&Nat.beq n n'&&Nat.beq k k'&&Nat.beq e e'
 | .z,.z=>true
 | .g l,.g m=>Bf0 l m
 | .t l,.t m=>Bf0 l m
 | _,_=>false
def Bf0:List CV->List CV->Bool
 | [],[]=>true
 | x :: l,y :: m=>Ct0 x y&&Bf0 l m
 | _,_=>false
end
structure Ce where
 c:Nat
 l:List CV
def Ce.gb (e:Ce):GB:=.cs e.l [] true
noncomputable def Au0 (es:List Ce) (t:TR GB):TR GB:=es.foldr (fun e t=>t.set e.c e.gb) t
noncomputable def Cn2 (h:GH) (e:Ce):Bool :=
 match h.get e.c with
 | some (.cs l _ _)=>Bf0 l e.l
 | _=>false
def iC (n:Int):CV:=.v (.int .i64 n)
def by8 (l:List Nat):List CV:=l.map fun n=>.v (.int .u8 (n:Nat))
def Dl5 (tabs:List (Nat×IntKind×List Nat)):List Ce:=tabs.map fun p=>⟨p.1,p.2.2.map fun n=>.v (.int p.2.1 (n:Nat))⟩
structure Fct where
 l:List CV
 es:List Ce
 nx:Nat
 x:CV
 es':List Ce
 nx':Nat
noncomputable def Fct.hin (F:Fct):GH:=⟨Au0 F.es .lf,F.nx,F.nx,[]⟩
noncomputable def Fct.hout (F:Fct):GH:=⟨Au0 F.es' (Au0 F.es .lf),F.nx',F.nx,[]⟩
noncomputable def Fct.ran (F:Fct) (r:Option (CV×GH)):Bool :=
 match r with
 | some (x,h)=>Ct0 x F.x&&Nat.beq h.nx F.nx'&&F.es'.all fun e=>Nat.ble F.nx e.c&&Cn2 h e
 | none=>false
mutual
def okN (p:Nat->Bool):CV->Bool
 | .p c _=>p c
 | .s c _ _ _ _=>p c
 | .g l=>B93 p l
 | .t l=>B93 p l
 | .f _ l=>B93 p l
 | .y c=>p c
 | .m c=>p c
 | _=>true
def B93 (p:Nat->Bool):List CV->Bool
 | []=>true
 | x :: l=>okN p x&&B93 p l
end
noncomputable def Fct.use (F:Fct) (h:GH) (l:List CV):Option (CV×GH) :=
 bif (h.hid.isEmpty || (okN (fun c=>!Df h.hid c) F.x&&F.es'.all fun e=>B93 (fun c=>!Df h.hid c) e.l))&&Bf0 l F.l&&Nat.beq h.nx F.nx&&F.es.all (Cn2 h)&&F.es'.all (fun e=>Nat.ble F.nx e.c) then some (F.x,⟨Au0 F.es' h.t,F.nx',h.fl,h.hid⟩) else none
def B51:List (Nat×IntKind×List Nat):=[(0,.u32,B52),(1,.u8,Lib.deBruijn64tab)]
theorem Ar4 (w:World) (h:Kf w):∀ p∈B51,p.1 < Tryz.prog.globals.size/\0 < p.2.2.length/\∀ j,j < p.2.2.length->w.cell? ⟨p.1,j,none⟩=some (.int p.2.1 (p.2.2.getD j 0:Nat)):=fun p hp=>by
 have hN:Tryz.prog.globals.size=2:=by kernel_rfl
 rw [hN]
 rcases List.mem_cons.1 hp with rfl | hp
 ·exact ⟨by decide,by decide,fun j hj=>h.2 j hj⟩
 ·rcases List.mem_cons.1 hp with rfl | hp
  ·exact ⟨by decide,by decide,fun j hj=>h.1 j hj⟩
  ·cases hp
end Go.Proofs.YtahgkllhbggmgaaGreatDoor
