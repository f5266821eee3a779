/- Whether a message is formed (the program's), over abstract states. -/
import Derived.Test.YtahgkllhbggmgaaGreatDoorLRefThr
import Derived.LoopNIn
import Derived.Test.YtahgkllhbggmgaaGreatDoorLSubsForm
import Derived.Test.YtahgkllhbggmgaaGreatDoorLStreamArgs
import Derived.Test.YtahgkllhbggmgaaGreatDoorLWire
import Derived.Test.YtahgkllhbggmgaaGreatDoorLReached
set_option linter.all false
set_option linter.unnecessarySimpa false
set_option linter.unusedSimpArgs false
set_option linter.unusedVariables false
namespace Go.Proofs.YtahgkllhbggmgaaGreatDoor
open Go.ChangeShapes Go.WideShapes Go.ChangeAt Go.RowKit
section
variable {P : Program} {G : World -> Prop} {σ : Ab} {V w0 : World} {n : Nd} {ro : Option Nat} {K : Exit -> Ab -> Prop} {c : Code}
def AWr (P:Program) (G:World->Prop) (ro:Option Nat) (V w0:World) (n:Nd) (c:Code) (K:Exit->Ab->Prop):Nat->Ab->Prop
 | 0,_=>False
 | m+1,σ=>AW P G ro V w0 n c σ fun e σ'=>match e with
  | .normal=>AWr P G ro V w0 n c K m σ'
  | e=>K e σ'
theorem AWr.in (hG:∀ w',Below w0.heap.size w0 w'->G w') {m0:Fm} : ∀ (m:Nat) (σ:Ab),AWr P G ro V w0 n c K m σ->∀ m1 E a w,m1.nd=n->Fm.le m0 m1->St V w0 m1 E σ a w->Code.roundsIn (FW ro) 0 P c (Arr V w0 m0 K) m a w
 | m+1,σ,h,m1,E,a,w,hn,hle,hs=>wpIn_mono (h hG m1 E a w hn hs) fun e a' w' h'=>by
  obtain ⟨m',E',σ',h1,h2,h3⟩:=h'
  cases e with
  | normal=>exact AWr.in hG m σ' h2 m' E' a' w' (h1.nd.trans hn) (hle.trans h1) h3
  | _=>exact ⟨m',E',σ',hle.trans h1,h2,h3⟩
theorem AW.once (h:AW P G ro V w0 n c σ fun e σ'=>match e with
  | .normal=>False
  | e=>K e σ'):AW P G ro V w0 n (.loop c) σ K:=fun hG m0 E a w hn hs=>wpIn_loop_rounds 1 (AWr.in hG 1 σ h m0 E a w hn (Fm.le.refl m0) hs)
end
def Vs (d:Nat) (o:Oper):Bool:=match o.op with
 | .pick (.tmp c) _ _=>Nat.beq c d
 | _=>false
def Jj:Option Nat->Oper->Bool
 | none,_=>false
 | some d,o=>Vs d o
def til (d:Option Nat):List Oper->List Oper
 | []=>[]
 | o :: r=>bif Jj d o then [] else o :: til d r
def aft (d:Nat):List Oper->List Oper
 | []=>[]
 | o :: r=>bif Vs d o then r else aft d r
def Rj (d:Nat):List Oper->Option Oper
 | []=>none
 | o :: r=>bif Vs d o then some o else Rj d r
def Dr4 (g:Bool) (o:Oper):Option Operand:=match o.op with
 | .pick _ x (.const (.bool false))=>bif g then some x else none
 | .pick _ (.const (.bool true)) y=>bif g then none else some y
 | _=>none
def Pq:List Oper->List Nat
 | []=>[]
 | o :: r=>match o.dst with
  | some d=>d :: Pq r
  | none=>Pq r
theorem Ws:∀ l,til none l=l
 | []=>rfl
 | o :: r=>by rw [til,Jj,cond_false,Ws r]
theorem B10 {d:Nat} : ∀ {l:List Oper} {pk:Oper},Rj d l=some pk->l=til (some d) l++pk :: aft d l
 | [],_,h=>by cases h
 | o :: r,pk,h=>by
  cases hp:Vs d o with
  | true =>
   simp only [Rj,hp,cond_true,Option.some.injEq] at h
   subst h
   simp [til,aft,Jj,hp]
  | false =>
   simp only [Rj,hp,cond_false] at h
   have:=B10 h
   simp only [til,aft,Jj,hp,cond_false,List.cons_append]
   rw [<-this]
inductive Tl (ks:List Nat) (base:List (Nat×AV)):List (Nat×AV)->Prop
 | nil:Tl ks base base
 | cons {k:Nat} {v:AV} {fr:List (Nat×AV)} : A84 k ks=true->Tl ks base fr->Tl ks base ((k,v) :: fr)
theorem Ak8 {i:Nat} : ∀ {ks:List Nat},A84 i ks=true->i∈ks
 | [],h=>by cases h
 | a :: l,h=>by
  simp only [A84,Bool.or_eq_true] at h
  rcases h with h | h
  ·rw [Nat.eq_of_beq_eq_true h];simp
  ·exact List.mem_cons_of_mem _ (Ak8 h)
theorem Tl.look {ks:List Nat} {base fr:List (Nat×AV)} (h:Tl ks base fr) {i:Nat} (hi:i∉ks):Go.Proofs.YtahgkllhbggmgaaGreatDoor.look fr i=Go.Proofs.YtahgkllhbggmgaaGreatDoor.look base i:=by
 induction h with
 | nil=>rfl
 | @cons k v fr hk _ ih =>
  have:¬ i=k:=fun e=>hi (by rw [e];exact Ak8 hk)
  simp only [Go.Proofs.YtahgkllhbggmgaaGreatDoor.look,if_neg this]
  exact ih
def Dx6:List Nat->List (Nat×AV)->List (Nat×AV)
 | [],fr=>fr
 | d :: r,fr=>(d,.any) :: Dx6 r fr
section
variable {P : Program} {G : World -> Prop} {ro : Option Nat} {V w0 : World} {n : Nd} {ops : List Oper}
def CH (P:Program) (G:World->Prop) (ro:Option Nat) (V w0:World) (n:Nd) (ops l:List Oper) (σ:Ab) (K:Ab->Prop):Prop :=
 (∀ w',Below w0.heap.size w0 w'->G w')->Di n l=true->∀ (m:Fm) (E:Env) (a:Act) (w:World) (Q:Exit->Act->World->Prop) (rest:List Oper),m.nd=n->St V w0 m E σ a w ->
  (∀ E' σ' a' w',K σ'->St V w0 m E' σ' a' w'->wpListIn (FW ro) 0 P ops.toArray Q rest a' w')->wpListIn (FW ro) 0 P ops.toArray Q (l++rest) a w
def F8 (P:Program) (G:World->Prop) (ro:Option Nat) (V w0:World) (n:Nd) (ops:List Oper) (d:Option Nat):List Oper->Ab->(Ab->Prop)->Prop
 | [],σ,K=>K σ
 | o :: rest,σ,K=>bif Jj d o then K σ else match o.guard with
  | none=>vop P G σ o fun r bk=>F8 P G ro V w0 n ops d rest ⟨Ee o.dst r σ.fr,bk⟩ K
  | some _=>CH P G ro V w0 n ops (til d (o :: rest)) σ K
def Jh (P:Program) (G:World->Prop) (ro:Option Nat) (V w0:World) (n:Nd) (ops:List Oper) (d:Option Nat) (e:Nat) (R:Bool):List Oper->Ab->(Ab->Prop)->Prop
 | [],_,_=>False
 | o :: rest,σ,K=>bif Vs e o then F8 P G ro V w0 n ops d rest ⟨Ee o.dst (.val (.bool R)) σ.fr,σ.bk⟩ K else Jh P G ro V w0 n ops d e R rest ⟨Ee o.dst .any σ.fr,σ.bk⟩ K
theorem Cd6 {o:Oper} {l:List Oper} (hd:Di n (o :: l)=true):(∀ d,o.dst=some d->d < n.n/\d∉n.fx)/\Di n l=true:=by
 simp only [Di,Bool.and_eq_true] at hd
 refine ⟨fun d e=>?_,hd.2⟩
 have:=hd.1
 rw [e] at this
 simp only [Bool.and_eq_true,Bool.not_eq_true'] at this
 exact ⟨Bs.1 this.1,Mh this.2⟩
theorem An1 {r:List Oper} : ∀ {l:List Oper},Di n (l++r)=(Di n l&&Di n r)
 | []=>by simp [Di]
 | o :: l=>by simp only [List.cons_append,Di,An1 (l:=l),Bool.and_assoc]
theorem Bq0 {σ:Ab} {K:Ab->Prop} (h:K σ):CH P G ro V w0 n ops [] σ K:=fun _ _ _ E a w _ _ _ hs hQ=>hQ E σ a w h hs
def Cg3 (P:Program) (G:World->Prop) (σ:Ab) (o:Oper) (r:AV) (bk':List BA):Prop:=∀ (V w0:World) (n:Fm) (E:Env) (a:Act) (w:World),St V w0 n E σ a w->(∀ w',Below w0.heap.size w0 w'->G w')->∀ (N:Act->World->Prop) (Q:Exit->Act->World->Prop),
  (∀ v w' E',St V w0 n E' ⟨σ.fr,bk'⟩ a w'->Au E' (vis V w0 w' (Ac E' bk')) v r->N (a.put o.dst v) w')->∀ ro,o.wpIn (FW ro) 0 P a w N Q
theorem We {o:Oper} {l:List Oper} {σ:Ab} {K:Ab->Prop} {A B:Prop} (h:N6 ops σ.fr o.guard A B) (hA:A->∃ r bk',Cg3 P G σ o r bk'/\CH P G ro V w0 n ops l ⟨Ee o.dst r σ.fr,bk'⟩ K) (hB:B->CH P G ro V w0 n ops l ⟨Ee o.dst (.val undef) σ.fr,σ.bk⟩ K):CH P G ro V w0 n ops (o :: l) σ K:=by
 intro hG hd m E a w Q rest hn hs hQ
 obtain ⟨hdst,hd2⟩:=Cd6 hd
 have hdst':∀ d,o.dst=some d->d < m.nd.n/\d∉m.nd.fx:=by rw [hn];exact hdst
 refine wpListIn_step fun K' hK'=>?_
 rcases Ub hs h with ⟨hw,hr⟩ | ⟨hw,hr⟩
 ·rw [if_pos hw]
  obtain ⟨r,bk',hu,hK⟩:=hA hr
  exact hu V w0 m E a w hs hG K' Q (fun v w' E' hs' hv=>hK' _ _ (hK hG hd2 m E' (a.put o.dst v) w' Q rest hn (hs'.put hdst' hv) hQ)) ro
 ·rw [if_neg (by rw [hw];simp)]
  exact ⟨fun _ _=>trivial,hK' _ _ (hB hr hG hd2 m E (a.put o.dst undef) w Q rest hn (hs.put hdst' .val) hQ)⟩
theorem Wn {σ:Ab} {o:Oper} {K:AV->List BA->Prop} (h:vop P G σ o K):∃ r bk',Cg3 P G σ o r bk'/\K r bk':=by
 obtain ⟨r,bk',hK,hu⟩:=A42 h
 exact ⟨r,bk',hu,hK⟩
theorem Ao1 {d:Option Nat} {K:Ab->Prop} : ∀ {l:List Oper} {σ:Ab},F8 P G ro V w0 n ops d l σ K->CH P G ro V w0 n ops (til d l) σ K
 | [],σ,h=>Bq0 h
 | o :: l,σ,h=>by
  unfold F8 at h
  cases hp:Jj d o with
  | true =>
   rw [hp] at h
   rw [til,hp]
   exact Bq0 h
  | false =>
   rw [hp] at h
   cases hg:o.guard with
   | none =>
    rw [hg] at h
    rw [til,hp]
    refine We (A:=vop P G σ o fun r bk=>F8 P G ro V w0 n ops d l ⟨Ee o.dst r σ.fr,bk⟩ K) (B:=False) (by rw [hg];exact h) (fun h=>?_) (fun h=>h.elim)
    obtain ⟨r,bk',h1,h2⟩:=Wn h
    exact ⟨r,bk',h1,Ao1 h2⟩
   | some x =>
    rw [hg] at h
    exact h
theorem B46 {l:List Oper} {σ σ':Ab} {K:Ab->Prop} (hb:σ'.bk=σ.bk) (h:∀ i E X v,Au E X v (look σ.fr i)->Au E X v (look σ'.fr i)) (hc:CH P G ro V w0 n ops l σ' K):CH P G ro V w0 n ops l σ K:=by
 obtain ⟨fr,bk⟩:=σ
 obtain ⟨fr',bk'⟩:=σ'
 simp only at hb h
 subst hb
 exact fun hG hd m E a w Q rest hn hs hQ=>hc hG hd m E a w Q rest hn ⟨hs.ext,hs.low,hs.apart,hs.base,hs.holds,fun i=>h i _ _ _ (hs.slots i),hs.size,hs.defers,hs.hold⟩ hQ
theorem Cd9 {l l2:List Oper} {σ:Ab} {K K2:Ab->Prop} (h:CH P G ro V w0 n ops l σ K) (h2:∀ σ',K σ'->CH P G ro V w0 n ops l2 σ' K2):CH P G ro V w0 n ops (l++l2) σ K2:=by
 intro hG hd m E a w Q rest hn hs hQ
 rw [An1,Bool.and_eq_true] at hd
 rw [List.append_assoc]
 exact h hG hd.1 m E a w Q _ hn hs fun E' σ' a' w' hK hs'=>h2 σ' hK hG hd.2 m E' a' w' Q rest hn hs' hQ
def okG (ops:List Oper) (fr:List (Nat×AV)):Option (Nat×Bool)->Bool
 | none=>true
 | some (j,g)=>match Hz ops fr j with
  | .val (.bool x)=>x==g
  | _=>false
theorem Bw5 {fr:List (Nat×AV)} {gd:Option (Nat×Bool)} {A B:Prop} (h:okG ops fr gd=true) (hA:A):N6 ops fr gd A B:=by
 match gd,h with
 | none,_=>exact hA
 | some (j,g),h =>
  unfold okG at h
  unfold N6
  simp only at h ⊢
  split at h
  ·rename_i x hy
   rw [hy]
   have:x=g:=by simpa using h
   subst this
   exact ⟨fun _=>hA,fun e=>by cases x<;>cases e⟩
  ·cases h
def B16 (v:Bool) (o:Oper):Operand:=match o.op with
 | .pick _ x y=>bif v then x else y
 | _=>.const undef
inductive Ac1 (ops:List Oper) (e:Nat) (v:Bool) (pk:Oper) (r:Bool) (ks:List Nat) (σ σ1:Ab):Prop
 | mk:σ1.bk=σ.bk->okG ops σ1.fr pk.guard=true->nrm (look σ1.fr e)=.val (.bool v)->nrm (ev σ1.fr (B16 v pk))=.val (.bool r)->Tl ks ((e,.val (.bool v)) :: σ.fr) σ1.fr->Ac1 ops e v pk r ks σ σ1
theorem Qj {e:Nat} {v:Bool} {pk:Oper} {r:Bool} {ks:List Nat} {σ σ1:Ab} (h1:σ1.bk=σ.bk) (h2:okG ops σ1.fr pk.guard=true) (h3:nrm (look σ1.fr e)=.val (.bool v)) (h4:nrm (ev σ1.fr (B16 v pk))=.val (.bool r)) (h5:Tl ks ((e,.val (.bool v)) :: σ.fr) σ1.fr):Ac1 ops e v pk r ks σ σ1:=.mk h1 h2 h3 h4 h5
theorem B09 {d:Option Nat} {e:Nat} {pk:Oper} : ∀ {l:List Oper},Rj e (til d l)=some pk->til (some e) (til d l)=til (some e) l/\aft e (til d l)=til d (aft e l)/\Rj e l=some pk/\Vs e pk=true
 | [],h=>by cases h
 | o :: l,h=>by
  cases hp:Jj d o with
  | true=>rw [til,hp] at h;cases h
  | false =>
   rw [til,hp] at h ⊢
   simp only [cond_false] at h ⊢
   cases hq:Vs e o with
   | true =>
    rw [Rj,hq] at h
    obtain rfl:o=pk:=Option.some.inj h
    simp [til,aft,Jj,hq,Rj]
   | false =>
    rw [Rj,hq] at h
    obtain ⟨h1,h2,h3,h4⟩:=B09 (l:=l) h
    simp only [til,aft,Jj,hq,cond_false,h1,h2,h3,h4,Rj,and_self]
theorem B04 {d:Option Nat} {e:Nat} {R:Bool} {K:Ab->Prop} : ∀ {l:List Oper} {σ:Ab},Jh P G ro V w0 n ops d e R l σ K->∃ pk fr,Rj e l=some pk/\F8 P G ro V w0 n ops d (aft e l) ⟨Ee pk.dst (.val (.bool R)) fr,σ.bk⟩ K/\∀ i,look fr i=.any\/(look fr i=look σ.fr i/\i∉Pq (til (some e) l))
 | [],_,h=>h.elim
 | o :: l,σ,h=>by
  cases hq:Vs e o with
  | true =>
   rw [Jh,hq] at h
   exact ⟨o,σ.fr,by simp [Rj,hq],by simpa [aft,hq] using h,fun i=>.inr ⟨rfl,by simp [til,Jj,hq,Pq]⟩⟩
  | false =>
   rw [Jh,hq] at h
   obtain ⟨pk,fr,h1,h2,h3⟩:=B04 h
   refine ⟨pk,fr,by simp [Rj,hq,h1],by simpa [aft,hq] using h2,fun i=>?_⟩
   rcases h3 i with h4 | ⟨h4,h5⟩
   ·exact .inl h4
   cases hd:o.dst with
   | none =>
    rw [hd] at h4
    exact .inr ⟨h4,by simp only [til,Jj,hq,cond_false,Pq,hd];exact h5⟩
   | some k =>
    rw [hd] at h4
    simp only [Ee,look] at h4
    by_cases e1:i=k
    ·rw [if_pos e1] at h4;exact .inl h4
    ·rw [if_neg e1] at h4
     exact .inr ⟨h4,by simp only [til,Jj,hq,cond_false,Pq,hd,List.mem_cons,not_or];exact ⟨e1,h5⟩⟩
def D48 (ops:List Oper) (j:Nat):Option Nat:=match ops[j]? with
 | some o=>o.dst
 | none=>none
theorem B90 {σ:Ab} {pk:Oper} {e:Nat} {v r:Bool} (hp:Vs e pk=true) (h1:nrm (look σ.fr e)=.val (.bool v)) (h2:nrm (ev σ.fr (B16 v pk))=.val (.bool r)):∃ x,Cg3 P G σ pk x σ.bk/\∀ E X u,Au E X u x->Au E X u (.val (.bool r)):=by
 obtain ⟨dst,op,ty,pos,after,gd⟩:=pk
 unfold Vs at hp
 unfold B16 at h2
 simp only at hp h2
 split at hp
 ·rename_i c x y
  obtain rfl:c=e:=Nat.eq_of_beq_eq_true hp
  simp only at h2
  have hv:vop P G σ ⟨dst,.pick (.tmp c) x y,ty,pos,after,gd⟩ fun q bk=>bk=σ.bk/\∀ E X u,Au E X u q->Au E X u (.val (.bool r)):=by
   refine ⟨by unfold C9;simp [Gl],?_⟩
   show match nrm (look σ.fr c) with
    | .val (.bool true)=>_
    | .val (.bool false)=>_
    | _=>False
   rw [h1]
   cases v
   ·exact ⟨by simp,fun E X u hu=>by have:=hu.nrm_;rwa [show nrm (ev σ.fr y)=.val (.bool r) from h2] at this⟩
   ·exact ⟨by simp,fun E X u hu=>by have:=hu.nrm_;rwa [show nrm (ev σ.fr x)=.val (.bool r) from h2] at this⟩
  obtain ⟨q,bk',h3,h4,h5⟩:=Wn hv
  subst h4
  exact ⟨q,h3,h5⟩
 ·cases hp
def Imp (p q:Prop):Prop:=p->q
theorem Nq {p q:Prop} (h:p->q):Imp p q:=h
@[congr] theorem Du8 {p q b:Prop} (_:Tk=b):Imp p q=Imp p q:=rfl
theorem Vv {d:Option Nat} {o:Oper} {l:List Oper} {σ:Ab} {K:Ab->Prop} {e j:Nat} {gd b rt rf:Bool} {pk:Oper} (_:o.guard=some (j,gd)) (_:D48 ops j=some e) (hy:nrm (look σ.fr e)=.val (.bool b)) (hp:Rj e (til d (o :: l))=some pk)
  (h1:Imp (b=true) (CH P G ro V w0 n ops (til (some e) (o :: l)) ⟨(e,.val (.bool true)) :: σ.fr,σ.bk⟩ (Ac1 ops e true pk rt (Pq (til (some e) (o :: l))) σ)))
  (h0:Imp (b=false) (CH P G ro V w0 n ops (til (some e) (o :: l)) ⟨(e,.val (.bool false)) :: σ.fr,σ.bk⟩ (Ac1 ops e false pk rf (Pq (til (some e) (o :: l))) σ)))
  (h2:D0 (Jh P G ro V w0 n ops d e (bif b then rt else rf) (o :: l) ⟨(e,.val (.bool b)) :: σ.fr,σ.bk⟩ K)):CH P G ro V w0 n ops (til d (o :: l)) σ K:=by
 obtain ⟨t1,t2,t3,t4⟩:=B09 hp
 unfold D0 at h2
 obtain ⟨pk',fr,q1,q2,q3⟩:=B04 h2
 obtain rfl:pk=pk':=Option.some.inj (t3.symm.trans q1)
 have main:∀ v r:Bool,b=v->CH P G ro V w0 n ops (til (some e) (o :: l)) ⟨(e,.val (.bool v)) :: σ.fr,σ.bk⟩ (Ac1 ops e v pk r (Pq (til (some e) (o :: l))) σ)->(bif b then rt else rf)=r->CH P G ro V w0 n ops (til d (o :: l)) σ K:=by
  intro v r hv hr hbr
  rw [B10 hp,t1,t2]
  refine Cd9 (B46 (σ':=⟨(e,.val (.bool v)) :: σ.fr,σ.bk⟩) rfl (fun i E X u hu=>?_) hr) fun σ1 hE=>?_
  ·simp only [look]
   split
   ·rename_i h
    subst h
    have:=hu.nrm_
    rw [hy,hv] at this
    exact this
   ·exact hu
  obtain ⟨e1,e2,e3,e4,e5⟩:=hE
  obtain ⟨x,hx,hx2⟩:=B90 t4 e3 e4
  refine We (A:=True) (B:=False) (Bw5 e2 trivial) (fun _=>⟨x,_,hx,?_⟩) (fun h=>h.elim)
  refine B46 (σ':=⟨Ee pk.dst (.val (.bool (bif b then rt else rf))) fr,σ.bk⟩) e1.symm (fun i E X u hu=>?_) (Ao1 q2)
  have rest:Au E X u (look σ1.fr i)->Au E X u (look fr i):=fun hu=>by
   rcases q3 i with h | ⟨h,hn⟩
   ·rw [h];exact .any
   ·rw [h,hv]
    rw [e5.look hn] at hu
    exact hu
  simp only at hu ⊢
  cases hd:pk.dst with
  | none=>rw [hd] at hu;exact rest hu
  | some k =>
   rw [hd] at hu
   simp only [Ee,look] at hu ⊢
   split
   ·rename_i h
    rw [if_pos h] at hu
    rw [hbr]
    exact hx2 _ _ _ hu
   ·rename_i h
    rw [if_neg h] at hu
    exact rest hu
 cases b
 ·exact main false rf rfl (h0 rfl) rfl
 ·exact main true rt rfl (h1 rfl) rfl
theorem Nm {d:Option Nat} {o:Oper} {l:List Oper} {σ:Ab} {K:Ab->Prop} {e j:Nat} {gd rt rf:Bool} {p:Prop} [Decidable p] {pk:Oper} (hg:o.guard=some (j,gd)) (he:D48 ops j=some e) (hy:nrm (look σ.fr e)=.val (.bool (decide p))) (hp:Rj e (til d (o :: l))=some pk)
  (h1:Imp p (CH P G ro V w0 n ops (til (some e) (o :: l)) ⟨(e,.val (.bool true)) :: σ.fr,σ.bk⟩ (Ac1 ops e true pk rt (Pq (til (some e) (o :: l))) σ)))
  (h0:Imp (¬ p) (CH P G ro V w0 n ops (til (some e) (o :: l)) ⟨(e,.val (.bool false)) :: σ.fr,σ.bk⟩ (Ac1 ops e false pk rf (Pq (til (some e) (o :: l))) σ)))
  (h2:D0 (Jh P G ro V w0 n ops d e (bif decide p then rt else rf) (o :: l) ⟨(e,.val (.bool (decide p))) :: σ.fr,σ.bk⟩ K)):CH P G ro V w0 n ops (til d (o :: l)) σ K :=
 Vv hg he hy hp (Nq fun h=>h1 (of_decide_eq_true h)) (Nq fun h=>h0 (of_decide_eq_false h)) h2
section
variable {dst : Option Tmp} {op : Op} {ty : TypeId} {pos : String} {after : Array Edge} {j : Nat} {gd : Bool} {d : Option Nat} {l : List Oper} {σ : Ab} {K : Ab -> Prop}
theorem Qk (hs:Jj d ⟨dst,op,ty,pos,after,some (j,gd)⟩=false) (hy:Hz ops σ.fr j=.val (.bool gd)) (h:vop P G σ ⟨dst,op,ty,pos,after,some (j,gd)⟩ fun r bk=>F8 P G ro V w0 n ops d l ⟨Ee dst r σ.fr,bk⟩ K):CH P G ro V w0 n ops (til d (⟨dst,op,ty,pos,after,some (j,gd)⟩ :: l)) σ K:=by
 rw [til,hs]
 obtain ⟨r,bk',h1,h2⟩:=Wn h
 refine We (A:=True) (B:=False) ?_ (fun _=>⟨r,bk',h1,Ao1 h2⟩) (fun h=>h.elim)
 unfold N6
 simp only [hy]
 cases gd<;>simp
theorem Ql (hs:Jj d ⟨dst,op,ty,pos,after,some (j,gd)⟩=false) (hy:Hz ops σ.fr j=.val (.bool !gd)) (h:F8 P G ro V w0 n ops d l ⟨Ee dst (.val undef) σ.fr,σ.bk⟩ K):CH P G ro V w0 n ops (til d (⟨dst,op,ty,pos,after,some (j,gd)⟩ :: l)) σ K:=by
 rw [til,hs]
 refine We (A:=False) (B:=True) ?_ (fun h=>h.elim) (fun _=>Ao1 h)
 unfold N6
 simp only [hy]
 cases gd<;>simp
theorem AW.regM {id:Nat} {l:List Oper} {σ:Ab} {K:Exit->Ab->Prop} (hd:Di n l=true) (h:F8 P G ro V w0 n l none l σ fun σ'=>K .normal σ'):AW P G ro V w0 n (.region id l.toArray false) σ K :=
 fun hG m E a w hn hs=>wpIn_region_lit (by
  have:=Ao1 h hG (by rw [Ws];exact hd) m E a w (Arr V w0 m K) [] hn hs fun E' σ' a' w' hK hs'=>⟨m,E',σ',Fm.le.refl m,hK,hs'⟩
  rwa [Ws,List.append_nil] at this)
end
def W2 (P:Program) (G:World->Prop) (ro:Option Nat) (V w0:World) (n:Nd):Code->Ab->(Exit->Ab->Prop)->Prop
 | .seq x y,σ,K=>W2 P G ro V w0 n x σ fun e σ'=>match e with
  | .normal=>AW P G ro V w0 n y σ' K
  | e=>K e σ'
 | .block id c,σ,K=>W2 P G ro V w0 n c σ fun e σ'=>match e with
  | .exit j=>if j=id then K .normal σ' else K (.exit j) σ'
  | e=>K e σ'
 | .scope c,σ,K=>W2 P G ro V w0 n c σ fun e σ'=>match e with
  | .goto _=>False
  | e=>K e σ'
 | .region _ ops false,σ,K=>Rk (Di n ops.toList) (F8 P G ro V w0 n ops.toList none ops.toList σ fun σ'=>K .normal σ')
 | c,σ,K=>W1 P G ro V w0 n c σ K
theorem Cf7:∀ {c:Code} {σ:Ab} {K:Exit->Ab->Prop},W2 P G ro V w0 n c σ K->AW P G ro V w0 n c σ K:=by
 intro c
 induction c with
 | seq x y ihx _=>exact fun h=>AW.seq (ihx h)
 | block id c ih=>exact fun h=>AW.block (ih h)
 | scope c ih=>exact fun h=>AW.scope (ih h)
 | region id ops d =>
  cases d with
  | false =>
   intro σ K h
   exact AW.regM (l:=ops.toList) h.1 h.2
  | true=>exact fun h=>Az8 h
 | _=>exact fun h=>Az8 h
variable {c : Code} {σ σ' : Ab} {KE : Exit -> Ab -> Prop}
theorem Jl (_:Bh4 c=true) (h:W2 P G ro V w0 n c σ KE):AW P G ro V w0 n c σ KE:=Cf7 h
@[congr] theorem E19 {B0:Prop} (h:σ=σ') (_:Tk=B0):W2 P G ro V w0 n c σ KE=W2 P G ro V w0 n c σ' KE:=by rw [h]
variable {id : Nat} {a b : Code}
@[go_sem] theorem Dl1:W2 P G ro V w0 n .skip σ KE=KE .normal σ:=rfl
@[go_sem] theorem Dy0:W2 P G ro V w0 n .ret σ KE=KE .ret σ:=rfl
@[go_sem] theorem Dl3:W2 P G ro V w0 n (.exit id) σ KE=KE (.exit id) σ:=rfl
@[go_sem] theorem D76:W2 P G ro V w0 n (.label id) σ KE=KE .normal σ:=rfl
@[go_sem] theorem Dx9:W2 P G ro V w0 n (.seq a b) σ KE=W2 P G ro V w0 n a σ fun e σ'=>match e with
  | .normal=>AW P G ro V w0 n b σ' KE
  | e=>KE e σ':=rfl
@[go_sem] theorem D78:W2 P G ro V w0 n (.block id a) σ KE=W2 P G ro V w0 n a σ fun e σ'=>match e with
  | .exit j=>if j=id then KE .normal σ' else KE (.exit j) σ'
  | e=>KE e σ':=rfl
@[go_sem] theorem D74:W2 P G ro V w0 n (.scope a) σ KE=W2 P G ro V w0 n a σ fun e σ'=>match e with
  | .goto _=>False
  | e=>KE e σ':=rfl
@[go_sem] theorem Dl4 {q:Operand} : W2 P G ro V w0 n (.cond q a b) σ KE=L8 (nrm (ev σ.fr q)) (AW P G ro V w0 n a σ KE) (AW P G ro V w0 n b σ KE):=rfl
@[go_sem] theorem Co1 {l:List Oper} : W2 P G ro V w0 n (.region id l.toArray false) σ KE=Rk (Di n l) (F8 P G ro V w0 n l none l σ fun σ'=>KE .normal σ'):=rfl
@[go_sem] theorem D77 {q:Array Oper} : W2 P G ro V w0 n (.region id q true) σ KE=AW P G ro V w0 n (.region id q true) σ KE:=rfl
@[go_sem] theorem Dl2:W2 P G ro V w0 n (.loop a) σ KE=AW P G ro V w0 n (.loop a) σ KE:=rfl
@[go_sem] theorem D75 {q:Operand} {ps:Array Tmp} : W2 P G ro V w0 n (.rangeFunc q ps a b) σ KE=AW P G ro V w0 n (.rangeFunc q ps a b) σ KE:=rfl
section
variable {dst : Option Tmp} {op : Op} {ty : TypeId} {pos : String} {after : Array Edge} {gu : Option (Nat × Bool)} {j e : Nat} {gd R : Bool} {d : Option Nat} {l : List Oper} {K : Ab -> Prop} {o : Oper}
@[congr] theorem Cp4 {B0:Prop} (h:σ=σ') (_:Tk=B0):F8 P G ro V w0 n ops d l σ K=F8 P G ro V w0 n ops d l σ' K:=by rw [h]
@[congr] theorem Cp5 {B0:Prop} {R':Bool} (hR:R=R') (h:σ=σ') (_:Tk=B0):Jh P G ro V w0 n ops d e R l σ K=Jh P G ro V w0 n ops d e R' l σ' K:=by rw [hR,h]
@[congr] theorem E25 {B0:Prop} (h:σ=σ') (_:Tk=B0):CH P G ro V w0 n ops l σ K=CH P G ro V w0 n ops l σ' K:=by rw [h]
@[congr] theorem Dm3 {B0:Prop} {v r:Bool} {ks:List Nat} {σ1 σ2:Ab} (h:σ1=σ2) (_:Tk=B0):Ac1 ops e v o r ks σ σ1=Ac1 ops e v o r ks σ σ2:=by rw [h]
@[go_sem] theorem Cg7:F8 P G ro V w0 n ops d [] σ K=K σ:=rfl
@[go_sem] theorem C67 (h:Jj d o=true):F8 P G ro V w0 n ops d (o :: l) σ K=K σ:=by rw [F8,h];rfl
@[go_sem] theorem C68 (h:Jj d ⟨dst,op,ty,pos,after,none⟩=false):F8 P G ro V w0 n ops d (⟨dst,op,ty,pos,after,none⟩ :: l) σ K=vop P G σ ⟨dst,op,ty,pos,after,none⟩ fun r bk=>F8 P G ro V w0 n ops d l ⟨Ee dst r σ.fr,bk⟩ K:=by rw [F8,h];rfl
@[go_sem] theorem Da5 (h:Jj d ⟨dst,op,ty,pos,after,some (j,gd)⟩=false):F8 P G ro V w0 n ops d (⟨dst,op,ty,pos,after,some (j,gd)⟩ :: l) σ K=CH P G ro V w0 n ops (til d (⟨dst,op,ty,pos,after,some (j,gd)⟩ :: l)) σ K:=by rw [F8,h];rfl
@[go_sem] theorem Da6 (h:Vs e ⟨dst,op,ty,pos,after,gu⟩=true):Jh P G ro V w0 n ops d e R (⟨dst,op,ty,pos,after,gu⟩ :: l) σ K=F8 P G ro V w0 n ops d l ⟨Ee dst (.val (.bool R)) σ.fr,σ.bk⟩ K:=by rw [Jh,h];rfl
@[go_sem] theorem Da7 (h:Vs e ⟨dst,op,ty,pos,after,gu⟩=false):Jh P G ro V w0 n ops d e R (⟨dst,op,ty,pos,after,gu⟩ :: l) σ K=Jh P G ro V w0 n ops d e R l ⟨Ee dst .any σ.fr,σ.bk⟩ K:=by rw [Jh,h];rfl
end
end
theorem Qg {ks:List Nat} {base:List (Nat×AV)} : Tl ks base base:=.nil
theorem Qh {ks:List Nat} {base fr:List (Nat×AV)} {k:Nat} {v:AV} (h:A84 k ks=true) (h2:Tl ks base fr):Tl ks base ((k,v) :: fr):=.cons h h2
@[go_sem] theorem D54 {b r:Bool} : (bif b then r else false)=(b&&r):=by cases b<;>rfl
@[go_sem] theorem Di9 {b r:Bool} : (bif b then true else r)=(b || r):=by cases b<;>rfl
attribute [local irreducible] AW AWY Be As vop Az Aq Ax qop Bd Bv Aj Ag Ay A7 Aw CH F8 Jh
attribute [local go_sem] Ez Zs S7 Dp Lu L6 Ro Ge L5 Ae Af
theorem Gp {α:Type} {l:List α} {p:α->Bool} {m:Nat} (h:m < l.length) (hp:p l[m]=false):l.all p=false:=List.all_eq_false.2 ⟨_,List.getElem_mem h,by simp [hp]⟩
theorem Ah4 (x:Cr):A7 Tryz.prog A8 168 [boA x] (.val (.bool (Ey x))) []:=by
 refine A7.of (n:=13) (rs:=[.tmp 2]) Tryz.func168 rfl (by kernel_rfl) Tryz.ntmps168 (by kernel_rfl) (by simp) (fun _ _=>A8.later) ?_
 intro hok V w0
 refine g ?_
 repeat' refine Jl rfl (g ?_)
 refine ⟨_,fun u=>S6 _ _ _ _ _ _ u,?_⟩
 refine g ?_
 repeat' (first | refine Jl rfl (g ?_) | refine B9 (g ?_) | refine Qk rfl rfl (g ?_) | refine Ql rfl rfl (g ?_) | refine Nq (fun h=>g ?_) | apply Vv rfl rfl rfl rfl | refine Qj rfl rfl rfl rfl ?_ | exact Qg | refine Qh rfl ?_)
 rw [Bool.eq_iff_iff]
 simp [Ey]
theorem Zf (x:Cr):A7 Tryz.prog A8 170 [boA x] (.val (.bool (Gt x))) []:=by
 refine A7.of (n:=22) (rs:=[.tmp 2]) Tryz.func170 rfl (by kernel_rfl) Tryz.ntmps170 (by kernel_rfl) (by simp) (fun _ _=>A8.later) ?_
 intro hok V w0
 refine g ?_
 repeat' (first | refine Jl rfl (g ?_) | refine B9 (g ?_) | refine Qk rfl rfl (g ?_) | refine Ql rfl rfl (g ?_) | refine Nq (fun h=>g ?_) | apply Nm rfl rfl rfl rfl | apply Vv rfl rfl rfl rfl | refine Qj rfl rfl rfl rfl ?_ | exact Qg | refine Qh rfl ?_ | refine Aa (Nz _ _) rfl (g ?_))
 rw [Bool.eq_iff_iff]
 simp [Gt]
 omega
theorem Bm0 {m:Msg} (h:Cs m=true):0<=m.from_/\m.from_ < 64/\0<=m.to_/\m.to_ < 64/\0<=m.session/\0<=m.seq/\m.notes.length<=257:=by
 unfold Cs Lj Dk at h
 grind
set_option maxRecDepth 100000 in
set_option maxHeartbeats 1600000 in
theorem Ah0 (m:Msg) (hI:C17 m):A7 Tryz.prog A8 83 [msA m] (.val (.bool (Cs m))) []:=by
 refine A7.of (n:=169) (rs:=[.tmp 2]) Tryz.func83 rfl (by kernel_rfl) Tryz.ntmps83 (by kernel_rfl) (by simp) (fun _ _=>A8.later) ?_
 intro hok V w0
 have hlen:m.notes.length<=1073741824:=by simpa [noI] using hok.1.2.2.2.2.2.2.2.1.1
 have he:=Ah4 m.body
 have hr:=Zf m.body
 refine g ?_
 repeat' (first | refine Jl rfl (g ?_) | refine B9 (g ?_) | refine Al (fun h=>g ?_) (fun h=>g ?_) | refine De (fun h=>g ?_) (fun h=>g ?_) | refine Qk rfl rfl (g ?_) | refine Ql rfl rfl (g ?_) | refine Nq (fun h=>g ?_) | apply Nm rfl rfl rfl rfl | apply Vv rfl rfl rfl rfl | refine Qj rfl rfl rfl rfl ?_ | exact Qg | refine Qh rfl ?_ | refine Aa (he) rfl (g ?_) | refine Aa (hr) rfl (g ?_) | refine Aa (Z7 _) rfl (g ?_) | refine Aa (Gh _) rfl (g ?_))
 ·cases hM:Cs m
  ·rfl
  ·have:=Bm0 hM
   simp at h
   omega
 ·rename_i hb
  unfold Cs Dk
  grind
 ·rename_i hb _
  unfold Cs Lj Dk
  grind
 ·rename_i hb _ _
  refine AW.loop (fun k:{k:Nat // k<=m.notes.length/\(m.notes.take k).all Bt=true}=>⟨[(1,.bp 200 0),(3,.val (.bool (decide ((m.interest.length:Int)=0)&&decide ((m.vector.length:Int)=0)))),(5,.val (.bool (decide (m.body.object=0)&&Ey m.body))),(6,.val (.int .i64 (k.1:Nat)))],[.box 200 [.val (.int .i64 m.kind),.val (.int .i64 m.from_),.val (.int .i64 m.to_),.val (.int .i64 m.session),.val (.int .i64 m.seq),.iv (spI m.interest),.iv (stI m.vector),.iv (noI m.notes),.val (.int .i64 m.body.object),.val (.int .i64 m.body.stamp.count),.val (.int .i64 m.body.stamp.node),.iv (byI m.body.value)]]⟩) (fun k=>m.notes.length - k.1) ⟨0,Nat.zero_le _,rfl⟩ id ⟨⟨rfl,rfl,rfl,rfl,trivial⟩,⟨rfl,trivial⟩,by simp [Bw,BA.id]⟩ fun ⟨k,hk,ha⟩=>?_
  simp only
  refine g ?_
  repeat' (first | refine Jl rfl (g ?_) | refine B9 (g ?_) | refine Al (fun h=>g ?_) (fun h=>g ?_) | refine De (fun h=>g ?_) (fun h=>g ?_) | refine Qk rfl rfl (g ?_) | refine Ql rfl rfl (g ?_) | refine Nq (fun h=>g ?_) | apply Vv rfl rfl rfl rfl | refine Qj rfl rfl rfl rfl ?_ | exact Qg | refine Qh rfl ?_ | refine ix_ (by omega) (g ?_) | refine Aa (Qx _) rfl (g ?_))
  ·have:m.notes.all Bt=false:=Gp (m:=k) (by omega) (by simpa using h)
   unfold Cs
   grind
  ·have hlt:k < m.notes.length:=by omega
   exact ⟨⟨k+1,hlt,by rw [List.take_succ_eq_append_getElem hlt,List.all_append,ha];simpa using h⟩,id,⟨⟨rfl,rfl,rfl,rfl,trivial⟩,⟨rfl,trivial⟩,by simp [Bw,BA.id]⟩,by show m.notes.length - (k+1) < m.notes.length - k;omega⟩
  ·obtain rfl:k=m.notes.length:=by omega
   rw [List.take_length] at ha
   unfold Cs Dk
   grind
 ·rename_i hb _ _ _
  unfold Cs Lj Dk
  grind
 ·rename_i hb _ _ _ _
  unfold Cs Lj Dk
  grind
 ·rename_i hb h1 h2 h3 h4
  simp [Cs,h1,h2,h3,h4,h]
end Go.Proofs.YtahgkllhbggmgaaGreatDoor
namespace Go.Proofs.YtahgkllhbggmgaaGreatDoor
open Go.ChangeShapes Go.WideShapes Go.ChangeAt Go.RowKit
attribute [local irreducible] AW AWY Be As vop Az Aq Ax qop Bd Bv Aj Ag Ay A7 Aw CH F8 Jh
attribute [local go_sem] Ez Zs S7 Dp Lu L6 Ro Ge L5 Ae Af
theorem Bh7 (x y:Operand) (p q r s:Int) (w:World):(do eqGuard .neq 38 x y (.agg #[.int .i64 p,.int .i64 q]) (.agg #[.int .i64 r,.int .i64 s]);binOp .neq 38 (.agg #[.int .i64 p,.int .i64 q]) (.agg #[.int .i64 r,.int .i64 s]):Sem Value).run Tryz.prog w=.ok (.bool (!(p==r&&q==s))) w:=by
 by_cases h1:p=r<;>by_cases h2:q=s<;>go_simp<;>simp [h1,h2]
theorem ne_ {x y:Operand} {p q r s:Int} {K:Value->Prop} (h:K (.bool (!(p==r&&q==s)))):∃ v,(∀ w,(do eqGuard .neq 38 x y (.agg #[.int .i64 p,.int .i64 q]) (.agg #[.int .i64 r,.int .i64 s]);binOp .neq 38 (.agg #[.int .i64 p,.int .i64 q]) (.agg #[.int .i64 r,.int .i64 s]):Sem Value).run Tryz.prog w=.ok v w)/\D0 (K v):=⟨_,fun u=>Bh7 _ _ _ _ _ _ u,B9 h⟩
theorem Aq0 (n:Int):A7 Tryz.prog A8 143 [.val (.int .i64 n)] (.val (.bool (Dk n))) []:=by
 refine A7.of (n:=9) (rs:=[.tmp 2]) Tryz.func143 rfl (by kernel_rfl) Tryz.ntmps143 (by kernel_rfl) (by simp) (fun _ _=>A8.later) ?_
 intro hok V w0
 refine g ?_
 repeat' (first | refine Jl rfl (g ?_) | refine B9 (g ?_) | refine Qk rfl rfl (g ?_) | refine Ql rfl rfl (g ?_) | refine Nq (fun h=>g ?_) | apply Nm rfl rfl rfl rfl | refine Qj rfl rfl rfl rfl ?_ | exact Qg | refine Qh rfl ?_)
 unfold Dk
 grind
theorem Z2 (x:Cr):A7 Tryz.prog A8 146 [boA x] (.val (.bool (Gt x))) []:=by
 refine A7.of (n:=22) (rs:=[.tmp 2]) Tryz.func146 rfl (by kernel_rfl) Tryz.ntmps146 (by kernel_rfl) (by simp) (fun _ _=>A8.later) ?_
 intro hok V w0
 refine g ?_
 repeat' (first | refine Jl rfl (g ?_) | refine B9 (g ?_) | refine Qk rfl rfl (g ?_) | refine Ql rfl rfl (g ?_) | refine Nq (fun h=>g ?_) | apply Nm rfl rfl rfl rfl | apply Vv rfl rfl rfl rfl | refine Qj rfl rfl rfl rfl ?_ | exact Qg | refine Qh rfl ?_ | refine Aa (Rh _ _) rfl (g ?_))
 unfold Gt
 grind
set_option maxRecDepth 100000 in
set_option maxHeartbeats 1600000 in
theorem Ac8 (m:Msg) (hI:C17 m):A7 Tryz.prog A8 69 [msA m] (.val (.bool (Cs m))) []:=by
 refine A7.of (n:=170) (rs:=[.tmp 2]) Tryz.func69 rfl (by kernel_rfl) Tryz.ntmps69 (by kernel_rfl) (by simp) (fun _ _=>A8.later) ?_
 intro hok V w0
 have hlen:m.notes.length<=1073741824:=by simpa [noI] using hok.1.2.2.2.2.2.2.2.1.1
 have l1:m.interest.length<=1073741824:=by simpa [Zs] using hok.1.2.2.2.2.2.1.1
 have l2:m.vector.length<=1073741824:=by simpa [S7] using hok.1.2.2.2.2.2.2.1.1
 refine g ?_
 repeat' (first | refine Jl rfl (g ?_) | refine B9 (g ?_) | refine Al (fun h=>g ?_) (fun h=>g ?_) | refine De (fun h=>g ?_) (fun h=>g ?_) | refine Qk rfl rfl (g ?_) | refine Ql rfl rfl (g ?_) | refine Nq (fun h=>g ?_) | apply Nm rfl rfl rfl rfl | apply Vv rfl rfl rfl rfl | refine Qj rfl rfl rfl rfl ?_ | exact Qg | refine Qh rfl ?_ | refine Aa (Aq0 _) rfl (g ?_) | refine Aa (Z2 m.body) rfl (g ?_) | refine Aa (A55 _) rfl (g ?_) | refine Aa (G6 _) rfl (g ?_) | (refine ne_ (g ?_))<;>refine g ?_)
 rotate_left 3
 ·refine AW.loop (fun k:{k:Nat // k<=m.notes.length/\(m.notes.take k).all Bt=true}=>⟨[(113,.iv (noI m.notes)),(114,.val (.int .i64 (m.notes.length:Nat))),(115,.val (.int .i64 (k.1:Nat)))],[]⟩) (fun k=>m.notes.length - k.1) ⟨0,Nat.zero_le _,rfl⟩ id ⟨⟨rfl,rfl,rfl,trivial⟩,trivial,List.nodup_nil⟩ fun ⟨k,hk,ha⟩=>?_
  simp only
  refine g ?_
  repeat' (first | refine Jl rfl (g ?_) | refine Al (fun h=>g ?_) (fun h=>g ?_) | refine De (fun h=>g ?_) (fun h=>g ?_) | refine ix_ (by omega) (g ?_) | refine Aa (N1 _) rfl (g ?_))
  ·have:m.notes.all Bt=false:=Gp (m:=k) (by omega) (by simpa using h)
   unfold Cs
   grind (splits:=60)
  ·have hlt:k < m.notes.length:=by omega
   exact ⟨⟨k+1,hlt,by rw [List.take_succ_eq_append_getElem hlt,List.all_append,ha];simpa using h⟩,id,⟨⟨rfl,rfl,rfl,trivial⟩,trivial,List.nodup_nil⟩,by show m.notes.length - (k+1) < m.notes.length - k;omega⟩
  ·obtain rfl:k=m.notes.length:=by omega
   rw [List.take_length] at ha
   clear hok hlen l1 l2
   rw [Bool.eq_iff_iff]
   simp_all [-List.length_eq_zero_iff,Cs,Ey]
   grind
 all_goals (clear hok hlen l1 l2;first | (unfold Cs Lj Ey;grind) | (rw [Bool.eq_iff_iff];simp_all [-List.length_eq_zero_iff,Cs,Lj,Ey];done) | (rw [Bool.eq_iff_iff];simp_all [-List.length_eq_zero_iff,Cs,Lj,Ey];grind))
end Go.Proofs.YtahgkllhbggmgaaGreatDoor
