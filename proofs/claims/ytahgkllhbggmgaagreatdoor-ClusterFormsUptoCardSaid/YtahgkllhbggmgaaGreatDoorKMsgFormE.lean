/- Whether a message is formed (the program's), over abstract states. -/
import Derived.Test.YtahgkllhbggmgaaGreatDoorKRefLog
import Derived.LoopNIn
import Derived.Test.YtahgkllhbggmgaaGreatDoorKSubsForm
import Derived.Test.YtahgkllhbggmgaaGreatDoorKStreamArgs
import Derived.Test.YtahgkllhbggmgaaGreatDoorKDisk
import Derived.Test.YtahgkllhbggmgaaGreatDoorKReached
set_option linter.all false
set_option linter.unnecessarySimpa false
set_option linter.unusedSimpArgs false
set_option linter.unusedVariables false
namespace Go.Proofs.YtahgkllhbggmgaaGreatDoor
open Go.ChangeShapes Go.WideShapes Go.ChangeAt Go.RowKit
section
variable {P : Program} {G : World -> Prop} {σ : Ab} {V w0 : World} {n : Nd} {ro : Option Nat} {K : Exit -> Ab -> Prop} {c : Code}
def AWr (P:Program) (G:World->Prop) (ro:Option Nat) (V w0:World) (n:Nd) (c:Code) (K:Exit->Ab->Prop):Nat->Ab->Prop
 | 0,_=>False
 | m+1,σ=>AW P G ro V w0 n c σ fun e σ'=>match e with
  | .normal=>AWr P G ro V w0 n c K m σ'
  | e=>K e σ'
theorem AWr.in (hG:∀ w',Below w0.heap.size w0 w'->G w') {m0:Fm} : ∀ (m:Nat) (σ:Ab),AWr P G ro V w0 n c K m σ->∀ m1 E a w,m1.nd=n->Fm.le m0 m1->St V w0 m1 E σ a w->Code.roundsIn (FW ro) 0 P c (Arr V w0 m0 K) m a w
 | m+1,σ,h,m1,E,a,w,hn,hle,hs=>wpIn_mono (h hG m1 E a w hn hs) fun e a' w' h'=>by
  obtain ⟨m',E',σ',h1,h2,h3⟩:=h'
  cases e with
  | normal=>exact AWr.in hG m σ' h2 m' E' a' w' (h1.nd.trans hn) (hle.trans h1) h3
  | _=>exact ⟨m',E',σ',hle.trans h1,h2,h3⟩
theorem AW.once (h:AW P G ro V w0 n c σ fun e σ'=>match e with
  | .normal=>False
  | e=>K e σ'):AW P G ro V w0 n (.loop c) σ K:=fun hG m0 E a w hn hs=>wpIn_loop_rounds 1 (AWr.in hG 1 σ h m0 E a w hn (Fm.le.refl m0) hs)
end
def U3 (d:Nat) (o:Oper):Bool:=match o.op with
 | .pick (.tmp c) _ _=>Nat.beq c d
 | _=>false
def Hv:Option Nat->Oper->Bool
 | none,_=>false
 | some d,o=>U3 d o
def til (d:Option Nat):List Oper->List Oper
 | []=>[]
 | o :: r=>bif Hv d o then [] else o :: til d r
def aft (d:Nat):List Oper->List Oper
 | []=>[]
 | o :: r=>bif U3 d o then r else aft d r
def Qe (d:Nat):List Oper->Option Oper
 | []=>none
 | o :: r=>bif U3 d o then some o else Qe d r
def Dc6 (g:Bool) (o:Oper):Option Operand:=match o.op with
 | .pick _ x (.const (.bool false))=>bif g then some x else none
 | .pick _ (.const (.bool true)) y=>bif g then none else some y
 | _=>none
def Np:List Oper->List Nat
 | []=>[]
 | o :: r=>match o.dst with
  | some d=>d :: Np r
  | none=>Np r
theorem Uw:∀ l,til none l=l
 | []=>rfl
 | o :: r=>by rw [til,Hv,cond_false,Uw r]
theorem Ar3 {d:Nat} : ∀ {l:List Oper} {pk:Oper},Qe d l=some pk->l=til (some d) l++pk :: aft d l
 | [],_,h=>by cases h
 | o :: r,pk,h=>by
  cases hp:U3 d o with
  | true =>
   simp only [Qe,hp,cond_true,Option.some.injEq] at h
   subst h
   simp [til,aft,Hv,hp]
  | false =>
   simp only [Qe,hp,cond_false] at h
   have:=Ar3 h
   simp only [til,aft,Hv,hp,cond_false,List.cons_append]
   rw [<-this]
inductive Tl (ks:List Nat) (base:List (Nat×AV)):List (Nat×AV)->Prop
 | nil:Tl ks base base
 | cons {k:Nat} {v:AV} {fr:List (Nat×AV)} : A20 k ks=true->Tl ks base fr->Tl ks base ((k,v) :: fr)
theorem Ac8 {i:Nat} : ∀ {ks:List Nat},A20 i ks=true->i∈ks
 | [],h=>by cases h
 | a :: l,h=>by
  simp only [A20,Bool.or_eq_true] at h
  rcases h with h | h
  ·rw [Nat.eq_of_beq_eq_true h];simp
  ·exact List.mem_cons_of_mem _ (Ac8 h)
theorem Tl.look {ks:List Nat} {base fr:List (Nat×AV)} (h:Tl ks base fr) {i:Nat} (hi:i∉ks):Go.Proofs.YtahgkllhbggmgaaGreatDoor.look fr i=Go.Proofs.YtahgkllhbggmgaaGreatDoor.look base i:=by
 induction h with
 | nil=>rfl
 | @cons k v fr hk _ ih =>
  have:¬ i=k:=fun e=>hi (by rw [e];exact Ac8 hk)
  simp only [Go.Proofs.YtahgkllhbggmgaaGreatDoor.look,if_neg this]
  exact ih
def Dj1:List Nat->List (Nat×AV)->List (Nat×AV)
 | [],fr=>fr
 | d :: r,fr=>(d,.any) :: Dj1 r fr
section
variable {P : Program} {G : World -> Prop} {ro : Option Nat} {V w0 : World} {n : Nd} {ops : List Oper}
def CH (P:Program) (G:World->Prop) (ro:Option Nat) (V w0:World) (n:Nd) (ops l:List Oper) (σ:Ab) (K:Ab->Prop):Prop :=
 (∀ w',Below w0.heap.size w0 w'->G w')->D8 n l=true->∀ (m:Fm) (E:Env) (a:Act) (w:World) (Q:Exit->Act->World->Prop) (rest:List Oper),m.nd=n->St V w0 m E σ a w ->
  (∀ E' σ' a' w',K σ'->St V w0 m E' σ' a' w'->wpListIn (FW ro) 0 P ops.toArray Q rest a' w')->wpListIn (FW ro) 0 P ops.toArray Q (l++rest) a w
def Eo (P:Program) (G:World->Prop) (ro:Option Nat) (V w0:World) (n:Nd) (ops:List Oper) (d:Option Nat):List Oper->Ab->(Ab->Prop)->Prop
 | [],σ,K=>K σ
 | o :: rest,σ,K=>bif Hv d o then K σ else match o.guard with
  | none=>vop P G σ o fun r bk=>Eo P G ro V w0 n ops d rest ⟨Dy o.dst r σ.fr,bk⟩ K
  | some _=>CH P G ro V w0 n ops (til d (o :: rest)) σ K
def Hj (P:Program) (G:World->Prop) (ro:Option Nat) (V w0:World) (n:Nd) (ops:List Oper) (d:Option Nat) (e:Nat) (R:Bool):List Oper->Ab->(Ab->Prop)->Prop
 | [],_,_=>False
 | o :: rest,σ,K=>bif U3 e o then Eo P G ro V w0 n ops d rest ⟨Dy o.dst (.val (.bool R)) σ.fr,σ.bk⟩ K else Hj P G ro V w0 n ops d e R rest ⟨Dy o.dst .any σ.fr,σ.bk⟩ K
theorem Bz6 {o:Oper} {l:List Oper} (hd:D8 n (o :: l)=true):(∀ d,o.dst=some d->d < n.n/\d∉n.fx)/\D8 n l=true:=by
 simp only [D8,Bool.and_eq_true] at hd
 refine ⟨fun d e=>?_,hd.2⟩
 have:=hd.1
 rw [e] at this
 simp only [Bool.and_eq_true,Bool.not_eq_true'] at this
 exact ⟨Bk.1 this.1,Lo this.2⟩
theorem Ae9 {r:List Oper} : ∀ {l:List Oper},D8 n (l++r)=(D8 n l&&D8 n r)
 | []=>by simp [D8]
 | o :: l=>by simp only [List.cons_append,D8,Ae9 (l:=l),Bool.and_assoc]
theorem Bd7 {σ:Ab} {K:Ab->Prop} (h:K σ):CH P G ro V w0 n ops [] σ K:=fun _ _ _ E a w _ _ _ hs hQ=>hQ E σ a w h hs
def C21 (P:Program) (G:World->Prop) (σ:Ab) (o:Oper) (r:AV) (bk':List BA):Prop:=∀ (V w0:World) (n:Fm) (E:Env) (a:Act) (w:World),St V w0 n E σ a w->(∀ w',Below w0.heap.size w0 w'->G w')->∀ (N:Act->World->Prop) (Q:Exit->Act->World->Prop),
  (∀ v w' E',St V w0 n E' ⟨σ.fr,bk'⟩ a w'->At E' (vis V w0 w' (Ac E' bk')) v r->N (a.put o.dst v) w')->∀ ro,o.wpIn (FW ro) 0 P a w N Q
theorem Ug {o:Oper} {l:List Oper} {σ:Ab} {K:Ab->Prop} {A B:Prop} (h:Mf ops σ.fr o.guard A B) (hA:A->∃ r bk',C21 P G σ o r bk'/\CH P G ro V w0 n ops l ⟨Dy o.dst r σ.fr,bk'⟩ K) (hB:B->CH P G ro V w0 n ops l ⟨Dy o.dst (.val undef) σ.fr,σ.bk⟩ K):CH P G ro V w0 n ops (o :: l) σ K:=by
 intro hG hd m E a w Q rest hn hs hQ
 obtain ⟨hdst,hd2⟩:=Bz6 hd
 have hdst':∀ d,o.dst=some d->d < m.nd.n/\d∉m.nd.fx:=by rw [hn];exact hdst
 refine wpListIn_step fun K' hK'=>?_
 rcases Sn hs h with ⟨hw,hr⟩ | ⟨hw,hr⟩
 ·rw [if_pos hw]
  obtain ⟨r,bk',hu,hK⟩:=hA hr
  exact hu V w0 m E a w hs hG K' Q (fun v w' E' hs' hv=>hK' _ _ (hK hG hd2 m E' (a.put o.dst v) w' Q rest hn (hs'.put hdst' hv) hQ)) ro
 ·rw [if_neg (by rw [hw];simp)]
  exact ⟨fun _ _=>trivial,hK' _ _ (hB hr hG hd2 m E (a.put o.dst undef) w Q rest hn (hs.put hdst' .val) hQ)⟩
theorem Uq {σ:Ab} {o:Oper} {K:AV->List BA->Prop} (h:vop P G σ o K):∃ r bk',C21 P G σ o r bk'/\K r bk':=by
 obtain ⟨r,bk',hK,hu⟩:=Zf h
 exact ⟨r,bk',hu,hK⟩
theorem Af9 {d:Option Nat} {K:Ab->Prop} : ∀ {l:List Oper} {σ:Ab},Eo P G ro V w0 n ops d l σ K->CH P G ro V w0 n ops (til d l) σ K
 | [],σ,h=>Bd7 h
 | o :: l,σ,h=>by
  unfold Eo at h
  cases hp:Hv d o with
  | true =>
   rw [hp] at h
   rw [til,hp]
   exact Bd7 h
  | false =>
   rw [hp] at h
   cases hg:o.guard with
   | none =>
    rw [hg] at h
    rw [til,hp]
    refine Ug (A:=vop P G σ o fun r bk=>Eo P G ro V w0 n ops d l ⟨Dy o.dst r σ.fr,bk⟩ K) (B:=False) (by rw [hg];exact h) (fun h=>?_) (fun h=>h.elim)
    obtain ⟨r,bk',h1,h2⟩:=Uq h
    exact ⟨r,bk',h1,Af9 h2⟩
   | some x =>
    rw [hg] at h
    exact h
theorem Au8 {l:List Oper} {σ σ':Ab} {K:Ab->Prop} (hb:σ'.bk=σ.bk) (h:∀ i E X v,At E X v (look σ.fr i)->At E X v (look σ'.fr i)) (hc:CH P G ro V w0 n ops l σ' K):CH P G ro V w0 n ops l σ K:=by
 obtain ⟨fr,bk⟩:=σ
 obtain ⟨fr',bk'⟩:=σ'
 simp only at hb h
 subst hb
 exact fun hG hd m E a w Q rest hn hs hQ=>hc hG hd m E a w Q rest hn ⟨hs.ext,hs.low,hs.apart,hs.base,hs.holds,fun i=>h i _ _ _ (hs.slots i),hs.size,hs.defers,hs.hold⟩ hQ
theorem Bz9 {l l2:List Oper} {σ:Ab} {K K2:Ab->Prop} (h:CH P G ro V w0 n ops l σ K) (h2:∀ σ',K σ'->CH P G ro V w0 n ops l2 σ' K2):CH P G ro V w0 n ops (l++l2) σ K2:=by
 intro hG hd m E a w Q rest hn hs hQ
 rw [Ae9,Bool.and_eq_true] at hd
 rw [List.append_assoc]
 exact h hG hd.1 m E a w Q _ hn hs fun E' σ' a' w' hK hs'=>h2 σ' hK hG hd.2 m E' a' w' Q rest hn hs' hQ
def okG (ops:List Oper) (fr:List (Nat×AV)):Option (Nat×Bool)->Bool
 | none=>true
 | some (j,g)=>match Gx ops fr j with
  | .val (.bool x)=>x==g
  | _=>false
theorem Bj3 {fr:List (Nat×AV)} {gd:Option (Nat×Bool)} {A B:Prop} (h:okG ops fr gd=true) (hA:A):Mf ops fr gd A B:=by
 match gd,h with
 | none,_=>exact hA
 | some (j,g),h =>
  unfold okG at h
  unfold Mf
  simp only at h ⊢
  split at h
  ·rename_i x hy
   rw [hy]
   have:x=g:=by simpa using h
   subst this
   exact ⟨fun _=>hA,fun e=>by cases x<;>cases e⟩
  ·cases h
def Ar9 (v:Bool) (o:Oper):Operand:=match o.op with
 | .pick _ x y=>bif v then x else y
 | _=>.const undef
inductive A54 (ops:List Oper) (e:Nat) (v:Bool) (pk:Oper) (r:Bool) (ks:List Nat) (σ σ1:Ab):Prop
 | mk:σ1.bk=σ.bk->okG ops σ1.fr pk.guard=true->nrm (look σ1.fr e)=.val (.bool v)->nrm (ev σ1.fr (Ar9 v pk))=.val (.bool r)->Tl ks ((e,.val (.bool v)) :: σ.fr) σ1.fr->A54 ops e v pk r ks σ σ1
theorem Pg {e:Nat} {v:Bool} {pk:Oper} {r:Bool} {ks:List Nat} {σ σ1:Ab} (h1:σ1.bk=σ.bk) (h2:okG ops σ1.fr pk.guard=true) (h3:nrm (look σ1.fr e)=.val (.bool v)) (h4:nrm (ev σ1.fr (Ar9 v pk))=.val (.bool r)) (h5:Tl ks ((e,.val (.bool v)) :: σ.fr) σ1.fr):A54 ops e v pk r ks σ σ1:=.mk h1 h2 h3 h4 h5
theorem Ar2 {d:Option Nat} {e:Nat} {pk:Oper} : ∀ {l:List Oper},Qe e (til d l)=some pk->til (some e) (til d l)=til (some e) l/\aft e (til d l)=til d (aft e l)/\Qe e l=some pk/\U3 e pk=true
 | [],h=>by cases h
 | o :: l,h=>by
  cases hp:Hv d o with
  | true=>rw [til,hp] at h;cases h
  | false =>
   rw [til,hp] at h ⊢
   simp only [cond_false] at h ⊢
   cases hq:U3 e o with
   | true =>
    rw [Qe,hq] at h
    obtain rfl:o=pk:=Option.some.inj h
    simp [til,aft,Hv,hq,Qe]
   | false =>
    rw [Qe,hq] at h
    obtain ⟨h1,h2,h3,h4⟩:=Ar2 (l:=l) h
    simp only [til,aft,Hv,hq,cond_false,h1,h2,h3,h4,Qe,and_self]
theorem Aq9 {d:Option Nat} {e:Nat} {R:Bool} {K:Ab->Prop} : ∀ {l:List Oper} {σ:Ab},Hj P G ro V w0 n ops d e R l σ K->∃ pk fr,Qe e l=some pk/\Eo P G ro V w0 n ops d (aft e l) ⟨Dy pk.dst (.val (.bool R)) fr,σ.bk⟩ K/\∀ i,look fr i=.any\/(look fr i=look σ.fr i/\i∉Np (til (some e) l))
 | [],_,h=>h.elim
 | o :: l,σ,h=>by
  cases hq:U3 e o with
  | true =>
   rw [Hj,hq] at h
   exact ⟨o,σ.fr,by simp [Qe,hq],by simpa [aft,hq] using h,fun i=>.inr ⟨rfl,by simp [til,Hv,hq,Np]⟩⟩
  | false =>
   rw [Hj,hq] at h
   obtain ⟨pk,fr,h1,h2,h3⟩:=Aq9 h
   refine ⟨pk,fr,by simp [Qe,hq,h1],by simpa [aft,hq] using h2,fun i=>?_⟩
   rcases h3 i with h4 | ⟨h4,h5⟩
   ·exact .inl h4
   cases hd:o.dst with
   | none =>
    rw [hd] at h4
    exact .inr ⟨h4,by simp only [til,Hv,hq,cond_false,Np,hd];exact h5⟩
   | some k =>
    rw [hd] at h4
    simp only [Dy,look] at h4
    by_cases e1:i=k
    ·rw [if_pos e1] at h4;exact .inl h4
    ·rw [if_neg e1] at h4
     exact .inr ⟨h4,by simp only [til,Hv,hq,cond_false,Np,hd,List.mem_cons,not_or];exact ⟨e1,h5⟩⟩
def Cq6 (ops:List Oper) (j:Nat):Option Nat:=match ops[j]? with
 | some o=>o.dst
 | none=>none
theorem Ay6 {σ:Ab} {pk:Oper} {e:Nat} {v r:Bool} (hp:U3 e pk=true) (h1:nrm (look σ.fr e)=.val (.bool v)) (h2:nrm (ev σ.fr (Ar9 v pk))=.val (.bool r)):∃ x,C21 P G σ pk x σ.bk/\∀ E X u,At E X u x->At E X u (.val (.bool r)):=by
 obtain ⟨dst,op,ty,pos,after,gd⟩:=pk
 unfold U3 at hp
 unfold Ar9 at h2
 simp only at hp h2
 split at hp
 ·rename_i c x y
  obtain rfl:c=e:=Nat.eq_of_beq_eq_true hp
  simp only at h2
  have hv:vop P G σ ⟨dst,.pick (.tmp c) x y,ty,pos,after,gd⟩ fun q bk=>bk=σ.bk/\∀ E X u,At E X u q->At E X u (.val (.bool r)):=by
   refine ⟨by unfold C5;simp [G6],?_⟩
   show match nrm (look σ.fr c) with
    | .val (.bool true)=>_
    | .val (.bool false)=>_
    | _=>False
   rw [h1]
   cases v
   ·exact ⟨by simp,fun E X u hu=>by have:=hu.nrm_;rwa [show nrm (ev σ.fr y)=.val (.bool r) from h2] at this⟩
   ·exact ⟨by simp,fun E X u hu=>by have:=hu.nrm_;rwa [show nrm (ev σ.fr x)=.val (.bool r) from h2] at this⟩
  obtain ⟨q,bk',h3,h4,h5⟩:=Uq hv
  subst h4
  exact ⟨q,h3,h5⟩
 ·cases hp
def Imp (p q:Prop):Prop:=p->q
theorem Mu {p q:Prop} (h:p->q):Imp p q:=h
@[congr] theorem Dg0 {p q b:Prop} (_:Tk=b):Imp p q=Imp p q:=rfl
theorem U5 {d:Option Nat} {o:Oper} {l:List Oper} {σ:Ab} {K:Ab->Prop} {e j:Nat} {gd b rt rf:Bool} {pk:Oper} (_:o.guard=some (j,gd)) (_:Cq6 ops j=some e) (hy:nrm (look σ.fr e)=.val (.bool b)) (hp:Qe e (til d (o :: l))=some pk)
  (h1:Imp (b=true) (CH P G ro V w0 n ops (til (some e) (o :: l)) ⟨(e,.val (.bool true)) :: σ.fr,σ.bk⟩ (A54 ops e true pk rt (Np (til (some e) (o :: l))) σ)))
  (h0:Imp (b=false) (CH P G ro V w0 n ops (til (some e) (o :: l)) ⟨(e,.val (.bool false)) :: σ.fr,σ.bk⟩ (A54 ops e false pk rf (Np (til (some e) (o :: l))) σ)))
  (h2:Ct (Hj P G ro V w0 n ops d e (bif b then rt else rf) (o :: l) ⟨(e,.val (.bool b)) :: σ.fr,σ.bk⟩ K)):CH P G ro V w0 n ops (til d (o :: l)) σ K:=by
 obtain ⟨t1,t2,t3,t4⟩:=Ar2 hp
 unfold Ct at h2
 obtain ⟨pk',fr,q1,q2,q3⟩:=Aq9 h2
 obtain rfl:pk=pk':=Option.some.inj (t3.symm.trans q1)
 have main:∀ v r:Bool,b=v->CH P G ro V w0 n ops (til (some e) (o :: l)) ⟨(e,.val (.bool v)) :: σ.fr,σ.bk⟩ (A54 ops e v pk r (Np (til (some e) (o :: l))) σ)->(bif b then rt else rf)=r->CH P G ro V w0 n ops (til d (o :: l)) σ K:=by
  intro v r hv hr hbr
  rw [Ar3 hp,t1,t2]
  refine Bz9 (Au8 (σ':=⟨(e,.val (.bool v)) :: σ.fr,σ.bk⟩) rfl (fun i E X u hu=>?_) hr) fun σ1 hE=>?_
  ·simp only [look]
   split
   ·rename_i h
    subst h
    have:=hu.nrm_
    rw [hy,hv] at this
    exact this
   ·exact hu
  obtain ⟨e1,e2,e3,e4,e5⟩:=hE
  obtain ⟨x,hx,hx2⟩:=Ay6 t4 e3 e4
  refine Ug (A:=True) (B:=False) (Bj3 e2 trivial) (fun _=>⟨x,_,hx,?_⟩) (fun h=>h.elim)
  refine Au8 (σ':=⟨Dy pk.dst (.val (.bool (bif b then rt else rf))) fr,σ.bk⟩) e1.symm (fun i E X u hu=>?_) (Af9 q2)
  have rest:At E X u (look σ1.fr i)->At E X u (look fr i):=fun hu=>by
   rcases q3 i with h | ⟨h,hn⟩
   ·rw [h];exact .any
   ·rw [h,hv]
    rw [e5.look hn] at hu
    exact hu
  simp only at hu ⊢
  cases hd:pk.dst with
  | none=>rw [hd] at hu;exact rest hu
  | some k =>
   rw [hd] at hu
   simp only [Dy,look] at hu ⊢
   split
   ·rename_i h
    rw [if_pos h] at hu
    rw [hbr]
    exact hx2 _ _ _ hu
   ·rename_i h
    rw [if_neg h] at hu
    exact rest hu
 cases b
 ·exact main false rf rfl (h0 rfl) rfl
 ·exact main true rt rfl (h1 rfl) rfl
theorem Ms {d:Option Nat} {o:Oper} {l:List Oper} {σ:Ab} {K:Ab->Prop} {e j:Nat} {gd rt rf:Bool} {p:Prop} [Decidable p] {pk:Oper} (hg:o.guard=some (j,gd)) (he:Cq6 ops j=some e) (hy:nrm (look σ.fr e)=.val (.bool (decide p))) (hp:Qe e (til d (o :: l))=some pk)
  (h1:Imp p (CH P G ro V w0 n ops (til (some e) (o :: l)) ⟨(e,.val (.bool true)) :: σ.fr,σ.bk⟩ (A54 ops e true pk rt (Np (til (some e) (o :: l))) σ)))
  (h0:Imp (¬ p) (CH P G ro V w0 n ops (til (some e) (o :: l)) ⟨(e,.val (.bool false)) :: σ.fr,σ.bk⟩ (A54 ops e false pk rf (Np (til (some e) (o :: l))) σ)))
  (h2:Ct (Hj P G ro V w0 n ops d e (bif decide p then rt else rf) (o :: l) ⟨(e,.val (.bool (decide p))) :: σ.fr,σ.bk⟩ K)):CH P G ro V w0 n ops (til d (o :: l)) σ K :=
 U5 hg he hy hp (Mu fun h=>h1 (of_decide_eq_true h)) (Mu fun h=>h0 (of_decide_eq_false h)) h2
section
variable {dst : Option Tmp} {op : Op} {ty : TypeId} {pos : String} {after : Array Edge} {j : Nat} {gd : Bool} {d : Option Nat} {l : List Oper} {σ : Ab} {K : Ab -> Prop}
theorem Ph (hs:Hv d ⟨dst,op,ty,pos,after,some (j,gd)⟩=false) (hy:Gx ops σ.fr j=.val (.bool gd)) (h:vop P G σ ⟨dst,op,ty,pos,after,some (j,gd)⟩ fun r bk=>Eo P G ro V w0 n ops d l ⟨Dy dst r σ.fr,bk⟩ K):CH P G ro V w0 n ops (til d (⟨dst,op,ty,pos,after,some (j,gd)⟩ :: l)) σ K:=by
 rw [til,hs]
 obtain ⟨r,bk',h1,h2⟩:=Uq h
 refine Ug (A:=True) (B:=False) ?_ (fun _=>⟨r,bk',h1,Af9 h2⟩) (fun h=>h.elim)
 unfold Mf
 simp only [hy]
 cases gd<;>simp
theorem Pi (hs:Hv d ⟨dst,op,ty,pos,after,some (j,gd)⟩=false) (hy:Gx ops σ.fr j=.val (.bool !gd)) (h:Eo P G ro V w0 n ops d l ⟨Dy dst (.val undef) σ.fr,σ.bk⟩ K):CH P G ro V w0 n ops (til d (⟨dst,op,ty,pos,after,some (j,gd)⟩ :: l)) σ K:=by
 rw [til,hs]
 refine Ug (A:=False) (B:=True) ?_ (fun h=>h.elim) (fun _=>Af9 h)
 unfold Mf
 simp only [hy]
 cases gd<;>simp
theorem AW.regM {id:Nat} {l:List Oper} {σ:Ab} {K:Exit->Ab->Prop} (hd:D8 n l=true) (h:Eo P G ro V w0 n l none l σ fun σ'=>K .normal σ'):AW P G ro V w0 n (.region id l.toArray false) σ K :=
 fun hG m E a w hn hs=>wpIn_region_lit (by
  have:=Af9 h hG (by rw [Uw];exact hd) m E a w (Arr V w0 m K) [] hn hs fun E' σ' a' w' hK hs'=>⟨m,E',σ',Fm.le.refl m,hK,hs'⟩
  rwa [Uw,List.append_nil] at this)
end
def W2 (P:Program) (G:World->Prop) (ro:Option Nat) (V w0:World) (n:Nd):Code->Ab->(Exit->Ab->Prop)->Prop
 | .seq x y,σ,K=>W2 P G ro V w0 n x σ fun e σ'=>match e with
  | .normal=>AW P G ro V w0 n y σ' K
  | e=>K e σ'
 | .block id c,σ,K=>W2 P G ro V w0 n c σ fun e σ'=>match e with
  | .exit j=>if j=id then K .normal σ' else K (.exit j) σ'
  | e=>K e σ'
 | .scope c,σ,K=>W2 P G ro V w0 n c σ fun e σ'=>match e with
  | .goto _=>False
  | e=>K e σ'
 | .region _ ops false,σ,K=>Rk (D8 n ops.toList) (Eo P G ro V w0 n ops.toList none ops.toList σ fun σ'=>K .normal σ')
 | c,σ,K=>W1 P G ro V w0 n c σ K
theorem C14:∀ {c:Code} {σ:Ab} {K:Exit->Ab->Prop},W2 P G ro V w0 n c σ K->AW P G ro V w0 n c σ K:=by
 intro c
 induction c with
 | seq x y ihx _=>exact fun h=>AW.seq (ihx h)
 | block id c ih=>exact fun h=>AW.block (ih h)
 | scope c ih=>exact fun h=>AW.scope (ih h)
 | region id ops d =>
  cases d with
  | false =>
   intro σ K h
   exact AW.regM (l:=ops.toList) h.1 h.2
  | true=>exact fun h=>Aq5 h
 | _=>exact fun h=>Aq5 h
variable {c : Code} {σ σ' : Ab} {KE : Exit -> Ab -> Prop}
theorem Hz (_:B57 c=true) (h:W2 P G ro V w0 n c σ KE):AW P G ro V w0 n c σ KE:=C14 h
@[congr] theorem Dn4 {B0:Prop} (h:σ=σ') (_:Tk=B0):W2 P G ro V w0 n c σ KE=W2 P G ro V w0 n c σ' KE:=by rw [h]
variable {id : Nat} {a b : Code}
@[go_sem] theorem D61:W2 P G ro V w0 n .skip σ KE=KE .normal σ:=rfl
@[go_sem] theorem Dj5:W2 P G ro V w0 n .ret σ KE=KE .ret σ:=rfl
@[go_sem] theorem D63:W2 P G ro V w0 n (.exit id) σ KE=KE (.exit id) σ:=rfl
@[go_sem] theorem Ct5:W2 P G ro V w0 n (.label id) σ KE=KE .normal σ:=rfl
@[go_sem] theorem Dj4:W2 P G ro V w0 n (.seq a b) σ KE=W2 P G ro V w0 n a σ fun e σ'=>match e with
  | .normal=>AW P G ro V w0 n b σ' KE
  | e=>KE e σ':=rfl
@[go_sem] theorem Ct7:W2 P G ro V w0 n (.block id a) σ KE=W2 P G ro V w0 n a σ fun e σ'=>match e with
  | .exit j=>if j=id then KE .normal σ' else KE (.exit j) σ'
  | e=>KE e σ':=rfl
@[go_sem] theorem Ct3:W2 P G ro V w0 n (.scope a) σ KE=W2 P G ro V w0 n a σ fun e σ'=>match e with
  | .goto _=>False
  | e=>KE e σ':=rfl
@[go_sem] theorem D64 {q:Operand} : W2 P G ro V w0 n (.cond q a b) σ KE=Ka (nrm (ev σ.fr q)) (AW P G ro V w0 n a σ KE) (AW P G ro V w0 n b σ KE):=rfl
@[go_sem] theorem C99 {l:List Oper} : W2 P G ro V w0 n (.region id l.toArray false) σ KE=Rk (D8 n l) (Eo P G ro V w0 n l none l σ fun σ'=>KE .normal σ'):=rfl
@[go_sem] theorem Ct6 {q:Array Oper} : W2 P G ro V w0 n (.region id q true) σ KE=AW P G ro V w0 n (.region id q true) σ KE:=rfl
@[go_sem] theorem D62:W2 P G ro V w0 n (.loop a) σ KE=AW P G ro V w0 n (.loop a) σ KE:=rfl
@[go_sem] theorem Ct4 {q:Operand} {ps:Array Tmp} : W2 P G ro V w0 n (.rangeFunc q ps a b) σ KE=AW P G ro V w0 n (.rangeFunc q ps a b) σ KE:=rfl
section
variable {dst : Option Tmp} {op : Op} {ty : TypeId} {pos : String} {after : Array Edge} {gu : Option (Nat × Bool)} {j e : Nat} {gd R : Bool} {d : Option Nat} {l : List Oper} {K : Ab -> Prop} {o : Oper}
@[congr] theorem Cb2 {B0:Prop} (h:σ=σ') (_:Tk=B0):Eo P G ro V w0 n ops d l σ K=Eo P G ro V w0 n ops d l σ' K:=by rw [h]
@[congr] theorem Cb3 {B0:Prop} {R':Bool} (hR:R=R') (h:σ=σ') (_:Tk=B0):Hj P G ro V w0 n ops d e R l σ K=Hj P G ro V w0 n ops d e R' l σ' K:=by rw [hR,h]
@[congr] theorem Do0 {B0:Prop} (h:σ=σ') (_:Tk=B0):CH P G ro V w0 n ops l σ K=CH P G ro V w0 n ops l σ' K:=by rw [h]
@[congr] theorem D73 {B0:Prop} {v r:Bool} {ks:List Nat} {σ1 σ2:Ab} (h:σ1=σ2) (_:Tk=B0):A54 ops e v o r ks σ σ1=A54 ops e v o r ks σ σ2:=by rw [h]
@[go_sem] theorem C25:Eo P G ro V w0 n ops d [] σ K=K σ:=rfl
@[go_sem] theorem Bs8 (h:Hv d o=true):Eo P G ro V w0 n ops d (o :: l) σ K=K σ:=by rw [Eo,h];rfl
@[go_sem] theorem Bs9 (h:Hv d ⟨dst,op,ty,pos,after,none⟩=false):Eo P G ro V w0 n ops d (⟨dst,op,ty,pos,after,none⟩ :: l) σ K=vop P G σ ⟨dst,op,ty,pos,after,none⟩ fun r bk=>Eo P G ro V w0 n ops d l ⟨Dy dst r σ.fr,bk⟩ K:=by rw [Eo,h];rfl
@[go_sem] theorem Cv9 (h:Hv d ⟨dst,op,ty,pos,after,some (j,gd)⟩=false):Eo P G ro V w0 n ops d (⟨dst,op,ty,pos,after,some (j,gd)⟩ :: l) σ K=CH P G ro V w0 n ops (til d (⟨dst,op,ty,pos,after,some (j,gd)⟩ :: l)) σ K:=by rw [Eo,h];rfl
@[go_sem] theorem Cw0 (h:U3 e ⟨dst,op,ty,pos,after,gu⟩=true):Hj P G ro V w0 n ops d e R (⟨dst,op,ty,pos,after,gu⟩ :: l) σ K=Eo P G ro V w0 n ops d l ⟨Dy dst (.val (.bool R)) σ.fr,σ.bk⟩ K:=by rw [Hj,h];rfl
@[go_sem] theorem Cw1 (h:U3 e ⟨dst,op,ty,pos,after,gu⟩=false):Hj P G ro V w0 n ops d e R (⟨dst,op,ty,pos,after,gu⟩ :: l) σ K=Hj P G ro V w0 n ops d e R l ⟨Dy dst .any σ.fr,σ.bk⟩ K:=by rw [Hj,h];rfl
end
end
theorem Pd {ks:List Nat} {base:List (Nat×AV)} : Tl ks base base:=.nil
theorem Pe {ks:List Nat} {base fr:List (Nat×AV)} {k:Nat} {v:AV} (h:A20 k ks=true) (h2:Tl ks base fr):Tl ks base ((k,v) :: fr):=.cons h h2
@[go_sem] theorem Cr2 {b r:Bool} : (bif b then r else false)=(b&&r):=by cases b<;>rfl
@[go_sem] theorem D39 {b r:Bool} : (bif b then true else r)=(b || r):=by cases b<;>rfl
attribute [local irreducible] AW AWY Bd As vop B4 Ap Aw qop Bc Bs Ai Ag Ay A7 Av CH Eo Hj
attribute [local go_sem] F8 Y7 Qy Dg L6 K8 Qg Fx K7 Ae Af
theorem G8 {α:Type} {l:List α} {p:α->Bool} {m:Nat} (h:m < l.length) (hp:p l[m]=false):l.all p=false:=List.all_eq_false.2 ⟨_,List.getElem_mem h,by simp [hp]⟩
theorem A97 (x:Ci):A7 Tryz.prog A8 168 [boA x] (.val (.bool (Ej x))) []:=by
 refine A7.of (n:=13) (rs:=[.tmp 2]) Tryz.func168 rfl (by kernel_rfl) Tryz.ntmps168 (by kernel_rfl) (by simp) (fun _ _=>A8.later) ?_
 intro hok V w0
 refine g ?_
 repeat' refine Hz rfl (g ?_)
 refine ⟨_,fun u=>Qx _ _ _ _ _ _ u,?_⟩
 refine g ?_
 repeat' (first | refine Hz rfl (g ?_) | refine Bt (g ?_) | refine Ph rfl rfl (g ?_) | refine Pi rfl rfl (g ?_) | refine Mu (fun h=>g ?_) | apply U5 rfl rfl rfl rfl | refine Pg rfl rfl rfl rfl ?_ | exact Pd | refine Pe rfl ?_)
 rw [Bool.eq_iff_iff]
 simp [Ej]
theorem Xq (x:Ci):A7 Tryz.prog A8 170 [boA x] (.val (.bool (Ga x))) []:=by
 refine A7.of (n:=22) (rs:=[.tmp 2]) Tryz.func170 rfl (by kernel_rfl) Tryz.ntmps170 (by kernel_rfl) (by simp) (fun _ _=>A8.later) ?_
 intro hok V w0
 refine g ?_
 repeat' (first | refine Hz rfl (g ?_) | refine Bt (g ?_) | refine Ph rfl rfl (g ?_) | refine Pi rfl rfl (g ?_) | refine Mu (fun h=>g ?_) | apply Ms rfl rfl rfl rfl | apply U5 rfl rfl rfl rfl | refine Pg rfl rfl rfl rfl ?_ | exact Pd | refine Pe rfl ?_ | refine Aa (N1 _ _) rfl (g ?_))
 rw [Bool.eq_iff_iff]
 simp [Ga]
 omega
theorem Ba4 {m:Msg} (h:Cj m=true):0<=m.from_/\m.from_ < 64/\0<=m.to_/\m.to_ < 64/\0<=m.session/\0<=m.seq/\m.notes.length<=257:=by
 unfold Cj Ks De at h
 grind
set_option maxRecDepth 100000 in
set_option maxHeartbeats 1600000 in
theorem A92 (m:Msg) (hI:Bn8 m):A7 Tryz.prog A8 83 [msA m] (.val (.bool (Cj m))) []:=by
 refine A7.of (n:=169) (rs:=[.tmp 2]) Tryz.func83 rfl (by kernel_rfl) Tryz.ntmps83 (by kernel_rfl) (by simp) (fun _ _=>A8.later) ?_
 intro hok V w0
 have hlen:m.notes.length<=1073741824:=by simpa [noI] using hok.1.2.2.2.2.2.2.2.1.1
 have he:=A97 m.body
 have hr:=Xq m.body
 refine g ?_
 repeat' (first | refine Hz rfl (g ?_) | refine Bt (g ?_) | refine Aj (fun h=>g ?_) (fun h=>g ?_) | refine Da (fun h=>g ?_) (fun h=>g ?_) | refine Ph rfl rfl (g ?_) | refine Pi rfl rfl (g ?_) | refine Mu (fun h=>g ?_) | apply Ms rfl rfl rfl rfl | apply U5 rfl rfl rfl rfl | refine Pg rfl rfl rfl rfl ?_ | exact Pd | refine Pe rfl ?_ | refine Aa (he) rfl (g ?_) | refine Aa (hr) rfl (g ?_) | refine Aa (Xj _) rfl (g ?_) | refine Aa (G2 _) rfl (g ?_))
 ·cases hM:Cj m
  ·rfl
  ·have:=Ba4 hM
   simp at h
   omega
 ·rename_i hb
  unfold Cj De
  grind
 ·rename_i hb _
  unfold Cj Ks De
  grind
 ·rename_i hb _ _
  refine AW.loop (fun k:{k:Nat // k<=m.notes.length/\(m.notes.take k).all Bl=true}=>⟨[(1,.bp 200 0),(3,.val (.bool (decide ((m.interest.length:Int)=0)&&decide ((m.vector.length:Int)=0)))),(5,.val (.bool (decide (m.body.object=0)&&Ej m.body))),(6,.val (.int .i64 (k.1:Nat)))],[.box 200 [.val (.int .i64 m.kind),.val (.int .i64 m.from_),.val (.int .i64 m.to_),.val (.int .i64 m.session),.val (.int .i64 m.seq),.iv (spI m.interest),.iv (stI m.vector),.iv (noI m.notes),.val (.int .i64 m.body.object),.val (.int .i64 m.body.stamp.count),.val (.int .i64 m.body.stamp.node),.iv (byI m.body.value)]]⟩) (fun k=>m.notes.length - k.1) ⟨0,Nat.zero_le _,rfl⟩ id ⟨⟨rfl,rfl,rfl,rfl,trivial⟩,⟨rfl,trivial⟩,by simp [D4,BA.id]⟩ fun ⟨k,hk,ha⟩=>?_
  simp only
  refine g ?_
  repeat' (first | refine Hz rfl (g ?_) | refine Bt (g ?_) | refine Aj (fun h=>g ?_) (fun h=>g ?_) | refine Da (fun h=>g ?_) (fun h=>g ?_) | refine Ph rfl rfl (g ?_) | refine Pi rfl rfl (g ?_) | refine Mu (fun h=>g ?_) | apply U5 rfl rfl rfl rfl | refine Pg rfl rfl rfl rfl ?_ | exact Pd | refine Pe rfl ?_ | refine ix_ (by omega) (g ?_) | refine Aa (Pv _) rfl (g ?_))
  ·have:m.notes.all Bl=false:=G8 (m:=k) (by omega) (by simpa using h)
   unfold Cj
   grind
  ·have hlt:k < m.notes.length:=by omega
   exact ⟨⟨k+1,hlt,by rw [List.take_succ_eq_append_getElem hlt,List.all_append,ha];simpa using h⟩,id,⟨⟨rfl,rfl,rfl,rfl,trivial⟩,⟨rfl,trivial⟩,by simp [D4,BA.id]⟩,by show m.notes.length - (k+1) < m.notes.length - k;omega⟩
  ·obtain rfl:k=m.notes.length:=by omega
   rw [List.take_length] at ha
   unfold Cj De
   grind
 ·rename_i hb _ _ _
  unfold Cj Ks De
  grind
 ·rename_i hb _ _ _ _
  unfold Cj Ks De
  grind
 ·rename_i hb h1 h2 h3 h4
  simp [Cj,h1,h2,h3,h4,h]
end Go.Proofs.YtahgkllhbggmgaaGreatDoor
namespace Go.Proofs.YtahgkllhbggmgaaGreatDoor
open Go.ChangeShapes Go.WideShapes Go.ChangeAt Go.RowKit
attribute [local irreducible] AW AWY Bd As vop B4 Ap Aw qop Bc Bs Ai Ag Ay A7 Av CH Eo Hj
attribute [local go_sem] F8 Y7 Qy Dg L6 K8 Qg Fx K7 Ae Af
theorem B60 (x y:Operand) (p q r s:Int) (w:World):(do eqGuard .neq 38 x y (.agg #[.int .i64 p,.int .i64 q]) (.agg #[.int .i64 r,.int .i64 s]);binOp .neq 38 (.agg #[.int .i64 p,.int .i64 q]) (.agg #[.int .i64 r,.int .i64 s]):Sem Value).run Tryz.prog w=.ok (.bool (!(p==r&&q==s))) w:=by
 by_cases h1:p=r<;>by_cases h2:q=s<;>go_simp<;>simp [h1,h2]
theorem ne_ {x y:Operand} {p q r s:Int} {K:Value->Prop} (h:K (.bool (!(p==r&&q==s)))):∃ v,(∀ w,(do eqGuard .neq 38 x y (.agg #[.int .i64 p,.int .i64 q]) (.agg #[.int .i64 r,.int .i64 s]);binOp .neq 38 (.agg #[.int .i64 p,.int .i64 q]) (.agg #[.int .i64 r,.int .i64 s]):Sem Value).run Tryz.prog w=.ok v w)/\Ct (K v):=⟨_,fun u=>B60 _ _ _ _ _ _ u,Bt h⟩
theorem Ai2 (n:Int):A7 Tryz.prog A8 143 [.val (.int .i64 n)] (.val (.bool (De n))) []:=by
 refine A7.of (n:=9) (rs:=[.tmp 2]) Tryz.func143 rfl (by kernel_rfl) Tryz.ntmps143 (by kernel_rfl) (by simp) (fun _ _=>A8.later) ?_
 intro hok V w0
 refine g ?_
 repeat' (first | refine Hz rfl (g ?_) | refine Bt (g ?_) | refine Ph rfl rfl (g ?_) | refine Pi rfl rfl (g ?_) | refine Mu (fun h=>g ?_) | apply Ms rfl rfl rfl rfl | refine Pg rfl rfl rfl rfl ?_ | exact Pd | refine Pe rfl ?_)
 unfold De
 grind
theorem Xe (x:Ci):A7 Tryz.prog A8 146 [boA x] (.val (.bool (Ga x))) []:=by
 refine A7.of (n:=22) (rs:=[.tmp 2]) Tryz.func146 rfl (by kernel_rfl) Tryz.ntmps146 (by kernel_rfl) (by simp) (fun _ _=>A8.later) ?_
 intro hok V w0
 refine g ?_
 repeat' (first | refine Hz rfl (g ?_) | refine Bt (g ?_) | refine Ph rfl rfl (g ?_) | refine Pi rfl rfl (g ?_) | refine Mu (fun h=>g ?_) | apply Ms rfl rfl rfl rfl | apply U5 rfl rfl rfl rfl | refine Pg rfl rfl rfl rfl ?_ | exact Pd | refine Pe rfl ?_ | refine Aa (Qc _ _) rfl (g ?_))
 unfold Ga
 grind
set_option maxRecDepth 100000 in
set_option maxHeartbeats 1600000 in
theorem A61 (m:Msg) (hI:Bn8 m):A7 Tryz.prog A8 69 [msA m] (.val (.bool (Cj m))) []:=by
 refine A7.of (n:=170) (rs:=[.tmp 2]) Tryz.func69 rfl (by kernel_rfl) Tryz.ntmps69 (by kernel_rfl) (by simp) (fun _ _=>A8.later) ?_
 intro hok V w0
 have hlen:m.notes.length<=1073741824:=by simpa [noI] using hok.1.2.2.2.2.2.2.2.1.1
 have l1:m.interest.length<=1073741824:=by simpa [Y7] using hok.1.2.2.2.2.2.1.1
 have l2:m.vector.length<=1073741824:=by simpa [Qy] using hok.1.2.2.2.2.2.2.1.1
 refine g ?_
 repeat' (first | refine Hz rfl (g ?_) | refine Bt (g ?_) | refine Aj (fun h=>g ?_) (fun h=>g ?_) | refine Da (fun h=>g ?_) (fun h=>g ?_) | refine Ph rfl rfl (g ?_) | refine Pi rfl rfl (g ?_) | refine Mu (fun h=>g ?_) | apply Ms rfl rfl rfl rfl | apply U5 rfl rfl rfl rfl | refine Pg rfl rfl rfl rfl ?_ | exact Pd | refine Pe rfl ?_ | refine Aa (Ai2 _) rfl (g ?_) | refine Aa (Xe m.body) rfl (g ?_) | refine Aa (Zp _) rfl (g ?_) | refine Aa (Fo _) rfl (g ?_) | (refine ne_ (g ?_))<;>refine g ?_)
 rotate_left 3
 ·refine AW.loop (fun k:{k:Nat // k<=m.notes.length/\(m.notes.take k).all Bl=true}=>⟨[(113,.iv (noI m.notes)),(114,.val (.int .i64 (m.notes.length:Nat))),(115,.val (.int .i64 (k.1:Nat)))],[]⟩) (fun k=>m.notes.length - k.1) ⟨0,Nat.zero_le _,rfl⟩ id ⟨⟨rfl,rfl,rfl,trivial⟩,trivial,List.nodup_nil⟩ fun ⟨k,hk,ha⟩=>?_
  simp only
  refine g ?_
  repeat' (first | refine Hz rfl (g ?_) | refine Aj (fun h=>g ?_) (fun h=>g ?_) | refine Da (fun h=>g ?_) (fun h=>g ?_) | refine ix_ (by omega) (g ?_) | refine Aa (M9 _) rfl (g ?_))
  ·have:m.notes.all Bl=false:=G8 (m:=k) (by omega) (by simpa using h)
   unfold Cj
   grind (splits:=60)
  ·have hlt:k < m.notes.length:=by omega
   exact ⟨⟨k+1,hlt,by rw [List.take_succ_eq_append_getElem hlt,List.all_append,ha];simpa using h⟩,id,⟨⟨rfl,rfl,rfl,trivial⟩,trivial,List.nodup_nil⟩,by show m.notes.length - (k+1) < m.notes.length - k;omega⟩
  ·obtain rfl:k=m.notes.length:=by omega
   rw [List.take_length] at ha
   clear hok hlen l1 l2
   rw [Bool.eq_iff_iff]
   simp_all [-List.length_eq_zero_iff,Cj,Ej]
   grind
 all_goals (clear hok hlen l1 l2;first | (unfold Cj Ks Ej;grind) | (rw [Bool.eq_iff_iff];simp_all [-List.length_eq_zero_iff,Cj,Ks,Ej];done) | (rw [Bool.eq_iff_iff];simp_all [-List.length_eq_zero_iff,Cj,Ks,Ej];grind))
end Go.Proofs.YtahgkllhbggmgaaGreatDoor
