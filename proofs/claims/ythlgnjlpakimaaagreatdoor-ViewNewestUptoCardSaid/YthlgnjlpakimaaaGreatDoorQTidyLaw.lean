/- Plain laws on spans put in order and together, met, and left out: each is the tidy list of a set. No program is known here. -/
import Derived.IntWalk
set_option linter.all false
set_option linter.unnecessarySimpa false
set_option linter.unusedSimpArgs false
set_option linter.unusedVariables false
namespace Go.Proofs.YthlgnjlpakimaaaGreatDoor
structure Ad where
 lo:Int
 hi:Int
 deriving DecidableEq
def Al (l:List Ad) (o:Int):Bool:=l.any fun s=>decide (s.lo<=o)&&decide (o<=s.hi)
def Bj:Int->List Ad->Bool
 | _,[]=>true
 | e,s :: l=>decide (e+1 < s.lo/\s.lo<=s.hi/\s.hi<=255/\0<=s.lo)&&Bj s.hi l
def D8 (l:List Ad):Bool:=Bj (-2) l
def Ah9 (f:Nat->Bool) (acc:List Ad) (o:Nat):List Ad :=
 if f o then
  if 0 < o/\f (o - 1)=true then acc.dropLast++[⟨(acc.getLast?.getD ⟨0,0⟩).lo,o⟩] else acc++[⟨o,o⟩]
 else acc
def J4 (f:Nat->Bool):Nat->List Ad
 | 0=>[]
 | k+1=>Ah9 f (J4 f k) k
def Ch (f:Nat->Bool):List Ad:=J4 f 256
theorem Be {e:Int} {s:Ad} {l:List Ad} : Bj e (s :: l)=true↔(e+1 < s.lo/\s.lo<=s.hi/\s.hi<=255/\0<=s.lo)/\Bj s.hi l=true:=by
 simp [Bj]
theorem F1 {s:Ad} {l:List Ad} {o:Int} : Al (s :: l) o=true↔(s.lo<=o/\o<=s.hi)\/Al l o=true:=by
 simp [Al]
theorem Cn:∀ {l:List Ad} {e o:Int},Bj e l=true->Al l o=true->e+1 < o/\0<=o/\o<=255
 | [],_,_,_,h=>by simp [Al] at h
 | s :: l,e,o,hf,hm=>by
  obtain ⟨h1,h2⟩:=Be.1 hf
  rcases F1.1 hm with h | h
  ·omega
  ·have:=Cn h2 h
   omega
theorem Nh:∀ {l l':List Ad} {e:Int},Bj e l=true->Bj e l'=true->(∀ o:Int,Al l o=true↔Al l' o=true)->l=l'
 | [],[],_,_,_,_=>rfl
 | [],s :: l',_,_,h',h=>by
  obtain ⟨h1,_⟩:=Be.1 h'
  have:=(h s.lo).2 (F1.2 (Or.inl ⟨by omega,by omega⟩))
  simp [Al] at this
 | s :: l,[],_,h',_,h=>by
  obtain ⟨h1,_⟩:=Be.1 h'
  have:=(h s.lo).1 (F1.2 (Or.inl ⟨by omega,by omega⟩))
  simp [Al] at this
 | s :: l,s' :: l',e,hf,hf',h=>by
  obtain ⟨h1,h2⟩:=Be.1 hf
  obtain ⟨h1',h2'⟩:=Be.1 hf'
  have key:∀ o:Int,Al (s :: l) o=true->s'.lo<=o:=fun o ho=>by
   rcases F1.1 ((h o).1 ho) with g | g
   ·omega
   ·have:=Cn h2' g;omega
  have key':∀ o:Int,Al (s' :: l') o=true->s.lo<=o:=fun o ho=>by
   rcases F1.1 ((h o).2 ho) with g | g
   ·omega
   ·have:=Cn h2 g;omega
  have a1:=key s.lo (F1.2 (Or.inl ⟨by omega,by omega⟩))
  have a2:=key' s'.lo (F1.2 (Or.inl ⟨by omega,by omega⟩))
  have hlo:s.lo=s'.lo:=by omega
  have hhi:s.hi=s'.hi:=by
   rcases Int.lt_trichotomy s.hi s'.hi with c | c | c
   ·exfalso
    rcases F1.1 ((h (s.hi+1)).2 (F1.2 (Or.inl ⟨by omega,by omega⟩))) with g | g
    ·omega
    ·have:=Cn h2 g;omega
   ·exact c
   ·exfalso
    rcases F1.1 ((h (s'.hi+1)).1 (F1.2 (Or.inl ⟨by omega,by omega⟩))) with g | g
    ·omega
    ·have:=Cn h2' g;omega
  obtain ⟨lo,hi⟩:=s
  obtain ⟨lo',hi'⟩:=s'
  simp only at hlo hhi h2 h2' h1 h1'
  subst hlo hhi
  have hr:l=l':=Nh h2 h2' fun o=>by
   constructor
   ·intro g
    have b:=Cn h2 g
    rcases F1.1 ((h o).1 (F1.2 (Or.inr g))) with q | q
    ·simp only at q;omega
    ·exact q
   ·intro g
    have b:=Cn h2' g
    rcases F1.1 ((h o).2 (F1.2 (Or.inr g))) with q | q
    ·simp only at q;omega
    ·exact q
  rw [hr]
theorem Hr:∀ {l:List Ad} {e:Int} {s:Ad},Bj e (l++[s])=true↔Bj e l=true/\(l.getLast?.map (·.hi)).getD e+1 < s.lo/\s.lo<=s.hi/\s.hi<=255/\0<=s.lo
 | [],e,s=>by simp [Bj]
 | [x],e,s=>by simp [Bj]
 | x :: y :: l,e,s=>by
  have ih:=Hr (l:=y :: l) (e:=x.hi) (s:=s)
  rw [List.cons_append,Be,ih,Be (e:=e) (s:=x) (l:=y :: l)]
  have:((x :: y :: l).getLast?.map (·.hi)).getD e=((y :: l).getLast?.map (·.hi)).getD x.hi:=by
   rw [List.getLast?_cons_cons]
   simp [List.getLast?_cons]
  rw [this]
  exact and_assoc.symm
theorem D2 {l m:List Ad} {o:Int} : Al (l++m) o=(Al l o || Al m o):=by simp [Al]
structure Cp2 (f:Nat->Bool) (k:Nat) (l:List Ad):Prop where
 formed:Bj (-2) l=true
 mem:∀ o:Nat,Al l o=true↔o < k/\f o=true
 low:∀ o:Int,Al l o=true->0<=o
 ends : (0 < k /\ f (k - 1) = true /\ ∃ l' s, l = l' ++ [s] /\ s.hi = (k : Int) - 1) \/ ((k = 0 \/ f (k - 1) = false) /\ (l.getLast?.map (·.hi)).getD (-2) + 1 < (k : Int))
theorem Tl (f:Nat->Bool):∀ k,k<=256->Cp2 f k (J4 f k)
 | 0,_=>⟨rfl,fun o=>by simp [J4,Al],fun o h=>by simp [J4,Al] at h,Or.inr ⟨Or.inl rfl,by simp [J4]⟩⟩
 | k+1,hk=>by
  have ih:=Tl f k (by omega)
  show Cp2 f (k+1) (Ah9 f (J4 f k) k)
  generalize J4 f k=l at ih
  obtain ⟨h1,h2,h3,h4⟩:=ih
  unfold Ah9
  cases hf:f k with
  | false =>
   simp only [Bool.false_eq_true,if_false]
   refine ⟨h1,fun o=>?_,h3,Or.inr ⟨Or.inr hf,?_⟩⟩
   ·rw [h2]
    constructor
    ·rintro ⟨a,b⟩;exact ⟨by omega,b⟩
    ·rintro ⟨a,b⟩
     refine ⟨?_,b⟩
     rcases Nat.lt_or_ge o k with c | c
     ·exact c
     ·obtain rfl:o=k:=by omega
      rw [hf] at b;cases b
   ·rcases h4 with ⟨a1,a2,l',s,rfl,a3⟩ | ⟨_,a2⟩
    ·simp only [List.getLast?_append,List.getLast?_singleton,Option.some_or,Option.map_some,Option.getD_some]
     omega
    ·omega
  | true =>
   simp only [if_true]
   rcases h4 with ⟨a1,a2,l',s,rfl,a3⟩ | ⟨a1,a2⟩
   ·rw [if_pos ⟨a1,a2⟩]
    simp only [List.dropLast_concat,List.getLast?_append,List.getLast?_singleton,Option.some_or,Option.getD_some]
    obtain ⟨b1,b2,b3,b4,b5⟩:=Hr.1 h1
    refine ⟨Hr.2 ⟨b1,b2,by simp only;omega,by simp only;omega,b5⟩,fun o=>?_,fun o ho=>?_,Or.inl ⟨by omega,hf,l',_,rfl,by simp only;omega⟩⟩
    ·have g:=h2 o
     rw [D2] at g ⊢
     simp only [Al,List.any_cons,List.any_nil,Bool.or_false,Bool.or_eq_true,Bool.and_eq_true,decide_eq_true_eq] at g ⊢
     constructor
     ·rintro (q | ⟨q1,q2⟩)
      ·have:=g.1 (Or.inl q)
       exact ⟨by omega,this.2⟩
      ·rcases Nat.lt_or_ge o k with c | c
       ·have:=g.1 (Or.inr ⟨q1,by omega⟩)
        exact ⟨by omega,this.2⟩
       ·obtain rfl:o=k:=by omega
        exact ⟨by omega,hf⟩
     ·rintro ⟨q1,q2⟩
      rcases Nat.lt_or_ge o k with c | c
      ·rcases g.2 ⟨c,q2⟩ with q | ⟨q3,q4⟩
       ·exact Or.inl q
       ·exact Or.inr ⟨q3,by omega⟩
      ·exact Or.inr ⟨by omega,by omega⟩
    ·rw [D2] at ho
     simp only [Al,List.any_cons,List.any_nil,Bool.or_false,Bool.or_eq_true,Bool.and_eq_true,decide_eq_true_eq] at ho
     rcases ho with q | ⟨q1,q2⟩
     ·exact h3 o (by rw [D2];simp only [Al] at q ⊢;rw [q];rfl)
     ·omega
   ·have hn:¬ (0 < k/\f (k - 1)=true):=by
     rintro ⟨c1,c2⟩
     rcases a1 with a1 | a1
     ·omega
     ·rw [a1] at c2;cases c2
    rw [if_neg hn]
    refine ⟨Hr.2 ⟨h1,by simp only;omega,by simp,by simp only;omega,by simp only;omega⟩,fun o=>?_,fun o ho=>?_,Or.inl ⟨by omega,hf,l,_,rfl,by simp only;omega⟩⟩
    ·rw [D2]
     have g:=h2 o
     simp only [Al,List.any_cons,List.any_nil,Bool.or_false,Bool.or_eq_true,Bool.and_eq_true,decide_eq_true_eq] at g ⊢
     constructor
     ·rintro (q | ⟨q1,q2⟩)
      ·have:=g.1 q
       exact ⟨by omega,this.2⟩
      ·obtain rfl:o=k:=by omega
       exact ⟨by omega,hf⟩
     ·rintro ⟨q1,q2⟩
      rcases Nat.lt_or_ge o k with c | c
      ·exact Or.inl (g.2 ⟨c,q2⟩)
      ·exact Or.inr ⟨by omega,by omega⟩
    ·rw [D2] at ho
     simp only [Al,List.any_cons,List.any_nil,Bool.or_false,Bool.or_eq_true,Bool.and_eq_true,decide_eq_true_eq] at ho
     rcases ho with q | ⟨q1,q2⟩
     ·exact h3 o q
     ·omega
theorem Bt (f:Nat->Bool):D8 (Ch f)=true:=(Tl f 256 (by omega)).formed
theorem Q0 (f:Nat->Bool) (o:Nat):Al (Ch f) o=true↔o < 256/\f o=true:=(Tl f 256 (by omega)).mem o
theorem Rq:∀ {l:List Ad} {e:Int},Bj e l=true->-2<=e->e<=255->e+2*(l.length:Int)<=255
 | [],e,_,_,_=>by simp;omega
 | s :: l,e,h,he,_=>by
  obtain ⟨h1,h2⟩:=Be.1 h
  have:=Rq h2 (by omega) (by omega)
  simp only [List.length_cons,Int.natCast_add,Int.natCast_one]
  omega
theorem El (l:List Ad):D8 l=true↔l.length<=128/\l=Ch (fun o=>Al l (o:Int)):=by
 constructor
 ·intro h
  refine ⟨by have:=Rq (e:=-2) h (by omega) (by omega);omega,Nh (e:=-2) h (Bt _) fun o=>?_⟩
  constructor
  ·intro g
   have b:=Cn (e:=-2) h g
   obtain ⟨n,rfl⟩ : ∃ n:Nat,o=n:=⟨o.toNat,by omega⟩
   exact (Q0 _ n).2 ⟨by omega,g⟩
  ·intro g
   have b:=Cn (e:=-2) (Bt _) g
   obtain ⟨n,rfl⟩ : ∃ n:Nat,o=n:=⟨o.toNat,by omega⟩
   exact ((Q0 _ n).1 g).2
 ·rintro ⟨_,h⟩
  rw [h]
  exact Bt _
theorem K8:∀ {l:List Ad} {e e':Int},e'<=e->Bj e l=true->Bj e' l=true
 | [],_,_,_,_=>rfl
 | s :: l,e,e',h,hf=>by
  obtain ⟨h1,h2⟩:=Be.1 hf
  exact Be.2 ⟨⟨by omega,h1.2⟩,h2⟩
def Br (l:List Ad):List Ad:=Ch fun o=>Al l o
theorem Er {f g:Nat->Bool} (h:∀ o,o < 256->f o=g o):Ch f=Ch g:=by
 refine Nh (e:=-2) (Bt f) (Bt g) fun o=>?_
 have key:∀ {f g:Nat->Bool},(∀ o,o < 256->f o=g o)->Al (Ch f) o=true->Al (Ch g) o=true:=by
  intro f g h hm
  have b:=Cn (e:=-2) (Bt f) hm
  obtain ⟨n,rfl⟩ : ∃ n:Nat,o=n:=⟨o.toNat,by omega⟩
  obtain ⟨h1,h2⟩:=(Q0 f n).1 hm
  exact (Q0 g n).2 ⟨h1,by rw [<-h n h1];exact h2⟩
 exact ⟨key h,key fun o ho=>(h o ho).symm⟩
theorem Cc (f:Nat->Bool) {o:Nat} (ho:o < 256):Al (Ch f) o=f o:=by
 rw [Bool.eq_iff_iff,Q0]
 exact ⟨fun h=>h.2,fun h=>⟨ho,h⟩⟩
theorem Tu {l:List Ad} {f:Nat->Bool} (hf:D8 l=true) (h:∀ o:Nat,o < 256->Al l o=f o):l=Ch f:=by
 rw [((El l).1 hf).2]
 exact Er h
theorem Ez (f:Nat->Bool):(Ch f).length<=128:=((El _).1 (Bt f)).1
def Vk (s:Ad):List Ad:=if max s.lo 0<=min s.hi 255 then [⟨max s.lo 0,min s.hi 255⟩] else []
def Vl (l:List Ad):List Ad:=l.flatMap Vk
theorem C35 (l:List Ad) (s:Ad):Vl (l++[s])=Vl l++Vk s:=by simp [Vl]
theorem Bd7 (l:List Ad):(Vl l).length<=l.length:=by
 induction l with
 | nil=>simp [Vl]
 | cons s l ih =>
  have:(Vk s).length<=1:=by unfold Vk;split<;>simp
  simp only [Vl,List.flatMap_cons,List.length_append,List.length_cons] at ih ⊢
  omega
theorem Ak6 {l:List Ad} {s:Ad} (h:s∈Vl l):0<=s.lo/\s.lo<=s.hi/\s.hi<=255:=by
 obtain ⟨t,_,ht⟩:=List.mem_flatMap.1 h
 unfold Vk at ht
 split at ht
 ·obtain rfl:=List.mem_singleton.1 ht
  simp only
  omega
 ·cases ht
theorem Mf {l:List Ad} {o:Int} : Al l o=true↔∃ s∈l,s.lo<=o/\o<=s.hi:=by simp [Al]
theorem Ce9 (l:List Ad) {o:Int} (h0:0<=o) (h1:o<=255):Al (Vl l) o=Al l o:=by
 rw [Bool.eq_iff_iff,Mf,Mf]
 constructor
 ·rintro ⟨s,hs,a,b⟩
  obtain ⟨t,ht,ht2⟩:=List.mem_flatMap.1 hs
  unfold Vk at ht2
  split at ht2
  ·obtain rfl:=List.mem_singleton.1 ht2
   exact ⟨t,ht,by simp only at a;omega,by simp only at b;omega⟩
  ·cases ht2
 ·rintro ⟨s,hs,a,b⟩
  refine ⟨⟨max s.lo 0,min s.hi 255⟩,List.mem_flatMap.2 ⟨s,hs,?_⟩,by simp only;omega,by simp only;omega⟩
  unfold Vk
  rw [if_pos (by omega)]
  exact List.mem_singleton.2 rfl
def Q1 (out:List Ad) (s:Ad):List Ad :=
 match out.getLast? with
 | some t=>if s.lo<=t.hi+1 then out.dropLast++[⟨t.lo,max t.hi s.hi⟩] else out++[s]
 | none=>out++[s]
def Me (l:List Ad):List Ad:=l.foldl Q1 []
theorem A92 (l:List Ad) (s:Ad):Me (l++[s])=Q1 (Me l) s:=by simp [Me]
theorem Sd {α:Type} {l:List α} {t:α} (h:l.getLast? = some t):l.dropLast++[t]=l:=by
 cases l with
 | nil=>simp at h
 | cons x l =>
  have h2:=List.dropLast_concat_getLast (l:=x :: l) (by simp)
  rw [List.getLast?_eq_some_getLast (by simp)] at h
  injection h with h
  rw [<-h]
  exact h2
structure Cg8 (pre out:List Ad):Prop where
 formed:Bj (-2) out=true
 mem:∀ o:Int,Al out o=Al pre o
 low:∀ out' t,out=out'++[t]->∃ s∈pre,t.lo=s.lo
theorem A54:∀ (n:Nat) (l:List Ad),n<=l.length->(∀ s∈l,0<=s.lo/\s.lo<=s.hi/\s.hi<=255)->l.Pairwise (fun a b=>a.lo<=b.lo)->Cg8 (l.take n) (Me (l.take n))
 | 0,l,_,_,_=>⟨rfl,fun _=>by simp [Me],fun out' t h=>by simp [Me] at h⟩
 | n+1,l,hn,hr,hs=>by
  have ih:=A54 n l (by omega) hr hs
  obtain ⟨s,hx⟩ : ∃ s,l[n]? = some s:=⟨l[n],List.getElem?_eq_getElem (by omega)⟩
  have ht:l.take (n+1)=l.take n++[s]:=by rw [List.take_add_one,hx];rfl
  have hle:∀ x∈l.take n,x.lo<=s.lo:=by
   intro x hxm
   obtain ⟨j,hj⟩:=List.mem_iff_getElem?.1 hxm
   rw [List.getElem?_take] at hj
   split at hj
   ·have hjl:=(List.getElem?_eq_some_iff.1 hj)
    have hnl:=(List.getElem?_eq_some_iff.1 hx)
    have:=List.pairwise_iff_getElem.1 hs j n hjl.1 hnl.1 (by omega)
    rw [hjl.2,hnl.2] at this
    exact this
   ·cases hj
  have hsr:=hr s (List.mem_of_getElem? hx)
  rw [ht,A92]
  generalize l.take n=pre at ih hle
  generalize Me pre=out at ih
  obtain ⟨i1,i2,i3⟩:=ih
  unfold Q1
  cases hg:out.getLast? with
  | none =>
   have hnil:out=[]:=by simpa using hg
   subst hnil
   refine ⟨?_,fun o=>?_,fun out' t h=>?_⟩
   ·simp only [List.nil_append,Bj,Bool.and_true,decide_eq_true_eq];omega
   ·have:=i2 o
    simp only [List.nil_append,D2,<-this]
    simp [Al]
   ·have:t=s:=by
     rw [List.nil_append] at h
     have:=congrArg List.getLast? h
     simpa using this.symm
    subst this
    exact ⟨t,by simp,rfl⟩
  | some t =>
   have hout:out=out.dropLast++[t]:=(Sd hg).symm
   generalize out.dropLast=od at hout
   subst hout
   simp only
   obtain ⟨u,hu,hul⟩:=i3 od t rfl
   have hts:=hle u hu
   obtain ⟨b1,b2,b3,b4,b5⟩:=Hr.1 i1
   have hmt:∀ o:Int,Al (od++[t]) o=(Al od o || (decide (t.lo<=o)&&decide (o<=t.hi))):=fun o=>by rw [D2];simp [Al]
   have hms:∀ o:Int,Al (pre++[s]) o=(Al od o || (decide (t.lo<=o)&&decide (o<=t.hi)) || (decide (s.lo<=o)&&decide (o<=s.hi))):=fun o=>by rw [D2,<-i2 o,hmt];simp [Al]
   split
   ·rename_i hc
    refine ⟨Hr.2 ⟨b1,b2,by simp only;omega,by simp only;omega,b5⟩,fun o=>?_,fun out' t' h=>?_⟩
    ·rw [hms,D2,Bool.or_assoc]
     congr 1
     simp only [Al,List.any_cons,List.any_nil,Bool.or_false]
     rw [Bool.eq_iff_iff]
     simp only [Bool.or_eq_true,Bool.and_eq_true,decide_eq_true_eq]
     omega
    ·have:t'=⟨t.lo,max t.hi s.hi⟩:=by
      have:=congrArg List.getLast? h
      simpa using this.symm
     subst this
     exact ⟨u,List.mem_append_left _ hu,hul⟩
   ·rename_i hc
    refine ⟨Hr.2 ⟨i1,by simp only [List.getLast?_append,List.getLast?_singleton,Option.some_or,Option.map_some,Option.getD_some];omega,by omega,by omega,by omega⟩,fun o=>?_,fun out' t' h=>?_⟩
    ·rw [hms,D2,hmt]
     simp [Al]
    ·have:t'=s:=by
      have:=congrArg List.getLast? h
      simpa using this.symm
     subst this
     exact ⟨t',List.mem_append_right _ (by simp),rfl⟩
theorem Bm5 {l d:List Ad} (hp:d.Perm (Vl l)) (hs:d.Pairwise fun a b=>a.lo<=b.lo):Me d=Br l:=by
 have h:=A54 d.length d (Nat.le_refl _) (fun s hs=>Ak6 (hp.mem_iff.1 hs)) hs
 rw [List.take_length] at h
 refine Tu h.formed fun o ho=>?_
 rw [h.mem,<-Ce9 l (by omega) (by omega),Bool.eq_iff_iff,Mf,Mf]
 exact ⟨fun ⟨s,h1,h2⟩=>⟨s,hp.mem_iff.1 h1,h2⟩,fun ⟨s,h1,h2⟩=>⟨s,hp.mem_iff.2 h1,h2⟩⟩
def Dk:List Ad->List Ad->List Ad
 | [],_=>[]
 | _ :: _,[]=>[]
 | s :: x,t :: y=>(if max s.lo t.lo<=min s.hi t.hi then [⟨max s.lo t.lo,min s.hi t.hi⟩] else [])++(if s.hi < t.hi then Dk x (t :: y) else Dk (s :: x) y)
termination_by x y=>x.length+y.length
theorem C06 (x:List Ad):Dk x []=[]:=by cases x<;>simp [Dk]
theorem Mg (x y:List Ad) (e1 e2:Int) (h1:Bj e1 x=true) (h2:Bj e2 y=true):Bj (max e1 e2) (Dk x y)=true:=by
 match x,y with
 | [],y=>simp [Dk,Bj]
 | s :: x,[]=>simp [Dk,Bj]
 | s :: x,t :: y =>
  obtain ⟨a1,a2⟩:=Be.1 h1
  obtain ⟨c1,c2⟩:=Be.1 h2
  rw [Dk]
  have hr:Bj (min s.hi t.hi) (if s.hi < t.hi then Dk x (t :: y) else Dk (s :: x) y)=true:=by
   split
   ·exact K8 (by omega) (Mg x (t :: y) s.hi e2 a2 h2)
   ·exact K8 (by omega) (Mg (s :: x) y e1 t.hi h1 c2)
  have hr2:Bj (max e1 e2) (if s.hi < t.hi then Dk x (t :: y) else Dk (s :: x) y)=true:=by
   split
   ·exact K8 (by omega) (Mg x (t :: y) s.hi e2 a2 h2)
   ·exact K8 (by omega) (Mg (s :: x) y e1 t.hi h1 c2)
  split
  ·rw [List.singleton_append]
   exact Be.2 ⟨by simp only;omega,hr⟩
  ·exact hr2
termination_by x.length+y.length
theorem A55 (x y:List Ad) (e1 e2:Int) (h1:Bj e1 x=true) (h2:Bj e2 y=true) (o:Int):Al (Dk x y) o=(Al x o&&Al y o):=by
 match x,y with
 | [],y=>simp [Dk,Al]
 | s :: x,[]=>simp [Dk,Al]
 | s :: x,t :: y =>
  obtain ⟨a1,a2⟩:=Be.1 h1
  obtain ⟨c1,c2⟩:=Be.1 h2
  rw [Dk,D2]
  have hx:Al x o=true->s.hi+1 < o:=fun h=>(Cn a2 h).1
  have hy:Al y o=true->t.hi+1 < o:=fun h=>(Cn c2 h).1
  have e0:Al (if max s.lo t.lo<=min s.hi t.hi then [(⟨max s.lo t.lo,min s.hi t.hi⟩ : Ad)] else []) o=(decide (s.lo<=o/\o<=s.hi)&&decide (t.lo<=o/\o<=t.hi)):=by
   rw [Bool.eq_iff_iff]
   split
   ·simp only [Al,List.any_cons,List.any_nil,Bool.or_false,Bool.and_eq_true,decide_eq_true_eq];omega
   ·simp only [Al,List.any_nil,Bool.false_eq_true,Bool.and_eq_true,decide_eq_true_eq,false_iff];omega
  have es:Al (s :: x) o=(decide (s.lo<=o/\o<=s.hi) || Al x o):=by simp [Al]
  have et:Al (t :: y) o=(decide (t.lo<=o/\o<=t.hi) || Al y o):=by simp [Al]
  rw [e0,Bool.eq_iff_iff]
  split
  ·rw [A55 x (t :: y) s.hi e2 a2 h2 o,es,et]
   simp only [Bool.or_eq_true,Bool.and_eq_true,decide_eq_true_eq]
   constructor
   ·rintro (⟨p,q⟩ | ⟨p,q⟩)
    ·exact ⟨.inl p,.inl q⟩
    ·exact ⟨.inr p,q⟩
   ·rintro ⟨p | p,q | q⟩
    ·exact .inl ⟨p,q⟩
    ·have:=hy q;omega
    ·exact .inr ⟨p,.inl q⟩
    ·exact .inr ⟨p,.inr q⟩
  ·rw [A55 (s :: x) y e1 t.hi h1 c2 o,es,et]
   simp only [Bool.or_eq_true,Bool.and_eq_true,decide_eq_true_eq]
   constructor
   ·rintro (⟨p,q⟩ | ⟨p,q⟩)
    ·exact ⟨.inl p,.inl q⟩
    ·exact ⟨p,.inr q⟩
   ·rintro ⟨p | p,q | q⟩
    ·exact .inl ⟨p,q⟩
    ·exact .inr ⟨.inl p,q⟩
    ·have:=hx p;omega
    ·exact .inr ⟨.inr p,q⟩
termination_by x.length+y.length
theorem Bm7 (a b:List Ad):Dk (Br a) (Br b)=Ch fun o=>Al a o&&Al b o:=by
 refine Tu (Mg _ _ (-2) (-2) (Bt _) (Bt _)) fun o ho=>?_
 rw [A55 (Br a) (Br b) (-2) (-2) (Bt _) (Bt _),Br,Br,Cc _ ho,Cc _ ho]
def Uw:Int->List Ad->List Ad
 | n,[]=>if n<=255 then [⟨n,255⟩] else []
 | n,s :: l=>(if n < s.lo then [⟨n,s.lo - 1⟩] else [])++Uw (s.hi+1) l
theorem Zh:∀ (l:List Ad) (n e:Int),0<=n->n<=e+2->Bj e l=true->Bj (n - 2) (Uw n l)=true
 | [],n,e,h0,_,_=>by
  unfold Uw
  split
  ·exact Be.2 ⟨by simp only;omega,rfl⟩
  ·rfl
 | s :: l,n,e,h0,h1,h=>by
  obtain ⟨a1,a2⟩:=Be.1 h
  have ih:=Zh l (s.hi+1) s.hi (by omega) (by omega) a2
  unfold Uw
  split
  ·rw [List.singleton_append]
   exact Be.2 ⟨by simp only;omega,K8 (by simp only;omega) ih⟩
  ·exact K8 (by omega) ih
theorem Aq4:∀ (l:List Ad) (n e:Int),n<=e+2->Bj e l=true->∀ o:Int,Al (Uw n l) o=(decide (n<=o/\o<=255)&&!Al l o)
 | [],n,e,h1,_,o=>by
  unfold Uw
  rw [Bool.eq_iff_iff]
  split
  ·simp [Al]
  ·simp only [Al,List.any_nil,Bool.false_eq_true,Bool.not_false,Bool.and_true,decide_eq_true_eq,false_iff];omega
 | s :: l,n,e,h1,h,o=>by
  obtain ⟨a1,a2⟩:=Be.1 h
  have ih:=Aq4 l (s.hi+1) s.hi (by omega) a2 o
  have hb:Al l o=true->s.hi+1 < o:=fun h=>(Cn a2 h).1
  have es:Al (s :: l) o=(decide (s.lo<=o/\o<=s.hi) || Al l o):=by simp [Al]
  have e0:Al (if n < s.lo then [(⟨n,s.lo - 1⟩ : Ad)] else []) o=decide (n<=o/\o < s.lo):=by
   rw [Bool.eq_iff_iff]
   split
   ·simp only [Al,List.any_cons,List.any_nil,Bool.or_false,Bool.and_eq_true,decide_eq_true_eq];omega
   ·simp only [Al,List.any_nil,Bool.false_eq_true,decide_eq_true_eq,false_iff];omega
  rw [Uw,D2,ih,es,e0]
  cases hm:Al l o with
  | true =>
   have:=hb hm
   simp only [Bool.not_true,Bool.and_false,Bool.or_false,Bool.or_true]
   exact decide_eq_false (by omega)
  | false =>
   rw [Bool.eq_iff_iff]
   simp only [Bool.not_false,Bool.and_true,Bool.or_false,Bool.or_eq_true,Bool.and_eq_true,decide_eq_true_eq,Bool.not_eq_true',decide_eq_false_iff_not]
   omega
theorem Bj9 (a:List Ad):Uw 0 (Br a)=Ch fun o=>!Al a o:=by
 refine Tu (K8 (by omega) (Zh _ 0 (-2) (by omega) (by omega) (Bt _))) fun o ho=>?_
 rw [Aq4 (Br a) 0 (-2) (by omega) (Bt _),Br,Cc _ ho,decide_eq_true (by omega),Bool.true_and]
def Pa (os:List Int):List Ad:=os.map fun o=>⟨o,o⟩
end Go.Proofs.YthlgnjlpakimaaaGreatDoor
