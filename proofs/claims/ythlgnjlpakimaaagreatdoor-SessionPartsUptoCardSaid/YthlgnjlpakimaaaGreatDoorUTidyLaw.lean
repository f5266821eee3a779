/- Plain laws on spans put in order and together, met, and left out: each is the tidy list of a set. No program is known here. -/
import Derived.Test.YthlgnjlpakimaaaGreatDoorUSpanLaw
set_option linter.all false
set_option linter.unnecessarySimpa false
set_option linter.unusedSimpArgs false
set_option linter.unusedVariables false
namespace Go.Proofs.YthlgnjlpakimaaaGreatDoor
theorem G8:∀ {l:List Ad} {e e':Int},e'<=e->Aw e l=true->Aw e' l=true
 | [],_,_,_,_=>rfl
 | s :: l,e,e',h,hf=>by
  obtain ⟨h1,h2⟩:=Ax.1 hf
  exact Ax.2 ⟨⟨by omega,h1.2⟩,h2⟩
def B9 (l:List Ad):List Ad:=C1 fun o=>Ak l o
theorem Dd {f g:Nat->Bool} (h:∀ o,o < 256->f o=g o):C1 f=C1 g:=by
 refine Ka (e:=-2) (Bg f) (Bg g) fun o=>?_
 have key:∀ {f g:Nat->Bool},(∀ o,o < 256->f o=g o)->Ak (C1 f) o=true->Ak (C1 g) o=true:=by
  intro f g h hm
  have b:=C8 (e:=-2) (Bg f) hm
  obtain ⟨n,rfl⟩ : ∃ n:Nat,o=n:=⟨o.toNat,by omega⟩
  obtain ⟨h1,h2⟩:=(Ld f n).1 hm
  exact (Ld g n).2 ⟨h1,by rw [<-h n h1];exact h2⟩
 exact ⟨key h,key fun o ho=>(h o ho).symm⟩
theorem Cc (f:Nat->Bool) {o:Nat} (ho:o < 256):Ak (C1 f) o=f o:=by
 rw [Bool.eq_iff_iff,Ld]
 exact ⟨fun h=>h.2,fun h=>⟨ho,h⟩⟩
theorem Pb {l:List Ad} {f:Nat->Bool} (hf:Ci l=true) (h:∀ o:Nat,o < 256->Ak l o=f o):l=C1 f:=by
 rw [((Ea l).1 hf).2]
 exact Dd h
theorem Hv (f:Nat->Bool):(C1 f).length<=128:=((Ea _).1 (Bg f)).1
def Qi (s:Ad):List Ad:=if max s.lo 0<=min s.hi 255 then [⟨max s.lo 0,min s.hi 255⟩] else []
def Qj (l:List Ad):List Ad:=l.flatMap Qi
theorem B55 (l:List Ad) (s:Ad):Qj (l++[s])=Qj l++Qi s:=by simp [Qj]
theorem Ak1 (l:List Ad):(Qj l).length<=l.length:=by
 induction l with
 | nil=>simp [Qj]
 | cons s l ih =>
  have:(Qi s).length<=1:=by unfold Qi;split<;>simp
  simp only [Qj,List.flatMap_cons,List.length_append,List.length_cons] at ih ⊢
  omega
theorem Yq {l:List Ad} {s:Ad} (h:s∈Qj l):0<=s.lo/\s.lo<=s.hi/\s.hi<=255:=by
 obtain ⟨t,_,ht⟩:=List.mem_flatMap.1 h
 unfold Qi at ht
 split at ht
 ·obtain rfl:=List.mem_singleton.1 ht
  simp only
  omega
 ·cases ht
theorem N9 {l:List Ad} {o:Int} : Ak l o=true↔∃ s∈l,s.lo<=o/\o<=s.hi:=by simp [Ak]
theorem Bd5 (l:List Ad) {o:Int} (h0:0<=o) (h1:o<=255):Ak (Qj l) o=Ak l o:=by
 rw [Bool.eq_iff_iff,N9,N9]
 constructor
 ·rintro ⟨s,hs,a,b⟩
  obtain ⟨t,ht,ht2⟩:=List.mem_flatMap.1 hs
  unfold Qi at ht2
  split at ht2
  ·obtain rfl:=List.mem_singleton.1 ht2
   exact ⟨t,ht,by simp only at a;omega,by simp only at b;omega⟩
  ·cases ht2
 ·rintro ⟨s,hs,a,b⟩
  refine ⟨⟨max s.lo 0,min s.hi 255⟩,List.mem_flatMap.2 ⟨s,hs,?_⟩,by simp only;omega,by simp only;omega⟩
  unfold Qi
  rw [if_pos (by omega)]
  exact List.mem_singleton.2 rfl
def Le (out:List Ad) (s:Ad):List Ad :=
 match out.getLast? with
 | some t=>if s.lo<=t.hi+1 then out.dropLast++[⟨t.lo,max t.hi s.hi⟩] else out++[s]
 | none=>out++[s]
def Jj (l:List Ad):List Ad:=l.foldl Le []
theorem Vw (l:List Ad) (s:Ad):Jj (l++[s])=Le (Jj l) s:=by simp [Jj]
theorem A28 {α:Type} {l:List α} {t:α} (h:l.getLast? = some t):l.dropLast++[t]=l:=by
 cases l with
 | nil=>simp at h
 | cons x l =>
  have h2:=List.dropLast_concat_getLast (l:=x :: l) (by simp)
  rw [List.getLast?_eq_some_getLast (by simp)] at h
  injection h with h
  rw [<-h]
  exact h2
structure Be8 (pre out:List Ad):Prop where
 formed:Aw (-2) out=true
 mem:∀ o:Int,Ak out o=Ak pre o
 low:∀ out' t,out=out'++[t]->∃ s∈pre,t.lo=s.lo
theorem Us:∀ (n:Nat) (l:List Ad),n<=l.length->(∀ s∈l,0<=s.lo/\s.lo<=s.hi/\s.hi<=255)->l.Pairwise (fun a b=>a.lo<=b.lo)->Be8 (l.take n) (Jj (l.take n))
 | 0,l,_,_,_=>⟨rfl,fun _=>by simp [Jj],fun out' t h=>by simp [Jj] at h⟩
 | n+1,l,hn,hr,hs=>by
  have ih:=Us n l (by omega) hr hs
  obtain ⟨s,hx⟩ : ∃ s,l[n]? = some s:=⟨l[n],List.getElem?_eq_getElem (by omega)⟩
  have ht:l.take (n+1)=l.take n++[s]:=by rw [List.take_add_one,hx];rfl
  have hle:∀ x∈l.take n,x.lo<=s.lo:=by
   intro x hxm
   obtain ⟨j,hj⟩:=List.mem_iff_getElem?.1 hxm
   rw [List.getElem?_take] at hj
   split at hj
   ·have hjl:=(List.getElem?_eq_some_iff.1 hj)
    have hnl:=(List.getElem?_eq_some_iff.1 hx)
    have:=List.pairwise_iff_getElem.1 hs j n hjl.1 hnl.1 (by omega)
    rw [hjl.2,hnl.2] at this
    exact this
   ·cases hj
  have hsr:=hr s (List.mem_of_getElem? hx)
  rw [ht,Vw]
  generalize l.take n=pre at ih hle
  generalize Jj pre=out at ih
  obtain ⟨i1,i2,i3⟩:=ih
  unfold Le
  cases hg:out.getLast? with
  | none =>
   have hnil:out=[]:=by simpa using hg
   subst hnil
   refine ⟨?_,fun o=>?_,fun out' t h=>?_⟩
   ·simp only [List.nil_append,Aw,Bool.and_true,decide_eq_true_eq];omega
   ·have:=i2 o
    simp only [List.nil_append,Cm,<-this]
    simp [Ak]
   ·have:t=s:=by
     rw [List.nil_append] at h
     have:=congrArg List.getLast? h
     simpa using this.symm
    subst this
    exact ⟨t,by simp,rfl⟩
  | some t =>
   have hout:out=out.dropLast++[t]:=(A28 hg).symm
   generalize out.dropLast=od at hout
   subst hout
   simp only
   obtain ⟨u,hu,hul⟩:=i3 od t rfl
   have hts:=hle u hu
   obtain ⟨b1,b2,b3,b4,b5⟩:=F8.1 i1
   have hmt:∀ o:Int,Ak (od++[t]) o=(Ak od o || (decide (t.lo<=o)&&decide (o<=t.hi))):=fun o=>by rw [Cm];simp [Ak]
   have hms:∀ o:Int,Ak (pre++[s]) o=(Ak od o || (decide (t.lo<=o)&&decide (o<=t.hi)) || (decide (s.lo<=o)&&decide (o<=s.hi))):=fun o=>by rw [Cm,<-i2 o,hmt];simp [Ak]
   split
   ·rename_i hc
    refine ⟨F8.2 ⟨b1,b2,by simp only;omega,by simp only;omega,b5⟩,fun o=>?_,fun out' t' h=>?_⟩
    ·rw [hms,Cm,Bool.or_assoc]
     congr 1
     simp only [Ak,List.any_cons,List.any_nil,Bool.or_false]
     rw [Bool.eq_iff_iff]
     simp only [Bool.or_eq_true,Bool.and_eq_true,decide_eq_true_eq]
     omega
    ·have:t'=⟨t.lo,max t.hi s.hi⟩:=by
      have:=congrArg List.getLast? h
      simpa using this.symm
     subst this
     exact ⟨u,List.mem_append_left _ hu,hul⟩
   ·rename_i hc
    refine ⟨F8.2 ⟨i1,by simp only [List.getLast?_append,List.getLast?_singleton,Option.some_or,Option.map_some,Option.getD_some];omega,by omega,by omega,by omega⟩,fun o=>?_,fun out' t' h=>?_⟩
    ·rw [hms,Cm,hmt]
     simp [Ak]
    ·have:t'=s:=by
      have:=congrArg List.getLast? h
      simpa using this.symm
     subst this
     exact ⟨t',List.mem_append_right _ (by simp),rfl⟩
theorem Ar1 {l d:List Ad} (hp:d.Perm (Qj l)) (hs:d.Pairwise fun a b=>a.lo<=b.lo):Jj d=B9 l:=by
 have h:=Us d.length d (Nat.le_refl _) (fun s hs=>Yq (hp.mem_iff.1 hs)) hs
 rw [List.take_length] at h
 refine Pb h.formed fun o ho=>?_
 rw [h.mem,<-Bd5 l (by omega) (by omega),Bool.eq_iff_iff,N9,N9]
 exact ⟨fun ⟨s,h1,h2⟩=>⟨s,hp.mem_iff.1 h1,h2⟩,fun ⟨s,h1,h2⟩=>⟨s,hp.mem_iff.2 h1,h2⟩⟩
def Cn:List Ad->List Ad->List Ad
 | [],_=>[]
 | _ :: _,[]=>[]
 | s :: x,t :: y=>(if max s.lo t.lo<=min s.hi t.hi then [⟨max s.lo t.lo,min s.hi t.hi⟩] else [])++(if s.hi < t.hi then Cn x (t :: y) else Cn (s :: x) y)
termination_by x y=>x.length+y.length
theorem B31 (x:List Ad):Cn x []=[]:=by cases x<;>simp [Cn]
theorem Jk (x y:List Ad) (e1 e2:Int) (h1:Aw e1 x=true) (h2:Aw e2 y=true):Aw (max e1 e2) (Cn x y)=true:=by
 match x,y with
 | [],y=>simp [Cn,Aw]
 | s :: x,[]=>simp [Cn,Aw]
 | s :: x,t :: y =>
  obtain ⟨a1,a2⟩:=Ax.1 h1
  obtain ⟨c1,c2⟩:=Ax.1 h2
  rw [Cn]
  have hr:Aw (min s.hi t.hi) (if s.hi < t.hi then Cn x (t :: y) else Cn (s :: x) y)=true:=by
   split
   ·exact G8 (by omega) (Jk x (t :: y) s.hi e2 a2 h2)
   ·exact G8 (by omega) (Jk (s :: x) y e1 t.hi h1 c2)
  have hr2:Aw (max e1 e2) (if s.hi < t.hi then Cn x (t :: y) else Cn (s :: x) y)=true:=by
   split
   ·exact G8 (by omega) (Jk x (t :: y) s.hi e2 a2 h2)
   ·exact G8 (by omega) (Jk (s :: x) y e1 t.hi h1 c2)
  split
  ·rw [List.singleton_append]
   exact Ax.2 ⟨by simp only;omega,hr⟩
  ·exact hr2
termination_by x.length+y.length
theorem Ut (x y:List Ad) (e1 e2:Int) (h1:Aw e1 x=true) (h2:Aw e2 y=true) (o:Int):Ak (Cn x y) o=(Ak x o&&Ak y o):=by
 match x,y with
 | [],y=>simp [Cn,Ak]
 | s :: x,[]=>simp [Cn,Ak]
 | s :: x,t :: y =>
  obtain ⟨a1,a2⟩:=Ax.1 h1
  obtain ⟨c1,c2⟩:=Ax.1 h2
  rw [Cn,Cm]
  have hx:Ak x o=true->s.hi+1 < o:=fun h=>(C8 a2 h).1
  have hy:Ak y o=true->t.hi+1 < o:=fun h=>(C8 c2 h).1
  have e0:Ak (if max s.lo t.lo<=min s.hi t.hi then [(⟨max s.lo t.lo,min s.hi t.hi⟩ : Ad)] else []) o=(decide (s.lo<=o/\o<=s.hi)&&decide (t.lo<=o/\o<=t.hi)):=by
   rw [Bool.eq_iff_iff]
   split
   ·simp only [Ak,List.any_cons,List.any_nil,Bool.or_false,Bool.and_eq_true,decide_eq_true_eq];omega
   ·simp only [Ak,List.any_nil,Bool.false_eq_true,Bool.and_eq_true,decide_eq_true_eq,false_iff];omega
  have es:Ak (s :: x) o=(decide (s.lo<=o/\o<=s.hi) || Ak x o):=by simp [Ak]
  have et:Ak (t :: y) o=(decide (t.lo<=o/\o<=t.hi) || Ak y o):=by simp [Ak]
  rw [e0,Bool.eq_iff_iff]
  split
  ·rw [Ut x (t :: y) s.hi e2 a2 h2 o,es,et]
   simp only [Bool.or_eq_true,Bool.and_eq_true,decide_eq_true_eq]
   constructor
   ·rintro (⟨p,q⟩ | ⟨p,q⟩)
    ·exact ⟨.inl p,.inl q⟩
    ·exact ⟨.inr p,q⟩
   ·rintro ⟨p | p,q | q⟩
    ·exact .inl ⟨p,q⟩
    ·have:=hy q;omega
    ·exact .inr ⟨p,.inl q⟩
    ·exact .inr ⟨p,.inr q⟩
  ·rw [Ut (s :: x) y e1 t.hi h1 c2 o,es,et]
   simp only [Bool.or_eq_true,Bool.and_eq_true,decide_eq_true_eq]
   constructor
   ·rintro (⟨p,q⟩ | ⟨p,q⟩)
    ·exact ⟨.inl p,.inl q⟩
    ·exact ⟨p,.inr q⟩
   ·rintro ⟨p | p,q | q⟩
    ·exact .inl ⟨p,q⟩
    ·exact .inr ⟨.inl p,q⟩
    ·have:=hx p;omega
    ·exact .inr ⟨.inr p,q⟩
termination_by x.length+y.length
theorem Ar3 (a b:List Ad):Cn (B9 a) (B9 b)=C1 fun o=>Ak a o&&Ak b o:=by
 refine Pb (Jk _ _ (-2) (-2) (Bg _) (Bg _)) fun o ho=>?_
 rw [Ut (B9 a) (B9 b) (-2) (-2) (Bg _) (Bg _),B9,B9,Cc _ ho,Cc _ ho]
def Q0:Int->List Ad->List Ad
 | n,[]=>if n<=255 then [⟨n,255⟩] else []
 | n,s :: l=>(if n < s.lo then [⟨n,s.lo - 1⟩] else [])++Q0 (s.hi+1) l
theorem Tb:∀ (l:List Ad) (n e:Int),0<=n->n<=e+2->Aw e l=true->Aw (n - 2) (Q0 n l)=true
 | [],n,e,h0,_,_=>by
  unfold Q0
  split
  ·exact Ax.2 ⟨by simp only;omega,rfl⟩
  ·rfl
 | s :: l,n,e,h0,h1,h=>by
  obtain ⟨a1,a2⟩:=Ax.1 h
  have ih:=Tb l (s.hi+1) s.hi (by omega) (by omega) a2
  unfold Q0
  split
  ·rw [List.singleton_append]
   exact Ax.2 ⟨by simp only;omega,G8 (by simp only;omega) ih⟩
  ·exact G8 (by omega) ih
theorem A10:∀ (l:List Ad) (n e:Int),n<=e+2->Aw e l=true->∀ o:Int,Ak (Q0 n l) o=(decide (n<=o/\o<=255)&&!Ak l o)
 | [],n,e,h1,_,o=>by
  unfold Q0
  rw [Bool.eq_iff_iff]
  split
  ·simp [Ak]
  ·simp only [Ak,List.any_nil,Bool.false_eq_true,Bool.not_false,Bool.and_true,decide_eq_true_eq,false_iff];omega
 | s :: l,n,e,h1,h,o=>by
  obtain ⟨a1,a2⟩:=Ax.1 h
  have ih:=A10 l (s.hi+1) s.hi (by omega) a2 o
  have hb:Ak l o=true->s.hi+1 < o:=fun h=>(C8 a2 h).1
  have es:Ak (s :: l) o=(decide (s.lo<=o/\o<=s.hi) || Ak l o):=by simp [Ak]
  have e0:Ak (if n < s.lo then [(⟨n,s.lo - 1⟩ : Ad)] else []) o=decide (n<=o/\o < s.lo):=by
   rw [Bool.eq_iff_iff]
   split
   ·simp only [Ak,List.any_cons,List.any_nil,Bool.or_false,Bool.and_eq_true,decide_eq_true_eq];omega
   ·simp only [Ak,List.any_nil,Bool.false_eq_true,decide_eq_true_eq,false_iff];omega
  rw [Q0,Cm,ih,es,e0]
  cases hm:Ak l o with
  | true =>
   have:=hb hm
   simp only [Bool.not_true,Bool.and_false,Bool.or_false,Bool.or_true]
   exact decide_eq_false (by omega)
  | false =>
   rw [Bool.eq_iff_iff]
   simp only [Bool.not_false,Bool.and_true,Bool.or_false,Bool.or_eq_true,Bool.and_eq_true,decide_eq_true_eq,Bool.not_eq_true',decide_eq_false_iff_not]
   omega
theorem Ao7 (a:List Ad):Q0 0 (B9 a)=C1 fun o=>!Ak a o:=by
 refine Pb (G8 (by omega) (Tb _ 0 (-2) (by omega) (by omega) (Bg _))) fun o ho=>?_
 rw [A10 (B9 a) 0 (-2) (by omega) (Bg _),B9,Cc _ ho,decide_eq_true (by omega),Bool.true_and]
def Ng (os:List Int):List Ad:=os.map fun o=>⟨o,o⟩
end Go.Proofs.YthlgnjlpakimaaaGreatDoor
