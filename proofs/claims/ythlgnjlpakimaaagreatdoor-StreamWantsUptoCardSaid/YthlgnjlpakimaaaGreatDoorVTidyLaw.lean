/- Plain laws on spans put in order and together, met, and left out: each is the tidy list of a set. No program is known here. -/
import Derived.Test.YthlgnjlpakimaaaGreatDoorVSpanLaw
set_option linter.all false
set_option linter.unnecessarySimpa false
set_option linter.unusedSimpArgs false
set_option linter.unusedVariables false
namespace Go.Proofs.YthlgnjlpakimaaaGreatDoor
theorem H9:∀ {l:List Ad} {e e':Int},e'<=e->B7 e l=true->B7 e' l=true
 | [],_,_,_,_=>rfl
 | s :: l,e,e',h,hf=>by
  obtain ⟨h1,h2⟩:=B4.1 hf
  exact B4.2 ⟨⟨by omega,h1.2⟩,h2⟩
def Ba (l:List Ad):List Ad:=C8 fun o=>Ae l o
theorem E4 {f g:Nat->Bool} (h:∀ o,o < 256->f o=g o):C8 f=C8 g:=by
 refine L7 (e:=-2) (Be f) (Be g) fun o=>?_
 have key:∀ {f g:Nat->Bool},(∀ o,o < 256->f o=g o)->Ae (C8 f) o=true->Ae (C8 g) o=true:=by
  intro f g h hm
  have b:=Ca (e:=-2) (Be f) hm
  obtain ⟨n,rfl⟩ : ∃ n:Nat,o=n:=⟨o.toNat,by omega⟩
  obtain ⟨h1,h2⟩:=(M9 f n).1 hm
  exact (M9 g n).2 ⟨h1,by rw [<-h n h1];exact h2⟩
 exact ⟨key h,key fun o ho=>(h o ho).symm⟩
theorem C3 (f:Nat->Bool) {o:Nat} (ho:o < 256):Ae (C8 f) o=f o:=by
 rw [Bool.eq_iff_iff,M9]
 exact ⟨fun h=>h.2,fun h=>⟨ho,h⟩⟩
theorem Qz {l:List Ad} {f:Nat->Bool} (hf:E9 l=true) (h:∀ o:Nat,o < 256->Ae l o=f o):l=C8 f:=by
 rw [((Ei l).1 hf).2]
 exact E4 h
theorem Ea (f:Nat->Bool):(C8 f).length<=128:=((Ei _).1 (Be f)).1
def S8 (s:Ad):List Ad:=if max s.lo 0<=min s.hi 255 then [⟨max s.lo 0,min s.hi 255⟩] else []
def S9 (l:List Ad):List Ad:=l.flatMap S8
theorem Bc8 (l:List Ad) (s:Ad):S9 (l++[s])=S9 l++S8 s:=by simp [S9]
theorem Ar2 (l:List Ad):(S9 l).length<=l.length:=by
 induction l with
 | nil=>simp [S9]
 | cons s l ih =>
  have:(S8 s).length<=1:=by unfold S8;split<;>simp
  simp only [S9,List.flatMap_cons,List.length_append,List.length_cons] at ih ⊢
  omega
theorem A37 {l:List Ad} {s:Ad} (h:s∈S9 l):0<=s.lo/\s.lo<=s.hi/\s.hi<=255:=by
 obtain ⟨t,_,ht⟩:=List.mem_flatMap.1 h
 unfold S8 at ht
 split at ht
 ·obtain rfl:=List.mem_singleton.1 ht
  simp only
  omega
 ·cases ht
theorem Kf {l:List Ad} {o:Int} : Ae l o=true↔∃ s∈l,s.lo<=o/\o<=s.hi:=by simp [Ae]
theorem Bm2 (l:List Ad) {o:Int} (h0:0<=o) (h1:o<=255):Ae (S9 l) o=Ae l o:=by
 rw [Bool.eq_iff_iff,Kf,Kf]
 constructor
 ·rintro ⟨s,hs,a,b⟩
  obtain ⟨t,ht,ht2⟩:=List.mem_flatMap.1 hs
  unfold S8 at ht2
  split at ht2
  ·obtain rfl:=List.mem_singleton.1 ht2
   exact ⟨t,ht,by simp only at a;omega,by simp only at b;omega⟩
  ·cases ht2
 ·rintro ⟨s,hs,a,b⟩
  refine ⟨⟨max s.lo 0,min s.hi 255⟩,List.mem_flatMap.2 ⟨s,hs,?_⟩,by simp only;omega,by simp only;omega⟩
  unfold S8
  rw [if_pos (by omega)]
  exact List.mem_singleton.2 rfl
def Ma (out:List Ad) (s:Ad):List Ad :=
 match out.getLast? with
 | some t=>if s.lo<=t.hi+1 then out.dropLast++[⟨t.lo,max t.hi s.hi⟩] else out++[s]
 | none=>out++[s]
def Ke (l:List Ad):List Ad:=l.foldl Ma []
theorem Yh (l:List Ad) (s:Ad):Ke (l++[s])=Ma (Ke l) s:=by simp [Ke]
theorem Pt {α:Type} {l:List α} {t:α} (h:l.getLast? = some t):l.dropLast++[t]=l:=by
 cases l with
 | nil=>simp at h
 | cons x l =>
  have h2:=List.dropLast_concat_getLast (l:=x :: l) (by simp)
  rw [List.getLast?_eq_some_getLast (by simp)] at h
  injection h with h
  rw [<-h]
  exact h2
structure Bn7 (pre out:List Ad):Prop where
 formed:B7 (-2) out=true
 mem:∀ o:Int,Ae out o=Ae pre o
 low:∀ out' t,out=out'++[t]->∃ s∈pre,t.lo=s.lo
theorem Xg:∀ (n:Nat) (l:List Ad),n<=l.length->(∀ s∈l,0<=s.lo/\s.lo<=s.hi/\s.hi<=255)->l.Pairwise (fun a b=>a.lo<=b.lo)->Bn7 (l.take n) (Ke (l.take n))
 | 0,l,_,_,_=>⟨rfl,fun _=>by simp [Ke],fun out' t h=>by simp [Ke] at h⟩
 | n+1,l,hn,hr,hs=>by
  have ih:=Xg n l (by omega) hr hs
  obtain ⟨s,hx⟩ : ∃ s,l[n]? = some s:=⟨l[n],List.getElem?_eq_getElem (by omega)⟩
  have ht:l.take (n+1)=l.take n++[s]:=by rw [List.take_add_one,hx];rfl
  have hle:∀ x∈l.take n,x.lo<=s.lo:=by
   intro x hxm
   obtain ⟨j,hj⟩:=List.mem_iff_getElem?.1 hxm
   rw [List.getElem?_take] at hj
   split at hj
   ·have hjl:=(List.getElem?_eq_some_iff.1 hj)
    have hnl:=(List.getElem?_eq_some_iff.1 hx)
    have:=List.pairwise_iff_getElem.1 hs j n hjl.1 hnl.1 (by omega)
    rw [hjl.2,hnl.2] at this
    exact this
   ·cases hj
  have hsr:=hr s (List.mem_of_getElem? hx)
  rw [ht,Yh]
  generalize l.take n=pre at ih hle
  generalize Ke pre=out at ih
  obtain ⟨i1,i2,i3⟩:=ih
  unfold Ma
  cases hg:out.getLast? with
  | none =>
   have hnil:out=[]:=by simpa using hg
   subst hnil
   refine ⟨?_,fun o=>?_,fun out' t h=>?_⟩
   ·simp only [List.nil_append,B7,Bool.and_true,decide_eq_true_eq];omega
   ·have:=i2 o
    simp only [List.nil_append,Cn,<-this]
    simp [Ae]
   ·have:t=s:=by
     rw [List.nil_append] at h
     have:=congrArg List.getLast? h
     simpa using this.symm
    subst this
    exact ⟨t,by simp,rfl⟩
  | some t =>
   have hout:out=out.dropLast++[t]:=(Pt hg).symm
   generalize out.dropLast=od at hout
   subst hout
   simp only
   obtain ⟨u,hu,hul⟩:=i3 od t rfl
   have hts:=hle u hu
   obtain ⟨b1,b2,b3,b4,b5⟩:=G8.1 i1
   have hmt:∀ o:Int,Ae (od++[t]) o=(Ae od o || (decide (t.lo<=o)&&decide (o<=t.hi))):=fun o=>by rw [Cn];simp [Ae]
   have hms:∀ o:Int,Ae (pre++[s]) o=(Ae od o || (decide (t.lo<=o)&&decide (o<=t.hi)) || (decide (s.lo<=o)&&decide (o<=s.hi))):=fun o=>by rw [Cn,<-i2 o,hmt];simp [Ae]
   split
   ·rename_i hc
    refine ⟨G8.2 ⟨b1,b2,by simp only;omega,by simp only;omega,b5⟩,fun o=>?_,fun out' t' h=>?_⟩
    ·rw [hms,Cn,Bool.or_assoc]
     congr 1
     simp only [Ae,List.any_cons,List.any_nil,Bool.or_false]
     rw [Bool.eq_iff_iff]
     simp only [Bool.or_eq_true,Bool.and_eq_true,decide_eq_true_eq]
     omega
    ·have:t'=⟨t.lo,max t.hi s.hi⟩:=by
      have:=congrArg List.getLast? h
      simpa using this.symm
     subst this
     exact ⟨u,List.mem_append_left _ hu,hul⟩
   ·rename_i hc
    refine ⟨G8.2 ⟨i1,by simp only [List.getLast?_append,List.getLast?_singleton,Option.some_or,Option.map_some,Option.getD_some];omega,by omega,by omega,by omega⟩,fun o=>?_,fun out' t' h=>?_⟩
    ·rw [hms,Cn,hmt]
     simp [Ae]
    ·have:t'=s:=by
      have:=congrArg List.getLast? h
      simpa using this.symm
     subst this
     exact ⟨t',List.mem_append_right _ (by simp),rfl⟩
theorem Ay6 {l d:List Ad} (hp:d.Perm (S9 l)) (hs:d.Pairwise fun a b=>a.lo<=b.lo):Ke d=Ba l:=by
 have h:=Xg d.length d (Nat.le_refl _) (fun s hs=>A37 (hp.mem_iff.1 hs)) hs
 rw [List.take_length] at h
 refine Qz h.formed fun o ho=>?_
 rw [h.mem,<-Bm2 l (by omega) (by omega),Bool.eq_iff_iff,Kf,Kf]
 exact ⟨fun ⟨s,h1,h2⟩=>⟨s,hp.mem_iff.1 h1,h2⟩,fun ⟨s,h1,h2⟩=>⟨s,hp.mem_iff.2 h1,h2⟩⟩
def D4:List Ad->List Ad->List Ad
 | [],_=>[]
 | _ :: _,[]=>[]
 | s :: x,t :: y=>(if max s.lo t.lo<=min s.hi t.hi then [⟨max s.lo t.lo,min s.hi t.hi⟩] else [])++(if s.hi < t.hi then D4 x (t :: y) else D4 (s :: x) y)
termination_by x y=>x.length+y.length
theorem Ba4 (x:List Ad):D4 x []=[]:=by cases x<;>simp [D4]
theorem Kg (x y:List Ad) (e1 e2:Int) (h1:B7 e1 x=true) (h2:B7 e2 y=true):B7 (max e1 e2) (D4 x y)=true:=by
 match x,y with
 | [],y=>simp [D4,B7]
 | s :: x,[]=>simp [D4,B7]
 | s :: x,t :: y =>
  obtain ⟨a1,a2⟩:=B4.1 h1
  obtain ⟨c1,c2⟩:=B4.1 h2
  rw [D4]
  have hr:B7 (min s.hi t.hi) (if s.hi < t.hi then D4 x (t :: y) else D4 (s :: x) y)=true:=by
   split
   ·exact H9 (by omega) (Kg x (t :: y) s.hi e2 a2 h2)
   ·exact H9 (by omega) (Kg (s :: x) y e1 t.hi h1 c2)
  have hr2:B7 (max e1 e2) (if s.hi < t.hi then D4 x (t :: y) else D4 (s :: x) y)=true:=by
   split
   ·exact H9 (by omega) (Kg x (t :: y) s.hi e2 a2 h2)
   ·exact H9 (by omega) (Kg (s :: x) y e1 t.hi h1 c2)
  split
  ·rw [List.singleton_append]
   exact B4.2 ⟨by simp only;omega,hr⟩
  ·exact hr2
termination_by x.length+y.length
theorem Xh (x y:List Ad) (e1 e2:Int) (h1:B7 e1 x=true) (h2:B7 e2 y=true) (o:Int):Ae (D4 x y) o=(Ae x o&&Ae y o):=by
 match x,y with
 | [],y=>simp [D4,Ae]
 | s :: x,[]=>simp [D4,Ae]
 | s :: x,t :: y =>
  obtain ⟨a1,a2⟩:=B4.1 h1
  obtain ⟨c1,c2⟩:=B4.1 h2
  rw [D4,Cn]
  have hx:Ae x o=true->s.hi+1 < o:=fun h=>(Ca a2 h).1
  have hy:Ae y o=true->t.hi+1 < o:=fun h=>(Ca c2 h).1
  have e0:Ae (if max s.lo t.lo<=min s.hi t.hi then [(⟨max s.lo t.lo,min s.hi t.hi⟩ : Ad)] else []) o=(decide (s.lo<=o/\o<=s.hi)&&decide (t.lo<=o/\o<=t.hi)):=by
   rw [Bool.eq_iff_iff]
   split
   ·simp only [Ae,List.any_cons,List.any_nil,Bool.or_false,Bool.and_eq_true,decide_eq_true_eq];omega
   ·simp only [Ae,List.any_nil,Bool.false_eq_true,Bool.and_eq_true,decide_eq_true_eq,false_iff];omega
  have es:Ae (s :: x) o=(decide (s.lo<=o/\o<=s.hi) || Ae x o):=by simp [Ae]
  have et:Ae (t :: y) o=(decide (t.lo<=o/\o<=t.hi) || Ae y o):=by simp [Ae]
  rw [e0,Bool.eq_iff_iff]
  split
  ·rw [Xh x (t :: y) s.hi e2 a2 h2 o,es,et]
   simp only [Bool.or_eq_true,Bool.and_eq_true,decide_eq_true_eq]
   constructor
   ·rintro (⟨p,q⟩ | ⟨p,q⟩)
    ·exact ⟨.inl p,.inl q⟩
    ·exact ⟨.inr p,q⟩
   ·rintro ⟨p | p,q | q⟩
    ·exact .inl ⟨p,q⟩
    ·have:=hy q;omega
    ·exact .inr ⟨p,.inl q⟩
    ·exact .inr ⟨p,.inr q⟩
  ·rw [Xh (s :: x) y e1 t.hi h1 c2 o,es,et]
   simp only [Bool.or_eq_true,Bool.and_eq_true,decide_eq_true_eq]
   constructor
   ·rintro (⟨p,q⟩ | ⟨p,q⟩)
    ·exact ⟨.inl p,.inl q⟩
    ·exact ⟨p,.inr q⟩
   ·rintro ⟨p | p,q | q⟩
    ·exact .inl ⟨p,q⟩
    ·exact .inr ⟨.inl p,q⟩
    ·have:=hx p;omega
    ·exact .inr ⟨.inr p,q⟩
termination_by x.length+y.length
theorem Ay8 (a b:List Ad):D4 (Ba a) (Ba b)=C8 fun o=>Ae a o&&Ae b o:=by
 refine Qz (Kg _ _ (-2) (-2) (Be _) (Be _)) fun o ho=>?_
 rw [Xh (Ba a) (Ba b) (-2) (-2) (Be _) (Be _),Ba,Ba,C3 _ ho,C3 _ ho]
def Ru:Int->List Ad->List Ad
 | n,[]=>if n<=255 then [⟨n,255⟩] else []
 | n,s :: l=>(if n < s.lo then [⟨n,s.lo - 1⟩] else [])++Ru (s.hi+1) l
theorem Vi:∀ (l:List Ad) (n e:Int),0<=n->n<=e+2->B7 e l=true->B7 (n - 2) (Ru n l)=true
 | [],n,e,h0,_,_=>by
  unfold Ru
  split
  ·exact B4.2 ⟨by simp only;omega,rfl⟩
  ·rfl
 | s :: l,n,e,h0,h1,h=>by
  obtain ⟨a1,a2⟩:=B4.1 h
  have ih:=Vi l (s.hi+1) s.hi (by omega) (by omega) a2
  unfold Ru
  split
  ·rw [List.singleton_append]
   exact B4.2 ⟨by simp only;omega,H9 (by simp only;omega) ih⟩
  ·exact H9 (by omega) ih
theorem A87:∀ (l:List Ad) (n e:Int),n<=e+2->B7 e l=true->∀ o:Int,Ae (Ru n l) o=(decide (n<=o/\o<=255)&&!Ae l o)
 | [],n,e,h1,_,o=>by
  unfold Ru
  rw [Bool.eq_iff_iff]
  split
  ·simp [Ae]
  ·simp only [Ae,List.any_nil,Bool.false_eq_true,Bool.not_false,Bool.and_true,decide_eq_true_eq,false_iff];omega
 | s :: l,n,e,h1,h,o=>by
  obtain ⟨a1,a2⟩:=B4.1 h
  have ih:=A87 l (s.hi+1) s.hi (by omega) a2 o
  have hb:Ae l o=true->s.hi+1 < o:=fun h=>(Ca a2 h).1
  have es:Ae (s :: l) o=(decide (s.lo<=o/\o<=s.hi) || Ae l o):=by simp [Ae]
  have e0:Ae (if n < s.lo then [(⟨n,s.lo - 1⟩ : Ad)] else []) o=decide (n<=o/\o < s.lo):=by
   rw [Bool.eq_iff_iff]
   split
   ·simp only [Ae,List.any_cons,List.any_nil,Bool.or_false,Bool.and_eq_true,decide_eq_true_eq];omega
   ·simp only [Ae,List.any_nil,Bool.false_eq_true,decide_eq_true_eq,false_iff];omega
  rw [Ru,Cn,ih,es,e0]
  cases hm:Ae l o with
  | true =>
   have:=hb hm
   simp only [Bool.not_true,Bool.and_false,Bool.or_false,Bool.or_true]
   exact decide_eq_false (by omega)
  | false =>
   rw [Bool.eq_iff_iff]
   simp only [Bool.not_false,Bool.and_true,Bool.or_false,Bool.or_eq_true,Bool.and_eq_true,decide_eq_true_eq,Bool.not_eq_true',decide_eq_false_iff_not]
   omega
theorem Aw2 (a:List Ad):Ru 0 (Ba a)=C8 fun o=>!Ae a o:=by
 refine Qz (H9 (by omega) (Vi _ 0 (-2) (by omega) (by omega) (Be _))) fun o ho=>?_
 rw [A87 (Ba a) 0 (-2) (by omega) (Be _),Ba,C3 _ ho,decide_eq_true (by omega),Bool.true_and]
def Ln (os:List Int):List Ad:=os.map fun o=>⟨o,o⟩
end Go.Proofs.YthlgnjlpakimaaaGreatDoor
