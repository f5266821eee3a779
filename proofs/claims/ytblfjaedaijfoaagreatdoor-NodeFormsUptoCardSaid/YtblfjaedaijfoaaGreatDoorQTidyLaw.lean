/- Plain laws on spans put in order and together, met, and left out: each is the tidy list of a set. No program is known here. -/
import Derived.IntWalk
set_option linter.all false
set_option linter.unnecessarySimpa false
set_option linter.unusedSimpArgs false
set_option linter.unusedVariables false
namespace Go.Proofs.YtblfjaedaijfoaaGreatDoor
structure Ao where
 lo:Int
 hi:Int
 deriving DecidableEq
def Bm (l:List Ao) (o:Int):Bool:=l.any fun s=>decide (s.lo<=o)&&decide (o<=s.hi)
def Bb:Int->List Ao->Bool
 | _,[]=>true
 | e,s :: l=>decide (e+1 < s.lo/\s.lo<=s.hi/\s.hi<=255/\0<=s.lo)&&Bb s.hi l
def Br (l:List Ao):Bool:=Bb (-2) l
def A22 (f:Nat->Bool) (acc:List Ao) (o:Nat):List Ao :=
 if f o then
  if 0 < o/\f (o - 1)=true then acc.dropLast++[⟨(acc.getLast?.getD ⟨0,0⟩).lo,o⟩] else acc++[⟨o,o⟩]
 else acc
def Gg (f:Nat->Bool):Nat->List Ao
 | 0=>[]
 | k+1=>A22 f (Gg f k) k
def Fa (f:Nat->Bool):List Ao:=Gg f 256
theorem Be {e:Int} {s:Ao} {l:List Ao} : Bb e (s :: l)=true↔(e+1 < s.lo/\s.lo<=s.hi/\s.hi<=255/\0<=s.lo)/\Bb s.hi l=true:=by
 simp [Bb]
theorem E6 {s:Ao} {l:List Ao} {o:Int} : Bm (s :: l) o=true↔(s.lo<=o/\o<=s.hi)\/Bm l o=true:=by
 simp [Bm]
theorem C7:∀ {l:List Ao} {e o:Int},Bb e l=true->Bm l o=true->e+1 < o/\0<=o/\o<=255
 | [],_,_,_,h=>by simp [Bm] at h
 | s :: l,e,o,hf,hm=>by
  obtain ⟨h1,h2⟩:=Be.1 hf
  rcases E6.1 hm with h | h
  ·omega
  ·have:=C7 h2 h
   omega
theorem Nh:∀ {l l':List Ao} {e:Int},Bb e l=true->Bb e l'=true->(∀ o:Int,Bm l o=true↔Bm l' o=true)->l=l'
 | [],[],_,_,_,_=>rfl
 | [],s :: l',_,_,h',h=>by
  obtain ⟨h1,_⟩:=Be.1 h'
  have:=(h s.lo).2 (E6.2 (Or.inl ⟨by omega,by omega⟩))
  simp [Bm] at this
 | s :: l,[],_,h',_,h=>by
  obtain ⟨h1,_⟩:=Be.1 h'
  have:=(h s.lo).1 (E6.2 (Or.inl ⟨by omega,by omega⟩))
  simp [Bm] at this
 | s :: l,s' :: l',e,hf,hf',h=>by
  obtain ⟨h1,h2⟩:=Be.1 hf
  obtain ⟨h1',h2'⟩:=Be.1 hf'
  have key:∀ o:Int,Bm (s :: l) o=true->s'.lo<=o:=fun o ho=>by
   rcases E6.1 ((h o).1 ho) with g | g
   ·omega
   ·have:=C7 h2' g;omega
  have key':∀ o:Int,Bm (s' :: l') o=true->s.lo<=o:=fun o ho=>by
   rcases E6.1 ((h o).2 ho) with g | g
   ·omega
   ·have:=C7 h2 g;omega
  have a1:=key s.lo (E6.2 (Or.inl ⟨by omega,by omega⟩))
  have a2:=key' s'.lo (E6.2 (Or.inl ⟨by omega,by omega⟩))
  have hlo:s.lo=s'.lo:=by omega
  have hhi:s.hi=s'.hi:=by
   rcases Int.lt_trichotomy s.hi s'.hi with c | c | c
   ·exfalso
    rcases E6.1 ((h (s.hi+1)).2 (E6.2 (Or.inl ⟨by omega,by omega⟩))) with g | g
    ·omega
    ·have:=C7 h2 g;omega
   ·exact c
   ·exfalso
    rcases E6.1 ((h (s'.hi+1)).1 (E6.2 (Or.inl ⟨by omega,by omega⟩))) with g | g
    ·omega
    ·have:=C7 h2' g;omega
  obtain ⟨lo,hi⟩:=s
  obtain ⟨lo',hi'⟩:=s'
  simp only at hlo hhi h2 h2' h1 h1'
  subst hlo hhi
  have hr:l=l':=Nh h2 h2' fun o=>by
   constructor
   ·intro g
    have b:=C7 h2 g
    rcases E6.1 ((h o).1 (E6.2 (Or.inr g))) with q | q
    ·simp only at q;omega
    ·exact q
   ·intro g
    have b:=C7 h2' g
    rcases E6.1 ((h o).2 (E6.2 (Or.inr g))) with q | q
    ·simp only at q;omega
    ·exact q
  rw [hr]
theorem Gc:∀ {l:List Ao} {e:Int} {s:Ao},Bb e (l++[s])=true↔Bb e l=true/\(l.getLast?.map (·.hi)).getD e+1 < s.lo/\s.lo<=s.hi/\s.hi<=255/\0<=s.lo
 | [],e,s=>by simp [Bb]
 | [x],e,s=>by simp [Bb]
 | x :: y :: l,e,s=>by
  have ih:=Gc (l:=y :: l) (e:=x.hi) (s:=s)
  rw [List.cons_append,Be,ih,Be (e:=e) (s:=x) (l:=y :: l)]
  have:((x :: y :: l).getLast?.map (·.hi)).getD e=((y :: l).getLast?.map (·.hi)).getD x.hi:=by
   rw [List.getLast?_cons_cons]
   simp [List.getLast?_cons]
  rw [this]
  exact and_assoc.symm
theorem D7 {l m:List Ao} {o:Int} : Bm (l++m) o=(Bm l o || Bm m o):=by simp [Bm]
structure Cf3 (f:Nat->Bool) (k:Nat) (l:List Ao):Prop where
 formed:Bb (-2) l=true
 mem:∀ o:Nat,Bm l o=true↔o < k/\f o=true
 low:∀ o:Int,Bm l o=true->0<=o
 ends : (0 < k /\ f (k - 1) = true /\ ∃ l' s, l = l' ++ [s] /\ s.hi = (k : Int) - 1) \/ ((k = 0 \/ f (k - 1) = false) /\ (l.getLast?.map (·.hi)).getD (-2) + 1 < (k : Int))
theorem Q0 (f:Nat->Bool):∀ k,k<=256->Cf3 f k (Gg f k)
 | 0,_=>⟨rfl,fun o=>by simp [Gg,Bm],fun o h=>by simp [Gg,Bm] at h,Or.inr ⟨Or.inl rfl,by simp [Gg]⟩⟩
 | k+1,hk=>by
  have ih:=Q0 f k (by omega)
  show Cf3 f (k+1) (A22 f (Gg f k) k)
  generalize Gg f k=l at ih
  obtain ⟨h1,h2,h3,h4⟩:=ih
  unfold A22
  cases hf:f k with
  | false =>
   simp only [Bool.false_eq_true,if_false]
   refine ⟨h1,fun o=>?_,h3,Or.inr ⟨Or.inr hf,?_⟩⟩
   ·rw [h2]
    constructor
    ·rintro ⟨a,b⟩;exact ⟨by omega,b⟩
    ·rintro ⟨a,b⟩
     refine ⟨?_,b⟩
     rcases Nat.lt_or_ge o k with c | c
     ·exact c
     ·obtain rfl:o=k:=by omega
      rw [hf] at b;cases b
   ·rcases h4 with ⟨a1,a2,l',s,rfl,a3⟩ | ⟨_,a2⟩
    ·simp only [List.getLast?_append,List.getLast?_singleton,Option.some_or,Option.map_some,Option.getD_some]
     omega
    ·omega
  | true =>
   simp only [if_true]
   rcases h4 with ⟨a1,a2,l',s,rfl,a3⟩ | ⟨a1,a2⟩
   ·rw [if_pos ⟨a1,a2⟩]
    simp only [List.dropLast_concat,List.getLast?_append,List.getLast?_singleton,Option.some_or,Option.getD_some]
    obtain ⟨b1,b2,b3,b4,b5⟩:=Gc.1 h1
    refine ⟨Gc.2 ⟨b1,b2,by simp only;omega,by simp only;omega,b5⟩,fun o=>?_,fun o ho=>?_,Or.inl ⟨by omega,hf,l',_,rfl,by simp only;omega⟩⟩
    ·have g:=h2 o
     rw [D7] at g ⊢
     simp only [Bm,List.any_cons,List.any_nil,Bool.or_false,Bool.or_eq_true,Bool.and_eq_true,decide_eq_true_eq] at g ⊢
     constructor
     ·rintro (q | ⟨q1,q2⟩)
      ·have:=g.1 (Or.inl q)
       exact ⟨by omega,this.2⟩
      ·rcases Nat.lt_or_ge o k with c | c
       ·have:=g.1 (Or.inr ⟨q1,by omega⟩)
        exact ⟨by omega,this.2⟩
       ·obtain rfl:o=k:=by omega
        exact ⟨by omega,hf⟩
     ·rintro ⟨q1,q2⟩
      rcases Nat.lt_or_ge o k with c | c
      ·rcases g.2 ⟨c,q2⟩ with q | ⟨q3,q4⟩
       ·exact Or.inl q
       ·exact Or.inr ⟨q3,by omega⟩
      ·exact Or.inr ⟨by omega,by omega⟩
    ·rw [D7] at ho
     simp only [Bm,List.any_cons,List.any_nil,Bool.or_false,Bool.or_eq_true,Bool.and_eq_true,decide_eq_true_eq] at ho
     rcases ho with q | ⟨q1,q2⟩
     ·exact h3 o (by rw [D7];simp only [Bm] at q ⊢;rw [q];rfl)
     ·omega
   ·have hn:¬ (0 < k/\f (k - 1)=true):=by
     rintro ⟨c1,c2⟩
     rcases a1 with a1 | a1
     ·omega
     ·rw [a1] at c2;cases c2
    rw [if_neg hn]
    refine ⟨Gc.2 ⟨h1,by simp only;omega,by simp,by simp only;omega,by simp only;omega⟩,fun o=>?_,fun o ho=>?_,Or.inl ⟨by omega,hf,l,_,rfl,by simp only;omega⟩⟩
    ·rw [D7]
     have g:=h2 o
     simp only [Bm,List.any_cons,List.any_nil,Bool.or_false,Bool.or_eq_true,Bool.and_eq_true,decide_eq_true_eq] at g ⊢
     constructor
     ·rintro (q | ⟨q1,q2⟩)
      ·have:=g.1 q
       exact ⟨by omega,this.2⟩
      ·obtain rfl:o=k:=by omega
       exact ⟨by omega,hf⟩
     ·rintro ⟨q1,q2⟩
      rcases Nat.lt_or_ge o k with c | c
      ·exact Or.inl (g.2 ⟨c,q2⟩)
      ·exact Or.inr ⟨by omega,by omega⟩
    ·rw [D7] at ho
     simp only [Bm,List.any_cons,List.any_nil,Bool.or_false,Bool.or_eq_true,Bool.and_eq_true,decide_eq_true_eq] at ho
     rcases ho with q | ⟨q1,q2⟩
     ·exact h3 o q
     ·omega
theorem C5 (f:Nat->Bool):Br (Fa f)=true:=(Q0 f 256 (by omega)).formed
theorem M4 (f:Nat->Bool) (o:Nat):Bm (Fa f) o=true↔o < 256/\f o=true:=(Q0 f 256 (by omega)).mem o
theorem Ni:∀ {l:List Ao} {e:Int},Bb e l=true->-2<=e->e<=255->e+2*(l.length:Int)<=255
 | [],e,_,_,_=>by simp;omega
 | s :: l,e,h,he,_=>by
  obtain ⟨h1,h2⟩:=Be.1 h
  have:=Ni h2 (by omega) (by omega)
  simp only [List.length_cons,Int.natCast_add,Int.natCast_one]
  omega
theorem E9 (l:List Ao):Br l=true↔l.length<=128/\l=Fa (fun o=>Bm l (o:Int)):=by
 constructor
 ·intro h
  refine ⟨by have:=Ni (e:=-2) h (by omega) (by omega);omega,Nh (e:=-2) h (C5 _) fun o=>?_⟩
  constructor
  ·intro g
   have b:=C7 (e:=-2) h g
   obtain ⟨n,rfl⟩ : ∃ n:Nat,o=n:=⟨o.toNat,by omega⟩
   exact (M4 _ n).2 ⟨by omega,g⟩
  ·intro g
   have b:=C7 (e:=-2) (C5 _) g
   obtain ⟨n,rfl⟩ : ∃ n:Nat,o=n:=⟨o.toNat,by omega⟩
   exact ((M4 _ n).1 g).2
 ·rintro ⟨_,h⟩
  rw [h]
  exact C5 _
theorem Hj:∀ {l:List Ao} {e e':Int},e'<=e->Bb e l=true->Bb e' l=true
 | [],_,_,_,_=>rfl
 | s :: l,e,e',h,hf=>by
  obtain ⟨h1,h2⟩:=Be.1 hf
  exact Be.2 ⟨⟨by omega,h1.2⟩,h2⟩
def En (l:List Ao):List Ao:=Fa fun o=>Bm l o
theorem Y3 {f g:Nat->Bool} (h:∀ o,o < 256->f o=g o):Fa f=Fa g:=by
 refine Nh (e:=-2) (C5 f) (C5 g) fun o=>?_
 have key:∀ {f g:Nat->Bool},(∀ o,o < 256->f o=g o)->Bm (Fa f) o=true->Bm (Fa g) o=true:=by
  intro f g h hm
  have b:=C7 (e:=-2) (C5 f) hm
  obtain ⟨n,rfl⟩ : ∃ n:Nat,o=n:=⟨o.toNat,by omega⟩
  obtain ⟨h1,h2⟩:=(M4 f n).1 hm
  exact (M4 g n).2 ⟨h1,by rw [<-h n h1];exact h2⟩
 exact ⟨key h,key fun o ho=>(h o ho).symm⟩
theorem Hf (f:Nat->Bool) {o:Nat} (ho:o < 256):Bm (Fa f) o=f o:=by
 rw [Bool.eq_iff_iff,M4]
 exact ⟨fun h=>h.2,fun h=>⟨ho,h⟩⟩
theorem Q7 {l:List Ao} {f:Nat->Bool} (hf:Br l=true) (h:∀ o:Nat,o < 256->Bm l o=f o):l=Fa f:=by
 rw [((E9 l).1 hf).2]
 exact Y3 h
theorem Gt (f:Nat->Bool):(Fa f).length<=128:=((E9 _).1 (C5 f)).1
def Rm (s:Ao):List Ao:=if max s.lo 0<=min s.hi 255 then [⟨max s.lo 0,min s.hi 255⟩] else []
def Rn (l:List Ao):List Ao:=l.flatMap Rm
theorem Br9 (l:List Ao) (s:Ao):Rn (l++[s])=Rn l++Rm s:=by simp [Rn]
theorem Az3 (l:List Ao):(Rn l).length<=l.length:=by
 induction l with
 | nil=>simp [Rn]
 | cons s l ih =>
  have:(Rm s).length<=1:=by unfold Rm;split<;>simp
  simp only [Rn,List.flatMap_cons,List.length_append,List.length_cons] at ih ⊢
  omega
theorem A54 {l:List Ao} {s:Ao} (h:s∈Rn l):0<=s.lo/\s.lo<=s.hi/\s.hi<=255:=by
 obtain ⟨t,_,ht⟩:=List.mem_flatMap.1 h
 unfold Rm at ht
 split at ht
 ·obtain rfl:=List.mem_singleton.1 ht
  simp only
  omega
 ·cases ht
theorem Ml {l:List Ao} {o:Int} : Bm l o=true↔∃ s∈l,s.lo<=o/\o<=s.hi:=by simp [Bm]
theorem C38 (l:List Ao) {o:Int} (h0:0<=o) (h1:o<=255):Bm (Rn l) o=Bm l o:=by
 rw [Bool.eq_iff_iff,Ml,Ml]
 constructor
 ·rintro ⟨s,hs,a,b⟩
  obtain ⟨t,ht,ht2⟩:=List.mem_flatMap.1 hs
  unfold Rm at ht2
  split at ht2
  ·obtain rfl:=List.mem_singleton.1 ht2
   exact ⟨t,ht,by simp only at a;omega,by simp only at b;omega⟩
  ·cases ht2
 ·rintro ⟨s,hs,a,b⟩
  refine ⟨⟨max s.lo 0,min s.hi 255⟩,List.mem_flatMap.2 ⟨s,hs,?_⟩,by simp only;omega,by simp only;omega⟩
  unfold Rm
  rw [if_pos (by omega)]
  exact List.mem_singleton.2 rfl
def M5 (out:List Ao) (s:Ao):List Ao :=
 match out.getLast? with
 | some t=>if s.lo<=t.hi+1 then out.dropLast++[⟨t.lo,max t.hi s.hi⟩] else out++[s]
 | none=>out++[s]
def Kh (l:List Ao):List Ao:=l.foldl M5 []
theorem Y4 (l:List Ao) (s:Ao):Kh (l++[s])=M5 (Kh l) s:=by simp [Kh]
theorem Sb {α:Type} {l:List α} {t:α} (h:l.getLast? = some t):l.dropLast++[t]=l:=by
 cases l with
 | nil=>simp at h
 | cons x l =>
  have h2:=List.dropLast_concat_getLast (l:=x :: l) (by simp)
  rw [List.getLast?_eq_some_getLast (by simp)] at h
  injection h with h
  rw [<-h]
  exact h2
structure C58 (pre out:List Ao):Prop where
 formed:Bb (-2) out=true
 mem:∀ o:Int,Bm out o=Bm pre o
 low:∀ out' t,out=out'++[t]->∃ s∈pre,t.lo=s.lo
theorem X2:∀ (n:Nat) (l:List Ao),n<=l.length->(∀ s∈l,0<=s.lo/\s.lo<=s.hi/\s.hi<=255)->l.Pairwise (fun a b=>a.lo<=b.lo)->C58 (l.take n) (Kh (l.take n))
 | 0,l,_,_,_=>⟨rfl,fun _=>by simp [Kh],fun out' t h=>by simp [Kh] at h⟩
 | n+1,l,hn,hr,hs=>by
  have ih:=X2 n l (by omega) hr hs
  obtain ⟨s,hx⟩ : ∃ s,l[n]? = some s:=⟨l[n],List.getElem?_eq_getElem (by omega)⟩
  have ht:l.take (n+1)=l.take n++[s]:=by rw [List.take_add_one,hx];rfl
  have hle:∀ x∈l.take n,x.lo<=s.lo:=by
   intro x hxm
   obtain ⟨j,hj⟩:=List.mem_iff_getElem?.1 hxm
   rw [List.getElem?_take] at hj
   split at hj
   ·have hjl:=(List.getElem?_eq_some_iff.1 hj)
    have hnl:=(List.getElem?_eq_some_iff.1 hx)
    have:=List.pairwise_iff_getElem.1 hs j n hjl.1 hnl.1 (by omega)
    rw [hjl.2,hnl.2] at this
    exact this
   ·cases hj
  have hsr:=hr s (List.mem_of_getElem? hx)
  rw [ht,Y4]
  generalize l.take n=pre at ih hle
  generalize Kh pre=out at ih
  obtain ⟨i1,i2,i3⟩:=ih
  unfold M5
  cases hg:out.getLast? with
  | none =>
   have hnil:out=[]:=by simpa using hg
   subst hnil
   refine ⟨?_,fun o=>?_,fun out' t h=>?_⟩
   ·simp only [List.nil_append,Bb,Bool.and_true,decide_eq_true_eq];omega
   ·have:=i2 o
    simp only [List.nil_append,D7,<-this]
    simp [Bm]
   ·have:t=s:=by
     rw [List.nil_append] at h
     have:=congrArg List.getLast? h
     simpa using this.symm
    subst this
    exact ⟨t,by simp,rfl⟩
  | some t =>
   have hout:out=out.dropLast++[t]:=(Sb hg).symm
   generalize out.dropLast=od at hout
   subst hout
   simp only
   obtain ⟨u,hu,hul⟩:=i3 od t rfl
   have hts:=hle u hu
   obtain ⟨b1,b2,b3,b4,b5⟩:=Gc.1 i1
   have hmt:∀ o:Int,Bm (od++[t]) o=(Bm od o || (decide (t.lo<=o)&&decide (o<=t.hi))):=fun o=>by rw [D7];simp [Bm]
   have hms:∀ o:Int,Bm (pre++[s]) o=(Bm od o || (decide (t.lo<=o)&&decide (o<=t.hi)) || (decide (s.lo<=o)&&decide (o<=s.hi))):=fun o=>by rw [D7,<-i2 o,hmt];simp [Bm]
   split
   ·rename_i hc
    refine ⟨Gc.2 ⟨b1,b2,by simp only;omega,by simp only;omega,b5⟩,fun o=>?_,fun out' t' h=>?_⟩
    ·rw [hms,D7,Bool.or_assoc]
     congr 1
     simp only [Bm,List.any_cons,List.any_nil,Bool.or_false]
     rw [Bool.eq_iff_iff]
     simp only [Bool.or_eq_true,Bool.and_eq_true,decide_eq_true_eq]
     omega
    ·have:t'=⟨t.lo,max t.hi s.hi⟩:=by
      have:=congrArg List.getLast? h
      simpa using this.symm
     subst this
     exact ⟨u,List.mem_append_left _ hu,hul⟩
   ·rename_i hc
    refine ⟨Gc.2 ⟨i1,by simp only [List.getLast?_append,List.getLast?_singleton,Option.some_or,Option.map_some,Option.getD_some];omega,by omega,by omega,by omega⟩,fun o=>?_,fun out' t' h=>?_⟩
    ·rw [hms,D7,hmt]
     simp [Bm]
    ·have:t'=s:=by
      have:=congrArg List.getLast? h
      simpa using this.symm
     subst this
     exact ⟨t',List.mem_append_right _ (by simp),rfl⟩
theorem B93 {l d:List Ao} (hp:d.Perm (Rn l)) (hs:d.Pairwise fun a b=>a.lo<=b.lo):Kh d=En l:=by
 have h:=X2 d.length d (Nat.le_refl _) (fun s hs=>A54 (hp.mem_iff.1 hs)) hs
 rw [List.take_length] at h
 refine Q7 h.formed fun o ho=>?_
 rw [h.mem,<-C38 l (by omega) (by omega),Bool.eq_iff_iff,Ml,Ml]
 exact ⟨fun ⟨s,h1,h2⟩=>⟨s,hp.mem_iff.1 h1,h2⟩,fun ⟨s,h1,h2⟩=>⟨s,hp.mem_iff.2 h1,h2⟩⟩
def D2:List Ao->List Ao->List Ao
 | [],_=>[]
 | _ :: _,[]=>[]
 | s :: x,t :: y=>(if max s.lo t.lo<=min s.hi t.hi then [⟨max s.lo t.lo,min s.hi t.hi⟩] else [])++(if s.hi < t.hi then D2 x (t :: y) else D2 (s :: x) y)
termination_by x y=>x.length+y.length
theorem Bp1 (x:List Ao):D2 x []=[]:=by cases x<;>simp [D2]
theorem Kk (x y:List Ao) (e1 e2:Int) (h1:Bb e1 x=true) (h2:Bb e2 y=true):Bb (max e1 e2) (D2 x y)=true:=by
 match x,y with
 | [],y=>simp [D2,Bb]
 | s :: x,[]=>simp [D2,Bb]
 | s :: x,t :: y =>
  obtain ⟨a1,a2⟩:=Be.1 h1
  obtain ⟨c1,c2⟩:=Be.1 h2
  rw [D2]
  have hr:Bb (min s.hi t.hi) (if s.hi < t.hi then D2 x (t :: y) else D2 (s :: x) y)=true:=by
   split
   ·exact Hj (by omega) (Kk x (t :: y) s.hi e2 a2 h2)
   ·exact Hj (by omega) (Kk (s :: x) y e1 t.hi h1 c2)
  have hr2:Bb (max e1 e2) (if s.hi < t.hi then D2 x (t :: y) else D2 (s :: x) y)=true:=by
   split
   ·exact Hj (by omega) (Kk x (t :: y) s.hi e2 a2 h2)
   ·exact Hj (by omega) (Kk (s :: x) y e1 t.hi h1 c2)
  split
  ·rw [List.singleton_append]
   exact Be.2 ⟨by simp only;omega,hr⟩
  ·exact hr2
termination_by x.length+y.length
theorem X3 (x y:List Ao) (e1 e2:Int) (h1:Bb e1 x=true) (h2:Bb e2 y=true) (o:Int):Bm (D2 x y) o=(Bm x o&&Bm y o):=by
 match x,y with
 | [],y=>simp [D2,Bm]
 | s :: x,[]=>simp [D2,Bm]
 | s :: x,t :: y =>
  obtain ⟨a1,a2⟩:=Be.1 h1
  obtain ⟨c1,c2⟩:=Be.1 h2
  rw [D2,D7]
  have hx:Bm x o=true->s.hi+1 < o:=fun h=>(C7 a2 h).1
  have hy:Bm y o=true->t.hi+1 < o:=fun h=>(C7 c2 h).1
  have e0:Bm (if max s.lo t.lo<=min s.hi t.hi then [(⟨max s.lo t.lo,min s.hi t.hi⟩ : Ao)] else []) o=(decide (s.lo<=o/\o<=s.hi)&&decide (t.lo<=o/\o<=t.hi)):=by
   rw [Bool.eq_iff_iff]
   split
   ·simp only [Bm,List.any_cons,List.any_nil,Bool.or_false,Bool.and_eq_true,decide_eq_true_eq];omega
   ·simp only [Bm,List.any_nil,Bool.false_eq_true,Bool.and_eq_true,decide_eq_true_eq,false_iff];omega
  have es:Bm (s :: x) o=(decide (s.lo<=o/\o<=s.hi) || Bm x o):=by simp [Bm]
  have et:Bm (t :: y) o=(decide (t.lo<=o/\o<=t.hi) || Bm y o):=by simp [Bm]
  rw [e0,Bool.eq_iff_iff]
  split
  ·rw [X3 x (t :: y) s.hi e2 a2 h2 o,es,et]
   simp only [Bool.or_eq_true,Bool.and_eq_true,decide_eq_true_eq]
   constructor
   ·rintro (⟨p,q⟩ | ⟨p,q⟩)
    ·exact ⟨.inl p,.inl q⟩
    ·exact ⟨.inr p,q⟩
   ·rintro ⟨p | p,q | q⟩
    ·exact .inl ⟨p,q⟩
    ·have:=hy q;omega
    ·exact .inr ⟨p,.inl q⟩
    ·exact .inr ⟨p,.inr q⟩
  ·rw [X3 (s :: x) y e1 t.hi h1 c2 o,es,et]
   simp only [Bool.or_eq_true,Bool.and_eq_true,decide_eq_true_eq]
   constructor
   ·rintro (⟨p,q⟩ | ⟨p,q⟩)
    ·exact ⟨.inl p,.inl q⟩
    ·exact ⟨p,.inr q⟩
   ·rintro ⟨p | p,q | q⟩
    ·exact .inl ⟨p,q⟩
    ·exact .inr ⟨.inl p,q⟩
    ·have:=hx p;omega
    ·exact .inr ⟨.inr p,q⟩
termination_by x.length+y.length
theorem B94 (a b:List Ao):D2 (En a) (En b)=Fa fun o=>Bm a o&&Bm b o:=by
 refine Q7 (Kk _ _ (-2) (-2) (C5 _) (C5 _)) fun o ho=>?_
 rw [X3 (En a) (En b) (-2) (-2) (C5 _) (C5 _),En,En,Hf _ ho,Hf _ ho]
def Qv:Int->List Ao->List Ao
 | n,[]=>if n<=255 then [⟨n,255⟩] else []
 | n,s :: l=>(if n < s.lo then [⟨n,s.lo - 1⟩] else [])++Qv (s.hi+1) l
theorem V1:∀ (l:List Ao) (n e:Int),0<=n->n<=e+2->Bb e l=true->Bb (n - 2) (Qv n l)=true
 | [],n,e,h0,_,_=>by
  unfold Qv
  split
  ·exact Be.2 ⟨by simp only;omega,rfl⟩
  ·rfl
 | s :: l,n,e,h0,h1,h=>by
  obtain ⟨a1,a2⟩:=Be.1 h
  have ih:=V1 l (s.hi+1) s.hi (by omega) (by omega) a2
  unfold Qv
  split
  ·rw [List.singleton_append]
   exact Be.2 ⟨by simp only;omega,Hj (by simp only;omega) ih⟩
  ·exact Hj (by omega) ih
theorem Aa7:∀ (l:List Ao) (n e:Int),n<=e+2->Bb e l=true->∀ o:Int,Bm (Qv n l) o=(decide (n<=o/\o<=255)&&!Bm l o)
 | [],n,e,h1,_,o=>by
  unfold Qv
  rw [Bool.eq_iff_iff]
  split
  ·simp [Bm]
  ·simp only [Bm,List.any_nil,Bool.false_eq_true,Bool.not_false,Bool.and_true,decide_eq_true_eq,false_iff];omega
 | s :: l,n,e,h1,h,o=>by
  obtain ⟨a1,a2⟩:=Be.1 h
  have ih:=Aa7 l (s.hi+1) s.hi (by omega) a2 o
  have hb:Bm l o=true->s.hi+1 < o:=fun h=>(C7 a2 h).1
  have es:Bm (s :: l) o=(decide (s.lo<=o/\o<=s.hi) || Bm l o):=by simp [Bm]
  have e0:Bm (if n < s.lo then [(⟨n,s.lo - 1⟩ : Ao)] else []) o=decide (n<=o/\o < s.lo):=by
   rw [Bool.eq_iff_iff]
   split
   ·simp only [Bm,List.any_cons,List.any_nil,Bool.or_false,Bool.and_eq_true,decide_eq_true_eq];omega
   ·simp only [Bm,List.any_nil,Bool.false_eq_true,decide_eq_true_eq,false_iff];omega
  rw [Qv,D7,ih,es,e0]
  cases hm:Bm l o with
  | true =>
   have:=hb hm
   simp only [Bool.not_true,Bool.and_false,Bool.or_false,Bool.or_true]
   exact decide_eq_false (by omega)
  | false =>
   rw [Bool.eq_iff_iff]
   simp only [Bool.not_false,Bool.and_true,Bool.or_false,Bool.or_eq_true,Bool.and_eq_true,decide_eq_true_eq,Bool.not_eq_true',decide_eq_false_iff_not]
   omega
theorem B66 (a:List Ao):Qv 0 (En a)=Fa fun o=>!Bm a o:=by
 refine Q7 (Hj (by omega) (V1 _ 0 (-2) (by omega) (by omega) (C5 _))) fun o ho=>?_
 rw [Aa7 (En a) 0 (-2) (by omega) (C5 _),En,Hf _ ho,decide_eq_true (by omega),Bool.true_and]
def Nn (os:List Int):List Ao:=os.map fun o=>⟨o,o⟩
end Go.Proofs.YtblfjaedaijfoaaGreatDoor
