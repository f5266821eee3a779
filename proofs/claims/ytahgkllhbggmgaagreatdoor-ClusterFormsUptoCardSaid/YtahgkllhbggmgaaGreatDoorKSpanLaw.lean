/- Plain laws on sets of objects as spans: the tidy list of a set is one. No program is known here. -/
import Derived.IntWalk
set_option linter.all false
set_option linter.unnecessarySimpa false
set_option linter.unusedSimpArgs false
set_option linter.unusedVariables false
namespace Go.Proofs.YtahgkllhbggmgaaGreatDoor
structure Ar where
 lo:Int
 hi:Int
 deriving DecidableEq
def Dj (l:List Ar) (o:Int):Bool:=l.any fun s=>decide (s.lo<=o)&&decide (o<=s.hi)
def C9:Int->List Ar->Bool
 | _,[]=>true
 | e,s :: l=>decide (e+1 < s.lo/\s.lo<=s.hi/\s.hi<=255/\0<=s.lo)&&C9 s.hi l
def C4 (l:List Ar):Bool:=C9 (-2) l
def Vt (f:Nat->Bool) (acc:List Ar) (o:Nat):List Ar :=
 if f o then
  if 0 < o/\f (o - 1)=true then acc.dropLast++[⟨(acc.getLast?.getD ⟨0,0⟩).lo,o⟩] else acc++[⟨o,o⟩]
 else acc
def Ev (f:Nat->Bool):Nat->List Ar
 | 0=>[]
 | k+1=>Vt f (Ev f k) k
def Rh (f:Nat->Bool):List Ar:=Ev f 256
theorem D1 {e:Int} {s:Ar} {l:List Ar} : C9 e (s :: l)=true↔(e+1 < s.lo/\s.lo<=s.hi/\s.hi<=255/\0<=s.lo)/\C9 s.hi l=true:=by
 simp [C9]
theorem D7 {s:Ar} {l:List Ar} {o:Int} : Dj (s :: l) o=true↔(s.lo<=o/\o<=s.hi)\/Dj l o=true:=by
 simp [Dj]
theorem Dc:∀ {l:List Ar} {e o:Int},C9 e l=true->Dj l o=true->e+1 < o/\0<=o/\o<=255
 | [],_,_,_,h=>by simp [Dj] at h
 | s :: l,e,o,hf,hm=>by
  obtain ⟨h1,h2⟩:=D1.1 hf
  rcases D7.1 hm with h | h
  ·omega
  ·have:=Dc h2 h
   omega
theorem Q0:∀ {l l':List Ar} {e:Int},C9 e l=true->C9 e l'=true->(∀ o:Int,Dj l o=true↔Dj l' o=true)->l=l'
 | [],[],_,_,_,_=>rfl
 | [],s :: l',_,_,h',h=>by
  obtain ⟨h1,_⟩:=D1.1 h'
  have:=(h s.lo).2 (D7.2 (Or.inl ⟨by omega,by omega⟩))
  simp [Dj] at this
 | s :: l,[],_,h',_,h=>by
  obtain ⟨h1,_⟩:=D1.1 h'
  have:=(h s.lo).1 (D7.2 (Or.inl ⟨by omega,by omega⟩))
  simp [Dj] at this
 | s :: l,s' :: l',e,hf,hf',h=>by
  obtain ⟨h1,h2⟩:=D1.1 hf
  obtain ⟨h1',h2'⟩:=D1.1 hf'
  have key:∀ o:Int,Dj (s :: l) o=true->s'.lo<=o:=fun o ho=>by
   rcases D7.1 ((h o).1 ho) with g | g
   ·omega
   ·have:=Dc h2' g;omega
  have key':∀ o:Int,Dj (s' :: l') o=true->s.lo<=o:=fun o ho=>by
   rcases D7.1 ((h o).2 ho) with g | g
   ·omega
   ·have:=Dc h2 g;omega
  have a1:=key s.lo (D7.2 (Or.inl ⟨by omega,by omega⟩))
  have a2:=key' s'.lo (D7.2 (Or.inl ⟨by omega,by omega⟩))
  have hlo:s.lo=s'.lo:=by omega
  have hhi:s.hi=s'.hi:=by
   rcases Int.lt_trichotomy s.hi s'.hi with c | c | c
   ·exfalso
    rcases D7.1 ((h (s.hi+1)).2 (D7.2 (Or.inl ⟨by omega,by omega⟩))) with g | g
    ·omega
    ·have:=Dc h2 g;omega
   ·exact c
   ·exfalso
    rcases D7.1 ((h (s'.hi+1)).1 (D7.2 (Or.inl ⟨by omega,by omega⟩))) with g | g
    ·omega
    ·have:=Dc h2' g;omega
  obtain ⟨lo,hi⟩:=s
  obtain ⟨lo',hi'⟩:=s'
  simp only at hlo hhi h2 h2' h1 h1'
  subst hlo hhi
  have hr:l=l':=Q0 h2 h2' fun o=>by
   constructor
   ·intro g
    have b:=Dc h2 g
    rcases D7.1 ((h o).1 (D7.2 (Or.inr g))) with q | q
    ·simp only at q;omega
    ·exact q
   ·intro g
    have b:=Dc h2' g
    rcases D7.1 ((h o).2 (D7.2 (Or.inr g))) with q | q
    ·simp only at q;omega
    ·exact q
  rw [hr]
theorem Kv:∀ {l:List Ar} {e:Int} {s:Ar},C9 e (l++[s])=true↔C9 e l=true/\(l.getLast?.map (·.hi)).getD e+1 < s.lo/\s.lo<=s.hi/\s.hi<=255/\0<=s.lo
 | [],e,s=>by simp [C9]
 | [x],e,s=>by simp [C9]
 | x :: y :: l,e,s=>by
  have ih:=Kv (l:=y :: l) (e:=x.hi) (s:=s)
  rw [List.cons_append,D1,ih,D1 (e:=e) (s:=x) (l:=y :: l)]
  have:((x :: y :: l).getLast?.map (·.hi)).getD e=((y :: l).getLast?.map (·.hi)).getD x.hi:=by
   rw [List.getLast?_cons_cons]
   simp [List.getLast?_cons]
  rw [this]
  exact and_assoc.symm
theorem Gc {l m:List Ar} {o:Int} : Dj (l++m) o=(Dj l o || Dj m o):=by simp [Dj]
structure Br5 (f:Nat->Bool) (k:Nat) (l:List Ar):Prop where
 formed:C9 (-2) l=true
 mem:∀ o:Nat,Dj l o=true↔o < k/\f o=true
 low:∀ o:Int,Dj l o=true->0<=o
 ends : (0 < k /\ f (k - 1) = true /\ ∃ l' s, l = l' ++ [s] /\ s.hi = (k : Int) - 1) \/ ((k = 0 \/ f (k - 1) = false) /\ (l.getLast?.map (·.hi)).getD (-2) + 1 < (k : Int))
theorem M6 (f:Nat->Bool):∀ k,k<=256->Br5 f k (Ev f k)
 | 0,_=>⟨rfl,fun o=>by simp [Ev,Dj],fun o h=>by simp [Ev,Dj] at h,Or.inr ⟨Or.inl rfl,by simp [Ev]⟩⟩
 | k+1,hk=>by
  have ih:=M6 f k (by omega)
  show Br5 f (k+1) (Vt f (Ev f k) k)
  generalize Ev f k=l at ih
  obtain ⟨h1,h2,h3,h4⟩:=ih
  unfold Vt
  cases hf:f k with
  | false =>
   simp only [Bool.false_eq_true,if_false]
   refine ⟨h1,fun o=>?_,h3,Or.inr ⟨Or.inr hf,?_⟩⟩
   ·rw [h2]
    constructor
    ·rintro ⟨a,b⟩;exact ⟨by omega,b⟩
    ·rintro ⟨a,b⟩
     refine ⟨?_,b⟩
     rcases Nat.lt_or_ge o k with c | c
     ·exact c
     ·obtain rfl:o=k:=by omega
      rw [hf] at b;cases b
   ·rcases h4 with ⟨a1,a2,l',s,rfl,a3⟩ | ⟨_,a2⟩
    ·simp only [List.getLast?_append,List.getLast?_singleton,Option.some_or,Option.map_some,Option.getD_some]
     omega
    ·omega
  | true =>
   simp only [if_true]
   rcases h4 with ⟨a1,a2,l',s,rfl,a3⟩ | ⟨a1,a2⟩
   ·rw [if_pos ⟨a1,a2⟩]
    simp only [List.dropLast_concat,List.getLast?_append,List.getLast?_singleton,Option.some_or,Option.getD_some]
    obtain ⟨b1,b2,b3,b4,b5⟩:=Kv.1 h1
    refine ⟨Kv.2 ⟨b1,b2,by simp only;omega,by simp only;omega,b5⟩,fun o=>?_,fun o ho=>?_,Or.inl ⟨by omega,hf,l',_,rfl,by simp only;omega⟩⟩
    ·have g:=h2 o
     rw [Gc] at g ⊢
     simp only [Dj,List.any_cons,List.any_nil,Bool.or_false,Bool.or_eq_true,Bool.and_eq_true,decide_eq_true_eq] at g ⊢
     constructor
     ·rintro (q | ⟨q1,q2⟩)
      ·have:=g.1 (Or.inl q)
       exact ⟨by omega,this.2⟩
      ·rcases Nat.lt_or_ge o k with c | c
       ·have:=g.1 (Or.inr ⟨q1,by omega⟩)
        exact ⟨by omega,this.2⟩
       ·obtain rfl:o=k:=by omega
        exact ⟨by omega,hf⟩
     ·rintro ⟨q1,q2⟩
      rcases Nat.lt_or_ge o k with c | c
      ·rcases g.2 ⟨c,q2⟩ with q | ⟨q3,q4⟩
       ·exact Or.inl q
       ·exact Or.inr ⟨q3,by omega⟩
      ·exact Or.inr ⟨by omega,by omega⟩
    ·rw [Gc] at ho
     simp only [Dj,List.any_cons,List.any_nil,Bool.or_false,Bool.or_eq_true,Bool.and_eq_true,decide_eq_true_eq] at ho
     rcases ho with q | ⟨q1,q2⟩
     ·exact h3 o (by rw [Gc];simp only [Dj] at q ⊢;rw [q];rfl)
     ·omega
   ·have hn:¬ (0 < k/\f (k - 1)=true):=by
     rintro ⟨c1,c2⟩
     rcases a1 with a1 | a1
     ·omega
     ·rw [a1] at c2;cases c2
    rw [if_neg hn]
    refine ⟨Kv.2 ⟨h1,by simp only;omega,by simp,by simp only;omega,by simp only;omega⟩,fun o=>?_,fun o ho=>?_,Or.inl ⟨by omega,hf,l,_,rfl,by simp only;omega⟩⟩
    ·rw [Gc]
     have g:=h2 o
     simp only [Dj,List.any_cons,List.any_nil,Bool.or_false,Bool.or_eq_true,Bool.and_eq_true,decide_eq_true_eq] at g ⊢
     constructor
     ·rintro (q | ⟨q1,q2⟩)
      ·have:=g.1 q
       exact ⟨by omega,this.2⟩
      ·obtain rfl:o=k:=by omega
       exact ⟨by omega,hf⟩
     ·rintro ⟨q1,q2⟩
      rcases Nat.lt_or_ge o k with c | c
      ·exact Or.inl (g.2 ⟨c,q2⟩)
      ·exact Or.inr ⟨by omega,by omega⟩
    ·rw [Gc] at ho
     simp only [Dj,List.any_cons,List.any_nil,Bool.or_false,Bool.or_eq_true,Bool.and_eq_true,decide_eq_true_eq] at ho
     rcases ho with q | ⟨q1,q2⟩
     ·exact h3 o q
     ·omega
theorem M7 (f:Nat->Bool):C4 (Rh f)=true:=(M6 f 256 (by omega)).formed
theorem Yj (f:Nat->Bool) (o:Nat):Dj (Rh f) o=true↔o < 256/\f o=true:=(M6 f 256 (by omega)).mem o
theorem L7:∀ {l:List Ar} {e:Int},C9 e l=true->-2<=e->e<=255->e+2*(l.length:Int)<=255
 | [],e,_,_,_=>by simp;omega
 | s :: l,e,h,he,_=>by
  obtain ⟨h1,h2⟩:=D1.1 h
  have:=L7 h2 (by omega) (by omega)
  simp only [List.length_cons,Int.natCast_add,Int.natCast_one]
  omega
theorem My (l:List Ar):C4 l=true↔l.length<=128/\l=Rh (fun o=>Dj l (o:Int)):=by
 constructor
 ·intro h
  refine ⟨by have:=L7 (e:=-2) h (by omega) (by omega);omega,Q0 (e:=-2) h (M7 _) fun o=>?_⟩
  constructor
  ·intro g
   have b:=Dc (e:=-2) h g
   obtain ⟨n,rfl⟩ : ∃ n:Nat,o=n:=⟨o.toNat,by omega⟩
   exact (Yj _ n).2 ⟨by omega,g⟩
  ·intro g
   have b:=Dc (e:=-2) (M7 _) g
   obtain ⟨n,rfl⟩ : ∃ n:Nat,o=n:=⟨o.toNat,by omega⟩
   exact ((Yj _ n).1 g).2
 ·rintro ⟨_,h⟩
  rw [h]
  exact M7 _
end Go.Proofs.YtahgkllhbggmgaaGreatDoor
