/- Plain laws on sets of objects as spans: the tidy list of a set is one. No program is known here. -/
import Derived.IntWalk
set_option linter.all false
set_option linter.unnecessarySimpa false
set_option linter.unusedSimpArgs false
set_option linter.unusedVariables false
namespace Go.Proofs.YtahgkllhbggmgaaGreatDoor
structure Ah where
 lo:Int
 hi:Int
 deriving DecidableEq
def Ba (l:List Ah) (o:Int):Bool:=l.any fun s=>decide (s.lo<=o)&&decide (o<=s.hi)
def Bg:Int->List Ah->Bool
 | _,[]=>true
 | e,s :: l=>decide (e+1 < s.lo/\s.lo<=s.hi/\s.hi<=255/\0<=s.lo)&&Bg s.hi l
def C1 (l:List Ah):Bool:=Bg (-2) l
def Xq (f:Nat->Bool) (acc:List Ah) (o:Nat):List Ah :=
 if f o then
  if 0 < o/\f (o - 1)=true then acc.dropLast++[⟨(acc.getLast?.getD ⟨0,0⟩).lo,o⟩] else acc++[⟨o,o⟩]
 else acc
def Fd (f:Nat->Bool):Nat->List Ah
 | 0=>[]
 | k+1=>Xq f (Fd f k) k
def Gb (f:Nat->Bool):List Ah:=Fd f 256
theorem Bb {e:Int} {s:Ah} {l:List Ah} : Bg e (s :: l)=true↔(e+1 < s.lo/\s.lo<=s.hi/\s.hi<=255/\0<=s.lo)/\Bg s.hi l=true:=by
 simp [Bg]
theorem Dh {s:Ah} {l:List Ah} {o:Int} : Ba (s :: l) o=true↔(s.lo<=o/\o<=s.hi)\/Ba l o=true:=by
 simp [Ba]
theorem Cu:∀ {l:List Ah} {e o:Int},Bg e l=true->Ba l o=true->e+1 < o/\0<=o/\o<=255
 | [],_,_,_,h=>by simp [Ba] at h
 | s :: l,e,o,hf,hm=>by
  obtain ⟨h1,h2⟩:=Bb.1 hf
  rcases Dh.1 hm with h | h
  ·omega
  ·have:=Cu h2 h
   omega
theorem Lv:∀ {l l':List Ah} {e:Int},Bg e l=true->Bg e l'=true->(∀ o:Int,Ba l o=true↔Ba l' o=true)->l=l'
 | [],[],_,_,_,_=>rfl
 | [],s :: l',_,_,h',h=>by
  obtain ⟨h1,_⟩:=Bb.1 h'
  have:=(h s.lo).2 (Dh.2 (Or.inl ⟨by omega,by omega⟩))
  simp [Ba] at this
 | s :: l,[],_,h',_,h=>by
  obtain ⟨h1,_⟩:=Bb.1 h'
  have:=(h s.lo).1 (Dh.2 (Or.inl ⟨by omega,by omega⟩))
  simp [Ba] at this
 | s :: l,s' :: l',e,hf,hf',h=>by
  obtain ⟨h1,h2⟩:=Bb.1 hf
  obtain ⟨h1',h2'⟩:=Bb.1 hf'
  have key:∀ o:Int,Ba (s :: l) o=true->s'.lo<=o:=fun o ho=>by
   rcases Dh.1 ((h o).1 ho) with g | g
   ·omega
   ·have:=Cu h2' g;omega
  have key':∀ o:Int,Ba (s' :: l') o=true->s.lo<=o:=fun o ho=>by
   rcases Dh.1 ((h o).2 ho) with g | g
   ·omega
   ·have:=Cu h2 g;omega
  have a1:=key s.lo (Dh.2 (Or.inl ⟨by omega,by omega⟩))
  have a2:=key' s'.lo (Dh.2 (Or.inl ⟨by omega,by omega⟩))
  have hlo:s.lo=s'.lo:=by omega
  have hhi:s.hi=s'.hi:=by
   rcases Int.lt_trichotomy s.hi s'.hi with c | c | c
   ·exfalso
    rcases Dh.1 ((h (s.hi+1)).2 (Dh.2 (Or.inl ⟨by omega,by omega⟩))) with g | g
    ·omega
    ·have:=Cu h2 g;omega
   ·exact c
   ·exfalso
    rcases Dh.1 ((h (s'.hi+1)).1 (Dh.2 (Or.inl ⟨by omega,by omega⟩))) with g | g
    ·omega
    ·have:=Cu h2' g;omega
  obtain ⟨lo,hi⟩:=s
  obtain ⟨lo',hi'⟩:=s'
  simp only at hlo hhi h2 h2' h1 h1'
  subst hlo hhi
  have hr:l=l':=Lv h2 h2' fun o=>by
   constructor
   ·intro g
    have b:=Cu h2 g
    rcases Dh.1 ((h o).1 (Dh.2 (Or.inr g))) with q | q
    ·simp only at q;omega
    ·exact q
   ·intro g
    have b:=Cu h2' g
    rcases Dh.1 ((h o).2 (Dh.2 (Or.inr g))) with q | q
    ·simp only at q;omega
    ·exact q
  rw [hr]
theorem Fa:∀ {l:List Ah} {e:Int} {s:Ah},Bg e (l++[s])=true↔Bg e l=true/\(l.getLast?.map (·.hi)).getD e+1 < s.lo/\s.lo<=s.hi/\s.hi<=255/\0<=s.lo
 | [],e,s=>by simp [Bg]
 | [x],e,s=>by simp [Bg]
 | x :: y :: l,e,s=>by
  have ih:=Fa (l:=y :: l) (e:=x.hi) (s:=s)
  rw [List.cons_append,Bb,ih,Bb (e:=e) (s:=x) (l:=y :: l)]
  have:((x :: y :: l).getLast?.map (·.hi)).getD e=((y :: l).getLast?.map (·.hi)).getD x.hi:=by
   rw [List.getLast?_cons_cons]
   simp [List.getLast?_cons]
  rw [this]
  exact and_assoc.symm
theorem Db {l m:List Ah} {o:Int} : Ba (l++m) o=(Ba l o || Ba m o):=by simp [Ba]
structure C54 (f:Nat->Bool) (k:Nat) (l:List Ah):Prop where
 formed:Bg (-2) l=true
 mem:∀ o:Nat,Ba l o=true↔o < k/\f o=true
 low:∀ o:Int,Ba l o=true->0<=o
 ends : (0 < k /\ f (k - 1) = true /\ ∃ l' s, l = l' ++ [s] /\ s.hi = (k : Int) - 1) \/ ((k = 0 \/ f (k - 1) = false) /\ (l.getLast?.map (·.hi)).getD (-2) + 1 < (k : Int))
theorem Mz (f:Nat->Bool):∀ k,k<=256->C54 f k (Fd f k)
 | 0,_=>⟨rfl,fun o=>by simp [Fd,Ba],fun o h=>by simp [Fd,Ba] at h,Or.inr ⟨Or.inl rfl,by simp [Fd]⟩⟩
 | k+1,hk=>by
  have ih:=Mz f k (by omega)
  show C54 f (k+1) (Xq f (Fd f k) k)
  generalize Fd f k=l at ih
  obtain ⟨h1,h2,h3,h4⟩:=ih
  unfold Xq
  cases hf:f k with
  | false =>
   simp only [Bool.false_eq_true,if_false]
   refine ⟨h1,fun o=>?_,h3,Or.inr ⟨Or.inr hf,?_⟩⟩
   ·rw [h2]
    constructor
    ·rintro ⟨a,b⟩;exact ⟨by omega,b⟩
    ·rintro ⟨a,b⟩
     refine ⟨?_,b⟩
     rcases Nat.lt_or_ge o k with c | c
     ·exact c
     ·obtain rfl:o=k:=by omega
      rw [hf] at b;cases b
   ·rcases h4 with ⟨a1,a2,l',s,rfl,a3⟩ | ⟨_,a2⟩
    ·simp only [List.getLast?_append,List.getLast?_singleton,Option.some_or,Option.map_some,Option.getD_some]
     omega
    ·omega
  | true =>
   simp only [if_true]
   rcases h4 with ⟨a1,a2,l',s,rfl,a3⟩ | ⟨a1,a2⟩
   ·rw [if_pos ⟨a1,a2⟩]
    simp only [List.dropLast_concat,List.getLast?_append,List.getLast?_singleton,Option.some_or,Option.getD_some]
    obtain ⟨b1,b2,b3,b4,b5⟩:=Fa.1 h1
    refine ⟨Fa.2 ⟨b1,b2,by simp only;omega,by simp only;omega,b5⟩,fun o=>?_,fun o ho=>?_,Or.inl ⟨by omega,hf,l',_,rfl,by simp only;omega⟩⟩
    ·have g:=h2 o
     rw [Db] at g ⊢
     simp only [Ba,List.any_cons,List.any_nil,Bool.or_false,Bool.or_eq_true,Bool.and_eq_true,decide_eq_true_eq] at g ⊢
     constructor
     ·rintro (q | ⟨q1,q2⟩)
      ·have:=g.1 (Or.inl q)
       exact ⟨by omega,this.2⟩
      ·rcases Nat.lt_or_ge o k with c | c
       ·have:=g.1 (Or.inr ⟨q1,by omega⟩)
        exact ⟨by omega,this.2⟩
       ·obtain rfl:o=k:=by omega
        exact ⟨by omega,hf⟩
     ·rintro ⟨q1,q2⟩
      rcases Nat.lt_or_ge o k with c | c
      ·rcases g.2 ⟨c,q2⟩ with q | ⟨q3,q4⟩
       ·exact Or.inl q
       ·exact Or.inr ⟨q3,by omega⟩
      ·exact Or.inr ⟨by omega,by omega⟩
    ·rw [Db] at ho
     simp only [Ba,List.any_cons,List.any_nil,Bool.or_false,Bool.or_eq_true,Bool.and_eq_true,decide_eq_true_eq] at ho
     rcases ho with q | ⟨q1,q2⟩
     ·exact h3 o (by rw [Db];simp only [Ba] at q ⊢;rw [q];rfl)
     ·omega
   ·have hn:¬ (0 < k/\f (k - 1)=true):=by
     rintro ⟨c1,c2⟩
     rcases a1 with a1 | a1
     ·omega
     ·rw [a1] at c2;cases c2
    rw [if_neg hn]
    refine ⟨Fa.2 ⟨h1,by simp only;omega,by simp,by simp only;omega,by simp only;omega⟩,fun o=>?_,fun o ho=>?_,Or.inl ⟨by omega,hf,l,_,rfl,by simp only;omega⟩⟩
    ·rw [Db]
     have g:=h2 o
     simp only [Ba,List.any_cons,List.any_nil,Bool.or_false,Bool.or_eq_true,Bool.and_eq_true,decide_eq_true_eq] at g ⊢
     constructor
     ·rintro (q | ⟨q1,q2⟩)
      ·have:=g.1 q
       exact ⟨by omega,this.2⟩
      ·obtain rfl:o=k:=by omega
       exact ⟨by omega,hf⟩
     ·rintro ⟨q1,q2⟩
      rcases Nat.lt_or_ge o k with c | c
      ·exact Or.inl (g.2 ⟨c,q2⟩)
      ·exact Or.inr ⟨by omega,by omega⟩
    ·rw [Db] at ho
     simp only [Ba,List.any_cons,List.any_nil,Bool.or_false,Bool.or_eq_true,Bool.and_eq_true,decide_eq_true_eq] at ho
     rcases ho with q | ⟨q1,q2⟩
     ·exact h3 o q
     ·omega
theorem Ck (f:Nat->Bool):C1 (Gb f)=true:=(Mz f 256 (by omega)).formed
theorem Mg (f:Nat->Bool) (o:Nat):Ba (Gb f) o=true↔o < 256/\f o=true:=(Mz f 256 (by omega)).mem o
theorem Lw:∀ {l:List Ah} {e:Int},Bg e l=true->-2<=e->e<=255->e+2*(l.length:Int)<=255
 | [],e,_,_,_=>by simp;omega
 | s :: l,e,h,he,_=>by
  obtain ⟨h1,h2⟩:=Bb.1 h
  have:=Lw h2 (by omega) (by omega)
  simp only [List.length_cons,Int.natCast_add,Int.natCast_one]
  omega
theorem G0 (l:List Ah):C1 l=true↔l.length<=128/\l=Gb (fun o=>Ba l (o:Int)):=by
 constructor
 ·intro h
  refine ⟨by have:=Lw (e:=-2) h (by omega) (by omega);omega,Lv (e:=-2) h (Ck _) fun o=>?_⟩
  constructor
  ·intro g
   have b:=Cu (e:=-2) h g
   obtain ⟨n,rfl⟩ : ∃ n:Nat,o=n:=⟨o.toNat,by omega⟩
   exact (Mg _ n).2 ⟨by omega,g⟩
  ·intro g
   have b:=Cu (e:=-2) (Ck _) g
   obtain ⟨n,rfl⟩ : ∃ n:Nat,o=n:=⟨o.toNat,by omega⟩
   exact ((Mg _ n).1 g).2
 ·rintro ⟨_,h⟩
  rw [h]
  exact Ck _
end Go.Proofs.YtahgkllhbggmgaaGreatDoor
