/- Plain laws on vectors as counts: the list of counts, and what is joined. -/
import Derived.Test.YthlgnjlpakimaaaGreatDoorUTzLaid
set_option linter.all false
set_option linter.unnecessarySimpa false
set_option linter.unusedSimpArgs false
set_option linter.unusedVariables false
namespace Go.Proofs.YthlgnjlpakimaaaGreatDoor
open Go.ChangeShapes Go.WideShapes Go.ChangeAt Go.RowKit
theorem G9 (l:List Ab) (n:Int):0<=A9 l n:=by
 by_cases h:A9 l n=0
 ·omega
 ·have:=W5 h;omega
def D3 (c:Nat->Int):Nat->List Ab
 | 0=>[]
 | k+1=>if 0 < c k then D3 c k++[⟨c k,k⟩] else D3 c k
def Hh (c:Nat->Int):List Ab:=D3 c 64
theorem Vb (c:Nat->Int):∀ k,(D3 c k).length<=k
 | 0=>by simp [D3]
 | k+1=>by
  have:=Vb c k
  unfold D3
  split
  ·simp;omega
  ·omega
theorem R6 {c d:Nat->Int} : ∀ {k:Nat},(∀ n,n < k->c n=d n)->D3 c k=D3 d k
 | 0,_=>rfl
 | k+1,h=>by rw [D3,D3,R6 (k:=k) (fun n hn=>h n (by omega)),h k (by omega)]
theorem Ac1 {c d:Nat->Int} (h:∀ n,n < 64->c n=d n):Hh c=Hh d:=R6 h
theorem Yt (l m:List Ab) (n:Int):A9 (l++m) n=if A9 l n=0 then A9 m n else A9 l n:=by
 induction l with
 | nil=>simp [A9]
 | cons s l ih =>
  rw [List.cons_append,A9,A9,ih]
  by_cases hs:s.node=n/\Bm s.count s.node=true
  ·rw [if_pos hs,if_pos hs,if_neg]
   have:=hs.2
   simp only [Bm,decide_eq_true_eq] at this
   omega
  ·rw [if_neg hs,if_neg hs]
theorem Tw (c:Nat->Int):∀ (k:Nat),k<=64->∀ n:Nat,A9 (D3 c k) n=if n < k/\0 < c n then c n else 0
 | 0,_,n=>by simp [D3,A9]
 | k+1,hk,n=>by
  have ih:=Tw c k (by omega) n
  unfold D3
  by_cases h0:0 < c k
  ·rw [if_pos h0,Yt,ih]
   by_cases hn:n < k/\0 < c n
   ·rw [if_pos hn,if_neg (by omega),if_pos ⟨by omega,hn.2⟩]
   ·rw [if_neg hn,if_pos rfl,A9]
    by_cases he:n=k
    ·subst he
     rw [if_pos ⟨rfl,by simp only [Bm,decide_eq_true_eq];omega⟩,if_pos ⟨by omega,h0⟩]
    ·rw [if_neg (by simp only;omega),if_neg (by omega)]
     rfl
  ·rw [if_neg h0,ih]
   by_cases he:n=k
   ·subst he
    rw [if_neg (by omega),if_neg (by omega)]
   ·by_cases hn:n < k/\0 < c n
    ·rw [if_pos hn,if_pos ⟨by omega,hn.2⟩]
    ·rw [if_neg hn,if_neg (by omega)]
theorem Rn (c:Nat->Int) {n:Nat} (hn:n < 64) (h0:0<=c n):A9 (Hh c) n=c n:=by
 rw [Hh,Tw c 64 (by omega)]
 split<;>omega
theorem Sn:∀ {l:List Ab} {e:Int} {s:Ab},Ee e (l++[s])=(Ee e l&&(Bm s.count s.node&&decide ((l.getLast?.map (·.node)).getD e < s.node)))
 | [],e,s=>by
  show ((Bm s.count s.node&&decide (e < s.node))&&true)=(true&&(Bm s.count s.node&&decide (e < s.node)))
  rw [Bool.and_true,Bool.true_and]
 | x :: l,e,s=>by
  have:((x :: l).getLast?.map (·.node)).getD e=(l.getLast?.map (·.node)).getD x.node:=by
   cases l with
   | nil=>rfl
   | cons y l=>simp [List.getLast?_cons]
  rw [this]
  show ((Bm x.count x.node&&decide (e < x.node))&&Ee x.node (l++[s]))=(((Bm x.count x.node&&decide (e < x.node))&&Ee x.node l)&&_)
  rw [Sn,Bool.and_assoc,Bool.and_assoc,Bool.and_assoc]
theorem Sk (c:Nat->Int):∀ k,k<=64->Ee (-1) (D3 c k)=true/\((D3 c k).getLast?.map (·.node)).getD (-1) < (k:Int)
 | 0,_=>⟨rfl,by simp [D3]⟩
 | k+1,hk=>by
  obtain ⟨h1,h2⟩:=Sk c k (by omega)
  unfold D3
  split
  ·rename_i h0
   refine ⟨?_,by simp;omega⟩
   rw [Sn,h1,Bool.true_and,Bool.and_eq_true,decide_eq_true_eq]
   exact ⟨by simp only [Bm,decide_eq_true_eq];omega,h2⟩
  ·exact ⟨h1,by omega⟩
theorem Sm (c:Nat->Int):Av (Hh c)=true:=(Sk c 64 (by omega)).1
theorem Gp {e:Int} : ∀ {l:List Ab},Ee e l=true->∀ n:Int,n<=e->A9 l n=0
 | [],_,_,_=>rfl
 | s :: l,h,n,hn=>by
  simp only [Ee,Bool.and_eq_true,decide_eq_true_eq] at h
  rw [A9,if_neg (by omega)]
  exact Gp h.2 n (by omega)
theorem Rv:∀ {l m:List Ab} {e:Int},-1<=e->Ee e l=true->Ee e m=true->(∀ n:Nat,n < 64->A9 l n=A9 m n)->l=m
 | [],[],_,_,_,_,_=>rfl
 | [],s :: m,e,he,_,h',h=>by
  simp only [Ee,Bool.and_eq_true,decide_eq_true_eq,Bm] at h'
  have:=h s.node.toNat (by omega)
  rw [A9,A9,show ((s.node.toNat:Nat):Int)=s.node by omega,if_pos ⟨rfl,by simp only [Bm,decide_eq_true_eq];omega⟩] at this
  omega
 | s :: l,[],e,he,h',_,h=>by
  simp only [Ee,Bool.and_eq_true,decide_eq_true_eq,Bm] at h'
  have:=h s.node.toNat (by omega)
  rw [A9,A9,show ((s.node.toNat:Nat):Int)=s.node by omega,if_pos ⟨rfl,by simp only [Bm,decide_eq_true_eq];omega⟩] at this
  omega
 | s :: l,t :: m,e,he,hl,hm,h=>by
  have h1:=hl
  have h2:=hm
  simp only [Ee,Bool.and_eq_true,decide_eq_true_eq,Bm] at h1 h2
  have hs:=h s.node.toNat (by omega)
  have ht:=h t.node.toNat (by omega)
  rw [show ((s.node.toNat:Nat):Int)=s.node by omega] at hs
  rw [show ((t.node.toNat:Nat):Int)=t.node by omega] at ht
  have cs:A9 (s :: l) s.node=s.count:=by rw [A9,if_pos ⟨rfl,by simp only [Bm,decide_eq_true_eq];omega⟩]
  have ct:A9 (t :: m) t.node=t.count:=by rw [A9,if_pos ⟨rfl,by simp only [Bm,decide_eq_true_eq];omega⟩]
  have hn:s.node=t.node:=by
   rcases Int.lt_trichotomy s.node t.node with c | c | c
   ·exfalso
    rw [cs,A9,if_neg (by omega),Gp h2.2 _ (by omega)] at hs
    omega
   ·exact c
   ·exfalso
    rw [ct,A9,if_neg (by omega),Gp h1.2 _ (by omega)] at ht
    omega
  rw [cs,hn,ct] at hs
  obtain ⟨sc,sn⟩:=s
  obtain ⟨tc,tn⟩:=t
  simp only at hn hs h1 h2
  subst hn hs
  have:l=m:=by
   refine Rv (e:=sn) (by omega) h1.2 h2.2 fun n hn'=>?_
   have:=h n hn'
   rw [A9,A9] at this
   by_cases he':sn=n
   ·rw [Gp h1.2 _ (by omega),Gp h2.2 _ (by omega)]
   ·rw [if_neg (by simp only;omega),if_neg (by simp only;omega)] at this
    exact this
  rw [this]
theorem Vd {l:List Ab} (h:Av l=true):Hh (fun n=>A9 l n)=l :=
 Rv (e:=-1) (by omega) (Sm _) h fun n hn=>by rw [Rn _ hn (G9 _ _)]
def Ef (ls:List (List Ab)) (n:Nat):Int:=ls.foldl (fun a l=>max a (A9 l n)) 0
theorem S9 (ls:List (List Ab)) (l:List Ab) (n:Nat):Ef (ls++[l]) n=max (Ef ls n) (A9 l n):=by simp [Ef]
theorem Tp (ls:List (List Ab)) (n:Nat):0<=Ef ls n:=by
 have key:∀ (ls:List (List Ab)) (a:Int),0<=a->0<=ls.foldl (fun a l=>max a (A9 l n)) a:=by
  intro ls
  induction ls with
  | nil=>exact fun a h=>h
  | cons l ls ih=>exact fun a h=>ih _ (by show 0<=max _ _;omega)
 exact key ls 0 (by omega)
def Eb (ls:List (List Ab)):List Ab:=Hh (Ef ls)
theorem B36 (a b:List Ab) (n:Nat):Ef [a,b] n=max (A9 a n) (A9 b n):=by
 have:=G9 a n
 simp only [Ef,List.foldl_cons,List.foldl_nil]
 omega
theorem B37 (a:List Ab) (n:Nat):Ef [a] n=A9 a n:=by
 have:=G9 a n
 simp only [Ef,List.foldl_cons,List.foldl_nil]
 omega
theorem Zl (ls:List (List Ab)) {n:Nat} (hn:n < 64):A9 (Eb ls) n=Ef ls n:=Rn _ hn (Tp _ _)
def Bl2:List (List Ab)->Nat->Int
 | [],_=>0
 | l :: ls,n=>ls.foldl (fun a l=>min a (A9 l n)) (A9 l n)
def Bl1 (ls:List (List Ab)):List Ab:=Hh (Bl2 ls)
end Go.Proofs.YthlgnjlpakimaaaGreatDoor
