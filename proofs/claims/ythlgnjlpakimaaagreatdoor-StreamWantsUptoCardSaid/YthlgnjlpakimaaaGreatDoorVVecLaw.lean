/- Plain laws on vectors as counts: the list of counts, and what is joined. -/
import Derived.Test.YthlgnjlpakimaaaGreatDoorVTzLaid
set_option linter.all false
set_option linter.unnecessarySimpa false
set_option linter.unusedSimpArgs false
set_option linter.unusedVariables false
namespace Go.Proofs.YthlgnjlpakimaaaGreatDoor
open Go.ChangeShapes Go.WideShapes Go.ChangeAt Go.RowKit
theorem Ek (l:List Aa) (n:Int):0<=A8 l n:=by
 by_cases h:A8 l n=0
 ·omega
 ·have:=Sa h;omega
def Du (c:Nat->Int):Nat->List Aa
 | 0=>[]
 | k+1=>if 0 < c k then Du c k++[⟨c k,k⟩] else Du c k
def Eg (c:Nat->Int):List Aa:=Du c 64
theorem Xz (c:Nat->Int):∀ k,(Du c k).length<=k
 | 0=>by simp [Du]
 | k+1=>by
  have:=Xz c k
  unfold Du
  split
  ·simp;omega
  ·omega
theorem Td {c d:Nat->Int} : ∀ {k:Nat},(∀ n,n < k->c n=d n)->Du c k=Du d k
 | 0,_=>rfl
 | k+1,h=>by rw [Du,Du,Td (k:=k) (fun n hn=>h n (by omega)),h k (by omega)]
theorem G5 {c d:Nat->Int} (h:∀ n,n < 64->c n=d n):Eg c=Eg d:=Td h
theorem A39 (l m:List Aa) (n:Int):A8 (l++m) n=if A8 l n=0 then A8 m n else A8 l n:=by
 induction l with
 | nil=>simp [A8]
 | cons s l ih =>
  rw [List.cons_append,A8,A8,ih]
  by_cases hs:s.node=n/\Bu s.count s.node=true
  ·rw [if_pos hs,if_pos hs,if_neg]
   have:=hs.2
   simp only [Bu,decide_eq_true_eq] at this
   omega
  ·rw [if_neg hs,if_neg hs]
theorem W7 (c:Nat->Int):∀ (k:Nat),k<=64->∀ n:Nat,A8 (Du c k) n=if n < k/\0 < c n then c n else 0
 | 0,_,n=>by simp [Du,A8]
 | k+1,hk,n=>by
  have ih:=W7 c k (by omega) n
  unfold Du
  by_cases h0:0 < c k
  ·rw [if_pos h0,A39,ih]
   by_cases hn:n < k/\0 < c n
   ·rw [if_pos hn,if_neg (by omega),if_pos ⟨by omega,hn.2⟩]
   ·rw [if_neg hn,if_pos rfl,A8]
    by_cases he:n=k
    ·subst he
     rw [if_pos ⟨rfl,by simp only [Bu,decide_eq_true_eq];omega⟩,if_pos ⟨by omega,h0⟩]
    ·rw [if_neg (by simp only;omega),if_neg (by omega)]
     rfl
  ·rw [if_neg h0,ih]
   by_cases he:n=k
   ·subst he
    rw [if_neg (by omega),if_neg (by omega)]
   ·by_cases hn:n < k/\0 < c n
    ·rw [if_pos hn,if_pos ⟨by omega,hn.2⟩]
    ·rw [if_neg hn,if_neg (by omega)]
theorem L9 (c:Nat->Int) {n:Nat} (hn:n < 64) (h0:0<=c n):A8 (Eg c) n=c n:=by
 rw [Eg,W7 c 64 (by omega)]
 split<;>omega
theorem Uz:∀ {l:List Aa} {e:Int} {s:Aa},F5 e (l++[s])=(F5 e l&&(Bu s.count s.node&&decide ((l.getLast?.map (·.node)).getD e < s.node)))
 | [],e,s=>by
  show ((Bu s.count s.node&&decide (e < s.node))&&true)=(true&&(Bu s.count s.node&&decide (e < s.node)))
  rw [Bool.and_true,Bool.true_and]
 | x :: l,e,s=>by
  have:((x :: l).getLast?.map (·.node)).getD e=(l.getLast?.map (·.node)).getD x.node:=by
   cases l with
   | nil=>rfl
   | cons y l=>simp [List.getLast?_cons]
  rw [this]
  show ((Bu x.count x.node&&decide (e < x.node))&&F5 x.node (l++[s]))=(((Bu x.count x.node&&decide (e < x.node))&&F5 x.node l)&&_)
  rw [Uz,Bool.and_assoc,Bool.and_assoc,Bool.and_assoc]
theorem Uy (c:Nat->Int):∀ k,k<=64->F5 (-1) (Du c k)=true/\((Du c k).getLast?.map (·.node)).getD (-1) < (k:Int)
 | 0,_=>⟨rfl,by simp [Du]⟩
 | k+1,hk=>by
  obtain ⟨h1,h2⟩:=Uy c k (by omega)
  unfold Du
  split
  ·rename_i h0
   refine ⟨?_,by simp;omega⟩
   rw [Uz,h1,Bool.true_and,Bool.and_eq_true,decide_eq_true_eq]
   exact ⟨by simp only [Bu,decide_eq_true_eq];omega,h2⟩
  ·exact ⟨h1,by omega⟩
theorem Ff (c:Nat->Int):Ak (Eg c)=true:=(Uy c 64 (by omega)).1
theorem J1 {e:Int} : ∀ {l:List Aa},F5 e l=true->∀ n:Int,n<=e->A8 l n=0
 | [],_,_,_=>rfl
 | s :: l,h,n,hn=>by
  simp only [F5,Bool.and_eq_true,decide_eq_true_eq] at h
  rw [A8,if_neg (by omega)]
  exact J1 h.2 n (by omega)
theorem U1:∀ {l m:List Aa} {e:Int},-1<=e->F5 e l=true->F5 e m=true->(∀ n:Nat,n < 64->A8 l n=A8 m n)->l=m
 | [],[],_,_,_,_,_=>rfl
 | [],s :: m,e,he,_,h',h=>by
  simp only [F5,Bool.and_eq_true,decide_eq_true_eq,Bu] at h'
  have:=h s.node.toNat (by omega)
  rw [A8,A8,show ((s.node.toNat:Nat):Int)=s.node by omega,if_pos ⟨rfl,by simp only [Bu,decide_eq_true_eq];omega⟩] at this
  omega
 | s :: l,[],e,he,h',_,h=>by
  simp only [F5,Bool.and_eq_true,decide_eq_true_eq,Bu] at h'
  have:=h s.node.toNat (by omega)
  rw [A8,A8,show ((s.node.toNat:Nat):Int)=s.node by omega,if_pos ⟨rfl,by simp only [Bu,decide_eq_true_eq];omega⟩] at this
  omega
 | s :: l,t :: m,e,he,hl,hm,h=>by
  have h1:=hl
  have h2:=hm
  simp only [F5,Bool.and_eq_true,decide_eq_true_eq,Bu] at h1 h2
  have hs:=h s.node.toNat (by omega)
  have ht:=h t.node.toNat (by omega)
  rw [show ((s.node.toNat:Nat):Int)=s.node by omega] at hs
  rw [show ((t.node.toNat:Nat):Int)=t.node by omega] at ht
  have cs:A8 (s :: l) s.node=s.count:=by rw [A8,if_pos ⟨rfl,by simp only [Bu,decide_eq_true_eq];omega⟩]
  have ct:A8 (t :: m) t.node=t.count:=by rw [A8,if_pos ⟨rfl,by simp only [Bu,decide_eq_true_eq];omega⟩]
  have hn:s.node=t.node:=by
   rcases Int.lt_trichotomy s.node t.node with c | c | c
   ·exfalso
    rw [cs,A8,if_neg (by omega),J1 h2.2 _ (by omega)] at hs
    omega
   ·exact c
   ·exfalso
    rw [ct,A8,if_neg (by omega),J1 h1.2 _ (by omega)] at ht
    omega
  rw [cs,hn,ct] at hs
  obtain ⟨sc,sn⟩:=s
  obtain ⟨tc,tn⟩:=t
  simp only at hn hs h1 h2
  subst hn hs
  have:l=m:=by
   refine U1 (e:=sn) (by omega) h1.2 h2.2 fun n hn'=>?_
   have:=h n hn'
   rw [A8,A8] at this
   by_cases he':sn=n
   ·rw [J1 h1.2 _ (by omega),J1 h2.2 _ (by omega)]
   ·rw [if_neg (by simp only;omega),if_neg (by simp only;omega)] at this
    exact this
  rw [this]
theorem Rg {l:List Aa} (h:Ak l=true):Eg (fun n=>A8 l n)=l :=
 U1 (e:=-1) (by omega) (Ff _) h fun n hn=>by rw [L9 _ hn (Ek _ _)]
def F7 (ls:List (List Aa)) (n:Nat):Int:=ls.foldl (fun a l=>max a (A8 l n)) 0
theorem Uh (ls:List (List Aa)) (l:List Aa) (n:Nat):F7 (ls++[l]) n=max (F7 ls n) (A8 l n):=by simp [F7]
theorem Vv (ls:List (List Aa)) (n:Nat):0<=F7 ls n:=by
 have key:∀ (ls:List (List Aa)) (a:Int),0<=a->0<=ls.foldl (fun a l=>max a (A8 l n)) a:=by
  intro ls
  induction ls with
  | nil=>exact fun a h=>h
  | cons l ls ih=>exact fun a h=>ih _ (by show 0<=max _ _;omega)
 exact key ls 0 (by omega)
def Dq (ls:List (List Aa)):List Aa:=Eg (F7 ls)
theorem Kz (a b:List Aa) (n:Nat):F7 [a,b] n=max (A8 a n) (A8 b n):=by
 have:=Ek a n
 simp only [F7,List.foldl_cons,List.foldl_nil]
 omega
theorem Bb0 (a:List Aa) (n:Nat):F7 [a] n=A8 a n:=by
 have:=Ek a n
 simp only [F7,List.foldl_cons,List.foldl_nil]
 omega
theorem La (ls:List (List Aa)) {n:Nat} (hn:n < 64):A8 (Dq ls) n=F7 ls n:=L9 _ hn (Vv _ _)
def Bt8:List (List Aa)->Nat->Int
 | [],_=>0
 | l :: ls,n=>ls.foldl (fun a l=>min a (A8 l n)) (A8 l n)
def Bt7 (ls:List (List Aa)):List Aa:=Eg (Bt8 ls)
end Go.Proofs.YthlgnjlpakimaaaGreatDoor
