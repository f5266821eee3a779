/- Bodies: one is found, one goes, one comes (the program's). -/
import Derived.Test.YthlgnjlpakimaaaGreatDoorURep
import Derived.Test.YthlgnjlpakimaaaGreatDoorUArr
import Derived.Test.YthlgnjlpakimaaaGreatDoorUTakeLaw
import Derived.Test.YthlgnjlpakimaaaGreatDoorUPlace
import Derived.Test.YthlgnjlpakimaaaGreatDoorUSortWorld
import Derived.Test.YthlgnjlpakimaaaGreatDoorUClone
import Derived.Test.YthlgnjlpakimaaaGreatDoorUEnc
import Derived.Test.YthlgnjlpakimaaaGreatDoorUGoes
import Derived.Test.YthlgnjlpakimaaaGreatDoorUNoteMerge
import Derived.Test.YthlgnjlpakimaaaGreatDoorUCacheForm
set_option linter.all false
set_option linter.unnecessarySimpa false
set_option linter.unusedSimpArgs false
set_option linter.unusedVariables false
namespace Go.Proofs.YthlgnjlpakimaaaGreatDoor
open Go.ChangeShapes Go.WideShapes Go.ChangeAt Go.RowKit
def orI (a b:Int):Int:=if a=0 then b else a
def Cy7 (a b c d:Int):Int:=orI (Wj a c) (Wj b d)
def nxV (c n s:Int):Value :=
 if c < 0\/n < 0\/64<=n\/s < 0 then .tuple #[.agg #[.int .i64 0,.int .i64 0],.int .i64 1]
 else if 9223372036854775807 - c<=s then .tuple #[.agg #[.int .i64 0,.int .i64 0],.int .i64 2]
 else .tuple #[.agg #[.int .i64 (c+s+1),.int .i64 n],.int .i64 0]
end Go.Proofs.YthlgnjlpakimaaaGreatDoor
namespace Go.Proofs.YthlgnjlpakimaaaGreatDoor
def Bb5 (u w:Aq):Bool:=decide (Cy7 u.stamp.count u.stamp.node w.stamp.count w.stamp.node < 0)
def D28 (u:Option Aq) (w:Aq):Aq:=match u with
 | none=>w
 | some u=>if Bb5 u w=true then w else u
def Bh0 (l:List Aq) (w:Aq):List Aq:=match M3 l w.object with
 | none=>l.take (P1 l w.object)++w :: l.drop (P1 l w.object)
 | some u=>if Bb5 u w=true then l.set (P1 l w.object) w else l
def Bp4 (l list:List Aq):List Aq:=list.foldl Bh0 l
def D29 (l list:List Aq):List Aq×Int:=if Bp l=true/\list.all Gi=true then (Bp4 l list,0) else ([],1)
-- shelves as sorted lists
def Shelf (l:List Aq):Prop:=l.Pairwise (fun a b=>a.object < b.object)/\∀ w∈l,Gi w=true
theorem Qw {w:Aq} (h:Gi w=true):0<=w.object/\w.object<=255:=by
 simp only [Gi,Jv,Bool.and_eq_true,decide_eq_true_eq] at h
 exact h.1
theorem Re:∀ {l:List Aq} {e:Int},C9 e l=true↔Shelf l/\∀ w∈l,e < w.object
 | [],e=>by simp [C9,Shelf]
 | w :: l,e=>by
  rw [C9,Bool.and_eq_true,Bool.and_eq_true,decide_eq_true_eq,Re]
  unfold Shelf
  rw [List.pairwise_cons]
  simp only [List.mem_cons,forall_eq_or_imp]
  constructor
  ·rintro ⟨⟨h1,h2⟩,⟨h3,h4⟩,h5⟩
   exact ⟨⟨⟨h5,h3⟩,h1,h4⟩,h2,fun a ha=>by have:=h5 a ha;omega⟩
  ·rintro ⟨⟨⟨h5,h3⟩,h1,h4⟩,h2,_⟩
   exact ⟨⟨h1,h2⟩,⟨h3,h4⟩,h5⟩
theorem Lb {l:List Aq} : Bp l=true↔Shelf l:=by
 unfold Bp
 rw [Re]
 exact ⟨fun h=>h.1,fun h=>⟨h,fun w hw=>by have:=Qw (h.2 w hw);omega⟩⟩
theorem Yj {l:List Aq} (h:Shelf l) {o:Int} {w:Aq} : M3 l o=some w↔w∈l/\w.object=o:=by
 unfold M3
 constructor
 ·intro hh
  exact ⟨List.mem_of_find?_eq_some hh,by simpa using List.find?_some hh⟩
 ·rintro ⟨h1,h2⟩
  cases hf:l.find? (fun w=>decide (w.object=o)) with
  | none=>have:=List.find?_eq_none.1 hf w h1;simp [h2] at this
  | some u =>
   have h3:=List.mem_of_find?_eq_some hf
   have h4:u.object=o:=by simpa using List.find?_some hf
   by_cases e:u=w
   ·rw [e]
   ·obtain ⟨i,hi,rfl⟩:=List.mem_iff_getElem.1 h1
    obtain ⟨j,hj,rfl⟩:=List.mem_iff_getElem.1 h3
    rcases Nat.lt_trichotomy i j with h5 | h5 | h5
    ·have:=List.pairwise_iff_getElem.1 h.1 i j hi hj h5;omega
    ·subst h5;exact absurd rfl e
    ·have:=List.pairwise_iff_getElem.1 h.1 j i hj hi h5;omega
theorem T4:∀ {l m:List Aq},Shelf l->Shelf m->(∀ w,w∈l↔w∈m)->l=m
 | [],[],_,_,_=>rfl
 | [],y :: m,_,_,h=>by have:=(h y).2 (by simp);cases this
 | x :: l,[],_,_,h=>by have:=(h x).1 (by simp);cases this
 | x :: l,y :: m,h1,h2,h=>by
  obtain ⟨a1,a2⟩:=List.pairwise_cons.1 h1.1
  obtain ⟨b1,b2⟩:=List.pairwise_cons.1 h2.1
  have e:x=y:=by
   rcases List.mem_cons.1 ((h x).1 (by simp)) with e | hx
   ·exact e
   ·rcases List.mem_cons.1 ((h y).2 (by simp)) with e | hy
    ·exact e.symm
    ·have:=a1 y hy;have:=b1 x hx;omega
  subst e
  congr 1
  refine T4 ⟨a2,fun w hw=>h1.2 w (by simp [hw])⟩ ⟨b2,fun w hw=>h2.2 w (by simp [hw])⟩ fun w=>⟨fun hw=>?_,fun hw=>?_⟩
  ·rcases List.mem_cons.1 ((h w).1 (by simp [hw])) with e | h3
   ·have:=a1 w hw;rw [e] at this;omega
   ·exact h3
  ·rcases List.mem_cons.1 ((h w).2 (by simp [hw])) with e | h3
   ·have:=b1 w hw;rw [e] at this;omega
   ·exact h3
def K6 (f:Nat->Option Aq):Nat->List Aq
 | 0=>[]
 | n+1=>K6 f n++(f n).toList
theorem Vi {f:Nat->Option Aq} : ∀ {n:Nat} {w:Aq},w∈K6 f n↔∃ k,k < n/\f k=some w
 | 0,w=>by simp [K6]
 | n+1,w=>by
  rw [K6,List.mem_append,Vi,Option.mem_toList]
  constructor
  ·rintro (⟨k,h1,h2⟩ | h)
   ·exact ⟨k,by omega,h2⟩
   ·exact ⟨n,by omega,h⟩
  ·rintro ⟨k,h1,h2⟩
   rcases Nat.lt_or_ge k n with h | h
   ·exact .inl ⟨k,h,h2⟩
   ·obtain rfl:k=n:=by omega
    exact .inr h2
theorem Rc {f:Nat->Option Aq} (hf:∀ k w,f k=some w->w.object=k/\Gi w=true):∀ n,Shelf (K6 f n)/\∀ w∈K6 f n,w.object < n
 | 0=>⟨⟨.nil,fun w hw=>by cases hw⟩,fun w hw=>by cases hw⟩
 | n+1=>by
  obtain ⟨⟨h1,h2⟩,h3⟩:=Rc hf n
  rw [K6]
  cases h:f n with
  | none =>
   rw [Option.toList_none,List.append_nil]
   exact ⟨⟨h1,h2⟩,fun w hw=>by have:=h3 w hw;omega⟩
  | some u =>
   obtain ⟨e1,e2⟩:=hf n u h
   rw [Option.toList_some]
   refine ⟨⟨List.pairwise_append.2 ⟨h1,by simp,fun x hx y hy=>?_⟩,fun x hx=>?_⟩,fun x hx=>?_⟩
   ·rw [List.mem_singleton.1 hy,e1];exact h3 x hx
   ·rcases List.mem_append.1 hx with hx | hx
    ·exact h2 x hx
    ·rw [List.mem_singleton.1 hx];exact e2
   ·rcases List.mem_append.1 hx with hx | hx
    ·have:=h3 x hx;omega
    ·rw [List.mem_singleton.1 hx,e1];omega
theorem Ad6 {l:List Aq} (h:Shelf l):K6 (fun k=>M3 l k) 256=l:=by
 refine T4 (Rc (fun k w hw=>?_) 256).1 h fun w=>?_
 ·obtain ⟨a,b⟩:=(Yj h).1 hw
  exact ⟨b,h.2 w a⟩
 ·rw [Vi]
  constructor
  ·rintro ⟨k,_,hk⟩
   exact ((Yj h).1 hk).1
  ·intro hw
   have:=Qw (h.2 w hw)
   exact ⟨w.object.toNat,by omega,(Yj h).2 ⟨hw,by omega⟩⟩
-- views that take
def Uq:Bz:=⟨[],[],[],[],0⟩
def Bk8 (z:List B8) (k:List Ab) (n:B7):List Aq:=n.writes.filter fun w=>Fj z k w
def Vf (v:Bz) (n:B7):Bz×Int :=
  if Ao v=true then
    (if (Ve v.zones v.known n).2.2=0 then
      (⟨(Ve v.zones v.known n).2.1,(Ve v.zones v.known n).1,Bp4 v.held (Bk8 (Ve v.zones v.known n).1 (Ve v.zones v.known n).2.1 n),v.bodies.filter (fun x=>F9 (Bp4 v.held (Bk8 (Ve v.zones v.known n).1 (Ve v.zones v.known n).2.1 n)) x),v.room⟩,0)
     else (Uq,(Ve v.zones v.known n).2.2))
  else (Uq,1)
-- shelves
def Dw (l:List Aq) (set:List Ad):List Aq:=l.filter fun w=>Bv set w.object
def K5 (l:List Aq) (set:List Ad):List Aq×Int:=if Bp l=true then (Dw l set,0) else ([],1)
-- caches
def isB (o:Int) (s:Ab) (x:Dc):Bool:=decide (x.object=o)&&decide (x.stamp=s)
def B44 (l:List Dc) (o:Int) (s:Ab):List Nat×Int:=match l.find? (isB o s) with
 | some x=>(x.value,0)
 | none=>([],10)
def Aw6 (l:List Dc) (o:Int):List Dc:=l.filter fun x=>!decide (x.object=o)
def Bq2 (room:Int):List Dc->List Dc
 | []=>[]
 | x :: l=>if (Pt (x :: l):Int)<=room then x :: l else Bq2 room l
def D30 (l:List Dc) (room:Int) (x:Dc):List Dc×Int:=if E5 l room=true/\Da x=true then (Bq2 room (Aw6 l x.object++[x]),0) else ([],1)
-- views
def D31 (room:Int):Bz×Int:=if Av4 room=true then (⟨[],[],[],[],room⟩,0) else (Uq,1)
def Be1 (v:Bz) (x:Dc):Bz×Int :=
 if Ao v=true/\Da x=true then
  (if F9 v.held x=true then (⟨v.known,v.zones,v.held,Bq2 v.room (Aw6 v.bodies x.object++[x]),v.room⟩,0) else (Uq,13))
 else (Uq,1)
def D09 (v:Bz) (o:Int):List Nat×Aq×Int :=
 if Ao v=true/\Jv o=true then
  (if Bv (D7 v.zones) o=true then ([],noW,9) else
   match M3 v.held o with
   | none=>([],noW,8)
   | some w=>if w.gone=true then ([],w,0) else ((B44 v.bodies o w.stamp).1,w,(B44 v.bodies o w.stamp).2))
 else ([],noW,1)
def A75:Dc:=⟨0,⟨0,0⟩,[]⟩
def Cv0 (v:Bz) (o:Int):Dc×Int :=
 if Ao v=true/\Jv o=true then
  (match M3 v.held o with
   | none=>(A75,8)
   | some w=>if w.gone=true then (A75,13) else (if (B44 v.bodies o w.stamp).2=0 then (⟨o,w.stamp,(B44 v.bodies o w.stamp).1⟩,0) else (A75,(B44 v.bodies o w.stamp).2)))
 else (A75,1)
end Go.Proofs.YthlgnjlpakimaaaGreatDoor
namespace Go.Proofs.YthlgnjlpakimaaaGreatDoor
open Go.ChangeShapes Go.WideShapes Go.ChangeAt Go.RowKit
section
variable {V w0 : World} {n : Nd} {ro : Option Nat} {σ : Ah} {K : Exit -> Ah -> Prop}
end
attribute [local irreducible] AW AWY Bw Bc vop Bj Az Bi qop By Ce Ar Ap Bo A7 Bd
attribute [local go_sem] Dp Ei J9 Ai An
theorem Vj (f:Nat->Option Aq):∀ n,(K6 f n).length<=n
 | 0=>Nat.le_refl _
 | n+1=>by
  have:=Vj f n
  have h2:(f n).toList.length<=1:=by cases f n<;>simp
  rw [K6,List.length_append]
  omega
theorem A02 {l:List Aq} (h:Shelf l):l.length<=256:=by
 rw [<-Ad6 h]
 exact Vj _ _
end Go.Proofs.YthlgnjlpakimaaaGreatDoor
namespace Go.Proofs.YthlgnjlpakimaaaGreatDoor
open Go.ChangeShapes Go.WideShapes Go.ChangeAt Go.RowKit
attribute [local irreducible] AW AWY Bw Bc vop Bj Az Bi qop By Ce Ar Ap Bo A7 Bd
attribute [local go_sem] Dp Ei J9 Ai An
section
variable (f : FuncId) (C D : List IV) (p : Aq -> Bool) (hp : ∀ x, A7 Tryz.prog A8 f [wA x, .ip C, .ip D] (.val (.bool (p x))) [])
include hp
structure D39 (p:Aq->Bool) (l:List Aq) where
 i:Nat
 j:Nat
 M:List Aq
 hj:j<=l.length
 hij:i < j
 hl:M.length=l.length
 ht:M.take i=(l.take j).filter fun x=>!p x
 hd:M.drop j=l.drop j
end
end Go.Proofs.YthlgnjlpakimaaaGreatDoor
namespace Go.Proofs.YthlgnjlpakimaaaGreatDoor
open Go.ChangeShapes Go.WideShapes Go.ChangeAt Go.RowKit
attribute [local irreducible] AW AWY Bw Bc vop Bj Az Bi qop By Ce Ar Ap Bo A7 Bd
attribute [local go_sem] Ha Hf Ff Gl Ai An
end Go.Proofs.YthlgnjlpakimaaaGreatDoor
