/- The least counts of vectors (the program's): an iterator over counts that the rounds turn. -/
import Derived.Test.YtahgkllhbggmgaaGreatDoorKReached
import Derived.Test.YtahgkllhbggmgaaGreatDoorKRefLog
import Derived.Test.YtahgkllhbggmgaaGreatDoorKNoteMerge
import Derived.Test.YtahgkllhbggmgaaGreatDoorKZones
import Derived.Test.YtahgkllhbggmgaaGreatDoorKShelfAll
set_option linter.all false
set_option linter.unnecessarySimpa false
set_option linter.unusedSimpArgs false
set_option linter.unusedVariables false
namespace Go.Proofs.YtahgkllhbggmgaaGreatDoor
open Go.ChangeShapes Go.WideShapes Go.ChangeAt Go.RowKit
attribute [local irreducible] AW AWY Bd As vop B4 Ap Aw qop Bc Bs Ai Ag Ay A7 Av Et
attribute [local go_sem] He Ek F8 Dg Ei Cr Je Fz Dx Es Ae Af
theorem A47 {α:Type} {l:List α} {p:α->Bool} {m:Nat} (h:m < l.length) (hp:p l[m]=false):l.all p=false:=by
 rw [List.all_eq_false]
 exact ⟨l[m],List.getElem_mem h,by rw [hp];simp⟩
theorem Rv {α:Type} {l:List α} {p:α->Bool} {m:Nat} (h:m < l.length) (ht:∀ x∈l.take m,p x=true) (hp:p l[m]=true):∀ x∈l.take (m+1),p x=true:=fun x hx=>by
 rw [List.take_succ_eq_append_getElem h] at hx
 rcases List.mem_append.1 hx with h1 | h1
 ·exact ht x h1
 ·rw [List.mem_singleton.1 h1];exact hp
set_option maxRecDepth 100000 in
set_option maxHeartbeats 1600000 in
theorem Aj8 (v:Gb) (iR:I64 v.room):A7 Tryz.prog A8 76 [vwA v] (.val (.bool (Au v))) []:=by
 refine A7.of (n:=77) (rs:=[.tmp 2]) Tryz.func76 rfl (by kernel_rfl) Tryz.ntmps76 (by kernel_rfl) (by simp) (fun _ _=>A8.later) ?_
 intro hok V w0
 have hz:v.zones.length<=1073741824:=by simpa [znI] using hok.1.2.1.1
 have hh:v.held.length<=1073741824:=by simpa [wrI] using hok.1.2.2.1.1
 have hb:v.bodies.length<=1073741824:=by simpa [boI] using hok.1.2.2.2.1.1
 obtain ⟨B,hB⟩ : ∃ B,Au v=B:=⟨_,rfl⟩
 rw [hB]
 refine g ?_
 refine AW.seq ?_
 refine AW.reg rfl fun KK hKK=>?_
 refine g ?_
 repeat' (refine hKK _ (g ?_);clear hKK KK)
 refine AW.freeze 200 _ rfl ⟨trivial,trivial,trivial,trivial,iR,trivial⟩ ?_
 simp only [go_sem,reduceIte,Nat.reduceEqDiff]
 refine g ?_
 repeat' (first | refine st_ rfl (g ?_) | refine Da (fun h=>g ?_) (fun h=>g ?_) | (refine Dm rfl rfl (fun h=>?_) (fun h=>?_)<;>simp only [h]<;>refine g ?_) | refine Aa (G2 _) rfl (g ?_) | refine Aa (Pr _) rfl (g ?_) | refine Aa (Ve _) rfl (g ?_) | refine Aa (Xp _ _ iR) rfl (g ?_))
 ·rw [<-hB];simp at h;simp [Au,Gl,h]
 ·rw [<-hB];simp at h;simp [Au,Gl,h]
 ·rw [<-hB];simp at h;simp [Au,Gl,h]
 ·rw [<-hB];simp at h;simp [Au,Gl,h]
 have hP:Gl v=true:=by simp at *;simp [Gl, *]
 refine AW.loop (fun m:{m:Nat // m<=v.zones.length/\∀ x∈v.zones.take m,decide (Wy x.vec v.known=1)=true}=>⟨[(1,.ip [stI v.known,znI v.zones,wrI v.held,boI v.bodies,.val (.int .i64 v.room)]),(3,.val (.int .i64 (m.1:Nat)))],[]⟩) (fun m=>v.zones.length - m.1) ⟨0,Nat.zero_le _,fun x hx=>by simp at hx⟩ id ⟨⟨rfl,rfl,trivial⟩,trivial,List.nodup_nil⟩ fun ⟨m,hm,ht⟩=>?_
 refine g ?_
 repeat' (first | refine st_ rfl (g ?_) | refine Aj (fun h=>g ?_) (fun h=>g ?_))
 ·have hlt:m < v.zones.length:=by omega
  refine AW.drawn (ds:=[37,38,39,40,41,42,43,44,45,46]) (fin:=[]) (bs:=[0,0,0,0,0,0,0,0,0,0]) [⟨[],[],[],[],0⟩,⟨[(37,0)],[],[],[],0⟩,⟨[],[],[],[],0⟩,⟨[(38,1),(39,2)],[],[],[],0⟩,⟨[(40,3)],[],[],[],0⟩,⟨[(41,4)],[],[],[],0⟩,⟨[],[],[],[],0⟩,⟨[(43,6)],[],[],[],0⟩,⟨[(42,5),(44,7)],[],[],[],0⟩,⟨[(45,8)],[],[],[],0⟩] (by kernel_rfl) rfl (by kernel_rfl) rfl rfl rfl fun KD hKD=>?_
  refine g ?_
  repeat' (first | refine st_ rfl (g ?_) | refine Aj (fun h=>g ?_) (fun h=>g ?_) | (refine hKD _ _ ⟨rfl,g ?_⟩;clear hKD KD) | refine ix_ (by omega) (g ?_) | refine Aa (Va _ _) rfl (g ?_))
  ·rw [<-hB];simp only [Au];rw [A47 (p:=fun x=>decide (Wy x.vec v.known=1)) hlt (by simpa using h)];simp
  ·exact ⟨⟨m+1,hlt,Rv hlt ht (by simpa using h)⟩,id,⟨⟨rfl,rfl,trivial⟩,trivial,List.nodup_nil⟩,by show v.zones.length - (m+1) < v.zones.length - m;omega⟩
 obtain rfl:m=v.zones.length:=by omega
 rw [List.take_length] at ht
 have h1:(v.zones.all fun x=>decide (Wy x.vec v.known=1))=true:=List.all_eq_true.2 ht
 refine AW.loop (fun m:{m:Nat // m<=v.held.length/\∀ x∈v.held.take m,G4 v.zones v.known x=true}=>⟨[(1,.ip [stI v.known,znI v.zones,wrI v.held,boI v.bodies,.val (.int .i64 v.room)]),(4,.val (.int .i64 (m.1:Nat)))],[]⟩) (fun m=>v.held.length - m.1) ⟨0,Nat.zero_le _,fun x hx=>by simp at hx⟩ id ⟨⟨rfl,rfl,trivial⟩,trivial,List.nodup_nil⟩ fun ⟨m,hm,ht⟩=>?_
 refine g ?_
 repeat' (first | refine st_ rfl (g ?_) | refine Aj (fun h=>g ?_) (fun h=>g ?_))
 ·have hlt:m < v.held.length:=by omega
  refine AW.drawn (ds:=[54,55,56,57,58,59,60,61]) (fin:=[]) (bs:=[0,0,0,0,0,0,0,0]) [⟨[],[],[],[],0⟩,⟨[],[],[],[],0⟩,⟨[(55,1)],[],[],[],0⟩,⟨[],[],[],[],0⟩,⟨[(56,2),(57,3)],[],[],[],0⟩,⟨[(58,4)],[],[],[],0⟩,⟨[(54,0),(59,5)],[],[],[],0⟩,⟨[(60,6)],[],[],[],0⟩] (by kernel_rfl) rfl (by kernel_rfl) rfl rfl rfl fun KD hKD=>?_
  refine g ?_
  repeat' (first | refine st_ rfl (g ?_) | refine Da (fun h=>g ?_) (fun h=>g ?_) | (refine hKD _ _ ⟨rfl,g ?_⟩;clear hKD KD) | refine ix_ (by omega) (g ?_) | refine Aa (Xk v _) rfl (g ?_))
  ·rw [<-hB];simp only [Au];rw [A47 (p:=fun x=>G4 v.zones v.known x) hlt (by simpa using h)];simp
  ·exact ⟨⟨m+1,hlt,Rv hlt ht (by simpa using h)⟩,id,⟨⟨rfl,rfl,trivial⟩,trivial,List.nodup_nil⟩,by show v.held.length - (m+1) < v.held.length - m;omega⟩
 obtain rfl:m=v.held.length:=by omega
 rw [List.take_length] at ht
 have h2:(v.held.all fun x=>G4 v.zones v.known x)=true:=List.all_eq_true.2 ht
 refine AW.loop (fun m:{m:Nat // m<=v.bodies.length/\∀ x∈v.bodies.take m,Fb v.held x=true}=>⟨[(1,.ip [stI v.known,znI v.zones,wrI v.held,boI v.bodies,.val (.int .i64 v.room)]),(5,.val (.int .i64 (m.1:Nat)))],[]⟩) (fun m=>v.bodies.length - m.1) ⟨0,Nat.zero_le _,fun x hx=>by simp at hx⟩ id ⟨⟨rfl,rfl,trivial⟩,trivial,List.nodup_nil⟩ fun ⟨m,hm,ht⟩=>?_
 refine g ?_
 repeat' (first | refine st_ rfl (g ?_) | refine Aj (fun h=>g ?_) (fun h=>g ?_))
 ·have hlt:m < v.bodies.length:=by omega
  refine AW.drawn (ds:=[69,70,71,72,73,74,75,76]) (fin:=[]) (bs:=[0,0,0,0,0,0,0,0]) [⟨[],[],[],[],0⟩,⟨[],[],[],[],0⟩,⟨[(70,1)],[],[],[],0⟩,⟨[],[],[],[],0⟩,⟨[(71,2),(72,3)],[],[],[],0⟩,⟨[(73,4)],[],[],[],0⟩,⟨[(69,0),(74,5)],[],[],[],0⟩,⟨[(75,6)],[],[],[],0⟩] (by kernel_rfl) rfl (by kernel_rfl) rfl rfl rfl fun KD hKD=>?_
  refine g ?_
  repeat' (first | refine st_ rfl (g ?_) | refine Da (fun h=>g ?_) (fun h=>g ?_) | (refine hKD _ _ ⟨rfl,g ?_⟩;clear hKD KD) | refine ix_ (by omega) (g ?_) | refine Aa (Zs v _) rfl (g ?_))
  ·rw [<-hB];simp only [Au];rw [A47 (p:=fun x=>Fb v.held x) hlt (by simpa using h)];simp
  ·exact ⟨⟨m+1,hlt,Rv hlt ht (by simpa using h)⟩,id,⟨⟨rfl,rfl,trivial⟩,trivial,List.nodup_nil⟩,by show v.bodies.length - (m+1) < v.bodies.length - m;omega⟩
 obtain rfl:m=v.bodies.length:=by omega
 rw [List.take_length] at ht
 have h3:(v.bodies.all fun x=>Fb v.held x)=true:=List.all_eq_true.2 ht
 rw [<-hB]
 simp only [Au]
 rw [hP,h1,h2,h3]
 rfl
end Go.Proofs.YtahgkllhbggmgaaGreatDoor
namespace Go.Proofs.YtahgkllhbggmgaaGreatDoor
open Go.ChangeShapes Go.WideShapes Go.ChangeAt Go.RowKit
attribute [local irreducible] Et Aq1
attribute [local irreducible] AW AWY Bd As vop B4 Ap Aw qop Bc Bs Ai Ag Ay A7 Av
attribute [local go_sem] Cp Uz M0 Nv M1 Cr List.map_nil A16 List.length_nil
end Go.Proofs.YtahgkllhbggmgaaGreatDoor
namespace Go.Proofs.YtahgkllhbggmgaaGreatDoor
open Go.ChangeShapes Go.WideShapes Go.ChangeAt Go.RowKit
attribute [local irreducible] AW AWY Bd As vop B4 Ap Aw qop Bc Bs Ai Ag Ay A7 Av Et Aq1
attribute [local go_sem] M0 Nv M1
end Go.Proofs.YtahgkllhbggmgaaGreatDoor
namespace Go.Proofs.YtahgkllhbggmgaaGreatDoor
open Go.ChangeShapes Go.WideShapes Go.ChangeAt Go.RowKit
attribute [local irreducible] AW AWY Bd As vop B4 Ap Aw qop Bc Bs Ai Ag Ay A7 Av Et Aq1
attribute [local go_sem] M0 Nv M1
def S1 (z:List Bi) (known:List Ad) (it:List Ar):Nat->List (List Ad)
 | 0=>[]
 | m+1=>S1 z known it m++if Dj it m=true then [N3 z known m] else []
def Bu7 (z:List Bi) (known:List Ad) (it:List Ar):List Ad:=if D0 z=true/\B6 known=true then (if (S1 z known it 256).length=0 then known else Ba9 (S1 z known it 256)) else []
end Go.Proofs.YtahgkllhbggmgaaGreatDoor
namespace Go.Proofs.YtahgkllhbggmgaaGreatDoor
open Go.ChangeShapes Go.WideShapes Go.ChangeAt Go.RowKit
attribute [local irreducible] AW AWY Bd As vop B4 Ap Aw qop Bc Bs Ai Ag Ay A7 Av
attribute [local go_sem] Cr Cp Ae Af
end Go.Proofs.YtahgkllhbggmgaaGreatDoor
namespace Go.Proofs.YtahgkllhbggmgaaGreatDoor
open Go.ChangeShapes Go.WideShapes Go.ChangeAt Go.RowKit
attribute [local irreducible] AW AWY Bd As vop B4 Ap Aw qop Bc Bs Ai Ag Ay A7 Av Et Aq1
attribute [local go_sem] Es Ae Af
def B50 (a b:List Ar):Bool:=decide (0 < (A21 a b).length)
def Bu5 (v:Gb) (it:List Ar):List Ad:=if Au v=true then Bu7 v.zones v.known it else []
end Go.Proofs.YtahgkllhbggmgaaGreatDoor
namespace Go.Proofs.YtahgkllhbggmgaaGreatDoor
open Go.ChangeShapes Go.WideShapes Go.ChangeAt Go.RowKit
attribute [local irreducible] AW AWY Bd As vop B4 Ap Aw qop Bc Bs Ai Ag Ay A7 Av Et Aq1
attribute [local go_sem] Xv Ae Af
def ovS (s t:Ar):Prop:=s.lo<=t.hi/\t.lo<=s.hi
end Go.Proofs.YtahgkllhbggmgaaGreatDoor
namespace Go.Proofs.YtahgkllhbggmgaaGreatDoor
open Go.ChangeShapes Go.WideShapes Go.ChangeAt Go.RowKit
attribute [local irreducible] AW AWY Bd As vop B4 Ap Aw qop Bc Bs Ai Ag Ay A7 Av Et
attribute [local go_sem] Fz Dx Ae Af
def zoA (x:Bi):AV:=.agg [.val (.int .i64 x.span.lo),.val (.int .i64 x.span.hi),.iv (stI x.vec)]
def Dp5 (x:Bi):List AV:=[zoA x]
def Dg5 (known:List Ad) (p:Option Bi) (x:Bi):List Bi:=if E8 p+1 < x.span.lo then [⟨⟨E8 p+1,x.span.lo - 1⟩,known⟩] else []
def Bo4 (z:List Bi) (known:List Ad):Nat->List Bi
 | 0=>[]
 | i+1=>Bo4 z known i++(match z[i]? with
  | some x=>Dg5 known (z.take i).getLast? x++[x]
  | none=>[])
def Ci8 (z:List Bi) (known:List Ad):List Bi:=if E8 z.getLast? + 1<=255 then [⟨⟨E8 z.getLast? + 1,255⟩,known⟩] else []
def As8 (z:List Bi) (known:List Ad):List Bi:=Bo4 z known z.length++Ci8 z known
end Go.Proofs.YtahgkllhbggmgaaGreatDoor
namespace Go.Proofs.YtahgkllhbggmgaaGreatDoor
open Go.ChangeShapes Go.WideShapes Go.ChangeAt Go.RowKit
attribute [local irreducible] AW AWY Bd As vop B4 Ap Aw qop Bc Bs Ai Ag Ay A7 Av Bm2
attribute [local go_sem] Ae Af
def Bw5 (f:Nat->Int) (M n:Nat):Int:=if M.testBit n=true then f n else 0
end Go.Proofs.YtahgkllhbggmgaaGreatDoor
namespace Go.Proofs.YtahgkllhbggmgaaGreatDoor
open Go.ChangeShapes Go.WideShapes Go.ChangeAt Go.RowKit
attribute [local irreducible] Bd As vop B4 Ap Aw qop Bc Bs Ai Ag Ay A7 Av
attribute [local go_sem] Ae Af
section
variable {V w0 : World} {n : Nd} {ro : Option Nat} {σ : Ab} {K : Exit -> Ab -> Prop}
end
def enX (x:Fin 64):List AV:=[.val (.int .i64 (x.1:Nat)),.any]
attribute [local irreducible] Bm2 AW
section
variable {V w0 : World} {n : Nd} {K : Exit -> Ab -> Prop}
end
def Df7 (f d:Nat->Int) (pre:List (Fin 64)) (n:Nat):Int:=if pre.any (fun x=>decide (x.1=n))=true then min (f n) (d n) else f n
structure Dn7 (ls:List (List Ad)) where
 i:Nat
 f:Nat->Int
 M:Nat
 h0:0 < i
 hi:i<=ls.length
 hM:M < 18446744073709551616
 hf:∀ n,n < 64->I64 (f n)
 pos:∀ n,n < 64->M.testBit n=true->0 < f n
 is:∀ n,n < 64->Bw5 f M n=Bp4 (ls.take i) n
end Go.Proofs.YtahgkllhbggmgaaGreatDoor
