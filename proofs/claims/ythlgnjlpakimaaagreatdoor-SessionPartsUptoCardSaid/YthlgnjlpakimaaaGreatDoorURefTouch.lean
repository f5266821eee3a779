/- Whether two rows of spans share an object; up to where a view knows an interest sharply (the reference's). -/
import Derived.Test.YthlgnjlpakimaaaGreatDoorURefThr
import Derived.Test.YthlgnjlpakimaaaGreatDoorUZones
import Derived.Test.YthlgnjlpakimaaaGreatDoorURefMrg
import Derived.Test.YthlgnjlpakimaaaGreatDoorUByte
set_option linter.all false
set_option linter.unnecessarySimpa false
set_option linter.unusedSimpArgs false
set_option linter.unusedVariables false
namespace Go.Proofs.YthlgnjlpakimaaaGreatDoor
open Go.ChangeShapes Go.WideShapes Go.ChangeAt Go.RowKit
attribute [local irreducible] AW AWY Bw Bc vop Bj Az Bi qop By Ce Ar Ap Bo A7 Bd
attribute [local go_sem] Dp C3 Ai An
theorem Av2 (l m:List Ad):A7 Tryz.prog A8 168 [.iv (spI l),.iv (spI m)] (.iv (spI (D1 l m))) []:=(Ae7 l m).frz trivial
set_option maxHeartbeats 1600000 in
set_option maxRecDepth 100000 in
theorem Ao6 (a b:B7) (it:List Ad):A7 Tryz.prog A8 101 [Et a,Et b,.iv (spI it)] (.val (.bool (Mj it a b))) []:=by
 refine A7.of (n:=35) (rs:=[.tmp 6]) Tryz.func101 rfl (by kernel_rfl) Tryz.ntmps101 (by kernel_rfl) (by simp) (fun _ _=>A8.later) ?_
 intro hok V w0
 have hla:a.writes.length<=1073741824:=by simpa using hok.1.2.2.2.1.1
 have hlb:b.writes.length<=1073741824:=by simpa using hok.2.1.2.2.2.1.1
 obtain ⟨B,hB⟩ : ∃ B,Mj it a b=B:=⟨_,rfl⟩
 rw [hB]
 unfold Mj at hB
 refine g ?_
 refine AW.seq ?_
 refine AW.reg rfl fun KK hKK=>?_
 refine g ?_
 repeat' (refine hKK _ (g ?_);clear hKK KK)
 refine AW.freeze 400 _ rfl ⟨trivial,trivial,trivial,trivial,trivial⟩ ?_
 simp only [go_sem,reduceIte,Nat.reduceEqDiff]
 refine AW.freeze 500 _ rfl ⟨trivial,trivial,trivial,trivial,trivial⟩ ?_
 simp only [go_sem,reduceIte,Nat.reduceEqDiff]
 refine g ?_
 repeat' refine st_ rfl (g ?_)
 refine AW.drawn (ds:=[7,8,9,10,11,12,13,14,15,16,17,18,19,20,21,22,23,24,25,26,27,28,29,30,31,32,33,34,6]) (fin:=[]) (bs:=[0,0,0,0,0,0,0,0,0,0,0,0,0,0,0,0,0,0,0,0,0,0,0,0,0,0,0,0,0]) [⟨[],[],[],[],0⟩,⟨[(7,0)],[],[],[],0⟩,⟨[(8,1)],[],[],[],0⟩,⟨[(9,2)],[],[],[],0⟩,⟨[(10,3)],[],[],[],0⟩,⟨[],[],[],[],0⟩,⟨[(12,5)],[],[],[],0⟩,⟨[(13,6)],[],[],[],0⟩,⟨[(14,7)],[],[],[],0⟩,⟨[(11,4),(15,8)],[],[],[],0⟩,⟨[(16,9)],[],[],[],0⟩,⟨[],[],[],[],0⟩,⟨[(18,11)],[],[],[],0⟩,⟨[],[],[],[],0⟩,⟨[(20,13)],[],[],[],0⟩,⟨[(19,12),(21,14)],[],[],[],0⟩,⟨[(17,10),(22,15)],[],[],[],0⟩,⟨[(23,16)],[],[],[],0⟩,⟨[],[],[],[],0⟩,⟨[(25,18)],[],[],[],0⟩,⟨[],[],[],[],0⟩,⟨[(26,19),(27,20)],[],[],[],0⟩,⟨[],[],[],[],0⟩,⟨[(29,22)],[],[],[],0⟩,⟨[],[],[],[],0⟩,⟨[(30,23),(31,24)],[],[],[],0⟩,⟨[(28,21),(32,25)],[],[],[],0⟩,⟨[(24,17),(33,26)],[],[],[],0⟩,⟨[(34,27)],[],[],[],0⟩] (by kernel_rfl) rfl (by kernel_rfl) rfl rfl rfl fun KD hKD=>?_
 refine g ?_
 by_cases wa:a.writes=[]
 ·have d1:decide ((a.writes.length:Int)=0)=true:=by simp [wa]
  rw [decide_eq_true wa,Bool.true_and] at hB
  simp only [d1]
  refine g ?_
  by_cases wb:b.writes=[]
  ·have d2:decide ((b.writes.length:Int)=0)=true:=by simp [wb]
   rw [decide_eq_true wb,Bool.true_and] at hB
   simp only [d2]
   refine g ?_
   refine Aa (Mb b.start a.end_) rfl ?_
   by_cases he:b.start=a.end_
   ·rw [decide_eq_true he.symm,Bool.true_and] at hB
    simp only [decide_eq_true he]
    refine g ?_
    refine Aa (Av2 a.blur it) rfl ?_
    refine g ?_
    refine Aa (Av2 b.blur it) rfl ?_
    refine g ?_
    refine Aa (Py (D1 a.blur it) (D1 b.blur it)) rfl ?_
    rw [hB]
    refine g ?_
    repeat' (refine hKD _ _ ⟨rfl,g ?_⟩;clear hKD KD)
    refine g ?_
    repeat' refine st_ rfl (g ?_)
    first | exact trivial | exact ⟨.inl trivial,id,List.nodup_nil⟩ | exact ⟨.inl trivial,id,rfl,List.nodup_nil⟩ | rfl
   ·obtain rfl:B=false:=by rw [<-hB,decide_eq_false (fun e=>he e.symm),Bool.false_and]
    simp only [decide_eq_false he]
    refine g ?_
    repeat' (refine hKD _ _ ⟨rfl,g ?_⟩;clear hKD KD)
    refine g ?_
    repeat' refine st_ rfl (g ?_)
    first | exact trivial | exact ⟨.inl trivial,id,List.nodup_nil⟩ | exact ⟨.inl trivial,id,rfl,List.nodup_nil⟩ | rfl
  ·have d2:decide ((b.writes.length:Int)=0)=false:=by simp [wb]
   obtain rfl:B=false:=by rw [<-hB,decide_eq_false wb];rfl
   simp only [d2]
   refine g ?_
   repeat' (refine hKD _ _ ⟨rfl,g ?_⟩;clear hKD KD)
   refine g ?_
   repeat' refine st_ rfl (g ?_)
   first | exact trivial | exact ⟨.inl trivial,id,List.nodup_nil⟩ | exact ⟨.inl trivial,id,rfl,List.nodup_nil⟩ | rfl
 ·have d1:decide ((a.writes.length:Int)=0)=false:=by simp [wa]
  obtain rfl:B=false:=by rw [<-hB,decide_eq_false wa];rfl
  simp only [d1]
  refine g ?_
  repeat' (refine hKD _ _ ⟨rfl,g ?_⟩;clear hKD KD)
  refine g ?_
  repeat' refine st_ rfl (g ?_)
  first | exact trivial | exact ⟨.inl trivial,id,List.nodup_nil⟩ | exact ⟨.inl trivial,id,rfl,List.nodup_nil⟩ | rfl
end Go.Proofs.YthlgnjlpakimaaaGreatDoor
namespace Go.Proofs.YthlgnjlpakimaaaGreatDoor
open Go.ChangeShapes Go.WideShapes Go.ChangeAt Go.RowKit
attribute [local irreducible] AW AWY Bw Bc vop Bj Az Bi qop By Ce Ar Ap Bo A7 Bd C5 Pe
attribute [local go_sem] Js La Jt
end Go.Proofs.YthlgnjlpakimaaaGreatDoor
namespace Go.Proofs.YthlgnjlpakimaaaGreatDoor
open Go.ChangeShapes Go.WideShapes Go.ChangeAt Go.RowKit
attribute [local irreducible] AW AWY Bw Bc vop Bj Az Bi qop By Ce Ar Ap Bo A7 Bd C5 Pe
attribute [local go_sem] Js La Jt
def Ub (z:List B8) (known:List Ab) (it:List Ad):Nat->List (List Ab)
 | 0=>[]
 | m+1=>Ub z known it m++if Ak it m=true then [Lq z known m] else []
def Bo4 (z:List B8) (known:List Ab) (it:List Ad):List Ab:=if Br z=true/\Av known=true then (if (Ub z known it 256).length=0 then known else Bl1 (Ub z known it 256)) else []
end Go.Proofs.YthlgnjlpakimaaaGreatDoor
namespace Go.Proofs.YthlgnjlpakimaaaGreatDoor
open Go.ChangeShapes Go.WideShapes Go.ChangeAt Go.RowKit
attribute [local irreducible] AW AWY Bw Bc vop Bj Az Bi qop By Ce Ar Ap Bo A7 Bd C5
attribute [local go_sem] Ha Hf Ff Gl Ei Dp J9 Fe Fq Eh Ai An
theorem Aa6 {α:Type} {l:List α} {p:α->Bool} {m:Nat} (h:m < l.length) (hp:p l[m]=false):l.all p=false:=by
 rw [List.all_eq_false]
 exact ⟨l[m],List.getElem_mem h,by rw [hp];simp⟩
theorem Tz {α:Type} {l:List α} {p:α->Bool} {m:Nat} (h:m < l.length) (ht:∀ x∈l.take m,p x=true) (hp:p l[m]=true):∀ x∈l.take (m+1),p x=true:=fun x hx=>by
 rw [List.take_succ_eq_append_getElem h] at hx
 rcases List.mem_append.1 hx with h1 | h1
 ·exact ht x h1
 ·rw [List.mem_singleton.1 h1];exact hp
set_option maxRecDepth 100000 in
set_option maxHeartbeats 1600000 in
theorem S3 (v:Bz) (iR:I64 v.room):A7 Tryz.prog A8 24 [vwA v] (.val (.bool (Ao v))) []:=by
 refine A7.of (n:=77) (rs:=[.tmp 2]) Tryz.func24 rfl (by kernel_rfl) Tryz.ntmps24 (by kernel_rfl) (by simp) (fun _ _=>A8.later) ?_
 intro hok V w0
 have hz:v.zones.length<=1073741824:=by simpa [znI] using hok.1.2.1.1
 have hh:v.held.length<=1073741824:=by simpa [wrI] using hok.1.2.2.1.1
 have hb:v.bodies.length<=1073741824:=by simpa [boI] using hok.1.2.2.2.1.1
 obtain ⟨B,hB⟩ : ∃ B,Ao v=B:=⟨_,rfl⟩
 rw [hB]
 refine g ?_
 refine AW.seq ?_
 refine AW.reg rfl fun KK hKK=>?_
 refine g ?_
 repeat' (refine hKK _ (g ?_);clear hKK KK)
 refine AW.freeze 200 _ rfl ⟨trivial,trivial,trivial,trivial,iR,trivial⟩ ?_
 simp only [go_sem,reduceIte,Nat.reduceEqDiff]
 refine g ?_
 repeat' (first | refine st_ rfl (g ?_) | refine Cl (fun h=>g ?_) (fun h=>g ?_) | (refine Eu rfl rfl (fun h=>?_) (fun h=>?_)<;>simp only [h]<;>refine g ?_) | refine Aa (K8 _) rfl (g ?_) | refine Aa (Mq _) rfl (g ?_) | refine Aa (Pz _) rfl (g ?_) | refine Aa (Zg _ _ iR) rfl (g ?_))
 ·rw [<-hB];simp at h;simp [Ao,Gj,h]
 ·rw [<-hB];simp at h;simp [Ao,Gj,h]
 ·rw [<-hB];simp at h;simp [Ao,Gj,h]
 ·rw [<-hB];simp at h;simp [Ao,Gj,h]
 have hP:Gj v=true:=by simp at *;simp [Gj, *]
 refine AW.loop (fun m:{m:Nat // m<=v.zones.length/\∀ x∈v.zones.take m,decide (V0 x.vec v.known=1)=true}=>⟨[(1,.ip [stI v.known,znI v.zones,wrI v.held,boI v.bodies,.val (.int .i64 v.room)]),(3,.val (.int .i64 (m.1:Nat)))],[]⟩) (fun m=>v.zones.length - m.1) ⟨0,Nat.zero_le _,fun x hx=>by simp at hx⟩ id ⟨⟨rfl,rfl,trivial⟩,trivial,List.nodup_nil⟩ fun ⟨m,hm,ht⟩=>?_
 refine g ?_
 repeat' (first | refine st_ rfl (g ?_) | refine Bk (fun h=>g ?_) (fun h=>g ?_))
 ·have hlt:m < v.zones.length:=by omega
  refine AW.drawn (ds:=[37,38,39,40,41,42,43,44,45,46]) (fin:=[]) (bs:=[0,0,0,0,0,0,0,0,0,0]) [⟨[],[],[],[],0⟩,⟨[(37,0)],[],[],[],0⟩,⟨[],[],[],[],0⟩,⟨[(38,1),(39,2)],[],[],[],0⟩,⟨[(40,3)],[],[],[],0⟩,⟨[(41,4)],[],[],[],0⟩,⟨[],[],[],[],0⟩,⟨[(43,6)],[],[],[],0⟩,⟨[(42,5),(44,7)],[],[],[],0⟩,⟨[(45,8)],[],[],[],0⟩] (by kernel_rfl) rfl (by kernel_rfl) rfl rfl rfl fun KD hKD=>?_
  refine g ?_
  repeat' (first | refine st_ rfl (g ?_) | refine Bk (fun h=>g ?_) (fun h=>g ?_) | (refine hKD _ _ ⟨rfl,g ?_⟩;clear hKD KD) | refine ix_ (by omega) (g ?_) | refine Aa (Xs _ _) rfl (g ?_))
  ·rw [<-hB];simp only [Ao];rw [Aa6 (p:=fun x=>decide (V0 x.vec v.known=1)) hlt (by simpa using h)];simp
  ·exact ⟨⟨m+1,hlt,Tz hlt ht (by simpa using h)⟩,id,⟨⟨rfl,rfl,trivial⟩,trivial,List.nodup_nil⟩,by show v.zones.length - (m+1) < v.zones.length - m;omega⟩
 obtain rfl:m=v.zones.length:=by omega
 rw [List.take_length] at ht
 have h1:(v.zones.all fun x=>decide (V0 x.vec v.known=1))=true:=List.all_eq_true.2 ht
 refine AW.loop (fun m:{m:Nat // m<=v.held.length/\∀ x∈v.held.take m,Fj v.zones v.known x=true}=>⟨[(1,.ip [stI v.known,znI v.zones,wrI v.held,boI v.bodies,.val (.int .i64 v.room)]),(4,.val (.int .i64 (m.1:Nat)))],[]⟩) (fun m=>v.held.length - m.1) ⟨0,Nat.zero_le _,fun x hx=>by simp at hx⟩ id ⟨⟨rfl,rfl,trivial⟩,trivial,List.nodup_nil⟩ fun ⟨m,hm,ht⟩=>?_
 refine g ?_
 repeat' (first | refine st_ rfl (g ?_) | refine Bk (fun h=>g ?_) (fun h=>g ?_))
 ·have hlt:m < v.held.length:=by omega
  refine AW.drawn (ds:=[54,55,56,57,58,59,60,61]) (fin:=[]) (bs:=[0,0,0,0,0,0,0,0]) [⟨[],[],[],[],0⟩,⟨[],[],[],[],0⟩,⟨[(55,1)],[],[],[],0⟩,⟨[],[],[],[],0⟩,⟨[(56,2),(57,3)],[],[],[],0⟩,⟨[(58,4)],[],[],[],0⟩,⟨[(54,0),(59,5)],[],[],[],0⟩,⟨[(60,6)],[],[],[],0⟩] (by kernel_rfl) rfl (by kernel_rfl) rfl rfl rfl fun KD hKD=>?_
  refine g ?_
  repeat' (first | refine st_ rfl (g ?_) | refine Cl (fun h=>g ?_) (fun h=>g ?_) | (refine hKD _ _ ⟨rfl,g ?_⟩;clear hKD KD) | refine ix_ (by omega) (g ?_) | refine Aa (Zd v _) rfl (g ?_))
  ·rw [<-hB];simp only [Ao];rw [Aa6 (p:=fun x=>Fj v.zones v.known x) hlt (by simpa using h)];simp
  ·exact ⟨⟨m+1,hlt,Tz hlt ht (by simpa using h)⟩,id,⟨⟨rfl,rfl,trivial⟩,trivial,List.nodup_nil⟩,by show v.held.length - (m+1) < v.held.length - m;omega⟩
 obtain rfl:m=v.held.length:=by omega
 rw [List.take_length] at ht
 have h2:(v.held.all fun x=>Fj v.zones v.known x)=true:=List.all_eq_true.2 ht
 refine AW.loop (fun m:{m:Nat // m<=v.bodies.length/\∀ x∈v.bodies.take m,F9 v.held x=true}=>⟨[(1,.ip [stI v.known,znI v.zones,wrI v.held,boI v.bodies,.val (.int .i64 v.room)]),(5,.val (.int .i64 (m.1:Nat)))],[]⟩) (fun m=>v.bodies.length - m.1) ⟨0,Nat.zero_le _,fun x hx=>by simp at hx⟩ id ⟨⟨rfl,rfl,trivial⟩,trivial,List.nodup_nil⟩ fun ⟨m,hm,ht⟩=>?_
 refine g ?_
 repeat' (first | refine st_ rfl (g ?_) | refine Bk (fun h=>g ?_) (fun h=>g ?_))
 ·have hlt:m < v.bodies.length:=by omega
  refine AW.drawn (ds:=[69,70,71,72,73,74,75,76]) (fin:=[]) (bs:=[0,0,0,0,0,0,0,0]) [⟨[],[],[],[],0⟩,⟨[],[],[],[],0⟩,⟨[(70,1)],[],[],[],0⟩,⟨[],[],[],[],0⟩,⟨[(71,2),(72,3)],[],[],[],0⟩,⟨[(73,4)],[],[],[],0⟩,⟨[(69,0),(74,5)],[],[],[],0⟩,⟨[(75,6)],[],[],[],0⟩] (by kernel_rfl) rfl (by kernel_rfl) rfl rfl rfl fun KD hKD=>?_
  refine g ?_
  repeat' (first | refine st_ rfl (g ?_) | refine Cl (fun h=>g ?_) (fun h=>g ?_) | (refine hKD _ _ ⟨rfl,g ?_⟩;clear hKD KD) | refine ix_ (by omega) (g ?_) | refine Aa (A61 v _) rfl (g ?_))
  ·rw [<-hB];simp only [Ao];rw [Aa6 (p:=fun x=>F9 v.held x) hlt (by simpa using h)];simp
  ·exact ⟨⟨m+1,hlt,Tz hlt ht (by simpa using h)⟩,id,⟨⟨rfl,rfl,trivial⟩,trivial,List.nodup_nil⟩,by show v.bodies.length - (m+1) < v.bodies.length - m;omega⟩
 obtain rfl:m=v.bodies.length:=by omega
 rw [List.take_length] at ht
 have h3:(v.bodies.all fun x=>F9 v.held x)=true:=List.all_eq_true.2 ht
 rw [<-hB]
 simp only [Ao]
 rw [hP,h1,h2,h3]
 rfl
end Go.Proofs.YthlgnjlpakimaaaGreatDoor
namespace Go.Proofs.YthlgnjlpakimaaaGreatDoor
open Go.ChangeShapes Go.WideShapes Go.ChangeAt Go.RowKit
attribute [local irreducible] AW AWY Bw Bc vop Bj Az Bi qop By Ce Ar Ap Bo A7 Bd C5 Pe
attribute [local go_sem] Eh Ai An
def Gg (a b:List Ad):Bool:=decide (0 < (D1 a b).length)
def Cu1 (v:Bz) (it:List Ad):List Ab:=if Ao v=true then Bo4 v.zones v.known it else []
end Go.Proofs.YthlgnjlpakimaaaGreatDoor
