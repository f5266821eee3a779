/- Whether two rows of spans share an object (the program's). -/
import Derived.Test.YthlgnjlpakimaaaGreatDoorQBlur
import Derived.Test.YthlgnjlpakimaaaGreatDoorQRefMrg
import Derived.Test.YthlgnjlpakimaaaGreatDoorQByte
import Derived.Test.YthlgnjlpakimaaaGreatDoorQRefThr
import Derived.Test.YthlgnjlpakimaaaGreatDoorQTidy
set_option linter.all false
set_option linter.unnecessarySimpa false
set_option linter.unusedSimpArgs false
set_option linter.unusedVariables false
namespace Go.Proofs.YthlgnjlpakimaaaGreatDoor
open Go.ChangeShapes Go.WideShapes Go.ChangeAt Go.RowKit
attribute [local irreducible] AW AWY Cd Bk vop C5 Bl Bz qop Cj Cv B4 Aw C4 A7 Bq Ct U0
attribute [local go_sem] Lg Mw Lh
end Go.Proofs.YthlgnjlpakimaaaGreatDoor
namespace Go.Proofs.YthlgnjlpakimaaaGreatDoor
open Go.ChangeShapes Go.WideShapes Go.ChangeAt Go.RowKit
attribute [local irreducible] AW AWY Cd Bk vop C5 Bl Bz qop Cj Cv B4 Aw C4 A7 Bq Ct U0
attribute [local go_sem] Lg Mw Lh
def A34 (z:List Av) (known:List Ab) (it:List Ad):Nat->List (List Ab)
 | 0=>[]
 | m+1=>A34 z known it m++if Al it m=true then [Kq z known m] else []
def Cr1 (z:List Av) (known:List Ab) (it:List Ad):List Ab:=if B7 z=true/\Ak known=true then (if (A34 z known it 256).length=0 then known else Cn8 (A34 z known it 256)) else []
end Go.Proofs.YthlgnjlpakimaaaGreatDoor
namespace Go.Proofs.YthlgnjlpakimaaaGreatDoor
open Go.ChangeShapes Go.WideShapes Go.ChangeAt Go.RowKit
attribute [local irreducible] AW AWY Cd Bk vop C5 Bl Bz qop Cj Cv B4 Aw C4 A7 Bq Ct
attribute [local go_sem] K9 Kc H8 J8 Fc Eh Jn Gp Gv Ei Ao As
theorem B13 {α:Type} {l:List α} {p:α->Bool} {m:Nat} (h:m < l.length) (hp:p l[m]=false):l.all p=false:=by
 rw [List.all_eq_false]
 exact ⟨l[m],List.getElem_mem h,by rw [hp];simp⟩
theorem A14 {α:Type} {l:List α} {p:α->Bool} {m:Nat} (h:m < l.length) (ht:∀ x∈l.take m,p x=true) (hp:p l[m]=true):∀ x∈l.take (m+1),p x=true:=fun x hx=>by
 rw [List.take_succ_eq_append_getElem h] at hx
 rcases List.mem_append.1 hx with h1 | h1
 ·exact ht x h1
 ·rw [List.mem_singleton.1 h1];exact hp
set_option maxRecDepth 100000 in
set_option maxHeartbeats 1600000 in
theorem Qf (v:B8) (iR:I64 v.room):A7 Tryz.prog A8 24 [vwA v] (.val (.bool (Af v))) []:=by
 refine A7.of (n:=77) (rs:=[.tmp 2]) Tryz.func24 rfl (by kernel_rfl) Tryz.ntmps24 (by kernel_rfl) (by simp) (fun _ _=>A8.later) ?_
 intro hok V w0
 have hz:v.zones.length<=1073741824:=by simpa [znI] using hok.1.2.1.1
 have hh:v.held.length<=1073741824:=by simpa [wrI] using hok.1.2.2.1.1
 have hb:v.bodies.length<=1073741824:=by simpa [boI] using hok.1.2.2.2.1.1
 obtain ⟨B,hB⟩ : ∃ B,Af v=B:=⟨_,rfl⟩
 rw [hB]
 refine g ?_
 refine AW.seq ?_
 refine AW.reg rfl fun KK hKK=>?_
 refine g ?_
 repeat' (refine hKK _ (g ?_);clear hKK KK)
 refine AW.freeze 200 _ rfl ⟨trivial,trivial,trivial,trivial,iR,trivial⟩ ?_
 simp only [go_sem,reduceIte,Nat.reduceEqDiff]
 refine g ?_
 repeat' (first | refine st_ rfl (g ?_) | refine C3 (fun h=>g ?_) (fun h=>g ?_) | (refine Ej rfl rfl (fun h=>?_) (fun h=>?_)<;>simp only [h]<;>refine g ?_) | refine A9 (Nc _) rfl (g ?_) | refine A9 (Rn _) rfl (g ?_) | refine A9 (Uu _) rfl (g ?_) | refine A9 (An5 _ _ iR) rfl (g ?_))
 ·rw [<-hB];simp at h;simp [Af,F9,h]
 ·rw [<-hB];simp at h;simp [Af,F9,h]
 ·rw [<-hB];simp at h;simp [Af,F9,h]
 ·rw [<-hB];simp at h;simp [Af,F9,h]
 have hP:F9 v=true:=by simp at *;simp [F9, *]
 refine AW.loop (fun m:{m:Nat // m<=v.zones.length/\∀ x∈v.zones.take m,decide (A64 x.vec v.known=1)=true}=>⟨[(1,.ip [stI v.known,znI v.zones,wrI v.held,boI v.bodies,.val (.int .i64 v.room)]),(3,.val (.int .i64 (m.1:Nat)))],[]⟩) (fun m=>v.zones.length - m.1) ⟨0,Nat.zero_le _,fun x hx=>by simp at hx⟩ id ⟨⟨rfl,rfl,trivial⟩,trivial,List.nodup_nil⟩ fun ⟨m,hm,ht⟩=>?_
 refine g ?_
 repeat' (first | refine st_ rfl (g ?_) | refine Az (fun h=>g ?_) (fun h=>g ?_))
 ·have hlt:m < v.zones.length:=by omega
  refine AW.drawn (ds:=[37,38,39,40,41,42,43,44,45,46]) (fin:=[]) (bs:=[0,0,0,0,0,0,0,0,0,0]) [⟨[],[],[],[],0⟩,⟨[(37,0)],[],[],[],0⟩,⟨[],[],[],[],0⟩,⟨[(38,1),(39,2)],[],[],[],0⟩,⟨[(40,3)],[],[],[],0⟩,⟨[(41,4)],[],[],[],0⟩,⟨[],[],[],[],0⟩,⟨[(43,6)],[],[],[],0⟩,⟨[(42,5),(44,7)],[],[],[],0⟩,⟨[(45,8)],[],[],[],0⟩] (by kernel_rfl) rfl (by kernel_rfl) rfl rfl rfl fun KD hKD=>?_
  refine g ?_
  repeat' (first | refine st_ rfl (g ?_) | refine Az (fun h=>g ?_) (fun h=>g ?_) | (refine hKD _ _ ⟨rfl,g ?_⟩;clear hKD KD) | refine ix_ (by omega) (g ?_) | refine A9 (Ag1 _ _) rfl (g ?_))
  ·rw [<-hB];simp only [Af];rw [B13 (p:=fun x=>decide (A64 x.vec v.known=1)) hlt (by simpa using h)];simp
  ·exact ⟨⟨m+1,hlt,A14 hlt ht (by simpa using h)⟩,id,⟨⟨rfl,rfl,trivial⟩,trivial,List.nodup_nil⟩,by show v.zones.length - (m+1) < v.zones.length - m;omega⟩
 obtain rfl:m=v.zones.length:=by omega
 rw [List.take_length] at ht
 have h1:(v.zones.all fun x=>decide (A64 x.vec v.known=1))=true:=List.all_eq_true.2 ht
 refine AW.loop (fun m:{m:Nat // m<=v.held.length/\∀ x∈v.held.take m,Df v.zones v.known x=true}=>⟨[(1,.ip [stI v.known,znI v.zones,wrI v.held,boI v.bodies,.val (.int .i64 v.room)]),(4,.val (.int .i64 (m.1:Nat)))],[]⟩) (fun m=>v.held.length - m.1) ⟨0,Nat.zero_le _,fun x hx=>by simp at hx⟩ id ⟨⟨rfl,rfl,trivial⟩,trivial,List.nodup_nil⟩ fun ⟨m,hm,ht⟩=>?_
 refine g ?_
 repeat' (first | refine st_ rfl (g ?_) | refine Az (fun h=>g ?_) (fun h=>g ?_))
 ·have hlt:m < v.held.length:=by omega
  refine AW.drawn (ds:=[54,55,56,57,58,59,60,61]) (fin:=[]) (bs:=[0,0,0,0,0,0,0,0]) [⟨[],[],[],[],0⟩,⟨[],[],[],[],0⟩,⟨[(55,1)],[],[],[],0⟩,⟨[],[],[],[],0⟩,⟨[(56,2),(57,3)],[],[],[],0⟩,⟨[(58,4)],[],[],[],0⟩,⟨[(54,0),(59,5)],[],[],[],0⟩,⟨[(60,6)],[],[],[],0⟩] (by kernel_rfl) rfl (by kernel_rfl) rfl rfl rfl fun KD hKD=>?_
  refine g ?_
  repeat' (first | refine st_ rfl (g ?_) | refine C3 (fun h=>g ?_) (fun h=>g ?_) | (refine hKD _ _ ⟨rfl,g ?_⟩;clear hKD KD) | refine ix_ (by omega) (g ?_) | refine A9 (An1 v _) rfl (g ?_))
  ·rw [<-hB];simp only [Af];rw [B13 (p:=fun x=>Df v.zones v.known x) hlt (by simpa using h)];simp
  ·exact ⟨⟨m+1,hlt,A14 hlt ht (by simpa using h)⟩,id,⟨⟨rfl,rfl,trivial⟩,trivial,List.nodup_nil⟩,by show v.held.length - (m+1) < v.held.length - m;omega⟩
 obtain rfl:m=v.held.length:=by omega
 rw [List.take_length] at ht
 have h2:(v.held.all fun x=>Df v.zones v.known x)=true:=List.all_eq_true.2 ht
 refine AW.loop (fun m:{m:Nat // m<=v.bodies.length/\∀ x∈v.bodies.take m,Dm v.held x=true}=>⟨[(1,.ip [stI v.known,znI v.zones,wrI v.held,boI v.bodies,.val (.int .i64 v.room)]),(5,.val (.int .i64 (m.1:Nat)))],[]⟩) (fun m=>v.bodies.length - m.1) ⟨0,Nat.zero_le _,fun x hx=>by simp at hx⟩ id ⟨⟨rfl,rfl,trivial⟩,trivial,List.nodup_nil⟩ fun ⟨m,hm,ht⟩=>?_
 refine g ?_
 repeat' (first | refine st_ rfl (g ?_) | refine Az (fun h=>g ?_) (fun h=>g ?_))
 ·have hlt:m < v.bodies.length:=by omega
  refine AW.drawn (ds:=[69,70,71,72,73,74,75,76]) (fin:=[]) (bs:=[0,0,0,0,0,0,0,0]) [⟨[],[],[],[],0⟩,⟨[],[],[],[],0⟩,⟨[(70,1)],[],[],[],0⟩,⟨[],[],[],[],0⟩,⟨[(71,2),(72,3)],[],[],[],0⟩,⟨[(73,4)],[],[],[],0⟩,⟨[(69,0),(74,5)],[],[],[],0⟩,⟨[(75,6)],[],[],[],0⟩] (by kernel_rfl) rfl (by kernel_rfl) rfl rfl rfl fun KD hKD=>?_
  refine g ?_
  repeat' (first | refine st_ rfl (g ?_) | refine C3 (fun h=>g ?_) (fun h=>g ?_) | (refine hKD _ _ ⟨rfl,g ?_⟩;clear hKD KD) | refine ix_ (by omega) (g ?_) | refine A9 (Aw3 v _) rfl (g ?_))
  ·rw [<-hB];simp only [Af];rw [B13 (p:=fun x=>Dm v.held x) hlt (by simpa using h)];simp
  ·exact ⟨⟨m+1,hlt,A14 hlt ht (by simpa using h)⟩,id,⟨⟨rfl,rfl,trivial⟩,trivial,List.nodup_nil⟩,by show v.bodies.length - (m+1) < v.bodies.length - m;omega⟩
 obtain rfl:m=v.bodies.length:=by omega
 rw [List.take_length] at ht
 have h3:(v.bodies.all fun x=>Dm v.held x)=true:=List.all_eq_true.2 ht
 rw [<-hB]
 simp only [Af]
 rw [hP,h1,h2,h3]
 rfl
end Go.Proofs.YthlgnjlpakimaaaGreatDoor
namespace Go.Proofs.YthlgnjlpakimaaaGreatDoor
open Go.ChangeShapes Go.WideShapes Go.ChangeAt Go.RowKit
attribute [local irreducible] AW AWY Cd Bk vop C5 Bl Bz qop Cj Cv B4 Aw C4 A7 Bq
attribute [local go_sem] Eh Ce Ao As
theorem Br1 (l m:List Ad):A7 Tryz.prog A8 168 [.iv (spI l),.iv (spI m)] (.iv (spI (Cw l m))) []:=(B64 l m).frz trivial
set_option maxHeartbeats 1600000 in
set_option maxRecDepth 100000 in
theorem Bj8 (a b:At) (it:List Ad):A7 Tryz.prog A8 101 [Ev a,Ev b,.iv (spI it)] (.val (.bool (Ph it a b))) []:=by
 refine A7.of (n:=35) (rs:=[.tmp 6]) Tryz.func101 rfl (by kernel_rfl) Tryz.ntmps101 (by kernel_rfl) (by simp) (fun _ _=>A8.later) ?_
 intro hok V w0
 have hla:a.writes.length<=1073741824:=by simpa using hok.1.2.2.2.1.1
 have hlb:b.writes.length<=1073741824:=by simpa using hok.2.1.2.2.2.1.1
 obtain ⟨B,hB⟩ : ∃ B,Ph it a b=B:=⟨_,rfl⟩
 rw [hB]
 unfold Ph at hB
 refine g ?_
 refine AW.seq ?_
 refine AW.reg rfl fun KK hKK=>?_
 refine g ?_
 repeat' (refine hKK _ (g ?_);clear hKK KK)
 refine AW.freeze 400 _ rfl ⟨trivial,trivial,trivial,trivial,trivial⟩ ?_
 simp only [go_sem,reduceIte,Nat.reduceEqDiff]
 refine AW.freeze 500 _ rfl ⟨trivial,trivial,trivial,trivial,trivial⟩ ?_
 simp only [go_sem,reduceIte,Nat.reduceEqDiff]
 refine g ?_
 repeat' refine st_ rfl (g ?_)
 refine AW.drawn (ds:=[7,8,9,10,11,12,13,14,15,16,17,18,19,20,21,22,23,24,25,26,27,28,29,30,31,32,33,34,6]) (fin:=[]) (bs:=[0,0,0,0,0,0,0,0,0,0,0,0,0,0,0,0,0,0,0,0,0,0,0,0,0,0,0,0,0]) [⟨[],[],[],[],0⟩,⟨[(7,0)],[],[],[],0⟩,⟨[(8,1)],[],[],[],0⟩,⟨[(9,2)],[],[],[],0⟩,⟨[(10,3)],[],[],[],0⟩,⟨[],[],[],[],0⟩,⟨[(12,5)],[],[],[],0⟩,⟨[(13,6)],[],[],[],0⟩,⟨[(14,7)],[],[],[],0⟩,⟨[(11,4),(15,8)],[],[],[],0⟩,⟨[(16,9)],[],[],[],0⟩,⟨[],[],[],[],0⟩,⟨[(18,11)],[],[],[],0⟩,⟨[],[],[],[],0⟩,⟨[(20,13)],[],[],[],0⟩,⟨[(19,12),(21,14)],[],[],[],0⟩,⟨[(17,10),(22,15)],[],[],[],0⟩,⟨[(23,16)],[],[],[],0⟩,⟨[],[],[],[],0⟩,⟨[(25,18)],[],[],[],0⟩,⟨[],[],[],[],0⟩,⟨[(26,19),(27,20)],[],[],[],0⟩,⟨[],[],[],[],0⟩,⟨[(29,22)],[],[],[],0⟩,⟨[],[],[],[],0⟩,⟨[(30,23),(31,24)],[],[],[],0⟩,⟨[(28,21),(32,25)],[],[],[],0⟩,⟨[(24,17),(33,26)],[],[],[],0⟩,⟨[(34,27)],[],[],[],0⟩] (by kernel_rfl) rfl (by kernel_rfl) rfl rfl rfl fun KD hKD=>?_
 refine g ?_
 by_cases wa:a.writes=[]
 ·have d1:decide ((a.writes.length:Int)=0)=true:=by simp [wa]
  rw [decide_eq_true wa,Bool.true_and] at hB
  simp only [d1]
  refine g ?_
  by_cases wb:b.writes=[]
  ·have d2:decide ((b.writes.length:Int)=0)=true:=by simp [wb]
   rw [decide_eq_true wb,Bool.true_and] at hB
   simp only [d2]
   refine g ?_
   refine A9 (Hg b.start a.end_) rfl ?_
   by_cases he:b.start=a.end_
   ·rw [decide_eq_true he.symm,Bool.true_and] at hB
    simp only [decide_eq_true he]
    refine g ?_
    refine A9 (Br1 a.blur it) rfl ?_
    refine g ?_
    refine A9 (Br1 b.blur it) rfl ?_
    refine g ?_
    refine A9 (Ut (Cw a.blur it) (Cw b.blur it)) rfl ?_
    rw [hB]
    refine g ?_
    repeat' (refine hKD _ _ ⟨rfl,g ?_⟩;clear hKD KD)
    refine g ?_
    repeat' refine st_ rfl (g ?_)
    first | exact trivial | exact ⟨.inl trivial,id,List.nodup_nil⟩ | exact ⟨.inl trivial,id,rfl,List.nodup_nil⟩
   ·obtain rfl:B=false:=by rw [<-hB,decide_eq_false (fun e=>he e.symm),Bool.false_and]
    simp only [decide_eq_false he]
    refine g ?_
    repeat' (refine hKD _ _ ⟨rfl,g ?_⟩;clear hKD KD)
    refine g ?_
    repeat' refine st_ rfl (g ?_)
    first | exact trivial | exact ⟨.inl trivial,id,List.nodup_nil⟩ | exact ⟨.inl trivial,id,rfl,List.nodup_nil⟩
  ·have d2:decide ((b.writes.length:Int)=0)=false:=by simp [wb]
   obtain rfl:B=false:=by rw [<-hB,decide_eq_false wb];rfl
   simp only [d2]
   refine g ?_
   repeat' (refine hKD _ _ ⟨rfl,g ?_⟩;clear hKD KD)
   refine g ?_
   repeat' refine st_ rfl (g ?_)
   first | exact trivial | exact ⟨.inl trivial,id,List.nodup_nil⟩ | exact ⟨.inl trivial,id,rfl,List.nodup_nil⟩
 ·have d1:decide ((a.writes.length:Int)=0)=false:=by simp [wa]
  obtain rfl:B=false:=by rw [<-hB,decide_eq_false wa];rfl
  simp only [d1]
  refine g ?_
  repeat' (refine hKD _ _ ⟨rfl,g ?_⟩;clear hKD KD)
  refine g ?_
  repeat' refine st_ rfl (g ?_)
  first | exact trivial | exact ⟨.inl trivial,id,List.nodup_nil⟩ | exact ⟨.inl trivial,id,rfl,List.nodup_nil⟩
end Go.Proofs.YthlgnjlpakimaaaGreatDoor
namespace Go.Proofs.YthlgnjlpakimaaaGreatDoor
open Go.ChangeShapes Go.WideShapes Go.ChangeAt Go.RowKit
attribute [local irreducible] AW AWY Cd Bk vop C5 Bl Bz qop Cj Cv B4 Aw C4 A7 Bq Ct U0
attribute [local go_sem] Ei Ao As
def Ko (a b:List Ad):Bool:=decide (0 < (Cw a b).length)
def Dy8 (v:B8) (it:List Ad):List Ab:=if Af v=true then Cr1 v.zones v.known it else []
end Go.Proofs.YthlgnjlpakimaaaGreatDoor
namespace Go.Proofs.YthlgnjlpakimaaaGreatDoor
open Go.ChangeShapes Go.WideShapes Go.ChangeAt Go.RowKit
attribute [local irreducible] AW AWY Cd Bk vop C5 Bl Bz qop Cj Cv B4 Aw C4 A7 Bq Ct U0
attribute [local go_sem] P9 Ao As
theorem Bh8 (l:List Ad):A7 Tryz.prog A8 189 [.iv (spI l)] (.own 0) [.row 0 66 2 ((Br l).map P9)] :=
 Dt (fun _ _ _ h=>Rm h) Tryz.func189 rfl (by kernel_rfl) fun V w E vs hV hG hr=>by
  obtain ⟨v0,rfl,h0⟩:=Jk hr
  exact Un l _ w (Fg hV h0)
theorem Bh9 (l:List Ad):A7 Tryz.prog A8 189 [.iv (spI l)] (.iv (spI (Br l))) []:=(Bh8 l).frz trivial
theorem N4:∀ {l:List Ad} {e:Int},Bj e l=true->∀ s∈l,e < s.lo/\s.lo<=s.hi/\s.hi<=255/\0<=s.lo
 | [],_,_,s,hs=>by simp at hs
 | x :: l,e,h,s,hs=>by
  obtain ⟨h1,h2⟩:=Be.1 h
  rcases List.mem_cons.1 hs with rfl | hs
  ·omega
  ·have:=N4 h2 s hs
   omega
theorem A95:∀ {l:List Ad} {e:Int},Bj e l=true->l.Pairwise fun s t=>s.hi < t.lo
 | [],_,_=>.nil
 | x :: l,e,h=>by
  obtain ⟨h1,h2⟩:=Be.1 h
  exact .cons (fun t ht=>(N4 h2 t ht).1) (A95 h2)
theorem Ae0 (l:List Ad):∀ s∈Br l,s.lo<=s.hi/\s.hi<=255/\0<=s.lo:=fun s hs=>(N4 (Bt _) s hs).2
def ovS (s t:Ad):Prop:=s.lo<=t.hi/\t.lo<=s.hi
theorem Wg (l:List Ad) {o:Nat} (ho:o < 256):Al (Br l) o=Al l o:=Cc (fun o=>Al l o) ho
theorem Bv2 {a b:List Ad} {s t:Ad} (hs:s∈Br a) (ht:t∈Br b) (h:ovS s t):Ko a b=true:=by
 have h1:=Ae0 a s hs
 have h2:=Ae0 b t ht
 obtain ⟨o,ho⟩ : ∃ o:Nat,(o:Int)=max s.lo t.lo:=⟨(max s.lo t.lo).toNat,by omega⟩
 obtain ⟨k1,k2⟩:=h
 have ho':o < 256:=by omega
 have m1:Al a o=true:=by
  rw [<-Wg a ho',Al,List.any_eq_true]
  exact ⟨s,hs,by simp;omega⟩
 have m2:Al b o=true:=by
  rw [<-Wg b ho',Al,List.any_eq_true]
  exact ⟨t,ht,by simp;omega⟩
 have m3:Al (Cw a b) o=true:=by
  unfold Cw
  rw [Cc _ ho',m1,m2];rfl
 rw [Ko,decide_eq_true_eq]
 cases hc:Cw a b with
 | nil=>rw [hc] at m3;simp [Al] at m3
 | cons x l=>simp
theorem C66 {a b:List Ad} (h:∀ s∈Br a,∀ t∈Br b,¬ ovS s t):Ko a b=false:=by
 rw [Ko,decide_eq_false_iff_not]
 intro hp
 obtain ⟨x,hx⟩ : ∃ x,x∈Cw a b:=by
  cases hc:Cw a b with
  | nil=>rw [hc] at hp;simp at hp
  | cons x l=>exact ⟨x,by simp⟩
 have hf:=(N4 (Bt _) x hx).2
 obtain ⟨o,ho⟩ : ∃ o:Nat,(o:Int)=x.lo:=⟨x.lo.toNat,by omega⟩
 have ho':o < 256:=by omega
 have m3:Al (Cw a b) o=true:=by
  rw [Al,List.any_eq_true]
  exact ⟨x,hx,by simp;omega⟩
 unfold Cw at m3
 rw [Cc _ ho',Bool.and_eq_true,<-Wg a ho',<-Wg b ho',Al,Al,List.any_eq_true,List.any_eq_true] at m3
 obtain ⟨⟨s,hs,h1⟩,⟨t,ht,h2⟩⟩:=m3
 simp at h1 h2
 exact h s hs t ht ⟨by omega,by omega⟩
theorem Bs1 {l m:List Ad} {i:Nat} (h:i < l.length) (hI:∀ s∈l.take i,∀ t∈m,¬ ovS s t) (hx:∀ t∈m,¬ ovS l[i] t):∀ s∈l.take (i+1),∀ t∈m,¬ ovS s t:=fun s hs=>by
 rw [List.take_succ_eq_append_getElem h] at hs
 rcases List.mem_append.1 hs with h1 | h1
 ·exact hI s h1
 ·rw [List.mem_singleton.1 h1];exact hx
theorem By6 {x:Ad} {l:List Ad} {j:Nat} (h:j < l.length) (hp:l.Pairwise fun s t=>s.hi < t.lo) (hf:∀ s∈l,s.lo<=s.hi) (hJ:∀ t∈l.take j,t.hi < x.lo) (hx:x.hi < l[j].lo):∀ t∈l,¬ ovS x t:=fun t ht hov=>by
 have e:l=l.take j++l[j] :: l.drop (j+1):=by rw [<-List.drop_eq_getElem_cons h,List.take_append_drop]
 rw [e] at ht
 rcases List.mem_append.1 ht with h1 | h1
 ·have:=hJ t h1
  have:=hov.1
  omega
 ·rcases List.mem_cons.1 h1 with rfl | h1
  ·have:=hov.2
   omega
  ·rw [e] at hp
   have hp2:=(List.pairwise_cons.1 (List.pairwise_append.1 hp).2.1).1 t h1
   have:=hf l[j] (List.getElem_mem h)
   have:=hov.2
   omega
set_option maxRecDepth 100000 in
theorem B42 (a b:List Ad):A7 Tryz.prog A8 150 [.iv (spI a),.iv (spI b)] (.val (.bool (Ko a b))) []:=by
 refine A7.of (n:=37) (rs:=[.tmp 4]) Tryz.func150 rfl (by kernel_rfl) Tryz.ntmps150 (by kernel_rfl) (by simp) (fun _ _=>A8.later) ?_
 intro hok V w0
 have hla:(Br a).length<=1073741824:=Nat.le_trans (Ez _) (by decide)
 have hlb:(Br b).length<=1073741824:=Nat.le_trans (Ez _) (by decide)
 obtain ⟨B,hB⟩ : ∃ B,Ko a b=B:=⟨_,rfl⟩
 rw [hB]
 refine g ?_
 repeat' (first | refine st_ rfl (g ?_) | refine A9 (Bh9 _) rfl (g ?_))
 unfold spI
 refine g ?_
 repeat' refine st_ rfl (g ?_)
 refine AW.loop (fun i:{i:Nat // i<=(Br a).length/\∀ s∈(Br a).take i,∀ t∈Br b,¬ ovS s t}=>⟨[(1,.iv (spI b)),(10,.iv (.sl 2 ((Br a).map P9))),(11,.val (.int .i64 ((Br a).length:Nat))),(12,.val (.int .i64 (i.1:Nat)))],[]⟩) (fun i=>(Br a).length - i.1) ⟨0,Nat.zero_le _,fun s hs=>by simp at hs⟩ id ⟨⟨rfl,rfl,rfl,rfl,trivial⟩,trivial,List.nodup_nil⟩ fun ⟨i,hi,hI⟩=>?_
 refine g ?_
 repeat' (first | refine st_ rfl (g ?_) | refine Az (fun h=>g ?_) (fun h=>g ?_) | refine ix_ (by omega) (g ?_) | refine A9 (Bh9 _) rfl (g ?_))
 ·have hlt:i < (Br a).length:=by omega
  unfold spI
  refine g ?_
  repeat' refine st_ rfl (g ?_)
  refine AW.loop (fun j:{j:Nat // j<=(Br b).length/\∀ t∈(Br b).take j,t.hi < (Br a)[i].lo}=>⟨[(1,.iv (spI b)),(6,.bp 700 0),(10,.iv (.sl 2 ((Br a).map P9))),(11,.val (.int .i64 ((Br a).length:Nat))),(12,.val (.int .i64 (i:Nat))),(17,.iv (.sl 2 ((Br b).map P9))),(18,.val (.int .i64 ((Br b).length:Nat))),(19,.val (.int .i64 (j.1:Nat)))],[.box 700 [.val (.int .i64 (Br a)[i].lo),.val (.int .i64 (Br a)[i].hi)]]⟩) (fun j=>(Br b).length - j.1) ⟨0,Nat.zero_le _,fun s hs=>by simp at hs⟩ id ⟨⟨rfl,rfl,rfl,rfl,rfl,rfl,rfl,rfl,trivial⟩,⟨rfl,trivial⟩,by simp [Aq,BA.id]⟩ fun ⟨j,hj,hJ⟩=>?_
  refine g ?_
  repeat' (first | refine st_ rfl (g ?_) | refine Az (fun h=>g ?_) (fun h=>g ?_) | refine ix_ (by omega) (g ?_))
  ·refine ⟨⟨j+1,by omega,fun t ht=>?_⟩,id,⟨⟨rfl,rfl,rfl,rfl,rfl,rfl,rfl,rfl,trivial⟩,⟨rfl,trivial⟩,by simp [Aq,BA.id]⟩,by show (Br b).length - (j+1) < (Br b).length - j;omega⟩
   rw [List.take_succ_eq_append_getElem (by omega)] at ht
   rcases List.mem_append.1 ht with h1 | h1
   ·exact hJ t h1
   ·rw [List.mem_singleton.1 h1];omega
  ·exact ⟨⟨i+1,hlt,Bs1 hlt hI (By6 (by omega) (A95 (Bt _)) (fun s hs=>(Ae0 b s hs).1) hJ h)⟩,id,⟨⟨rfl,rfl,rfl,rfl,trivial⟩,trivial,List.nodup_nil⟩,by show (Br a).length - (i+1) < (Br a).length - i;omega⟩
  ·rw [<-hB]
   have hjt:j < (Br b).length:=by omega
   exact (Bv2 (List.getElem_mem hlt) (List.getElem_mem hjt) ⟨by omega,by omega⟩).symm
  ·obtain rfl:j=(Br b).length:=by omega
   rw [List.take_length] at hJ
   exact ⟨⟨i+1,hlt,Bs1 hlt hI fun t ht hov=>by have:=hJ t ht;have:=hov.1;omega⟩,id,⟨⟨rfl,rfl,rfl,rfl,trivial⟩,trivial,List.nodup_nil⟩,by show (Br a).length - (i+1) < (Br a).length - i;omega⟩
 ·obtain rfl:i=(Br a).length:=by omega
  rw [List.take_length] at hI
  rw [<-hB,C66 hI]
end Go.Proofs.YthlgnjlpakimaaaGreatDoor
