/- Whether two rows of spans share an object (the program's). -/
import Derived.Test.YtblfjaedaijfoaaGreatDoorQLogWalk
import Derived.Test.YtblfjaedaijfoaaGreatDoorQAbsApp
import Derived.Test.YtblfjaedaijfoaaGreatDoorQBridge2
import Derived.Test.YtblfjaedaijfoaaGreatDoorQViewEnc
import Derived.Test.YtblfjaedaijfoaaGreatDoorQZones
import Derived.Test.YtblfjaedaijfoaaGreatDoorQByte
import Derived.Test.YtblfjaedaijfoaaGreatDoorQTidy
set_option linter.all false
set_option linter.unnecessarySimpa false
set_option linter.unusedSimpArgs false
set_option linter.unusedVariables false
namespace Go.Proofs.YtblfjaedaijfoaaGreatDoor
open Go.ChangeShapes Go.WideShapes Go.ChangeAt Go.RowKit
attribute [local irreducible] AW AWY Bo B4 vop Bj B7 Bf qop Bu C4 Aq Aj Bh A7 B9
attribute [local go_sem] Ae Af
def Dy1:AV:=.iv (.sl 4 [])
theorem Ak1:Dy1=.iv (.sl 4 []):=rfl
attribute [local go_sem] Ak1 List.length_nil
end Go.Proofs.YtblfjaedaijfoaaGreatDoor
namespace Go.Proofs.YtblfjaedaijfoaaGreatDoor
open Go.ChangeShapes Go.WideShapes Go.ChangeAt Go.RowKit
attribute [local irreducible] AW AWY Bo B4 vop Bj B7 Bf qop Bu C4 Aq Aj Bh A7 B9
attribute [local go_sem] C9 Ae Af Cm List.map_nil Ak1
end Go.Proofs.YtblfjaedaijfoaaGreatDoor
namespace Go.Proofs.YtblfjaedaijfoaaGreatDoor
open Go.ChangeShapes Go.WideShapes Go.ChangeAt Go.RowKit
attribute [local irreducible] Ge Bd5
attribute [local irreducible] AW AWY Bo B4 vop Bj B7 Bf qop Bu C4 Aq Aj Bh A7 B9
attribute [local go_sem] C9 Zp Po Rw Pp Cm List.map_nil Ak1 List.length_nil
theorem Lk:∀ {l:List Ab} (_:∀ s∈l,I64 s.count) (n:Int),I64 (Aa l n)
 | [],_,_=>rfl
 | s :: l,h,n=>by
  unfold Aa
  split
  ·exact h s (by simp)
  ·exact Lk (fun t ht=>h t (List.mem_cons_of_mem _ ht)) n
end Go.Proofs.YtblfjaedaijfoaaGreatDoor
namespace Go.Proofs.YtblfjaedaijfoaaGreatDoor
open Go.ChangeShapes Go.WideShapes Go.ChangeAt Go.RowKit
attribute [local irreducible] AW AWY Bo B4 vop Bj B7 Bf qop Bu C4 Aq Aj Bh A7 B9 Ge Bd5
attribute [local go_sem] Po Rw Pp
end Go.Proofs.YtblfjaedaijfoaaGreatDoor
namespace Go.Proofs.YtblfjaedaijfoaaGreatDoor
open Go.ChangeShapes Go.WideShapes Go.ChangeAt Go.RowKit
attribute [local irreducible] AW AWY Bo B4 vop Bj B7 Bf qop Bu C4 Aq Aj Bh A7 B9 Ge Bd5
attribute [local go_sem] Po Rw Pp
def Wn (z:List At) (known:List Ab) (it:List Ao):Nat->List (List Ab)
 | 0=>[]
 | m+1=>Wn z known it m++if Bm it m=true then [Ng z known m] else []
def Ch7 (z:List At) (known:List Ab) (it:List Ao):List Ab:=if Az z=true/\Ak known=true then (if (Wn z known it 256).length=0 then known else Ce0 (Wn z known it 256)) else []
end Go.Proofs.YtblfjaedaijfoaaGreatDoor
namespace Go.Proofs.YtblfjaedaijfoaaGreatDoor
open Go.ChangeShapes Go.WideShapes Go.ChangeAt Go.RowKit
attribute [local irreducible] AW AWY Bo B4 vop Bj B7 Bf qop Bu C4 Aq Aj Bh A7 B9 Ge
attribute [local go_sem] Hv Dq G6 Cv Eb Cm Jc Hr Db Dk Ae Af
theorem An4 {α:Type} {l:List α} {p:α->Bool} {m:Nat} (h:m < l.length) (hp:p l[m]=false):l.all p=false:=by
 rw [List.all_eq_false]
 exact ⟨l[m],List.getElem_mem h,by rw [hp];simp⟩
theorem Vy {α:Type} {l:List α} {p:α->Bool} {m:Nat} (h:m < l.length) (ht:∀ x∈l.take m,p x=true) (hp:p l[m]=true):∀ x∈l.take (m+1),p x=true:=fun x hx=>by
 rw [List.take_succ_eq_append_getElem h] at hx
 rcases List.mem_append.1 hx with h1 | h1
 ·exact ht x h1
 ·rw [List.mem_singleton.1 h1];exact hp
set_option maxRecDepth 100000 in
set_option maxHeartbeats 1600000 in
theorem B59 (v:Cr) (iR:I64 v.room):A7 Tryz.prog A8 43 [vwA v] (.val (.bool (Am v))) []:=by
 refine A7.of (n:=77) (rs:=[.tmp 2]) Tryz.func43 rfl (by kernel_rfl) Tryz.ntmps43 (by kernel_rfl) (by simp) (fun _ _=>A8.later) ?_
 intro hok V w0
 have hz:v.zones.length<=1073741824:=by simpa [znI] using hok.1.2.1.1
 have hh:v.held.length<=1073741824:=by simpa [wrI] using hok.1.2.2.1.1
 have hb:v.bodies.length<=1073741824:=by simpa [boI] using hok.1.2.2.2.1.1
 obtain ⟨B,hB⟩ : ∃ B,Am v=B:=⟨_,rfl⟩
 rw [hB]
 refine g ?_
 refine AW.seq ?_
 refine AW.reg rfl fun KK hKK=>?_
 refine g ?_
 repeat' (refine hKK _ (g ?_);clear hKK KK)
 refine AW.freeze 200 _ rfl ⟨trivial,trivial,trivial,trivial,iR,trivial⟩ ?_
 simp only [go_sem,reduceIte,Nat.reduceEqDiff]
 refine g ?_
 repeat' (first | refine st_ rfl (g ?_) | refine Cy (fun h=>g ?_) (fun h=>g ?_) | (refine Cn rfl rfl (fun h=>?_) (fun h=>?_)<;>simp only [h]<;>refine g ?_) | refine A9 (L6 _) rfl (g ?_) | refine A9 (T4 _) rfl (g ?_) | refine A9 (A02 _) rfl (g ?_) | refine A9 (A80 _ _ iR) rfl (g ?_))
 ·rw [<-hB];simp at h;simp [Am,Fq,h]
 ·rw [<-hB];simp at h;simp [Am,Fq,h]
 ·rw [<-hB];simp at h;simp [Am,Fq,h]
 ·rw [<-hB];simp at h;simp [Am,Fq,h]
 have hP:Fq v=true:=by simp at *;simp [Fq, *]
 refine AW.loop (fun m:{m:Nat // m<=v.zones.length/\∀ x∈v.zones.take m,decide (Xc x.vec v.known=1)=true}=>⟨[(1,.ip [stI v.known,znI v.zones,wrI v.held,boI v.bodies,.val (.int .i64 v.room)]),(3,.val (.int .i64 (m.1:Nat)))],[]⟩) (fun m=>v.zones.length - m.1) ⟨0,Nat.zero_le _,fun x hx=>by simp at hx⟩ id ⟨⟨rfl,rfl,trivial⟩,trivial,List.nodup_nil⟩ fun ⟨m,hm,ht⟩=>?_
 refine g ?_
 repeat' (first | refine st_ rfl (g ?_) | refine Al (fun h=>g ?_) (fun h=>g ?_))
 ·have hlt:m < v.zones.length:=by omega
  refine AW.drawn (ds:=[37,38,39,40,41,42,43,44,45,46]) (fin:=[]) (bs:=[0,0,0,0,0,0,0,0,0,0]) [⟨[],[],[],[],0⟩,⟨[(37,0)],[],[],[],0⟩,⟨[],[],[],[],0⟩,⟨[(38,1),(39,2)],[],[],[],0⟩,⟨[(40,3)],[],[],[],0⟩,⟨[(41,4)],[],[],[],0⟩,⟨[],[],[],[],0⟩,⟨[(43,6)],[],[],[],0⟩,⟨[(42,5),(44,7)],[],[],[],0⟩,⟨[(45,8)],[],[],[],0⟩] (by kernel_rfl) rfl (by kernel_rfl) rfl rfl rfl fun KD hKD=>?_
  refine g ?_
  repeat' (first | refine st_ rfl (g ?_) | refine Al (fun h=>g ?_) (fun h=>g ?_) | (refine hKD _ _ ⟨rfl,g ?_⟩;clear hKD KD) | refine ix_ (by omega) (g ?_) | refine A9 (A00 _ _) rfl (g ?_))
  ·rw [<-hB];simp only [Am];rw [An4 (p:=fun x=>decide (Xc x.vec v.known=1)) hlt (by simpa using h)];simp
  ·exact ⟨⟨m+1,hlt,Vy hlt ht (by simpa using h)⟩,id,⟨⟨rfl,rfl,trivial⟩,trivial,List.nodup_nil⟩,by show v.zones.length - (m+1) < v.zones.length - m;omega⟩
 obtain rfl:m=v.zones.length:=by omega
 rw [List.take_length] at ht
 have h1:(v.zones.all fun x=>decide (Xc x.vec v.known=1))=true:=List.all_eq_true.2 ht
 refine AW.loop (fun m:{m:Nat // m<=v.held.length/\∀ x∈v.held.take m,Dx v.zones v.known x=true}=>⟨[(1,.ip [stI v.known,znI v.zones,wrI v.held,boI v.bodies,.val (.int .i64 v.room)]),(4,.val (.int .i64 (m.1:Nat)))],[]⟩) (fun m=>v.held.length - m.1) ⟨0,Nat.zero_le _,fun x hx=>by simp at hx⟩ id ⟨⟨rfl,rfl,trivial⟩,trivial,List.nodup_nil⟩ fun ⟨m,hm,ht⟩=>?_
 refine g ?_
 repeat' (first | refine st_ rfl (g ?_) | refine Al (fun h=>g ?_) (fun h=>g ?_))
 ·have hlt:m < v.held.length:=by omega
  refine AW.drawn (ds:=[54,55,56,57,58,59,60,61]) (fin:=[]) (bs:=[0,0,0,0,0,0,0,0]) [⟨[],[],[],[],0⟩,⟨[],[],[],[],0⟩,⟨[(55,1)],[],[],[],0⟩,⟨[],[],[],[],0⟩,⟨[(56,2),(57,3)],[],[],[],0⟩,⟨[(58,4)],[],[],[],0⟩,⟨[(54,0),(59,5)],[],[],[],0⟩,⟨[(60,6)],[],[],[],0⟩] (by kernel_rfl) rfl (by kernel_rfl) rfl rfl rfl fun KD hKD=>?_
  refine g ?_
  repeat' (first | refine st_ rfl (g ?_) | refine Cy (fun h=>g ?_) (fun h=>g ?_) | (refine hKD _ _ ⟨rfl,g ?_⟩;clear hKD KD) | refine ix_ (by omega) (g ?_) | refine A9 (A75 v _) rfl (g ?_))
  ·rw [<-hB];simp only [Am];rw [An4 (p:=fun x=>Dx v.zones v.known x) hlt (by simpa using h)];simp
  ·exact ⟨⟨m+1,hlt,Vy hlt ht (by simpa using h)⟩,id,⟨⟨rfl,rfl,trivial⟩,trivial,List.nodup_nil⟩,by show v.held.length - (m+1) < v.held.length - m;omega⟩
 obtain rfl:m=v.held.length:=by omega
 rw [List.take_length] at ht
 have h2:(v.held.all fun x=>Dx v.zones v.known x)=true:=List.all_eq_true.2 ht
 refine AW.loop (fun m:{m:Nat // m<=v.bodies.length/\∀ x∈v.bodies.take m,Fw v.held x=true}=>⟨[(1,.ip [stI v.known,znI v.zones,wrI v.held,boI v.bodies,.val (.int .i64 v.room)]),(5,.val (.int .i64 (m.1:Nat)))],[]⟩) (fun m=>v.bodies.length - m.1) ⟨0,Nat.zero_le _,fun x hx=>by simp at hx⟩ id ⟨⟨rfl,rfl,trivial⟩,trivial,List.nodup_nil⟩ fun ⟨m,hm,ht⟩=>?_
 refine g ?_
 repeat' (first | refine st_ rfl (g ?_) | refine Al (fun h=>g ?_) (fun h=>g ?_))
 ·have hlt:m < v.bodies.length:=by omega
  refine AW.drawn (ds:=[69,70,71,72,73,74,75,76]) (fin:=[]) (bs:=[0,0,0,0,0,0,0,0]) [⟨[],[],[],[],0⟩,⟨[],[],[],[],0⟩,⟨[(70,1)],[],[],[],0⟩,⟨[],[],[],[],0⟩,⟨[(71,2),(72,3)],[],[],[],0⟩,⟨[(73,4)],[],[],[],0⟩,⟨[(69,0),(74,5)],[],[],[],0⟩,⟨[(75,6)],[],[],[],0⟩] (by kernel_rfl) rfl (by kernel_rfl) rfl rfl rfl fun KD hKD=>?_
  refine g ?_
  repeat' (first | refine st_ rfl (g ?_) | refine Cy (fun h=>g ?_) (fun h=>g ?_) | (refine hKD _ _ ⟨rfl,g ?_⟩;clear hKD KD) | refine ix_ (by omega) (g ?_) | refine A9 (Ai0 v _) rfl (g ?_))
  ·rw [<-hB];simp only [Am];rw [An4 (p:=fun x=>Fw v.held x) hlt (by simpa using h)];simp
  ·exact ⟨⟨m+1,hlt,Vy hlt ht (by simpa using h)⟩,id,⟨⟨rfl,rfl,trivial⟩,trivial,List.nodup_nil⟩,by show v.bodies.length - (m+1) < v.bodies.length - m;omega⟩
 obtain rfl:m=v.bodies.length:=by omega
 rw [List.take_length] at ht
 have h3:(v.bodies.all fun x=>Fw v.held x)=true:=List.all_eq_true.2 ht
 rw [<-hB]
 simp only [Am]
 rw [hP,h1,h2,h3]
 rfl
end Go.Proofs.YtblfjaedaijfoaaGreatDoor
namespace Go.Proofs.YtblfjaedaijfoaaGreatDoor
open Go.ChangeShapes Go.WideShapes Go.ChangeAt Go.RowKit
attribute [local irreducible] AW AWY Bo B4 vop Bj B7 Bf qop Bu C4 Aq Aj Bh A7 B9
attribute [local go_sem] Cm C9 Ae Af
end Go.Proofs.YtblfjaedaijfoaaGreatDoor
namespace Go.Proofs.YtblfjaedaijfoaaGreatDoor
open Go.ChangeShapes Go.WideShapes Go.ChangeAt Go.RowKit
attribute [local irreducible] AW AWY Bo B4 vop Bj B7 Bf qop Bu C4 Aq Aj Bh A7 B9 Ge Bd5
attribute [local go_sem] Dk Ae Af
def Bu7 (a b:List Ao):Bool:=decide (0 < (J9 a b).length)
def Ch5 (v:Cr) (it:List Ao):List Ab:=if Am v=true then Ch7 v.zones v.known it else []
end Go.Proofs.YtblfjaedaijfoaaGreatDoor
namespace Go.Proofs.YtblfjaedaijfoaaGreatDoor
open Go.ChangeShapes Go.WideShapes Go.ChangeAt Go.RowKit
attribute [local irreducible] AW AWY Bo B4 vop Bj B7 Bf qop Bu C4 Aq Aj Bh A7 B9 Ge Bd5
attribute [local go_sem] Nl Ae Af
theorem B42 (l:List Ao):A7 Tryz.prog A8 306 [.iv (spI l)] (.own 0) [.row 0 121 2 ((En l).map Nl)] :=
 El (fun _ _ _ h=>Ts h) Tryz.func306 rfl (by kernel_rfl) fun V w E vs hV hG hr=>by
  obtain ⟨v0,rfl,h0⟩:=H6 hr
  exact Qp l _ w (Ji hV h0)
theorem Ch1 (l:List Ao):A7 Tryz.prog A8 306 [.iv (spI l)] (.iv (spI (En l))) []:=(B42 l).frz trivial
theorem A46:∀ {l:List Ao} {e:Int},Bb e l=true->∀ s∈l,e < s.lo/\s.lo<=s.hi/\s.hi<=255/\0<=s.lo
 | [],_,_,s,hs=>by simp at hs
 | x :: l,e,h,s,hs=>by
  obtain ⟨h1,h2⟩:=Be.1 h
  rcases List.mem_cons.1 hs with rfl | hs
  ·omega
  ·have:=A46 h2 s hs
   omega
def ovS (s t:Ao):Prop:=s.lo<=t.hi/\t.lo<=s.hi
end Go.Proofs.YtblfjaedaijfoaaGreatDoor
