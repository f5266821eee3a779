/- Whether two rows of spans share an object (the program's). -/
import Derived.Test.YtahgkllhbggmgaaGreatDoorLReached
import Derived.Test.YtahgkllhbggmgaaGreatDoorLRefThr
import Derived.Test.YtahgkllhbggmgaaGreatDoorLZones
import Derived.Test.YtahgkllhbggmgaaGreatDoorLTidy
set_option linter.all false
set_option linter.unnecessarySimpa false
set_option linter.unusedSimpArgs false
set_option linter.unusedVariables false
namespace Go.Proofs.YtahgkllhbggmgaaGreatDoor
open Go.ChangeShapes Go.WideShapes Go.ChangeAt Go.RowKit
attribute [local irreducible] AW AWY Be As vop Az Aq Ax qop Bd Bv Aj Ag Ay A7 Aw Du
attribute [local go_sem] Gr Eg Ez Dp Dz Ch Gu Fp Dx E6 Ae Af
theorem Ab4 {α:Type} {l:List α} {p:α->Bool} {m:Nat} (h:m < l.length) (hp:p l[m]=false):l.all p=false:=by
 rw [List.all_eq_false]
 exact ⟨l[m],List.getElem_mem h,by rw [hp];simp⟩
theorem Td {α:Type} {l:List α} {p:α->Bool} {m:Nat} (h:m < l.length) (ht:∀ x∈l.take m,p x=true) (hp:p l[m]=true):∀ x∈l.take (m+1),p x=true:=fun x hx=>by
 rw [List.take_succ_eq_append_getElem h] at hx
 rcases List.mem_append.1 hx with h1 | h1
 ·exact ht x h1
 ·rw [List.mem_singleton.1 h1];exact hp
set_option maxRecDepth 100000 in
set_option maxHeartbeats 1600000 in
theorem As3 (v:E8) (iR:I64 v.room):A7 Tryz.prog A8 76 [vwA v] (.val (.bool (At v))) []:=by
 refine A7.of (n:=77) (rs:=[.tmp 2]) Tryz.func76 rfl (by kernel_rfl) Tryz.ntmps76 (by kernel_rfl) (by simp) (fun _ _=>A8.later) ?_
 intro hok V w0
 have hz:v.zones.length<=1073741824:=by simpa [znI] using hok.1.2.1.1
 have hh:v.held.length<=1073741824:=by simpa [wrI] using hok.1.2.2.1.1
 have hb:v.bodies.length<=1073741824:=by simpa [boI] using hok.1.2.2.2.1.1
 obtain ⟨B,hB⟩ : ∃ B,At v=B:=⟨_,rfl⟩
 rw [hB]
 refine g ?_
 refine AW.seq ?_
 refine AW.reg rfl fun KK hKK=>?_
 refine g ?_
 repeat' (refine hKK _ (g ?_);clear hKK KK)
 refine AW.freeze 200 _ rfl ⟨trivial,trivial,trivial,trivial,iR,trivial⟩ ?_
 simp only [go_sem,reduceIte,Nat.reduceEqDiff]
 refine g ?_
 repeat' (first | refine st_ rfl (g ?_) | refine De (fun h=>g ?_) (fun h=>g ?_) | (refine E9 rfl rfl (fun h=>?_) (fun h=>?_)<;>simp only [h]<;>refine g ?_) | refine Aa (Gh _) rfl (g ?_) | refine Aa (Qt _) rfl (g ?_) | refine Aa (Xa _) rfl (g ?_) | refine Aa (Ze _ _ iR) rfl (g ?_))
 ·rw [<-hB];simp at h;simp [At,H8,h]
 ·rw [<-hB];simp at h;simp [At,H8,h]
 ·rw [<-hB];simp at h;simp [At,H8,h]
 ·rw [<-hB];simp at h;simp [At,H8,h]
 have hP:H8 v=true:=by simp at *;simp [H8, *]
 refine AW.loop (fun m:{m:Nat // m<=v.zones.length/\∀ x∈v.zones.take m,decide (Yo x.vec v.known=1)=true}=>⟨[(1,.ip [stI v.known,znI v.zones,wrI v.held,boI v.bodies,.val (.int .i64 v.room)]),(3,.val (.int .i64 (m.1:Nat)))],[]⟩) (fun m=>v.zones.length - m.1) ⟨0,Nat.zero_le _,fun x hx=>by simp at hx⟩ id ⟨⟨rfl,rfl,trivial⟩,trivial,List.nodup_nil⟩ fun ⟨m,hm,ht⟩=>?_
 refine g ?_
 repeat' (first | refine st_ rfl (g ?_) | refine Al (fun h=>g ?_) (fun h=>g ?_))
 ·have hlt:m < v.zones.length:=by omega
  refine AW.drawn (ds:=[37,38,39,40,41,42,43,44,45,46]) (fin:=[]) (bs:=[0,0,0,0,0,0,0,0,0,0]) [⟨[],[],[],[],0⟩,⟨[(37,0)],[],[],[],0⟩,⟨[],[],[],[],0⟩,⟨[(38,1),(39,2)],[],[],[],0⟩,⟨[(40,3)],[],[],[],0⟩,⟨[(41,4)],[],[],[],0⟩,⟨[],[],[],[],0⟩,⟨[(43,6)],[],[],[],0⟩,⟨[(42,5),(44,7)],[],[],[],0⟩,⟨[(45,8)],[],[],[],0⟩] (by kernel_rfl) rfl (by kernel_rfl) rfl rfl rfl fun KD hKD=>?_
  refine g ?_
  repeat' (first | refine st_ rfl (g ?_) | refine Al (fun h=>g ?_) (fun h=>g ?_) | (refine hKD _ _ ⟨rfl,g ?_⟩;clear hKD KD) | refine ix_ (by omega) (g ?_) | refine Aa (X8 _ _) rfl (g ?_))
  ·rw [<-hB];simp only [At];rw [Ab4 (p:=fun x=>decide (Yo x.vec v.known=1)) hlt (by simpa using h)];simp
  ·exact ⟨⟨m+1,hlt,Td hlt ht (by simpa using h)⟩,id,⟨⟨rfl,rfl,trivial⟩,trivial,List.nodup_nil⟩,by show v.zones.length - (m+1) < v.zones.length - m;omega⟩
 obtain rfl:m=v.zones.length:=by omega
 rw [List.take_length] at ht
 have h1:(v.zones.all fun x=>decide (Yo x.vec v.known=1))=true:=List.all_eq_true.2 ht
 refine AW.loop (fun m:{m:Nat // m<=v.held.length/\∀ x∈v.held.take m,Gj v.zones v.known x=true}=>⟨[(1,.ip [stI v.known,znI v.zones,wrI v.held,boI v.bodies,.val (.int .i64 v.room)]),(4,.val (.int .i64 (m.1:Nat)))],[]⟩) (fun m=>v.held.length - m.1) ⟨0,Nat.zero_le _,fun x hx=>by simp at hx⟩ id ⟨⟨rfl,rfl,trivial⟩,trivial,List.nodup_nil⟩ fun ⟨m,hm,ht⟩=>?_
 refine g ?_
 repeat' (first | refine st_ rfl (g ?_) | refine Al (fun h=>g ?_) (fun h=>g ?_))
 ·have hlt:m < v.held.length:=by omega
  refine AW.drawn (ds:=[54,55,56,57,58,59,60,61]) (fin:=[]) (bs:=[0,0,0,0,0,0,0,0]) [⟨[],[],[],[],0⟩,⟨[],[],[],[],0⟩,⟨[(55,1)],[],[],[],0⟩,⟨[],[],[],[],0⟩,⟨[(56,2),(57,3)],[],[],[],0⟩,⟨[(58,4)],[],[],[],0⟩,⟨[(54,0),(59,5)],[],[],[],0⟩,⟨[(60,6)],[],[],[],0⟩] (by kernel_rfl) rfl (by kernel_rfl) rfl rfl rfl fun KD hKD=>?_
  refine g ?_
  repeat' (first | refine st_ rfl (g ?_) | refine De (fun h=>g ?_) (fun h=>g ?_) | (refine hKD _ _ ⟨rfl,g ?_⟩;clear hKD KD) | refine ix_ (by omega) (g ?_) | refine Aa (Z9 v _) rfl (g ?_))
  ·rw [<-hB];simp only [At];rw [Ab4 (p:=fun x=>Gj v.zones v.known x) hlt (by simpa using h)];simp
  ·exact ⟨⟨m+1,hlt,Td hlt ht (by simpa using h)⟩,id,⟨⟨rfl,rfl,trivial⟩,trivial,List.nodup_nil⟩,by show v.held.length - (m+1) < v.held.length - m;omega⟩
 obtain rfl:m=v.held.length:=by omega
 rw [List.take_length] at ht
 have h2:(v.held.all fun x=>Gj v.zones v.known x)=true:=List.all_eq_true.2 ht
 refine AW.loop (fun m:{m:Nat // m<=v.bodies.length/\∀ x∈v.bodies.take m,Fb v.held x=true}=>⟨[(1,.ip [stI v.known,znI v.zones,wrI v.held,boI v.bodies,.val (.int .i64 v.room)]),(5,.val (.int .i64 (m.1:Nat)))],[]⟩) (fun m=>v.bodies.length - m.1) ⟨0,Nat.zero_le _,fun x hx=>by simp at hx⟩ id ⟨⟨rfl,rfl,trivial⟩,trivial,List.nodup_nil⟩ fun ⟨m,hm,ht⟩=>?_
 refine g ?_
 repeat' (first | refine st_ rfl (g ?_) | refine Al (fun h=>g ?_) (fun h=>g ?_))
 ·have hlt:m < v.bodies.length:=by omega
  refine AW.drawn (ds:=[69,70,71,72,73,74,75,76]) (fin:=[]) (bs:=[0,0,0,0,0,0,0,0]) [⟨[],[],[],[],0⟩,⟨[],[],[],[],0⟩,⟨[(70,1)],[],[],[],0⟩,⟨[],[],[],[],0⟩,⟨[(71,2),(72,3)],[],[],[],0⟩,⟨[(73,4)],[],[],[],0⟩,⟨[(69,0),(74,5)],[],[],[],0⟩,⟨[(75,6)],[],[],[],0⟩] (by kernel_rfl) rfl (by kernel_rfl) rfl rfl rfl fun KD hKD=>?_
  refine g ?_
  repeat' (first | refine st_ rfl (g ?_) | refine De (fun h=>g ?_) (fun h=>g ?_) | (refine hKD _ _ ⟨rfl,g ?_⟩;clear hKD KD) | refine ix_ (by omega) (g ?_) | refine Aa (A59 v _) rfl (g ?_))
  ·rw [<-hB];simp only [At];rw [Ab4 (p:=fun x=>Fb v.held x) hlt (by simpa using h)];simp
  ·exact ⟨⟨m+1,hlt,Td hlt ht (by simpa using h)⟩,id,⟨⟨rfl,rfl,trivial⟩,trivial,List.nodup_nil⟩,by show v.bodies.length - (m+1) < v.bodies.length - m;omega⟩
 obtain rfl:m=v.bodies.length:=by omega
 rw [List.take_length] at ht
 have h3:(v.bodies.all fun x=>Fb v.held x)=true:=List.all_eq_true.2 ht
 rw [<-hB]
 simp only [At]
 rw [hP,h1,h2,h3]
 rfl
end Go.Proofs.YtahgkllhbggmgaaGreatDoor
namespace Go.Proofs.YtahgkllhbggmgaaGreatDoor
open Go.ChangeShapes Go.WideShapes Go.ChangeAt Go.RowKit
attribute [local irreducible] Du Az4
attribute [local irreducible] AW AWY Be As vop Az Aq Ax qop Bd Bv Aj Ag Ay A7 Aw
attribute [local go_sem] Cf Rb Kl M6 Km Ch List.map_nil A80 List.length_nil
end Go.Proofs.YtahgkllhbggmgaaGreatDoor
namespace Go.Proofs.YtahgkllhbggmgaaGreatDoor
open Go.ChangeShapes Go.WideShapes Go.ChangeAt Go.RowKit
attribute [local irreducible] AW AWY Be As vop Az Aq Ax qop Bd Bv Aj Ag Ay A7 Aw Du Az4
attribute [local go_sem] Kl M6 Km
end Go.Proofs.YtahgkllhbggmgaaGreatDoor
namespace Go.Proofs.YtahgkllhbggmgaaGreatDoor
open Go.ChangeShapes Go.WideShapes Go.ChangeAt Go.RowKit
attribute [local irreducible] AW AWY Be As vop Az Aq Ax qop Bd Bv Aj Ag Ay A7 Aw Du Az4
attribute [local go_sem] Kl M6 Km
def To (z:List Bp) (known:List Ad) (it:List Ah):Nat->List (List Ad)
 | 0=>[]
 | m+1=>To z known it m++if Ba it m=true then [P3 z known m] else []
def C88 (z:List Bp) (known:List Ad) (it:List Ah):List Ad:=if Cw z=true/\B7 known=true then (if (To z known it 256).length=0 then known else Bm6 (To z known it 256)) else []
end Go.Proofs.YtahgkllhbggmgaaGreatDoor
namespace Go.Proofs.YtahgkllhbggmgaaGreatDoor
open Go.ChangeShapes Go.WideShapes Go.ChangeAt Go.RowKit
attribute [local irreducible] AW AWY Be As vop Az Aq Ax qop Bd Bv Aj Ag Ay A7 Aw
attribute [local go_sem] Ch Cf Ae Af
end Go.Proofs.YtahgkllhbggmgaaGreatDoor
namespace Go.Proofs.YtahgkllhbggmgaaGreatDoor
open Go.ChangeShapes Go.WideShapes Go.ChangeAt Go.RowKit
attribute [local irreducible] AW AWY Be As vop Az Aq Ax qop Bd Bv Aj Ag Ay A7 Aw Du Az4
attribute [local go_sem] E6 Ae Af
def Lq (a b:List Ah):Bool:=decide (0 < (Hc a b).length)
def C86 (v:E8) (it:List Ah):List Ad:=if At v=true then C88 v.zones v.known it else []
end Go.Proofs.YtahgkllhbggmgaaGreatDoor
namespace Go.Proofs.YtahgkllhbggmgaaGreatDoor
open Go.ChangeShapes Go.WideShapes Go.ChangeAt Go.RowKit
attribute [local irreducible] AW AWY Be As vop Az Aq Ax qop Bd Bv Aj Ag Ay A7 Aw Du Az4
attribute [local go_sem] Po Ae Af
theorem Aq9 (l:List Ah):A7 Tryz.prog A8 181 [.iv (spI l)] (.own 0) [.row 0 89 2 ((Cb l).map Po)] :=
 Gs (fun _ _ _ h=>A50 h) Tryz.func181 rfl (by kernel_rfl) fun V w E vs hV hG hr=>by
  obtain ⟨v0,rfl,h0⟩:=Hu hr
  exact Bh9 l _ w (Ky hV h0)
theorem Ar0 (l:List Ah):A7 Tryz.prog A8 181 [.iv (spI l)] (.iv (spI (Cb l))) []:=(Aq9 l).frz trivial
theorem L3:∀ {l:List Ah} {e:Int},Bg e l=true->∀ s∈l,e < s.lo/\s.lo<=s.hi/\s.hi<=255/\0<=s.lo
 | [],_,_,s,hs=>by simp at hs
 | x :: l,e,h,s,hs=>by
  obtain ⟨h1,h2⟩:=Bb.1 h
  rcases List.mem_cons.1 hs with rfl | hs
  ·omega
  ·have:=L3 h2 s hs
   omega
theorem Vd:∀ {l:List Ah} {e:Int},Bg e l=true->l.Pairwise fun s t=>s.hi < t.lo
 | [],_,_=>.nil
 | x :: l,e,h=>by
  obtain ⟨h1,h2⟩:=Bb.1 h
  exact .cons (fun t ht=>(L3 h2 t ht).1) (Vd h2)
theorem Wt (l:List Ah):∀ s∈Cb l,s.lo<=s.hi/\s.hi<=255/\0<=s.lo:=fun s hs=>(L3 (Ck _) s hs).2
def ovS (s t:Ah):Prop:=s.lo<=t.hi/\t.lo<=s.hi
theorem Qa (l:List Ah) {o:Nat} (ho:o < 256):Ba (Cb l) o=Ba l o:=Kv (fun o=>Ba l o) ho
theorem B66 {a b:List Ah} {s t:Ah} (hs:s∈Cb a) (ht:t∈Cb b) (h:ovS s t):Lq a b=true:=by
 have h1:=Wt a s hs
 have h2:=Wt b t ht
 obtain ⟨o,ho⟩ : ∃ o:Nat,(o:Int)=max s.lo t.lo:=⟨(max s.lo t.lo).toNat,by omega⟩
 obtain ⟨k1,k2⟩:=h
 have ho':o < 256:=by omega
 have m1:Ba a o=true:=by
  rw [<-Qa a ho',Ba,List.any_eq_true]
  exact ⟨s,hs,by simp;omega⟩
 have m2:Ba b o=true:=by
  rw [<-Qa b ho',Ba,List.any_eq_true]
  exact ⟨t,ht,by simp;omega⟩
 have m3:Ba (Hc a b) o=true:=by
  unfold Hc
  rw [Kv _ ho',m1,m2];rfl
 rw [Lq,decide_eq_true_eq]
 cases hc:Hc a b with
 | nil=>rw [hc] at m3;simp [Ba] at m3
 | cons x l=>simp
theorem Bg5 {a b:List Ah} (h:∀ s∈Cb a,∀ t∈Cb b,¬ ovS s t):Lq a b=false:=by
 rw [Lq,decide_eq_false_iff_not]
 intro hp
 obtain ⟨x,hx⟩ : ∃ x,x∈Hc a b:=by
  cases hc:Hc a b with
  | nil=>rw [hc] at hp;simp at hp
  | cons x l=>exact ⟨x,by simp⟩
 have hf:=(L3 (Ck _) x hx).2
 obtain ⟨o,ho⟩ : ∃ o:Nat,(o:Int)=x.lo:=⟨x.lo.toNat,by omega⟩
 have ho':o < 256:=by omega
 have m3:Ba (Hc a b) o=true:=by
  rw [Ba,List.any_eq_true]
  exact ⟨x,hx,by simp;omega⟩
 unfold Hc at m3
 rw [Kv _ ho',Bool.and_eq_true,<-Qa a ho',<-Qa b ho',Ba,Ba,List.any_eq_true,List.any_eq_true] at m3
 obtain ⟨⟨s,hs,h1⟩,⟨t,ht,h2⟩⟩:=m3
 simp at h1 h2
 exact h s hs t ht ⟨by omega,by omega⟩
theorem B25 {l m:List Ah} {i:Nat} (h:i < l.length) (hI:∀ s∈l.take i,∀ t∈m,¬ ovS s t) (hx:∀ t∈m,¬ ovS l[i] t):∀ s∈l.take (i+1),∀ t∈m,¬ ovS s t:=fun s hs=>by
 rw [List.take_succ_eq_append_getElem h] at hs
 rcases List.mem_append.1 hs with h1 | h1
 ·exact hI s h1
 ·rw [List.mem_singleton.1 h1];exact hx
theorem B92 {x:Ah} {l:List Ah} {j:Nat} (h:j < l.length) (hp:l.Pairwise fun s t=>s.hi < t.lo) (hf:∀ s∈l,s.lo<=s.hi) (hJ:∀ t∈l.take j,t.hi < x.lo) (hx:x.hi < l[j].lo):∀ t∈l,¬ ovS x t:=fun t ht hov=>by
 have e:l=l.take j++l[j] :: l.drop (j+1):=by rw [<-List.drop_eq_getElem_cons h,List.take_append_drop]
 rw [e] at ht
 rcases List.mem_append.1 ht with h1 | h1
 ·have:=hJ t h1
  have:=hov.1
  omega
 ·rcases List.mem_cons.1 h1 with rfl | h1
  ·have:=hov.2
   omega
  ·rw [e] at hp
   have hp2:=(List.pairwise_cons.1 (List.pairwise_append.1 hp).2.1).1 t h1
   have:=hf l[j] (List.getElem_mem h)
   have:=hov.2
   omega
set_option maxRecDepth 100000 in
theorem Ae6 (a b:List Ah):A7 Tryz.prog A8 98 [.iv (spI a),.iv (spI b)] (.val (.bool (Lq a b))) []:=by
 refine A7.of (n:=37) (rs:=[.tmp 4]) Tryz.func98 rfl (by kernel_rfl) Tryz.ntmps98 (by kernel_rfl) (by simp) (fun _ _=>A8.later) ?_
 intro hok V w0
 have hla:(Cb a).length<=1073741824:=Nat.le_trans (Tz _) (by decide)
 have hlb:(Cb b).length<=1073741824:=Nat.le_trans (Tz _) (by decide)
 obtain ⟨B,hB⟩ : ∃ B,Lq a b=B:=⟨_,rfl⟩
 rw [hB]
 refine g ?_
 repeat' (first | refine st_ rfl (g ?_) | refine Aa (Ar0 _) rfl (g ?_))
 unfold spI
 refine g ?_
 repeat' refine st_ rfl (g ?_)
 refine AW.loop (fun i:{i:Nat // i<=(Cb a).length/\∀ s∈(Cb a).take i,∀ t∈Cb b,¬ ovS s t}=>⟨[(1,.iv (spI b)),(10,.iv (.sl 2 ((Cb a).map Po))),(11,.val (.int .i64 ((Cb a).length:Nat))),(12,.val (.int .i64 (i.1:Nat)))],[]⟩) (fun i=>(Cb a).length - i.1) ⟨0,Nat.zero_le _,fun s hs=>by simp at hs⟩ id ⟨⟨rfl,rfl,rfl,rfl,trivial⟩,trivial,List.nodup_nil⟩ fun ⟨i,hi,hI⟩=>?_
 refine g ?_
 repeat' (first | refine st_ rfl (g ?_) | refine Al (fun h=>g ?_) (fun h=>g ?_) | refine ix_ (by omega) (g ?_) | refine Aa (Ar0 _) rfl (g ?_))
 ·have hlt:i < (Cb a).length:=by omega
  unfold spI
  refine g ?_
  repeat' refine st_ rfl (g ?_)
  refine AW.loop (fun j:{j:Nat // j<=(Cb b).length/\∀ t∈(Cb b).take j,t.hi < (Cb a)[i].lo}=>⟨[(1,.iv (spI b)),(6,.bp 700 0),(10,.iv (.sl 2 ((Cb a).map Po))),(11,.val (.int .i64 ((Cb a).length:Nat))),(12,.val (.int .i64 (i:Nat))),(17,.iv (.sl 2 ((Cb b).map Po))),(18,.val (.int .i64 ((Cb b).length:Nat))),(19,.val (.int .i64 (j.1:Nat)))],[.box 700 [.val (.int .i64 (Cb a)[i].lo),.val (.int .i64 (Cb a)[i].hi)]]⟩) (fun j=>(Cb b).length - j.1) ⟨0,Nat.zero_le _,fun s hs=>by simp at hs⟩ id ⟨⟨rfl,rfl,rfl,rfl,rfl,rfl,rfl,rfl,trivial⟩,⟨rfl,trivial⟩,by simp [Bw,BA.id]⟩ fun ⟨j,hj,hJ⟩=>?_
  refine g ?_
  repeat' (first | refine st_ rfl (g ?_) | refine Al (fun h=>g ?_) (fun h=>g ?_) | refine ix_ (by omega) (g ?_))
  ·refine ⟨⟨j+1,by omega,fun t ht=>?_⟩,id,⟨⟨rfl,rfl,rfl,rfl,rfl,rfl,rfl,rfl,trivial⟩,⟨rfl,trivial⟩,by simp [Bw,BA.id]⟩,by show (Cb b).length - (j+1) < (Cb b).length - j;omega⟩
   rw [List.take_succ_eq_append_getElem (by omega)] at ht
   rcases List.mem_append.1 ht with h1 | h1
   ·exact hJ t h1
   ·rw [List.mem_singleton.1 h1];omega
  ·exact ⟨⟨i+1,hlt,B25 hlt hI (B92 (by omega) (Vd (Ck _)) (fun s hs=>(Wt b s hs).1) hJ h)⟩,id,⟨⟨rfl,rfl,rfl,rfl,trivial⟩,trivial,List.nodup_nil⟩,by show (Cb a).length - (i+1) < (Cb a).length - i;omega⟩
  ·rw [<-hB]
   have hjt:j < (Cb b).length:=by omega
   exact (B66 (List.getElem_mem hlt) (List.getElem_mem hjt) ⟨by omega,by omega⟩).symm
  ·obtain rfl:j=(Cb b).length:=by omega
   rw [List.take_length] at hJ
   exact ⟨⟨i+1,hlt,B25 hlt hI fun t ht hov=>by have:=hJ t ht;have:=hov.1;omega⟩,id,⟨⟨rfl,rfl,rfl,rfl,trivial⟩,trivial,List.nodup_nil⟩,by show (Cb a).length - (i+1) < (Cb a).length - i;omega⟩
 ·obtain rfl:i=(Cb a).length:=by omega
  rw [List.take_length] at hI
  rw [<-hB,Bg5 hI]
end Go.Proofs.YtahgkllhbggmgaaGreatDoor
