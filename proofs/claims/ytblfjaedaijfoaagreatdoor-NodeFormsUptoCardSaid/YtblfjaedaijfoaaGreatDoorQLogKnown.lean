/- Logs: told one by one. -/
import Derived.Test.YtblfjaedaijfoaaGreatDoorQLogWalk
set_option linter.all false
set_option linter.unnecessarySimpa false
set_option linter.unusedSimpArgs false
set_option linter.unusedVariables false
namespace Go.Proofs.YtblfjaedaijfoaaGreatDoor
open Go.ChangeShapes Go.WideShapes Go.ChangeAt Go.RowKit
attribute [local irreducible] AW AWY Bo B4 vop Bj B7 Bf qop Bu C4 Aq Aj Bh A7 B9
attribute [local go_sem] G2 Ms Ef C9 Ae Af
theorem Vi (l:Log) (iS:I64 l.sure):A7 Tryz.prog A8 34 [Q4 l] (.val (.bool (Cf l))) []:=by
 refine A7.of (n:=11) (rs:=[.tmp 2]) Tryz.func34 rfl (by kernel_rfl) Tryz.ntmps34 (by kernel_rfl) (by simp) (fun _ _=>A8.later) ?_
 intro hok V w0
 refine g ?_
 refine g ?_
 repeat' refine st_ rfl (g ?_)
 refine A9 (B96 l iS) rfl ?_
 refine g ?_
 repeat' refine st_ rfl (g ?_)
 first | exact trivial | exact ⟨.inl trivial,id,List.nodup_nil⟩ | rfl
theorem A18 (x:Bc):A7 Tryz.prog A8 223 [Ft x] (Ft x) []:=by
 refine A7.of (n:=16) (rs:=[.cell 2 98]) Tryz.func223 rfl (by kernel_rfl) Tryz.ntmps223 (by kernel_rfl) (by simp) (fun _ _=>A8.later) ?_
 intro hok V w0
 refine g ?_
 refine AW.seq ?_
 refine AW.reg rfl fun KK hKK=>?_
 refine g ?_
 repeat' (refine hKK _ (g ?_);clear hKK KK)
 refine AW.freeze 200 _ rfl (by simp [okB,J2,okA]) ?_
 simp only [go_sem,reduceIte]
 refine g ?_
 repeat' refine st_ rfl (g ?_)
 refine AW.drawn (ds:=[3,4,5,6,7,8,9,10,11,12,13,14,15]) (fin:=[1]) (bs:=[1,1,1,1,1,1,1,1,1,1,1,1,1,1]) [⟨[],[],[],[],0⟩,⟨[(3,0)],[],[0],[],0⟩,⟨[(4,1)],[],[0],[],0⟩,⟨[],[],[],[],0⟩,⟨[(6,3)],[],[0],[],0⟩,⟨[(7,4)],[],[0],[],0⟩,⟨[],[],[],[],0⟩,⟨[(9,6)],[],[0],[],0⟩,⟨[(10,7)],[],[0],[],0⟩,⟨[],[],[],[],0⟩,⟨[(12,9)],[],[0],[],0⟩,⟨[(13,10)],[],[0],[],0⟩,⟨[(5,2),(8,5),(11,8),(14,11)],[],[],[],0⟩,⟨[(15,12)],[],[],[0],1⟩] (by kernel_rfl) rfl (by kernel_rfl) rfl rfl rfl fun KD hKD=>?_
 refine g ?_
 refine A9 (Ko x.start) rfl ?_
 refine g ?_
 refine A9 (Ko x.end_) rfl ?_
 refine g ?_
 refine A9 (B00 x.blur) rfl ?_
 refine g ?_
 refine A9 (Bi6 x.writes) rfl ?_
 refine g ?_
 repeat' (first | refine st_ rfl (g ?_) | (refine hKD _ _ ⟨rfl,g ?_⟩;clear hKD KD))
 first | exact trivial | exact ⟨.inl trivial,id,List.nodup_nil⟩ | rfl
end Go.Proofs.YtblfjaedaijfoaaGreatDoor
namespace Go.Proofs.YtblfjaedaijfoaaGreatDoor
open Go.ChangeShapes Go.WideShapes Go.ChangeAt Go.RowKit
attribute [local irreducible] AW AWY Bo B4 vop Bj B7 Bf qop Bu C4 Aq Aj Bh A7 B9
attribute [local go_sem] G2 Ms Ef C9 Ae Af
def A35 (l:Log):AV:=if Cf l=true then .iv (stI (Bk l.base l.notes)) else .any
set_option maxHeartbeats 1600000 in
set_option maxRecDepth 100000 in
theorem Y6 (l:Log) (iS:I64 l.sure):A7 Tryz.prog A8 107 [Q4 l] (.tup [A35 l,.val (.bool (Cf l))]) []:=by
 refine A7.ofS (n:=49) (rs:=[.tmp 2,.tmp 3]) Tryz.func107 rfl (by kernel_rfl) Tryz.ntmps107 (by kernel_rfl) (by simp) (fun _ _=>A8.later) ?_
 intro hok V w0
 have hlen:l.notes.length<=1073741824:=by simpa using hok.1.2.1.1
 obtain ⟨B,hB⟩ : ∃ B,Cf l=B:=⟨_,rfl⟩
 obtain ⟨KN,hKN⟩ : ∃ KN,A35 l=KN:=⟨_,rfl⟩
 rw [hKN,hB]
 unfold A35 at hKN
 rw [hB] at hKN
 rw [Ra] at hB
 refine g ?_
 refine AW.seq ?_
 refine AW.reg rfl fun KK hKK=>?_
 refine g ?_
 repeat' (refine hKK _ (g ?_);clear hKK KK)
 refine AW.freeze 200 _ rfl ⟨trivial,trivial,iS,trivial⟩ ?_
 simp only [go_sem,reduceIte]
 refine g ?_
 repeat' refine st_ rfl (g ?_)
 refine bs1 (by omega) rfl rfl rfl ⟨trivial,trivial⟩ ?_
 refine g ?_
 refine Np (Mb [l.base]) (by trivial) rfl (Rg (Z4 _)) (by exact Sbs.rfl_ _) rfl ?_
 refine g ?_
 refine AW.freeze 1000 _ rfl trivial ?_
 simp only [go_sem,reduceIte]
 refine g ?_
 repeat' refine st_ rfl (g ?_)
 refine AW.loop (fun m:{m:Nat // m<=l.notes.length/\Cs (Di [l.base]) (l.notes.take m)=true}=>⟨[(1,.ip [stI l.base,noI l.notes,.val (.int .i64 l.sure)]),(2,.iv (stI (Bk (Di [l.base]) (l.notes.take m.1)))),(11,.iv (noI l.notes)),(12,.val (.int .i64 (l.notes.length:Nat))),(13,.val (.int .i64 m.1))],[]⟩) (fun m=>l.notes.length - m.1) ⟨0,Nat.zero_le _,rfl⟩ id (by simp [LeS,go_sem,Bk,stI,noI]) fun ⟨m,hm,ht⟩=>?_
 have hsp:∀ (hlt:m < l.notes.length),l.notes=l.notes.take m++l.notes[m] :: l.notes.drop (m+1):=fun hlt=>by rw [<-List.drop_eq_getElem_cons hlt,List.take_append_drop]
 refine g ?_
 repeat' (first | refine st_ rfl (g ?_) | refine Cy (fun h=>g ?_) (fun h=>g ?_))
 ·have hlt:m < l.notes.length:=by simpa using h
  have hs2:Cs (Di [l.base]) l.notes=((Ax l.notes[m]&&Aw (Bk (Di [l.base]) (l.notes.take m)) l.notes[m].start)&&Cs (Di [Bk (Di [l.base]) (l.notes.take m),l.notes[m].end_]) (l.notes.drop (m+1))):=by
   conv=>lhs;rw [hsp hlt]
   rw [E5,ht,Bool.true_and];rfl
  refine ⟨by omega,_,Cx (List.getElem?_eq_getElem hlt),?_⟩
  refine g ?_
  repeat' (first | refine st_ rfl (g ?_) | refine Bi (g ?_))
  refine A9 (J4 l.notes[m]) rfl ?_
  cases hf:Ax l.notes[m]
  ·refine g ?_
   repeat' refine st_ rfl (g ?_)
   obtain rfl:B=false:=by rw [<-hB,hs2,hf];rfl
   obtain rfl:KN=.any:=hKN.symm
   first | exact ⟨.inl trivial,id,De,List.nodup_nil⟩ | exact De
  refine g ?_
  refine A9 (Q2 l.notes[m] _) rfl ?_
  cases hc:Aw (Bk (Di [l.base]) (l.notes.take m)) l.notes[m].start
  ·refine g ?_
   repeat' refine st_ rfl (g ?_)
   obtain rfl:B=false:=by rw [<-hB,hs2,hf,hc];rfl
   obtain rfl:KN=.any:=hKN.symm
   first | exact ⟨.inl trivial,id,De,List.nodup_nil⟩ | exact De
  refine g ?_
  repeat' refine st_ rfl (g ?_)
  refine bs2 (by omega) rfl rfl rfl ⟨trivial,trivial⟩ rfl rfl rfl ⟨trivial,trivial⟩ ?_
  refine g ?_
  refine Np (Mb [Bk (Di [l.base]) (l.notes.take m),l.notes[m].end_]) (by simp [Wy,J2,okA]) rfl (Rg (Z4 _)) (by exact Sbs.rfl_ _) rfl ?_
  refine g ?_
  refine AW.freeze 3100 _ rfl trivial ?_
  simp only [go_sem,reduceIte]
  refine g ?_
  repeat' refine st_ rfl (g ?_)
  refine ⟨⟨m+1,hlt,?_⟩,id,?_,?_⟩
  ·rw [List.take_succ_eq_append_getElem hlt,E5,ht,Bool.true_and]
   simp [Cs,hf,hc]
  ·refine ⟨⟨rfl,?_,rfl,rfl,rfl,trivial⟩,trivial,List.nodup_nil⟩
   rw [List.take_succ_eq_append_getElem hlt,Mo]
   rfl
  ·simp;omega
 ·have:m=l.notes.length:=by simp at h;omega
  subst this
  refine AW.drawn (ds:=[32,33,34,35,36,37,38,39,40,41,42,43,44,45,46,47,48,2,3]) (fin:=[]) (bs:=[0,0,0,0,0,0,0,0,0,0,0,0,0,0,0,0,0,0,0]) [⟨[],[2],[],[],0⟩,⟨[],[],[],[],0⟩,⟨[(33,1)],[],[],[],0⟩,⟨[(34,2)],[],[],[],0⟩,⟨[(35,3)],[],[],[],0⟩,⟨[],[],[],[],0⟩,⟨[(37,5)],[],[],[],0⟩,⟨[(38,6)],[],[],[],0⟩,⟨[(36,4),(39,7)],[],[],[],0⟩,⟨[(40,8)],[],[],[],0⟩,⟨[],[],[],[],0⟩,⟨[(42,10)],[],[],[],0⟩,⟨[],[],[],[],0⟩,⟨[(44,12)],[],[],[],0⟩,⟨[(45,13)],[],[],[],0⟩,⟨[(43,11),(46,14)],[],[],[],0⟩,⟨[(41,9),(47,15)],[],[],[],0⟩,⟨[(32,0)],[],[],[],0⟩,⟨[(48,16)],[],[],[],0⟩] (by kernel_rfl) rfl (by kernel_rfl) rfl rfl rfl fun KD hKD=>?_
  refine g ?_
  refine A9 (Fh l.base) rfl ?_
  cases hb:Ak l.base
  ·refine g ?_
   repeat' (first | refine st_ rfl (g ?_) | (refine hKD _ _ ⟨rfl,g ?_⟩;clear hKD KD))
   obtain rfl:B=false:=by rw [<-hB,hb,Bool.false_and,Bool.and_false]
   obtain rfl:KN=.any:=hKN.symm
   first | exact ⟨.inl trivial,id,De,List.nodup_nil⟩ | exact De
  rw [List.take_length] at ht
  rw [ht,hb,Bool.true_and,Bool.true_and] at hB
  by_cases h0:0<=l.sure
  ·have d0:decide ((0:Int)<=l.sure)=true:=decide_eq_true h0
   refine g ?_
   simp only [d0]
   refine g ?_
   repeat' (first | refine st_ rfl (g ?_) | (refine hKD _ _ ⟨rfl,g ?_⟩;clear hKD KD))
   obtain rfl:B=decide (l.sure<=(l.notes.length:Nat)):=by rw [<-hB,Zl,d0,Bool.true_and]
   by_cases h1:l.sure<=(l.notes.length:Nat)
   ·rw [decide_eq_true h1,if_pos rfl] at hKN
    subst hKN
    rw [List.take_length,Ad3 hb]
    first | exact ⟨.inl trivial,id,fun _ _ _ h=>h,List.nodup_nil⟩ | exact fun _ _ _ h=>h
   ·rw [decide_eq_false h1] at hKN
    obtain rfl:KN=.any:=hKN.symm
    first | exact ⟨.inl trivial,id,De,List.nodup_nil⟩ | exact De
  ·have d0:decide ((0:Int)<=l.sure)=false:=decide_eq_false h0
   refine g ?_
   simp only [d0]
   refine g ?_
   repeat' (first | refine st_ rfl (g ?_) | (refine hKD _ _ ⟨rfl,g ?_⟩;clear hKD KD))
   obtain rfl:B=false:=by rw [<-hB,Zl,d0,Bool.false_and]
   obtain rfl:KN=.any:=hKN.symm
   first | exact ⟨.inl trivial,id,De,List.nodup_nil⟩ | exact De
set_option maxRecDepth 100000 in
theorem Aw0 (l:Log) (iS:I64 l.sure) (h:Cf l=true):A7 Tryz.prog A8 36 [Q4 l] (.iv (stI (Bk l.base l.notes))) []:=by
 have hw:=Y6 l iS
 unfold A35 at hw
 rw [if_pos h,h] at hw
 refine A7.of (n:=13) (rs:=[.tmp 2]) Tryz.func36 rfl (by kernel_rfl) Tryz.ntmps36 (by kernel_rfl) (by simp) (fun _ _=>A8.later) ?_
 intro hok V w0
 refine g ?_
 refine AW.seq ?_
 refine AW.reg rfl fun KK hKK=>?_
 refine g ?_
 repeat' (refine hKK _ (g ?_);clear hKK KK)
 refine AW.freeze 200 _ rfl ⟨trivial,trivial,iS,trivial⟩ ?_
 simp only [go_sem,reduceIte,Nat.reduceEqDiff]
 refine g ?_
 repeat' refine st_ rfl (g ?_)
 refine A9 hw rfl ?_
 refine g ?_
 repeat' refine st_ rfl (g ?_)
 first | exact trivial | exact ⟨.inl trivial,id,List.nodup_nil⟩ | rfl
end Go.Proofs.YtblfjaedaijfoaaGreatDoor
namespace Go.Proofs.YtblfjaedaijfoaaGreatDoor
variable {α : Type}
def Aj4 (l:List α) (a i:Nat):List (α×Nat):=((l.take i).drop a).zipIdx a
def C53 (l:List α) (a:Nat):List (α×Nat):=(l.drop a).zipIdx a
theorem Bn1 (l:List α) (a:Nat):Aj4 l a a=[]:=by
 unfold Aj4
 rw [List.drop_of_length_le (by rw [List.length_take];omega)]
 rfl
theorem Bn0 {l:List α} {a i:Nat} (ha:a<=i) (hi:i < l.length):Aj4 l a (i+1)=Aj4 l a i++[(l[i],i)]:=by
 unfold Aj4
 rw [List.take_succ_eq_append_getElem hi,List.drop_append_of_le_length (by rw [List.length_take];omega),List.zipIdx_append]
 have:a+((l.take i).drop a).length=i:=by rw [List.length_drop,List.length_take];omega
 rw [this]
 rfl
theorem By1 {l:List α} {a i:Nat} (h:l.length<=i):Aj4 l a i=C53 l a:=by
 unfold Aj4 C53
 rw [List.take_of_length_le h]
theorem B23 {l m:List α} (h:l <+: m) (a:Nat):l.zipIdx a <+: m.zipIdx a:=by
 obtain ⟨t,rfl⟩:=h
 rw [List.zipIdx_append]
 exact List.prefix_append _ _
theorem At4 (l:List α) (a i:Nat):Aj4 l a i <+: C53 l a:=by
 refine B23 ?_ a
 rw [List.drop_take]
 exact List.take_prefix _ _
end Go.Proofs.YtblfjaedaijfoaaGreatDoor
namespace Go.Proofs.YtblfjaedaijfoaaGreatDoor
open Go.ChangeShapes Go.WideShapes Go.ChangeAt Go.RowKit
attribute [local irreducible] AW AWY Bo B4 vop Bj B7 Bf qop Bu C4 Aq Aj Bh A7 B9
attribute [local go_sem] G2 Ms Ef C9 Ae Af
def Bp5 (l:Log):AV:=.ip [stI l.base,noI l.notes,.val (.int .i64 l.sure)]
theorem C97 (l:Log):Bp5 l=.ip [stI l.base,noI l.notes,.val (.int .i64 l.sure)]:=rfl
attribute [local go_sem] C97
theorem Bq1 (l:Log) (n:Int) (iS:I64 l.sure) (iN:I64 n):A7 Tryz.prog A8 150 [Q4 l,.val (.int .i64 n)] (.fn 222 [Bp5 l,.ip [.val (.int .i64 n)]]) []:=by
 have h:A7 Tryz.prog A8 150 [Q4 l,.val (.int .i64 n)] (.fn 222 [.bp 0 0,.bp 1 0]) [.box 0 [.iv (stI l.base),.iv (noI l.notes),.val (.int .i64 l.sure)],.box 1 [.val (.int .i64 n)]]:=by
  refine A7.of (n:=6) (rs:=[.tmp 4]) Tryz.func150 rfl (by kernel_rfl) Tryz.ntmps150 (by kernel_rfl) (by simp) (fun _ _=>A8.later) ?_
  intro hok V w0
  refine g ?_
  refine g ?_
  repeat' refine st_ rfl (g ?_)
  first | exact ⟨.inl trivial,fun b=>300+100*b,rfl,⟨rfl,rfl⟩,by simp⟩ | exact ⟨fun b=>300+100*b,rfl,⟨rfl,rfl⟩,by simp⟩
 exact (h.frz ⟨trivial,trivial,iS,trivial⟩).frz ⟨iN,trivial⟩
def enL (p:Bc×Nat):List AV:=[.val (.int .i64 (p.2:Nat)),Ft p.1]
def Bc2 (l:Log) (a:Nat):List (Bc×Nat):=if Cf l=true then C53 l.notes a else []
theorem Bq0 (l:Log) (n:Int) (iS:I64 l.sure):B9 Tryz.prog A8 222 [Bp5 l,.ip [.val (.int .i64 n)]] enL (fun ys=>ys=Bc2 l n.toNat) (fun pre=>pre <+: Bc2 l n.toNat):=by
 obtain ⟨a,ha⟩ : ∃ a,n.toNat=a:=⟨_,rfl⟩
 rw [ha]
 refine B9.of (n:=27) Tryz.func222 rfl (by kernel_rfl) Tryz.ntmps222 (by kernel_rfl) (by simp) (fun _ _=>A8.later) ?_
 intro hok Y
 have hlen:l.notes.length<=1073741824:=by simpa using hok.1.2.1.1
 refine g ?_
 refine g ?_
 repeat' refine K9 rfl (g ?_)
 refine A9 (Vi l iS) rfl ?_
 cases hb:Cf l
 ·have he:Bc2 l a=[]:=by unfold Bc2;rw [hb];rfl
  refine g ?_
  repeat' refine K9 rfl (g ?_)
  exact ⟨.inl trivial,he.symm⟩
 have he:Bc2 l a=C53 l.notes a:=by unfold Bc2;rw [if_pos hb]
 refine g ?_
 repeat' refine K9 rfl (g ?_)
 refine ⟨(a:Int),by omega,?_⟩
 refine g ?_
 repeat' (first | refine K9 rfl (g ?_) | refine Bi (g ?_))
 refine AWY.loop (fun i:{i:Nat // a<=i/\(i<=l.notes.length\/i=a)}=>(.going (Aj4 l.notes a i.1),⟨[(0,.val (.func (.yield Y.l) #[] #[])),(1,Bp5 l),(4,.val (.int .i64 (i.1:Nat)))],[]⟩)) (fun i=>l.notes.length - i.1) ⟨a,Nat.le_refl _,.inr rfl⟩ id ⟨by rw [Bn1],⟨rfl,rfl,rfl,trivial⟩,trivial,List.nodup_nil⟩ fun ⟨i,hi,hi2⟩=>?_
 refine g ?_
 repeat' (first | refine K9 rfl (g ?_) | refine Cy (fun h=>g ?_) (fun h=>g ?_))
 ·have hlt:i < l.notes.length:=by simpa using h
  refine ⟨by omega,_,Cx (List.getElem?_eq_getElem hlt),?_⟩
  refine g ?_
  repeat' refine Bi (g ?_)
  refine A9 (A18 l.notes[i]) rfl ?_
  refine g ?_
  have hs:=Bn0 hi hlt
  refine Rt (x:=(l.notes[i],i)) ?_ ?_ ?_ ?_
  ·rfl
  ·exact Sbs.rfl_ _
  ·rw [he,<-hs];exact At4 _ _ _
  simp only [go_sem]
  rw [<-hs]
  refine ⟨?_,?_⟩
  ·refine g ?_
   repeat' refine K9 rfl (g ?_)
   refine ⟨⟨i+1,by omega,.inl hlt⟩,id,rfl,⟨⟨rfl,rfl,rfl,trivial⟩,trivial,List.nodup_nil⟩,by show l.notes.length - (i+1) < l.notes.length - i;omega⟩
  ·refine g ?_
   repeat' refine K9 rfl (g ?_)
   exact .inl trivial
 ·have hle:l.notes.length<=i:=by simpa using h
  exact ⟨.inr trivial,by rw [he,By1 hle]⟩
end Go.Proofs.YtblfjaedaijfoaaGreatDoor
