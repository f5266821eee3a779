/- Logs: told one by one. -/
import Derived.Test.YthlgnjlpakimaaaGreatDoorUGoes
import Derived.Test.YthlgnjlpakimaaaGreatDoorUStreamSpec
set_option linter.all false
set_option linter.unnecessarySimpa false
set_option linter.unusedSimpArgs false
set_option linter.unusedVariables false
namespace Go.Proofs.YthlgnjlpakimaaaGreatDoor
open Go.ChangeShapes Go.WideShapes Go.ChangeAt Go.RowKit
attribute [local irreducible] AW AWY Bw Bc vop Bj Az Bi qop By Ce Ar Ap Bo A7 Bd
attribute [local go_sem] Jh Kq Gy C3 Ai An
theorem L1 (l:Log) (iS:I64 l.sure):A7 Tryz.prog A8 72 [Qb l] (.val (.bool (B4 l))) []:=by
 refine A7.of (n:=11) (rs:=[.tmp 2]) Tryz.func72 rfl (by kernel_rfl) Tryz.ntmps72 (by kernel_rfl) (by simp) (fun _ _=>A8.later) ?_
 intro hok V w0
 refine g ?_
 refine g ?_
 repeat' refine st_ rfl (g ?_)
 refine Aa (Ar4 l iS) rfl ?_
 refine g ?_
 repeat' refine st_ rfl (g ?_)
 first | exact trivial | exact ⟨.inl trivial,id,List.nodup_nil⟩ | rfl
theorem Ba4 (x:B7):A7 Tryz.prog A8 211 [Et x] (Et x) []:=by
 refine A7.of (n:=16) (rs:=[.cell 2 37]) Tryz.func211 rfl (by kernel_rfl) Tryz.ntmps211 (by kernel_rfl) (by simp) (fun _ _=>A8.later) ?_
 intro hok V w0
 refine g ?_
 refine AW.seq ?_
 refine AW.reg rfl fun KK hKK=>?_
 refine g ?_
 repeat' (refine hKK _ (g ?_);clear hKK KK)
 refine AW.freeze 200 _ rfl (by simp [okB,Ft,okA]) ?_
 simp only [go_sem,reduceIte]
 refine g ?_
 repeat' refine st_ rfl (g ?_)
 refine AW.drawn (ds:=[3,4,5,6,7,8,9,10,11,12,13,14,15]) (fin:=[1]) (bs:=[1,1,1,1,1,1,1,1,1,1,1,1,1,1]) [⟨[],[],[],[],0⟩,⟨[(3,0)],[],[0],[],0⟩,⟨[(4,1)],[],[0],[],0⟩,⟨[],[],[],[],0⟩,⟨[(6,3)],[],[0],[],0⟩,⟨[(7,4)],[],[0],[],0⟩,⟨[],[],[],[],0⟩,⟨[(9,6)],[],[0],[],0⟩,⟨[(10,7)],[],[0],[],0⟩,⟨[],[],[],[],0⟩,⟨[(12,9)],[],[0],[],0⟩,⟨[(13,10)],[],[0],[],0⟩,⟨[(5,2),(8,5),(11,8),(14,11)],[],[],[],0⟩,⟨[(15,12)],[],[],[0],1⟩] (by kernel_rfl) rfl (by kernel_rfl) rfl rfl rfl fun KD hKD=>?_
 refine g ?_
 refine Aa (Lz x.start) rfl ?_
 refine g ?_
 refine Aa (Lz x.end_) rfl ?_
 refine g ?_
 refine Aa (Ak8 x.blur) rfl ?_
 refine g ?_
 refine Aa (Bj5 x.writes) rfl ?_
 refine g ?_
 repeat' (first | refine st_ rfl (g ?_) | (refine hKD _ _ ⟨rfl,g ?_⟩;clear hKD KD))
 first | exact trivial | exact ⟨.inl trivial,id,List.nodup_nil⟩ | rfl
end Go.Proofs.YthlgnjlpakimaaaGreatDoor
namespace Go.Proofs.YthlgnjlpakimaaaGreatDoor
variable {α : Type}
def H7 (l:List α) (a i:Nat):List (α×Nat):=((l.take i).drop a).zipIdx a
def Qq (l:List α) (a:Nat):List (α×Nat):=(l.drop a).zipIdx a
theorem Uk (l:List α) (a:Nat):H7 l a a=[]:=by
 unfold H7
 rw [List.drop_of_length_le (by rw [List.length_take];omega)]
 rfl
theorem Xy {l:List α} {a i:Nat} (h:i<=l.length):(H7 l a i).length=i - a:=by simp [H7];omega
theorem Uj {l:List α} {a i:Nat} (ha:a<=i) (hi:i < l.length):H7 l a (i+1)=H7 l a i++[(l[i],i)]:=by
 unfold H7
 rw [List.take_succ_eq_append_getElem hi,List.drop_append_of_le_length (by rw [List.length_take];omega),List.zipIdx_append]
 have:a+((l.take i).drop a).length=i:=by rw [List.length_drop,List.length_take];omega
 rw [this]
 rfl
theorem Q3 {l:List α} {a i:Nat} (h:l.length<=i):H7 l a i=Qq l a:=by
 unfold H7 Qq
 rw [List.take_of_length_le h]
theorem X5 {l m:List α} (h:l <+: m) (a:Nat):l.zipIdx a <+: m.zipIdx a:=by
 obtain ⟨t,rfl⟩:=h
 rw [List.zipIdx_append]
 exact List.prefix_append _ _
theorem Me (l:List α) (a i:Nat):H7 l a i <+: Qq l a:=by
 refine X5 ?_ a
 rw [List.drop_take]
 exact List.take_prefix _ _
theorem Bj8 {l:List α} {a j:Nat} {p:α×Nat} (h:(Qq l a)[j]? = some p):p.2=a+j/\l[a+j]? = some p.1:=by
 unfold Qq at h
 rw [List.getElem?_zipIdx,Option.map_eq_some_iff] at h
 obtain ⟨x,h1,rfl⟩:=h
 rw [List.getElem?_drop] at h1
 exact ⟨rfl,h1⟩
theorem Ag4 {l:List α} {a:Nat} {pre:List (α×Nat)} {x:α×Nat} (h:pre++[x] <+: Qq l a):pre=H7 l a (a+pre.length)/\x.2=a+pre.length/\l[a+pre.length]? = some x.1:=by
 have hx:(Qq l a)[pre.length]? = some x:=by
  obtain ⟨t,ht⟩:=h
  rw [<-ht,List.append_assoc,List.getElem?_append_right (Nat.le_refl _),Nat.sub_self];rfl
 obtain ⟨h1,h2⟩:=Bj8 hx
 refine ⟨?_,h1,h2⟩
 have hlt:=(List.getElem?_eq_some_iff.1 h2).1
 have p1:pre <+: Qq l a:=(List.prefix_append pre [x]).trans h
 have p2:=Me l a (a+pre.length)
 rw [List.prefix_iff_eq_take] at p1 p2
 rw [Xy (by omega),Nat.add_sub_cancel_left] at p2
 exact p1.trans p2.symm
end Go.Proofs.YthlgnjlpakimaaaGreatDoor
namespace Go.Proofs.YthlgnjlpakimaaaGreatDoor
open Go.ChangeShapes Go.WideShapes Go.ChangeAt Go.RowKit
attribute [local irreducible] AW AWY Bw Bc vop Bj Az Bi qop By Ce Ar Ap Bo A7 Bd
attribute [local go_sem] Jh Kq Gy C3 Ai An
def Wg (l:Log):AV:=.ip [stI l.base,noI l.notes,.val (.int .i64 l.sure)]
theorem To (l:Log):Wg l=.ip [stI l.base,noI l.notes,.val (.int .i64 l.sure)]:=rfl
attribute [local go_sem] To
theorem B34 (l:Log) (n:Int) (iS:I64 l.sure) (iN:I64 n):A7 Tryz.prog A8 172 [Qb l,.val (.int .i64 n)] (.fn 210 [Wg l,.ip [.val (.int .i64 n)]]) []:=by
 have h:A7 Tryz.prog A8 172 [Qb l,.val (.int .i64 n)] (.fn 210 [.bp 0 0,.bp 1 0]) [.box 0 [.iv (stI l.base),.iv (noI l.notes),.val (.int .i64 l.sure)],.box 1 [.val (.int .i64 n)]]:=by
  refine A7.of (n:=6) (rs:=[.tmp 4]) Tryz.func172 rfl (by kernel_rfl) Tryz.ntmps172 (by kernel_rfl) (by simp) (fun _ _=>A8.later) ?_
  intro hok V w0
  refine g ?_
  refine g ?_
  repeat' refine st_ rfl (g ?_)
  first | exact ⟨.inl trivial,fun b=>300+100*b,rfl,⟨rfl,rfl⟩,by simp⟩ | exact ⟨fun b=>300+100*b,rfl,⟨rfl,rfl⟩,by simp⟩
 exact (h.frz ⟨trivial,trivial,iS,trivial⟩).frz ⟨iN,trivial⟩
def enL (p:B7×Nat):List AV:=[.val (.int .i64 (p.2:Nat)),Et p.1]
def Aj5 (l:Log) (a:Nat):List (B7×Nat):=if B4 l=true then Qq l.notes a else []
theorem B33 (l:Log) (n:Int) (iS:I64 l.sure):Bd Tryz.prog A8 210 [Wg l,.ip [.val (.int .i64 n)]] enL (fun ys=>ys=Aj5 l n.toNat) (fun pre=>pre <+: Aj5 l n.toNat):=by
 obtain ⟨a,ha⟩ : ∃ a,n.toNat=a:=⟨_,rfl⟩
 rw [ha]
 refine Bd.of (n:=27) Tryz.func210 rfl (by kernel_rfl) Tryz.ntmps210 (by kernel_rfl) (by simp) (fun _ _=>A8.later) ?_
 intro hok Y
 have hlen:l.notes.length<=1073741824:=by simpa using hok.1.2.1.1
 refine g ?_
 refine g ?_
 repeat' refine Kg rfl (g ?_)
 refine Aa (L1 l iS) rfl ?_
 cases hb:B4 l
 ·have he:Aj5 l a=[]:=by unfold Aj5;rw [hb];rfl
  refine g ?_
  repeat' refine Kg rfl (g ?_)
  exact ⟨.inl trivial,he.symm⟩
 have he:Aj5 l a=Qq l.notes a:=by unfold Aj5;rw [if_pos hb]
 refine g ?_
 repeat' refine Kg rfl (g ?_)
 refine ⟨(a:Int),by omega,?_⟩
 refine g ?_
 repeat' (first | refine Kg rfl (g ?_) | refine Aj (g ?_))
 refine AWY.loop (fun i:{i:Nat // a<=i/\(i<=l.notes.length\/i=a)}=>(.going (H7 l.notes a i.1),⟨[(0,.val (.func (.yield Y.l) #[] #[])),(1,Wg l),(4,.val (.int .i64 (i.1:Nat)))],[]⟩)) (fun i=>l.notes.length - i.1) ⟨a,Nat.le_refl _,.inr rfl⟩ id ⟨by rw [Uk],⟨rfl,rfl,rfl,trivial⟩,trivial,List.nodup_nil⟩ fun ⟨i,hi,hi2⟩=>?_
 refine g ?_
 repeat' (first | refine Kg rfl (g ?_) | refine Cl (fun h=>g ?_) (fun h=>g ?_))
 ·have hlt:i < l.notes.length:=by simpa using h
  refine ⟨by omega,_,Cg (List.getElem?_eq_getElem hlt),?_⟩
  refine g ?_
  repeat' refine Aj (g ?_)
  refine Aa (Ba4 l.notes[i]) rfl ?_
  refine g ?_
  have hs:=Uj hi hlt
  refine Wn (x:=(l.notes[i],i)) ?_ ?_ ?_ ?_
  ·rfl
  ·exact Sbs.rfl_ _
  ·rw [he,<-hs];exact Me _ _ _
  simp only [go_sem]
  rw [<-hs]
  refine ⟨?_,?_⟩
  ·refine g ?_
   repeat' refine Kg rfl (g ?_)
   refine ⟨⟨i+1,by omega,.inl hlt⟩,id,rfl,⟨⟨rfl,rfl,rfl,trivial⟩,trivial,List.nodup_nil⟩,by show l.notes.length - (i+1) < l.notes.length - i;omega⟩
  ·refine g ?_
   repeat' refine Kg rfl (g ?_)
   exact .inl trivial
 ·have hle:l.notes.length<=i:=by simpa using h
  exact ⟨.inr trivial,by rw [he,Q3 hle]⟩
end Go.Proofs.YthlgnjlpakimaaaGreatDoor
