/- Whether two rows of spans share an object (the program's). -/
import Derived.Test.YthlgnjlpakimaaaGreatDoorURefTouch
import Derived.Test.YthlgnjlpakimaaaGreatDoorUTidy
set_option linter.all false
set_option linter.unnecessarySimpa false
set_option linter.unusedSimpArgs false
set_option linter.unusedVariables false
namespace Go.Proofs.YthlgnjlpakimaaaGreatDoor
open Go.ChangeShapes Go.WideShapes Go.ChangeAt Go.RowKit
attribute [local irreducible] AW AWY Bw Bc vop Bj Az Bi qop By Ce Ar Ap Bo A7 Bd C5 Pe
attribute [local go_sem] L2 Ai An
theorem Am9 (l:List Ad):A7 Tryz.prog A8 189 [.iv (spI l)] (.own 0) [.row 0 66 2 ((B9 l).map L2)] :=
 Cx (fun _ _ _ h=>Mo h) Tryz.func189 rfl (by kernel_rfl) fun V w E vs hV hG hr=>by
  obtain ⟨v0,rfl,h0⟩:=Fy hr
  exact Pu l _ w (Ec hV h0)
theorem An0 (l:List Ad):A7 Tryz.prog A8 189 [.iv (spI l)] (.iv (spI (B9 l))) []:=(Am9 l).frz trivial
theorem Jz:∀ {l:List Ad} {e:Int},Aw e l=true->∀ s∈l,e < s.lo/\s.lo<=s.hi/\s.hi<=255/\0<=s.lo
 | [],_,_,s,hs=>by simp at hs
 | x :: l,e,h,s,hs=>by
  obtain ⟨h1,h2⟩:=Ax.1 h
  rcases List.mem_cons.1 hs with rfl | hs
  ·omega
  ·have:=Jz h2 s hs
   omega
theorem Vz:∀ {l:List Ad} {e:Int},Aw e l=true->l.Pairwise fun s t=>s.hi < t.lo
 | [],_,_=>.nil
 | x :: l,e,h=>by
  obtain ⟨h1,h2⟩:=Ax.1 h
  exact .cons (fun t ht=>(Jz h2 t ht).1) (Vz h2)
theorem Xe (l:List Ad):∀ s∈B9 l,s.lo<=s.hi/\s.hi<=255/\0<=s.lo:=fun s hs=>(Jz (Bg _) s hs).2
def ovS (s t:Ad):Prop:=s.lo<=t.hi/\t.lo<=s.hi
theorem R2 (l:List Ad) {o:Nat} (ho:o < 256):Ak (B9 l) o=Ak l o:=Cc (fun o=>Ak l o) ho
theorem Ay7 {a b:List Ad} {s t:Ad} (hs:s∈B9 a) (ht:t∈B9 b) (h:ovS s t):Gg a b=true:=by
 have h1:=Xe a s hs
 have h2:=Xe b t ht
 obtain ⟨o,ho⟩ : ∃ o:Nat,(o:Int)=max s.lo t.lo:=⟨(max s.lo t.lo).toNat,by omega⟩
 obtain ⟨k1,k2⟩:=h
 have ho':o < 256:=by omega
 have m1:Ak a o=true:=by
  rw [<-R2 a ho',Ak,List.any_eq_true]
  exact ⟨s,hs,by simp;omega⟩
 have m2:Ak b o=true:=by
  rw [<-R2 b ho',Ak,List.any_eq_true]
  exact ⟨t,ht,by simp;omega⟩
 have m3:Ak (D1 a b) o=true:=by
  unfold D1
  rw [Cc _ ho',m1,m2];rfl
 rw [Gg,decide_eq_true_eq]
 cases hc:D1 a b with
 | nil=>rw [hc] at m3;simp [Ak] at m3
 | cons x l=>simp
theorem B78 {a b:List Ad} (h:∀ s∈B9 a,∀ t∈B9 b,¬ ovS s t):Gg a b=false:=by
 rw [Gg,decide_eq_false_iff_not]
 intro hp
 obtain ⟨x,hx⟩ : ∃ x,x∈D1 a b:=by
  cases hc:D1 a b with
  | nil=>rw [hc] at hp;simp at hp
  | cons x l=>exact ⟨x,by simp⟩
 have hf:=(Jz (Bg _) x hx).2
 obtain ⟨o,ho⟩ : ∃ o:Nat,(o:Int)=x.lo:=⟨x.lo.toNat,by omega⟩
 have ho':o < 256:=by omega
 have m3:Ak (D1 a b) o=true:=by
  rw [Ak,List.any_eq_true]
  exact ⟨x,hx,by simp;omega⟩
 unfold D1 at m3
 rw [Cc _ ho',Bool.and_eq_true,<-R2 a ho',<-R2 b ho',Ak,Ak,List.any_eq_true,List.any_eq_true] at m3
 obtain ⟨⟨s,hs,h1⟩,⟨t,ht,h2⟩⟩:=m3
 simp at h1 h2
 exact h s hs t ht ⟨by omega,by omega⟩
theorem Aw0 {l m:List Ad} {i:Nat} (h:i < l.length) (hI:∀ s∈l.take i,∀ t∈m,¬ ovS s t) (hx:∀ t∈m,¬ ovS l[i] t):∀ s∈l.take (i+1),∀ t∈m,¬ ovS s t:=fun s hs=>by
 rw [List.take_succ_eq_append_getElem h] at hs
 rcases List.mem_append.1 hs with h1 | h1
 ·exact hI s h1
 ·rw [List.mem_singleton.1 h1];exact hx
theorem B14 {x:Ad} {l:List Ad} {j:Nat} (h:j < l.length) (hp:l.Pairwise fun s t=>s.hi < t.lo) (hf:∀ s∈l,s.lo<=s.hi) (hJ:∀ t∈l.take j,t.hi < x.lo) (hx:x.hi < l[j].lo):∀ t∈l,¬ ovS x t:=fun t ht hov=>by
 have e:l=l.take j++l[j] :: l.drop (j+1):=by rw [<-List.drop_eq_getElem_cons h,List.take_append_drop]
 rw [e] at ht
 rcases List.mem_append.1 ht with h1 | h1
 ·have:=hJ t h1
  have:=hov.1
  omega
 ·rcases List.mem_cons.1 h1 with rfl | h1
  ·have:=hov.2
   omega
  ·rw [e] at hp
   have hp2:=(List.pairwise_cons.1 (List.pairwise_append.1 hp).2.1).1 t h1
   have:=hf l[j] (List.getElem_mem h)
   have:=hov.2
   omega
set_option maxRecDepth 100000 in
theorem Ad1 (a b:List Ad):A7 Tryz.prog A8 150 [.iv (spI a),.iv (spI b)] (.val (.bool (Gg a b))) []:=by
 refine A7.of (n:=37) (rs:=[.tmp 4]) Tryz.func150 rfl (by kernel_rfl) Tryz.ntmps150 (by kernel_rfl) (by simp) (fun _ _=>A8.later) ?_
 intro hok V w0
 have hla:(B9 a).length<=1073741824:=Nat.le_trans (Hv _) (by decide)
 have hlb:(B9 b).length<=1073741824:=Nat.le_trans (Hv _) (by decide)
 obtain ⟨B,hB⟩ : ∃ B,Gg a b=B:=⟨_,rfl⟩
 rw [hB]
 refine g ?_
 repeat' (first | refine st_ rfl (g ?_) | refine Aa (An0 _) rfl (g ?_))
 unfold spI
 refine g ?_
 repeat' refine st_ rfl (g ?_)
 refine AW.loop (fun i:{i:Nat // i<=(B9 a).length/\∀ s∈(B9 a).take i,∀ t∈B9 b,¬ ovS s t}=>⟨[(1,.iv (spI b)),(10,.iv (.sl 2 ((B9 a).map L2))),(11,.val (.int .i64 ((B9 a).length:Nat))),(12,.val (.int .i64 (i.1:Nat)))],[]⟩) (fun i=>(B9 a).length - i.1) ⟨0,Nat.zero_le _,fun s hs=>by simp at hs⟩ id ⟨⟨rfl,rfl,rfl,rfl,trivial⟩,trivial,List.nodup_nil⟩ fun ⟨i,hi,hI⟩=>?_
 refine g ?_
 repeat' (first | refine st_ rfl (g ?_) | refine Bk (fun h=>g ?_) (fun h=>g ?_) | refine ix_ (by omega) (g ?_) | refine Aa (An0 _) rfl (g ?_))
 ·have hlt:i < (B9 a).length:=by omega
  unfold spI
  refine g ?_
  repeat' refine st_ rfl (g ?_)
  refine AW.loop (fun j:{j:Nat // j<=(B9 b).length/\∀ t∈(B9 b).take j,t.hi < (B9 a)[i].lo}=>⟨[(1,.iv (spI b)),(6,.bp 700 0),(10,.iv (.sl 2 ((B9 a).map L2))),(11,.val (.int .i64 ((B9 a).length:Nat))),(12,.val (.int .i64 (i:Nat))),(17,.iv (.sl 2 ((B9 b).map L2))),(18,.val (.int .i64 ((B9 b).length:Nat))),(19,.val (.int .i64 (j.1:Nat)))],[.box 700 [.val (.int .i64 (B9 a)[i].lo),.val (.int .i64 (B9 a)[i].hi)]]⟩) (fun j=>(B9 b).length - j.1) ⟨0,Nat.zero_le _,fun s hs=>by simp at hs⟩ id ⟨⟨rfl,rfl,rfl,rfl,rfl,rfl,rfl,rfl,trivial⟩,⟨rfl,trivial⟩,by simp [Ay,BA.id]⟩ fun ⟨j,hj,hJ⟩=>?_
  refine g ?_
  repeat' (first | refine st_ rfl (g ?_) | refine Bk (fun h=>g ?_) (fun h=>g ?_) | refine ix_ (by omega) (g ?_))
  ·refine ⟨⟨j+1,by omega,fun t ht=>?_⟩,id,⟨⟨rfl,rfl,rfl,rfl,rfl,rfl,rfl,rfl,trivial⟩,⟨rfl,trivial⟩,by simp [Ay,BA.id]⟩,by show (B9 b).length - (j+1) < (B9 b).length - j;omega⟩
   rw [List.take_succ_eq_append_getElem (by omega)] at ht
   rcases List.mem_append.1 ht with h1 | h1
   ·exact hJ t h1
   ·rw [List.mem_singleton.1 h1];omega
  ·exact ⟨⟨i+1,hlt,Aw0 hlt hI (B14 (by omega) (Vz (Bg _)) (fun s hs=>(Xe b s hs).1) hJ h)⟩,id,⟨⟨rfl,rfl,rfl,rfl,trivial⟩,trivial,List.nodup_nil⟩,by show (B9 a).length - (i+1) < (B9 a).length - i;omega⟩
  ·rw [<-hB]
   have hjt:j < (B9 b).length:=by omega
   exact (Ay7 (List.getElem_mem hlt) (List.getElem_mem hjt) ⟨by omega,by omega⟩).symm
  ·obtain rfl:j=(B9 b).length:=by omega
   rw [List.take_length] at hJ
   exact ⟨⟨i+1,hlt,Aw0 hlt hI fun t ht hov=>by have:=hJ t ht;have:=hov.1;omega⟩,id,⟨⟨rfl,rfl,rfl,rfl,trivial⟩,trivial,List.nodup_nil⟩,by show (B9 a).length - (i+1) < (B9 a).length - i;omega⟩
 ·obtain rfl:i=(B9 a).length:=by omega
  rw [List.take_length] at hI
  rw [<-hB,B78 hI]
end Go.Proofs.YthlgnjlpakimaaaGreatDoor
