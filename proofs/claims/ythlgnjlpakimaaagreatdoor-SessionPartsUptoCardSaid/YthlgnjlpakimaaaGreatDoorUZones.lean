/- Zones: whether they are formed; what they blur; an object's reach (the program's and the reference's). -/
import Derived.Test.YthlgnjlpakimaaaGreatDoorUViewEnc
import Derived.Test.YthlgnjlpakimaaaGreatDoorURefThr
set_option linter.all false
set_option linter.unnecessarySimpa false
set_option linter.unusedSimpArgs false
set_option linter.unusedVariables false
namespace Go.Proofs.YthlgnjlpakimaaaGreatDoor
open Go.ChangeShapes Go.WideShapes Go.ChangeAt Go.RowKit
attribute [local irreducible] AW AWY Bw Bc vop Bj Az Bi qop By Ce Ar Ap Bo A7 Bd C5
attribute [local go_sem] Fe Fq Ai An
theorem ixm {α:Type} {l:List α} {f:α->List IV} {i:Int} {K:List IV->Prop} (k:Nat) (e:i.toNat=k) (h0:0<=i) (h:k < l.length) (hk:K (f l[k])):0<=i/\∃ cs,(l.map f)[i.toNat]? = some cs/\Ej (K cs):=⟨h0,_,by rw [e];exact Cg (List.getElem?_eq_getElem h),Aj hk⟩
theorem Rx {α:Type} {l:List α} {m:Nat} (h0:0 < m) (h:m - 1 < l.length):(l.take m).getLast? = some l[m - 1]:=by
 obtain ⟨k,rfl⟩ : ∃ k,m=k+1:=⟨m - 1,by omega⟩
 exact L9 (by omega)
theorem My {l:List B8} {m:Nat} {x:B8} (h0:0 < m) (h:m < l.length):Fp (l.take m).getLast? x=(decide (Ca (l.take m).getLast? + 1=x.span.lo)&&decide (l[m - 1].vec=x.vec)):=by
 rw [Rx h0 (by omega)];rfl
set_option maxRecDepth 100000 in
set_option maxHeartbeats 800000 in
theorem Nq (z : List B8) : A7 Tryz.prog A8 111 [.iv (znI z)] (.val (.bool (Br z))) [] := by
  refine A7.of (n := 64) (rs := [.tmp 2]) Tryz.func111 rfl (by kernel_rfl) Tryz.ntmps111 (by kernel_rfl) (by simp) (fun _ _ => A8.later) ?_
  intro hok V w0
  have hlen : z.length <= 1073741824 := by simpa [znI] using hok.1.1
  obtain ⟨B, hB⟩ : ∃ B, Br z = B := ⟨_, rfl⟩
  rw [hB]
  refine g ?_
  repeat' refine st_ rfl (g ?_)
  refine AW.loop (fun m : {m : Nat // m <= z.length /\ Bt none (z.take m) = true} => ⟨[(0, .iv (znI z)), (2, .val (.bool false)), (3, .val (.int .i64 (Ca (z.take m.1).getLast?))), (6, .iv (znI z)), (7, .val (.int .i64 (z.length : Nat))), (8, .val (.int .i64 (m.1 : Nat)))], []⟩) (fun m => z.length - m.1) ⟨0, Nat.zero_le _, rfl⟩ id ⟨⟨rfl, rfl, rfl, rfl, rfl, rfl, trivial⟩, trivial, List.nodup_nil⟩ fun ⟨m, hm, ht⟩ => ?_
  refine g ?_
  repeat' (first | refine st_ rfl (g ?_) | refine Bk (fun h => g ?_) (fun h => g ?_) | refine Cl (fun h => g ?_) (fun h => g ?_) | (refine Cz rfl rfl (fun h e => ?_) (fun h e => ?_) <;> simp only [e] <;> clear e <;> refine g ?_) | refine ix_ (by omega) (g ?_) | refine Aa (Kv _) rfl (g ?_))
  · rw [<- hB, Fz (by omega) ht]; simp [Do]; omega
  · rw [<- hB, Fz (by omega) ht]; simp [E8]; omega
  · rw [<- hB, Fz (by omega) ht]; simp [E8]; omega
  · rw [<- hB, Fz (by omega) ht]; simp at h; simp [E8, h]
  · have hlt : m < z.length := by omega
    have hE := Np ht
    have hv : Av z[m].vec = true := by simpa using h
    refine AW.drawn (ds := [39, 40, 41, 42, 43, 44, 45, 46, 47, 48, 49, 50, 51, 52, 53, 54, 55, 56, 57, 58, 59]) (fin := [0]) (bs := [1, 1, 1, 1, 1, 1, 1, 1, 1, 1, 1, 1, 1, 1, 1, 1, 1, 1, 1, 1, 1]) [⟨[], [], [], [], 0⟩, ⟨[(39, 0)], [], [], [], 0⟩, ⟨[(40, 1)], [], [], [], 0⟩, ⟨[], [], [], [], 0⟩, ⟨[(42, 3)], [], [], [], 0⟩, ⟨[(43, 4)], [], [0], [], 0⟩, ⟨[], [], [], [], 0⟩, ⟨[(45, 6)], [], [], [], 0⟩, ⟨[(44, 5), (46, 7)], [], [], [], 0⟩, ⟨[(41, 2), (47, 8)], [], [], [], 0⟩, ⟨[(48, 9)], [], [], [], 0⟩, ⟨[], [], [], [], 0⟩, ⟨[(50, 11)], [], [0], [], 0⟩, ⟨[], [], [], [], 0⟩, ⟨[], [], [], [], 0⟩, ⟨[(53, 14)], [], [], [], 0⟩, ⟨[(52, 13), (54, 15)], [], [0], [], 0⟩, ⟨[(55, 16)], [], [], [], 0⟩, ⟨[(56, 17)], [], [0], [], 0⟩, ⟨[(51, 12), (57, 18)], [], [0], [], 0⟩, ⟨[(49, 10), (58, 19)], [], [], [], 0⟩] (by kernel_rfl) rfl (by kernel_rfl) rfl rfl rfl fun KD hKD => ?_
    refine g ?_
    repeat' (first | refine st_ rfl (g ?_) | refine Bk (fun h => g ?_) (fun h => g ?_) | (refine hKD _ _ ⟨rfl, g ?_⟩; clear hKD KD) | (refine L8 rfl rfl (fun h e => ?_) (fun h e => ?_) <;> simp only [e] <;> clear e <;> refine g ?_) | refine Aa (Uz _ _) rfl (g ?_) | (refine ixm (m - 1) (by omega) (by omega) (by omega) ?_) <;> refine g ?_)
    · have hT : Fp (z.take m).getLast? z[m] = true := by
        rw [My (by omega) hlt, Bool.and_eq_true, decide_eq_true_eq, decide_eq_true_eq]
        exact ⟨by omega, h.symm⟩
      rw [<- hB, Fz hlt ht, Do, hT]
      simp
    · have hT : Fp (z.take m).getLast? z[m] = false := by rw [My (by omega) hlt, decide_eq_false (p := _ = z[m].vec) (fun e => h e.symm), Bool.and_false]
      refine ⟨⟨m + 1, hlt, Jq hlt ht (by simp only [Do, hT, Bool.not_false, Bool.and_true, decide_eq_true_eq]; omega) (by simp [E8, hv]; omega)⟩, id, ⟨⟨rfl, rfl, by rw [L9 hlt]; rfl, rfl, rfl, rfl, trivial⟩, trivial, List.nodup_nil⟩, by show z.length - (m + 1) < z.length - m; omega⟩
    · have hT : Fp (z.take m).getLast? z[m] = false := by rw [My (by omega) hlt, decide_eq_false (by omega), Bool.false_and]
      refine ⟨⟨m + 1, hlt, Jq hlt ht (by simp only [Do, hT, Bool.not_false, Bool.and_true, decide_eq_true_eq]; omega) (by simp [E8, hv]; omega)⟩, id, ⟨⟨rfl, rfl, by rw [L9 hlt]; rfl, rfl, rfl, rfl, trivial⟩, trivial, List.nodup_nil⟩, by show z.length - (m + 1) < z.length - m; omega⟩
    · have hT : Fp (z.take m).getLast? z[m] = false := by obtain rfl : m = 0 := by omega
                                                          rfl
      refine ⟨⟨m + 1, hlt, Jq hlt ht (by simp only [Do, hT, Bool.not_false, Bool.and_true, decide_eq_true_eq]; omega) (by simp [E8, hv]; omega)⟩, id, ⟨⟨rfl, rfl, by rw [L9 hlt]; rfl, rfl, rfl, rfl, trivial⟩, trivial, List.nodup_nil⟩, by show z.length - (m + 1) < z.length - m; omega⟩
  · obtain rfl : m = z.length := by omega
    rw [List.take_length] at ht
    rw [<- hB]; exact ht.symm
theorem A97 {l:List B8} {m:Nat} (h0:0 < m) (h:m < l.length):Ca (l.take m).getLast? = l[m - 1].span.hi:=by
 rw [Rx h0 (by omega)];rfl
set_option maxRecDepth 100000 in
set_option maxHeartbeats 800000 in
theorem Mq (z:List B8):A7 Tryz.prog A8 59 [.iv (znI z)] (.val (.bool (Br z))) []:=by
 refine A7.of (n:=81) (rs:=[.tmp 2]) Tryz.func59 rfl (by kernel_rfl) Tryz.ntmps59 (by kernel_rfl) (by simp) (fun _ _=>A8.later) ?_
 intro hok V w0
 have hlen:z.length<=1073741824:=by simpa [znI] using hok.1.1
 obtain ⟨B,hB⟩ : ∃ B,Br z=B:=⟨_,rfl⟩
 rw [hB]
 refine g ?_
 repeat' refine st_ rfl (g ?_)
 refine AW.loop (fun m:{m:Nat // m<=z.length/\Bt none (z.take m)=true}=>⟨[(0,.iv (znI z)),(3,.val (.int .i64 (m.1:Nat)))],[]⟩) (fun m=>z.length - m.1) ⟨0,Nat.zero_le _,rfl⟩ id ⟨⟨rfl,rfl,trivial⟩,trivial,List.nodup_nil⟩ fun ⟨m,hm,ht⟩=>?_
 have hE:=Np ht
 refine g ?_
 repeat' (first | refine st_ rfl (g ?_) | refine Bk (fun h=>g ?_) (fun h=>g ?_) | refine Cl (fun h=>g ?_) (fun h=>g ?_) | (refine Cz rfl rfl (fun h e=>?_) (fun h e=>?_)<;>simp only [e]<;>clear e<;>refine g ?_) | refine ix_ (by omega) (g ?_) | refine Aa (K8 _) rfl (g ?_))
 ·rw [<-hB,Fz (by omega) ht];simp [Do];omega
 ·rw [<-hB,Fz (by omega) ht];simp [E8];omega
 ·rw [<-hB,Fz (by omega) ht];simp [E8];omega
 ·rw [<-hB,Fz (by omega) ht];simp at h;simp [E8,h]
 ·have hlt:m < z.length:=by omega
  have hv:Av z[m].vec=true:=by simpa using h
  refine AW.drawn (ds:=[40,41,42,43,44,45,46,47,48,49,50,51,52,53,54,55,56,57,58,59,60,61,62,63,64,65,66,67,68,69,70,71,72,73,74,75,76,77,78,79,80]) (fin:=[0]) (bs:=[1,1,1,1,1,1,1,1,1,1,1,1,1,1,1,1,1,1,1,1,1,1,1,1,1,1,1,1,1,1,1,1,1,1,1,1,1,1,1,1,1]) [⟨[],[],[],[],0⟩,⟨[(40,0)],[],[],[],0⟩,⟨[(41,1)],[],[],[],0⟩,⟨[],[],[],[],0⟩,⟨[],[],[],[],0⟩,⟨[(44,4)],[],[],[],0⟩,⟨[(43,3),(45,5)],[],[0],[],0⟩,⟨[(46,6)],[],[],[],0⟩,⟨[(47,7)],[],[],[],0⟩,⟨[(48,8)],[],[0],[],0⟩,⟨[],[],[],[],0⟩,⟨[(50,10)],[],[0],[],0⟩,⟨[(49,9),(51,11)],[],[],[],0⟩,⟨[(52,12)],[],[],[],0⟩,⟨[],[],[],[],0⟩,⟨[],[],[],[],0⟩,⟨[(55,15)],[],[],[],0⟩,⟨[(54,14),(56,16)],[],[0],[],0⟩,⟨[(57,17)],[],[],[],0⟩,⟨[(58,18)],[],[],[],0⟩,⟨[(59,19)],[],[0],[],0⟩,⟨[],[],[],[],0⟩,⟨[(61,21)],[],[0],[],0⟩,⟨[(62,22)],[],[],[],0⟩,⟨[(60,20),(63,23)],[],[],[],0⟩,⟨[(64,24)],[],[],[],0⟩,⟨[],[],[],[],0⟩,⟨[],[],[],[],0⟩,⟨[(67,27)],[],[],[],0⟩,⟨[(66,26),(68,28)],[],[0],[],0⟩,⟨[(69,29)],[],[],[],0⟩,⟨[(70,30)],[],[0],[],0⟩,⟨[],[],[],[],0⟩,⟨[],[],[],[],0⟩,⟨[(72,32),(73,33)],[],[0],[],0⟩,⟨[(74,34)],[],[],[],0⟩,⟨[(75,35)],[],[0],[],0⟩,⟨[(71,31),(76,36)],[],[0],[],0⟩,⟨[(65,25),(77,37)],[],[],[],0⟩,⟨[(53,13),(78,38)],[],[],[],0⟩,⟨[(42,2),(79,39)],[],[],[],0⟩] (by kernel_rfl) rfl (by kernel_rfl) rfl rfl rfl fun KD hKD=>?_
  refine g ?_
  repeat' (first | refine st_ rfl (g ?_) | refine Bk (fun h=>g ?_) (fun h=>g ?_) | (refine hKD _ _ ⟨rfl,g ?_⟩;clear hKD KD) | (refine L8 rfl rfl (fun h e=>?_) (fun h e=>?_)<;>simp only [e]<;>clear e<;>refine g ?_) | refine ix_ (by omega) (g ?_) | refine Aa (Mb _ _) rfl (g ?_) | (refine ixm (m - 1) (by omega) (by omega) (by omega) ?_)<;>refine g ?_)
  ·rw [<-hB,Fz hlt ht,Do,A97 (by omega) hlt,decide_eq_false (by omega)]
   simp
  ·have hT:Fp (z.take m).getLast? z[m]=true:=by
    rw [My (by omega) hlt,A97 (by omega) hlt,Bool.and_eq_true,decide_eq_true_eq,decide_eq_true_eq]
    exact ⟨by omega,h⟩
   rw [<-hB,Fz hlt ht,Do,hT]
   simp
  ·have hT:Fp (z.take m).getLast? z[m]=false:=by rw [My (by omega) hlt,decide_eq_false (p:=_=z[m].vec) h,Bool.and_false]
   have he:=A97 (l:=z) (m:=m) (by omega) hlt
   refine ⟨⟨m+1,hlt,Jq hlt ht (by simp only [Do,hT,Bool.not_false,Bool.and_true,decide_eq_true_eq];omega) (by simp [E8,hv];omega)⟩,id,⟨⟨rfl,rfl,trivial⟩,trivial,List.nodup_nil⟩,by show z.length - (m+1) < z.length - m;omega⟩
  ·have he:=A97 (l:=z) (m:=m) (by omega) hlt
   have hT:Fp (z.take m).getLast? z[m]=false:=by rw [My (by omega) hlt,decide_eq_false (by omega),Bool.false_and]
   refine ⟨⟨m+1,hlt,Jq hlt ht (by simp only [Do,hT,Bool.not_false,Bool.and_true,decide_eq_true_eq];omega) (by simp [E8,hv];omega)⟩,id,⟨⟨rfl,rfl,trivial⟩,trivial,List.nodup_nil⟩,by show z.length - (m+1) < z.length - m;omega⟩
  ·have h0:m=0:=by omega
   have he:Ca (z.take m).getLast? = -1:=by rw [h0];rfl
   have hT:Fp (z.take m).getLast? z[m]=false:=by rw [show (z.take m).getLast? = none by rw [h0];rfl];rfl
   refine ⟨⟨m+1,hlt,Jq hlt ht (by simp only [Do,hT,Bool.not_false,Bool.and_true,decide_eq_true_eq];omega) (by simp [E8,hv];omega)⟩,id,⟨⟨rfl,rfl,trivial⟩,trivial,List.nodup_nil⟩,by show z.length - (m+1) < z.length - m;omega⟩
 ·obtain rfl:m=z.length:=by omega
  rw [List.take_length] at ht
  rw [<-hB];exact ht.symm
theorem Tr {z:List B8} {o:Int} {m:Nat} (h:m < z.length) (ht:∀ x∈z.take m,x.has o=false) (hx:z[m].has o=false):∀ x∈z.take (m+1),x.has o=false:=fun x hxm=>by
 rw [List.take_succ_eq_append_getElem h] at hxm
 rcases List.mem_append.1 hxm with h1 | h1
 ·exact ht x h1
 ·rw [List.mem_singleton.1 h1];exact hx
set_option maxRecDepth 100000 in
theorem Ab2 (z:List B8) (known:List Ab) (o:Int):A7 Tryz.prog A8 131 [.iv (znI z),.iv (stI known),.val (.int .i64 o)] (.iv (stI (Lq z known o))) []:=by
 refine A7.ofS (n:=49) (rs:=[.tmp 6]) Tryz.func131 rfl (by kernel_rfl) Tryz.ntmps131 (by kernel_rfl) (by simp) (fun _ _=>A8.later) ?_
 intro hok V w0
 have hlen:z.length<=1073741824:=by simpa [znI] using hok.1.1
 obtain ⟨R,hR⟩ : ∃ R,Lq z known o=R:=⟨_,rfl⟩
 rw [hR]
 unfold Lq at hR
 refine g ?_
 repeat' (first | refine st_ rfl (g ?_) | refine Bk (fun h=>g ?_) (fun h=>g ?_) | (refine Cz rfl rfl (fun h e=>?_) (fun h e=>?_)<;>simp only [e]<;>clear e<;>refine g ?_) | (refine Eu rfl rfl (fun h=>?_) (fun h=>?_)<;>simp only [h]<;>refine g ?_) | refine Aa (Nq _) rfl (g ?_) | refine Aa (Kv _) rfl (g ?_))
 ·(rw [<-hR,if_neg (by rintro ⟨a1,a2,a3,a4⟩;first | (simp [a1] at h;done) | (simp [a2] at h;done) | omega)];exact D6 2)
 ·(rw [<-hR,if_neg (by rintro ⟨a1,a2,a3,a4⟩;first | (simp [a1] at h;done) | (simp [a2] at h;done) | omega)];exact D6 2)
 ·(rw [<-hR,if_neg (by rintro ⟨a1,a2,a3,a4⟩;first | (simp [a1] at h;done) | (simp [a2] at h;done) | omega)];exact D6 2)
 ·(rw [<-hR,if_neg (by rintro ⟨a1,a2,a3,a4⟩;first | (simp [a1] at h;done) | (simp [a2] at h;done) | omega)];exact D6 2)
 rename_i h1 h2 h3
 rw [if_pos ⟨by simpa using h1,by simpa using h2,by omega,by omega⟩] at hR
 unfold C4 at hR
 refine AW.loop (fun m:{m:Nat // m<=z.length/\∀ x∈z.take m,x.has o=false}=>⟨[(1,.iv (stI known)),(2,.val (.int .i64 o)),(25,.iv (znI z)),(26,.val (.int .i64 (z.length:Nat))),(27,.val (.int .i64 (m.1:Nat)))],[]⟩) (fun m=>z.length - m.1) ⟨0,Nat.zero_le _,fun x hx=>by simp at hx⟩ id ⟨⟨rfl,rfl,rfl,rfl,rfl,trivial⟩,trivial,List.nodup_nil⟩ fun ⟨m,hm,ht⟩=>?_
 refine g ?_
 repeat' (first | refine st_ rfl (g ?_) | refine Bk (fun h=>g ?_) (fun h=>g ?_) | (refine Cz rfl rfl (fun h e=>?_) (fun h e=>?_)<;>simp only [e]<;>clear e<;>refine g ?_) | refine ix_ (by omega) (g ?_) | refine Aa (Lz _) rfl (g ?_))
 ·rw [Pq ht (by omega) (by simp [B8.has];omega)] at hR
  rw [<-hR]
  exact Dz.rfl_ _
 ·refine ⟨⟨m+1,by omega,Tr (by omega) ht (by simp [B8.has];omega)⟩,id,⟨⟨rfl,rfl,rfl,rfl,rfl,trivial⟩,trivial,List.nodup_nil⟩,by show z.length - (m+1) < z.length - m;omega⟩
 ·refine ⟨⟨m+1,by omega,Tr (by omega) ht (by simp [B8.has];omega)⟩,id,⟨⟨rfl,rfl,rfl,rfl,rfl,trivial⟩,trivial,List.nodup_nil⟩,by show z.length - (m+1) < z.length - m;omega⟩
 ·obtain rfl:m=z.length:=by omega
  rw [List.take_length] at ht
  rw [Ab4 ht] at hR
  rw [<-hR]
  exact Dz.rfl_ _
set_option maxRecDepth 100000 in
theorem A09 (z:List B8) (o:Int):A7 Tryz.prog A8 61 [.iv (znI z),.val (.int .i64 o)] (.val (.int .i64 (Jr z o))) []:=by
 refine A7.of (n:=31) (rs:=[.tmp 4]) Tryz.func61 rfl (by kernel_rfl) Tryz.ntmps61 (by kernel_rfl) (by simp) (fun _ _=>A8.later) ?_
 intro hok V w0
 have hlen:z.length<=1073741824:=by simpa [znI] using hok.1.1
 refine g ?_
 repeat' refine st_ rfl (g ?_)
 refine AW.loop (fun m:{m:Nat // m<=z.length/\∀ x∈z.take m,x.has o=false}=>⟨[(0,.iv (znI z)),(1,.val (.int .i64 o)),(5,.val (.int .i64 (m.1:Nat)))],[]⟩) (fun m=>z.length - m.1) ⟨0,Nat.zero_le _,fun x hx=>by simp at hx⟩ id ⟨⟨rfl,rfl,rfl,trivial⟩,trivial,List.nodup_nil⟩ fun ⟨m,hm,ht⟩=>?_
 refine g ?_
 repeat' (first | refine st_ rfl (g ?_) | refine Bk (fun h=>g ?_) (fun h=>g ?_) | (refine Cz rfl rfl (fun h e=>?_) (fun h e=>?_)<;>simp only [e]<;>clear e<;>refine g ?_) | refine ix_ (by omega) (g ?_))
 ·rw [Ax7 (by omega) ht (by simp [B8.has];omega)]
 ·refine ⟨⟨m+1,by omega,Tr (by omega) ht (by simp [B8.has];omega)⟩,id,⟨⟨rfl,rfl,rfl,trivial⟩,trivial,List.nodup_nil⟩,by show z.length - (m+1) < z.length - m;omega⟩
 ·refine ⟨⟨m+1,by omega,Tr (by omega) ht (by simp [B8.has];omega)⟩,id,⟨⟨rfl,rfl,rfl,trivial⟩,trivial,List.nodup_nil⟩,by show z.length - (m+1) < z.length - m;omega⟩
 ·obtain rfl:m=z.length:=by omega
  rw [List.take_length] at ht
  rw [Ab3 ht]
set_option maxRecDepth 100000 in
theorem Nx (z:List B8) (known:List Ab) (o:Int):A7 Tryz.prog A8 14 [.iv (znI z),.iv (stI known),.val (.int .i64 o)] (.iv (stI (Lq z known o))) []:=by
 refine A7.ofS (n:=37) (rs:=[.tmp 6]) Tryz.func14 rfl (by kernel_rfl) Tryz.ntmps14 (by kernel_rfl) (by simp) (fun _ _=>A8.later) ?_
 intro hok V w0
 have hlen:z.length<=1073741824:=by simpa [znI] using hok.1.1
 obtain ⟨R,hR⟩ : ∃ R,Lq z known o=R:=⟨_,rfl⟩
 rw [hR]
 unfold Lq at hR
 refine g ?_
 repeat' (first | refine st_ rfl (g ?_) | refine Bk (fun h=>g ?_) (fun h=>g ?_) | (refine Cz rfl rfl (fun h e=>?_) (fun h e=>?_)<;>simp only [e]<;>clear e<;>refine g ?_) | (refine Eu rfl rfl (fun h=>?_) (fun h=>?_)<;>simp only [h]<;>refine g ?_) | refine Aa (Mq _) rfl (g ?_) | refine Aa (K8 _) rfl (g ?_) | refine Aa (A09 _ _) rfl (g ?_) | refine Aa (T9 _) rfl (g ?_))
 ·(rw [<-hR,if_neg (by rintro ⟨a1,a2,a3,a4⟩;first | (simp [a1] at h;done) | (simp [a2] at h;done) | omega)];exact D6 2)
 ·(rw [<-hR,if_neg (by rintro ⟨a1,a2,a3,a4⟩;first | (simp [a1] at h;done) | (simp [a2] at h;done) | omega)];exact D6 2)
 ·(rw [<-hR,if_neg (by rintro ⟨a1,a2,a3,a4⟩;first | (simp [a1] at h;done) | (simp [a2] at h;done) | omega)];exact D6 2)
 ·(rw [<-hR,if_neg (by rintro ⟨a1,a2,a3,a4⟩;first | (simp [a1] at h;done) | (simp [a2] at h;done) | omega)];exact D6 2)
 all_goals
  rename_i h1 h2 h3 h4
  rw [if_pos ⟨by simpa using h1,by simpa using h2,by omega,by omega⟩] at hR
  unfold C4 at hR
 ·obtain ⟨hl,hz⟩:=Ax9 h
  refine ⟨h,_,Cg (List.getElem?_eq_getElem hl),?_⟩
  refine g ?_
  repeat' (first | refine st_ rfl (g ?_) | refine Aj (g ?_) | refine Aa (T9 _) rfl (g ?_))
  rw [hz] at hR
  rw [<-hR]
  exact Dz.rfl_ _
 ·rw [Ax8 h] at hR
  rw [<-hR]
  exact Dz.rfl_ _
end Go.Proofs.YthlgnjlpakimaaaGreatDoor
