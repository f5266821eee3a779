/- Zones: whether they are formed; what they blur; an object's reach (the program's and the reference's). -/
import Derived.Test.YtahgkllhbggmgaaGreatDoorLViewEnc
import Derived.Test.YtahgkllhbggmgaaGreatDoorLRefThr
set_option linter.all false
set_option linter.unnecessarySimpa false
set_option linter.unusedSimpArgs false
set_option linter.unusedVariables false
namespace Go.Proofs.YtahgkllhbggmgaaGreatDoor
open Go.ChangeShapes Go.WideShapes Go.ChangeAt Go.RowKit
attribute [local irreducible] AW AWY Be As vop Az Aq Ax qop Bd Bv Aj Ag Ay A7 Aw Du
attribute [local go_sem] Fp Dx Ae Af
theorem ixm {α:Type} {l:List α} {f:α->List IV} {i:Int} {K:List IV->Prop} (k:Nat) (e:i.toNat=k) (h0:0<=i) (h:k < l.length) (hk:K (f l[k])):0<=i/\∃ cs,(l.map f)[i.toNat]? = some cs/\D0 (K cs):=⟨h0,_,by rw [e];exact Dl (List.getElem?_eq_getElem h),B9 hk⟩
theorem Wu {α:Type} {l:List α} {m:Nat} (h0:0 < m) (h:m - 1 < l.length):(l.take m).getLast? = some l[m - 1]:=by
 obtain ⟨k,rfl⟩ : ∃ k,m=k+1:=⟨m - 1,by omega⟩
 exact Kc (by omega)
theorem M4 {l:List Bp} {m:Nat} {x:Bp} (h0:0 < m) (h:m < l.length):Fk (l.take m).getLast? x=(decide (El (l.take m).getLast? + 1=x.span.lo)&&decide (l[m - 1].vec=x.vec)):=by
 rw [Wu h0 (by omega)];rfl
set_option maxRecDepth 100000 in
set_option maxHeartbeats 800000 in
theorem Ry (z : List Bp) : A7 Tryz.prog A8 131 [.iv (znI z)] (.val (.bool (Cw z))) [] := by
  refine A7.of (n := 64) (rs := [.tmp 2]) Tryz.func131 rfl (by kernel_rfl) Tryz.ntmps131 (by kernel_rfl) (by simp) (fun _ _ => A8.later) ?_
  intro hok V w0
  have hlen : z.length <= 1073741824 := by simpa [znI] using hok.1.1
  obtain ⟨B, hB⟩ : ∃ B, Cw z = B := ⟨_, rfl⟩
  rw [hB]
  refine g ?_
  repeat' refine st_ rfl (g ?_)
  refine AW.loop (fun m : {m : Nat // m <= z.length /\ C4 none (z.take m) = true} => ⟨[(0, .iv (znI z)), (2, .val (.bool false)), (3, .val (.int .i64 (El (z.take m.1).getLast?))), (6, .iv (znI z)), (7, .val (.int .i64 (z.length : Nat))), (8, .val (.int .i64 (m.1 : Nat)))], []⟩) (fun m => z.length - m.1) ⟨0, Nat.zero_le _, rfl⟩ id ⟨⟨rfl, rfl, rfl, rfl, rfl, rfl, trivial⟩, trivial, List.nodup_nil⟩ fun ⟨m, hm, ht⟩ => ?_
  refine g ?_
  repeat' (first | refine st_ rfl (g ?_) | refine Al (fun h => g ?_) (fun h => g ?_) | refine De (fun h => g ?_) (fun h => g ?_) | (refine B8 rfl rfl (fun h e => ?_) (fun h e => ?_) <;> simp only [e] <;> clear e <;> refine g ?_) | refine ix_ (by omega) (g ?_) | refine Aa (G6 _) rfl (g ?_))
  · rw [<- hB, Fx (by omega) ht]; simp [E5]; omega
  · rw [<- hB, Fx (by omega) ht]; simp [Fy]; omega
  · rw [<- hB, Fx (by omega) ht]; simp [Fy]; omega
  · rw [<- hB, Fx (by omega) ht]; simp at h; simp [Fy, h]
  · have hlt : m < z.length := by omega
    have hE := Wj ht
    have hv : B7 z[m].vec = true := by simpa using h
    refine AW.drawn (ds := [39, 40, 41, 42, 43, 44, 45, 46, 47, 48, 49, 50, 51, 52, 53, 54, 55, 56, 57, 58, 59]) (fin := [0]) (bs := [1, 1, 1, 1, 1, 1, 1, 1, 1, 1, 1, 1, 1, 1, 1, 1, 1, 1, 1, 1, 1]) [⟨[], [], [], [], 0⟩, ⟨[(39, 0)], [], [], [], 0⟩, ⟨[(40, 1)], [], [], [], 0⟩, ⟨[], [], [], [], 0⟩, ⟨[(42, 3)], [], [], [], 0⟩, ⟨[(43, 4)], [], [0], [], 0⟩, ⟨[], [], [], [], 0⟩, ⟨[(45, 6)], [], [], [], 0⟩, ⟨[(44, 5), (46, 7)], [], [], [], 0⟩, ⟨[(41, 2), (47, 8)], [], [], [], 0⟩, ⟨[(48, 9)], [], [], [], 0⟩, ⟨[], [], [], [], 0⟩, ⟨[(50, 11)], [], [0], [], 0⟩, ⟨[], [], [], [], 0⟩, ⟨[], [], [], [], 0⟩, ⟨[(53, 14)], [], [], [], 0⟩, ⟨[(52, 13), (54, 15)], [], [0], [], 0⟩, ⟨[(55, 16)], [], [], [], 0⟩, ⟨[(56, 17)], [], [0], [], 0⟩, ⟨[(51, 12), (57, 18)], [], [0], [], 0⟩, ⟨[(49, 10), (58, 19)], [], [], [], 0⟩] (by kernel_rfl) rfl (by kernel_rfl) rfl rfl rfl fun KD hKD => ?_
    refine g ?_
    repeat' (first | refine st_ rfl (g ?_) | refine Al (fun h => g ?_) (fun h => g ?_) | (refine hKD _ _ ⟨rfl, g ?_⟩; clear hKD KD) | (refine Lz rfl rfl (fun h e => ?_) (fun h e => ?_) <;> simp only [e] <;> clear e <;> refine g ?_) | refine Aa (A29 _ _) rfl (g ?_) | (refine ixm (m - 1) (by omega) (by omega) (by omega) ?_) <;> refine g ?_)
    · have hT : Fk (z.take m).getLast? z[m] = true := by
        rw [M4 (by omega) hlt, Bool.and_eq_true, decide_eq_true_eq, decide_eq_true_eq]
        exact ⟨by omega, h.symm⟩
      rw [<- hB, Fx hlt ht, E5, hT]
      simp
    · have hT : Fk (z.take m).getLast? z[m] = false := by rw [M4 (by omega) hlt, decide_eq_false (p := _ = z[m].vec) (fun e => h e.symm), Bool.and_false]
      refine ⟨⟨m + 1, hlt, Hv hlt ht (by simp only [E5, hT, Bool.not_false, Bool.and_true, decide_eq_true_eq]; omega) (by simp [Fy, hv]; omega)⟩, id, ⟨⟨rfl, rfl, by rw [Kc hlt]; rfl, rfl, rfl, rfl, trivial⟩, trivial, List.nodup_nil⟩, by show z.length - (m + 1) < z.length - m; omega⟩
    · have hT : Fk (z.take m).getLast? z[m] = false := by rw [M4 (by omega) hlt, decide_eq_false (by omega), Bool.false_and]
      refine ⟨⟨m + 1, hlt, Hv hlt ht (by simp only [E5, hT, Bool.not_false, Bool.and_true, decide_eq_true_eq]; omega) (by simp [Fy, hv]; omega)⟩, id, ⟨⟨rfl, rfl, by rw [Kc hlt]; rfl, rfl, rfl, rfl, trivial⟩, trivial, List.nodup_nil⟩, by show z.length - (m + 1) < z.length - m; omega⟩
    · have hT : Fk (z.take m).getLast? z[m] = false := by obtain rfl : m = 0 := by omega
                                                          rfl
      refine ⟨⟨m + 1, hlt, Hv hlt ht (by simp only [E5, hT, Bool.not_false, Bool.and_true, decide_eq_true_eq]; omega) (by simp [Fy, hv]; omega)⟩, id, ⟨⟨rfl, rfl, by rw [Kc hlt]; rfl, rfl, rfl, rfl, trivial⟩, trivial, List.nodup_nil⟩, by show z.length - (m + 1) < z.length - m; omega⟩
  · obtain rfl : m = z.length := by omega
    rw [List.take_length] at ht
    rw [<- hB]; exact ht.symm
theorem Aa0 {l:List Bp} {m:Nat} (h0:0 < m) (h:m < l.length):El (l.take m).getLast? = l[m - 1].span.hi:=by
 rw [Wu h0 (by omega)];rfl
set_option maxRecDepth 100000 in
set_option maxHeartbeats 800000 in
theorem Qt (z:List Bp):A7 Tryz.prog A8 156 [.iv (znI z)] (.val (.bool (Cw z))) []:=by
 refine A7.of (n:=81) (rs:=[.tmp 2]) Tryz.func156 rfl (by kernel_rfl) Tryz.ntmps156 (by kernel_rfl) (by simp) (fun _ _=>A8.later) ?_
 intro hok V w0
 have hlen:z.length<=1073741824:=by simpa [znI] using hok.1.1
 obtain ⟨B,hB⟩ : ∃ B,Cw z=B:=⟨_,rfl⟩
 rw [hB]
 refine g ?_
 repeat' refine st_ rfl (g ?_)
 refine AW.loop (fun m:{m:Nat // m<=z.length/\C4 none (z.take m)=true}=>⟨[(0,.iv (znI z)),(3,.val (.int .i64 (m.1:Nat)))],[]⟩) (fun m=>z.length - m.1) ⟨0,Nat.zero_le _,rfl⟩ id ⟨⟨rfl,rfl,trivial⟩,trivial,List.nodup_nil⟩ fun ⟨m,hm,ht⟩=>?_
 have hE:=Wj ht
 refine g ?_
 repeat' (first | refine st_ rfl (g ?_) | refine Al (fun h=>g ?_) (fun h=>g ?_) | refine De (fun h=>g ?_) (fun h=>g ?_) | (refine B8 rfl rfl (fun h e=>?_) (fun h e=>?_)<;>simp only [e]<;>clear e<;>refine g ?_) | refine ix_ (by omega) (g ?_) | refine Aa (Gh _) rfl (g ?_))
 ·rw [<-hB,Fx (by omega) ht];simp [E5];omega
 ·rw [<-hB,Fx (by omega) ht];simp [Fy];omega
 ·rw [<-hB,Fx (by omega) ht];simp [Fy];omega
 ·rw [<-hB,Fx (by omega) ht];simp at h;simp [Fy,h]
 ·have hlt:m < z.length:=by omega
  have hv:B7 z[m].vec=true:=by simpa using h
  refine AW.drawn (ds:=[40,41,42,43,44,45,46,47,48,49,50,51,52,53,54,55,56,57,58,59,60,61,62,63,64,65,66,67,68,69,70,71,72,73,74,75,76,77,78,79,80]) (fin:=[0]) (bs:=[1,1,1,1,1,1,1,1,1,1,1,1,1,1,1,1,1,1,1,1,1,1,1,1,1,1,1,1,1,1,1,1,1,1,1,1,1,1,1,1,1]) [⟨[],[],[],[],0⟩,⟨[(40,0)],[],[],[],0⟩,⟨[(41,1)],[],[],[],0⟩,⟨[],[],[],[],0⟩,⟨[],[],[],[],0⟩,⟨[(44,4)],[],[],[],0⟩,⟨[(43,3),(45,5)],[],[0],[],0⟩,⟨[(46,6)],[],[],[],0⟩,⟨[(47,7)],[],[],[],0⟩,⟨[(48,8)],[],[0],[],0⟩,⟨[],[],[],[],0⟩,⟨[(50,10)],[],[0],[],0⟩,⟨[(49,9),(51,11)],[],[],[],0⟩,⟨[(52,12)],[],[],[],0⟩,⟨[],[],[],[],0⟩,⟨[],[],[],[],0⟩,⟨[(55,15)],[],[],[],0⟩,⟨[(54,14),(56,16)],[],[0],[],0⟩,⟨[(57,17)],[],[],[],0⟩,⟨[(58,18)],[],[],[],0⟩,⟨[(59,19)],[],[0],[],0⟩,⟨[],[],[],[],0⟩,⟨[(61,21)],[],[0],[],0⟩,⟨[(62,22)],[],[],[],0⟩,⟨[(60,20),(63,23)],[],[],[],0⟩,⟨[(64,24)],[],[],[],0⟩,⟨[],[],[],[],0⟩,⟨[],[],[],[],0⟩,⟨[(67,27)],[],[],[],0⟩,⟨[(66,26),(68,28)],[],[0],[],0⟩,⟨[(69,29)],[],[],[],0⟩,⟨[(70,30)],[],[0],[],0⟩,⟨[],[],[],[],0⟩,⟨[],[],[],[],0⟩,⟨[(72,32),(73,33)],[],[0],[],0⟩,⟨[(74,34)],[],[],[],0⟩,⟨[(75,35)],[],[0],[],0⟩,⟨[(71,31),(76,36)],[],[0],[],0⟩,⟨[(65,25),(77,37)],[],[],[],0⟩,⟨[(53,13),(78,38)],[],[],[],0⟩,⟨[(42,2),(79,39)],[],[],[],0⟩] (by kernel_rfl) rfl (by kernel_rfl) rfl rfl rfl fun KD hKD=>?_
  refine g ?_
  repeat' (first | refine st_ rfl (g ?_) | refine Al (fun h=>g ?_) (fun h=>g ?_) | (refine hKD _ _ ⟨rfl,g ?_⟩;clear hKD KD) | (refine Lz rfl rfl (fun h e=>?_) (fun h e=>?_)<;>simp only [e]<;>clear e<;>refine g ?_) | refine ix_ (by omega) (g ?_) | refine Aa (Gv _ _) rfl (g ?_) | (refine ixm (m - 1) (by omega) (by omega) (by omega) ?_)<;>refine g ?_)
  ·rw [<-hB,Fx hlt ht,E5,Aa0 (by omega) hlt,decide_eq_false (by omega)]
   simp
  ·have hT:Fk (z.take m).getLast? z[m]=true:=by
    rw [M4 (by omega) hlt,Aa0 (by omega) hlt,Bool.and_eq_true,decide_eq_true_eq,decide_eq_true_eq]
    exact ⟨by omega,h⟩
   rw [<-hB,Fx hlt ht,E5,hT]
   simp
  ·have hT:Fk (z.take m).getLast? z[m]=false:=by rw [M4 (by omega) hlt,decide_eq_false (p:=_=z[m].vec) h,Bool.and_false]
   have he:=Aa0 (l:=z) (m:=m) (by omega) hlt
   refine ⟨⟨m+1,hlt,Hv hlt ht (by simp only [E5,hT,Bool.not_false,Bool.and_true,decide_eq_true_eq];omega) (by simp [Fy,hv];omega)⟩,id,⟨⟨rfl,rfl,trivial⟩,trivial,List.nodup_nil⟩,by show z.length - (m+1) < z.length - m;omega⟩
  ·have he:=Aa0 (l:=z) (m:=m) (by omega) hlt
   have hT:Fk (z.take m).getLast? z[m]=false:=by rw [M4 (by omega) hlt,decide_eq_false (by omega),Bool.false_and]
   refine ⟨⟨m+1,hlt,Hv hlt ht (by simp only [E5,hT,Bool.not_false,Bool.and_true,decide_eq_true_eq];omega) (by simp [Fy,hv];omega)⟩,id,⟨⟨rfl,rfl,trivial⟩,trivial,List.nodup_nil⟩,by show z.length - (m+1) < z.length - m;omega⟩
  ·have h0:m=0:=by omega
   have he:El (z.take m).getLast? = -1:=by rw [h0];rfl
   have hT:Fk (z.take m).getLast? z[m]=false:=by rw [show (z.take m).getLast? = none by rw [h0];rfl];rfl
   refine ⟨⟨m+1,hlt,Hv hlt ht (by simp only [E5,hT,Bool.not_false,Bool.and_true,decide_eq_true_eq];omega) (by simp [Fy,hv];omega)⟩,id,⟨⟨rfl,rfl,trivial⟩,trivial,List.nodup_nil⟩,by show z.length - (m+1) < z.length - m;omega⟩
 ·obtain rfl:m=z.length:=by omega
  rw [List.take_length] at ht
  rw [<-hB];exact ht.symm
theorem Sw {z:List Bp} {o:Int} {m:Nat} (h:m < z.length) (ht:∀ x∈z.take m,x.has o=false) (hx:z[m].has o=false):∀ x∈z.take (m+1),x.has o=false:=fun x hxm=>by
 rw [List.take_succ_eq_append_getElem h] at hxm
 rcases List.mem_append.1 hxm with h1 | h1
 ·exact ht x h1
 ·rw [List.mem_singleton.1 h1];exact hx
set_option maxRecDepth 100000 in
theorem Ac3 (z:List Bp) (known:List Ad) (o:Int):A7 Tryz.prog A8 265 [.iv (znI z),.iv (stI known),.val (.int .i64 o)] (.iv (stI (P3 z known o))) []:=by
 refine A7.ofS (n:=49) (rs:=[.tmp 6]) Tryz.func265 rfl (by kernel_rfl) Tryz.ntmps265 (by kernel_rfl) (by simp) (fun _ _=>A8.later) ?_
 intro hok V w0
 have hlen:z.length<=1073741824:=by simpa [znI] using hok.1.1
 obtain ⟨R,hR⟩ : ∃ R,P3 z known o=R:=⟨_,rfl⟩
 rw [hR]
 unfold P3 at hR
 refine g ?_
 repeat' (first | refine st_ rfl (g ?_) | refine Al (fun h=>g ?_) (fun h=>g ?_) | (refine B8 rfl rfl (fun h e=>?_) (fun h e=>?_)<;>simp only [e]<;>clear e<;>refine g ?_) | (refine E9 rfl rfl (fun h=>?_) (fun h=>?_)<;>simp only [h]<;>refine g ?_) | refine Aa (Ry _) rfl (g ?_) | refine Aa (G6 _) rfl (g ?_))
 ·(rw [<-hR,if_neg (by rintro ⟨a1,a2,a3,a4⟩;first | (simp [a1] at h;done) | (simp [a2] at h;done) | omega)];exact Dd 2)
 ·(rw [<-hR,if_neg (by rintro ⟨a1,a2,a3,a4⟩;first | (simp [a1] at h;done) | (simp [a2] at h;done) | omega)];exact Dd 2)
 ·(rw [<-hR,if_neg (by rintro ⟨a1,a2,a3,a4⟩;first | (simp [a1] at h;done) | (simp [a2] at h;done) | omega)];exact Dd 2)
 ·(rw [<-hR,if_neg (by rintro ⟨a1,a2,a3,a4⟩;first | (simp [a1] at h;done) | (simp [a2] at h;done) | omega)];exact Dd 2)
 rename_i h1 h2 h3
 rw [if_pos ⟨by simpa using h1,by simpa using h2,by omega,by omega⟩] at hR
 unfold Jf at hR
 refine AW.loop (fun m:{m:Nat // m<=z.length/\∀ x∈z.take m,x.has o=false}=>⟨[(1,.iv (stI known)),(2,.val (.int .i64 o)),(25,.iv (znI z)),(26,.val (.int .i64 (z.length:Nat))),(27,.val (.int .i64 (m.1:Nat)))],[]⟩) (fun m=>z.length - m.1) ⟨0,Nat.zero_le _,fun x hx=>by simp at hx⟩ id ⟨⟨rfl,rfl,rfl,rfl,rfl,trivial⟩,trivial,List.nodup_nil⟩ fun ⟨m,hm,ht⟩=>?_
 refine g ?_
 repeat' (first | refine st_ rfl (g ?_) | refine Al (fun h=>g ?_) (fun h=>g ?_) | (refine B8 rfl rfl (fun h e=>?_) (fun h e=>?_)<;>simp only [e]<;>clear e<;>refine g ?_) | refine ix_ (by omega) (g ?_) | refine Aa (Bp8 _) rfl (g ?_))
 ·rw [Uq ht (by omega) (by simp [Bp.has];omega)] at hR
  rw [<-hR]
  exact Hm.rfl_ _
 ·refine ⟨⟨m+1,by omega,Sw (by omega) ht (by simp [Bp.has];omega)⟩,id,⟨⟨rfl,rfl,rfl,rfl,rfl,trivial⟩,trivial,List.nodup_nil⟩,by show z.length - (m+1) < z.length - m;omega⟩
 ·refine ⟨⟨m+1,by omega,Sw (by omega) ht (by simp [Bp.has];omega)⟩,id,⟨⟨rfl,rfl,rfl,rfl,rfl,trivial⟩,trivial,List.nodup_nil⟩,by show z.length - (m+1) < z.length - m;omega⟩
 ·obtain rfl:m=z.length:=by omega
  rw [List.take_length] at ht
  rw [Ac5 ht] at hR
  rw [<-hR]
  exact Hm.rfl_ _
set_option maxRecDepth 100000 in
theorem B77 (z:List Bp) (o:Int):A7 Tryz.prog A8 357 [.iv (znI z),.val (.int .i64 o)] (.val (.int .i64 (Kg z o))) []:=by
 refine A7.of (n:=31) (rs:=[.tmp 4]) Tryz.func357 rfl (by kernel_rfl) Tryz.ntmps357 (by kernel_rfl) (by simp) (fun _ _=>A8.later) ?_
 intro hok V w0
 have hlen:z.length<=1073741824:=by simpa [znI] using hok.1.1
 refine g ?_
 repeat' refine st_ rfl (g ?_)
 refine AW.loop (fun m:{m:Nat // m<=z.length/\∀ x∈z.take m,x.has o=false}=>⟨[(0,.iv (znI z)),(1,.val (.int .i64 o)),(5,.val (.int .i64 (m.1:Nat)))],[]⟩) (fun m=>z.length - m.1) ⟨0,Nat.zero_le _,fun x hx=>by simp at hx⟩ id ⟨⟨rfl,rfl,rfl,trivial⟩,trivial,List.nodup_nil⟩ fun ⟨m,hm,ht⟩=>?_
 refine g ?_
 repeat' (first | refine st_ rfl (g ?_) | refine Al (fun h=>g ?_) (fun h=>g ?_) | (refine B8 rfl rfl (fun h e=>?_) (fun h e=>?_)<;>simp only [e]<;>clear e<;>refine g ?_) | refine ix_ (by omega) (g ?_))
 ·rw [B57 (by omega) ht (by simp [Bp.has];omega)]
 ·refine ⟨⟨m+1,by omega,Sw (by omega) ht (by simp [Bp.has];omega)⟩,id,⟨⟨rfl,rfl,rfl,trivial⟩,trivial,List.nodup_nil⟩,by show z.length - (m+1) < z.length - m;omega⟩
 ·refine ⟨⟨m+1,by omega,Sw (by omega) ht (by simp [Bp.has];omega)⟩,id,⟨⟨rfl,rfl,rfl,trivial⟩,trivial,List.nodup_nil⟩,by show z.length - (m+1) < z.length - m;omega⟩
 ·obtain rfl:m=z.length:=by omega
  rw [List.take_length] at ht
  rw [Ac4 ht]
set_option maxRecDepth 100000 in
theorem A57 (z:List Bp) (known:List Ad) (o:Int):A7 Tryz.prog A8 281 [.iv (znI z),.iv (stI known),.val (.int .i64 o)] (.iv (stI (P3 z known o))) []:=by
 refine A7.ofS (n:=37) (rs:=[.tmp 6]) Tryz.func281 rfl (by kernel_rfl) Tryz.ntmps281 (by kernel_rfl) (by simp) (fun _ _=>A8.later) ?_
 intro hok V w0
 have hlen:z.length<=1073741824:=by simpa [znI] using hok.1.1
 obtain ⟨R,hR⟩ : ∃ R,P3 z known o=R:=⟨_,rfl⟩
 rw [hR]
 unfold P3 at hR
 refine g ?_
 repeat' (first | refine st_ rfl (g ?_) | refine Al (fun h=>g ?_) (fun h=>g ?_) | (refine B8 rfl rfl (fun h e=>?_) (fun h e=>?_)<;>simp only [e]<;>clear e<;>refine g ?_) | (refine E9 rfl rfl (fun h=>?_) (fun h=>?_)<;>simp only [h]<;>refine g ?_) | refine Aa (Qt _) rfl (g ?_) | refine Aa (Gh _) rfl (g ?_) | refine Aa (B77 _ _) rfl (g ?_) | refine Aa (A60 _) rfl (g ?_))
 ·(rw [<-hR,if_neg (by rintro ⟨a1,a2,a3,a4⟩;first | (simp [a1] at h;done) | (simp [a2] at h;done) | omega)];exact Dd 2)
 ·(rw [<-hR,if_neg (by rintro ⟨a1,a2,a3,a4⟩;first | (simp [a1] at h;done) | (simp [a2] at h;done) | omega)];exact Dd 2)
 ·(rw [<-hR,if_neg (by rintro ⟨a1,a2,a3,a4⟩;first | (simp [a1] at h;done) | (simp [a2] at h;done) | omega)];exact Dd 2)
 ·(rw [<-hR,if_neg (by rintro ⟨a1,a2,a3,a4⟩;first | (simp [a1] at h;done) | (simp [a2] at h;done) | omega)];exact Dd 2)
 all_goals
  rename_i h1 h2 h3 h4
  rw [if_pos ⟨by simpa using h1,by simpa using h2,by omega,by omega⟩] at hR
  unfold Jf at hR
 ·obtain ⟨hl,hz⟩:=B59 h
  refine ⟨h,_,Dl (List.getElem?_eq_getElem hl),?_⟩
  refine g ?_
  repeat' (first | refine st_ rfl (g ?_) | refine B9 (g ?_) | refine Aa (A60 _) rfl (g ?_))
  rw [hz] at hR
  rw [<-hR]
  exact Hm.rfl_ _
 ·rw [B58 h] at hR
  rw [<-hR]
  exact Hm.rfl_ _
end Go.Proofs.YtahgkllhbggmgaaGreatDoor
