/- Zones: what they blur (the program's and the reference's). -/
import Derived.Test.YthlgnjlpakimaaaGreatDoorQViewEnc
import Derived.Test.YthlgnjlpakimaaaGreatDoorQRefThr
set_option linter.all false
set_option linter.unnecessarySimpa false
set_option linter.unusedSimpArgs false
set_option linter.unusedVariables false
namespace Go.Proofs.YthlgnjlpakimaaaGreatDoor
open Go.ChangeShapes Go.WideShapes Go.ChangeAt Go.RowKit
attribute [local irreducible] AW AWY Cd Bk vop C5 Bl Bz qop Cj Cv B4 Aw C4 A7 Bq Ct
attribute [local go_sem] Gp Gv Ao As
theorem ixm {α:Type} {l:List α} {f:α->List IV} {i:Int} {K:List IV->Prop} (k:Nat) (e:i.toNat=k) (h0:0<=i) (h:k < l.length) (hk:K (f l[k])):0<=i/\∃ cs,(l.map f)[i.toNat]? = some cs/\Gd (K cs):=⟨h0,_,by rw [e];exact C0 (List.getElem?_eq_getElem h),Ag hk⟩
theorem Xt {α:Type} {l:List α} {m:Nat} (h0:0 < m) (h:m - 1 < l.length):(l.take m).getLast? = some l[m - 1]:=by
 obtain ⟨k,rfl⟩ : ∃ k,m=k+1:=⟨m - 1,by omega⟩
 exact Lq (by omega)
theorem Rx {l:List Av} {m:Nat} {x:Av} (h0:0 < m) (h:m < l.length):Fv (l.take m).getLast? x=(decide (Bu (l.take m).getLast? + 1=x.span.lo)&&decide (l[m - 1].vec=x.vec)):=by
 rw [Xt h0 (by omega)];rfl
set_option maxRecDepth 100000 in
set_option maxHeartbeats 800000 in
theorem Pj (z : List Av) : A7 Tryz.prog A8 111 [.iv (znI z)] (.val (.bool (B7 z))) [] := by
  refine A7.of (n := 64) (rs := [.tmp 2]) Tryz.func111 rfl (by kernel_rfl) Tryz.ntmps111 (by kernel_rfl) (by simp) (fun _ _ => A8.later) ?_
  intro hok V w0
  have hlen : z.length <= 1073741824 := by simpa [znI] using hok.1.1
  obtain ⟨B, hB⟩ : ∃ B, B7 z = B := ⟨_, rfl⟩
  rw [hB]
  refine g ?_
  repeat' refine st_ rfl (g ?_)
  refine AW.loop (fun m : {m : Nat // m <= z.length /\ Bc none (z.take m) = true} => ⟨[(0, .iv (znI z)), (2, .val (.bool false)), (3, .val (.int .i64 (Bu (z.take m.1).getLast?))), (6, .iv (znI z)), (7, .val (.int .i64 (z.length : Nat))), (8, .val (.int .i64 (m.1 : Nat)))], []⟩) (fun m => z.length - m.1) ⟨0, Nat.zero_le _, rfl⟩ id ⟨⟨rfl, rfl, rfl, rfl, rfl, rfl, trivial⟩, trivial, List.nodup_nil⟩ fun ⟨m, hm, ht⟩ => ?_
  refine g ?_
  repeat' (first | refine st_ rfl (g ?_) | refine Az (fun h => g ?_) (fun h => g ?_) | refine C3 (fun h => g ?_) (fun h => g ?_) | (refine Ci rfl rfl (fun h e => ?_) (fun h e => ?_) <;> simp only [e] <;> clear e <;> refine g ?_) | refine ix_ (by omega) (g ?_) | refine A9 (Ke _) rfl (g ?_))
  · rw [<- hB, Ju (by omega) ht]; simp [Dy]; omega
  · rw [<- hB, Ju (by omega) ht]; simp [Cu]; omega
  · rw [<- hB, Ju (by omega) ht]; simp [Cu]; omega
  · rw [<- hB, Ju (by omega) ht]; simp at h; simp [Cu, h]
  · have hlt : m < z.length := by omega
    have hE := Mt ht
    have hv : Ak z[m].vec = true := by simpa using h
    refine AW.drawn (ds := [39, 40, 41, 42, 43, 44, 45, 46, 47, 48, 49, 50, 51, 52, 53, 54, 55, 56, 57, 58, 59]) (fin := [0]) (bs := [1, 1, 1, 1, 1, 1, 1, 1, 1, 1, 1, 1, 1, 1, 1, 1, 1, 1, 1, 1, 1]) [⟨[], [], [], [], 0⟩, ⟨[(39, 0)], [], [], [], 0⟩, ⟨[(40, 1)], [], [], [], 0⟩, ⟨[], [], [], [], 0⟩, ⟨[(42, 3)], [], [], [], 0⟩, ⟨[(43, 4)], [], [0], [], 0⟩, ⟨[], [], [], [], 0⟩, ⟨[(45, 6)], [], [], [], 0⟩, ⟨[(44, 5), (46, 7)], [], [], [], 0⟩, ⟨[(41, 2), (47, 8)], [], [], [], 0⟩, ⟨[(48, 9)], [], [], [], 0⟩, ⟨[], [], [], [], 0⟩, ⟨[(50, 11)], [], [0], [], 0⟩, ⟨[], [], [], [], 0⟩, ⟨[], [], [], [], 0⟩, ⟨[(53, 14)], [], [], [], 0⟩, ⟨[(52, 13), (54, 15)], [], [0], [], 0⟩, ⟨[(55, 16)], [], [], [], 0⟩, ⟨[(56, 17)], [], [0], [], 0⟩, ⟨[(51, 12), (57, 18)], [], [0], [], 0⟩, ⟨[(49, 10), (58, 19)], [], [], [], 0⟩] (by kernel_rfl) rfl (by kernel_rfl) rfl rfl rfl fun KD hKD => ?_
    refine g ?_
    repeat' (first | refine st_ rfl (g ?_) | refine Az (fun h => g ?_) (fun h => g ?_) | (refine hKD _ _ ⟨rfl, g ?_⟩; clear hKD KD) | (refine Kf rfl rfl (fun h e => ?_) (fun h e => ?_) <;> simp only [e] <;> clear e <;> refine g ?_) | refine A9 (Wj _ _) rfl (g ?_) | (refine ixm (m - 1) (by omega) (by omega) (by omega) ?_) <;> refine g ?_)
    · have hT : Fv (z.take m).getLast? z[m] = true := by
        rw [Rx (by omega) hlt, Bool.and_eq_true, decide_eq_true_eq, decide_eq_true_eq]
        exact ⟨by omega, h.symm⟩
      rw [<- hB, Ju hlt ht, Dy, hT]
      simp
    · have hT : Fv (z.take m).getLast? z[m] = false := by rw [Rx (by omega) hlt, decide_eq_false (p := _ = z[m].vec) (fun e => h e.symm), Bool.and_false]
      refine ⟨⟨m + 1, hlt, Mr hlt ht (by simp only [Dy, hT, Bool.not_false, Bool.and_true, decide_eq_true_eq]; omega) (by simp [Cu, hv]; omega)⟩, id, ⟨⟨rfl, rfl, by rw [Lq hlt]; rfl, rfl, rfl, rfl, trivial⟩, trivial, List.nodup_nil⟩, by show z.length - (m + 1) < z.length - m; omega⟩
    · have hT : Fv (z.take m).getLast? z[m] = false := by rw [Rx (by omega) hlt, decide_eq_false (by omega), Bool.false_and]
      refine ⟨⟨m + 1, hlt, Mr hlt ht (by simp only [Dy, hT, Bool.not_false, Bool.and_true, decide_eq_true_eq]; omega) (by simp [Cu, hv]; omega)⟩, id, ⟨⟨rfl, rfl, by rw [Lq hlt]; rfl, rfl, rfl, rfl, trivial⟩, trivial, List.nodup_nil⟩, by show z.length - (m + 1) < z.length - m; omega⟩
    · have hT : Fv (z.take m).getLast? z[m] = false := by obtain rfl : m = 0 := by omega
                                                          rfl
      refine ⟨⟨m + 1, hlt, Mr hlt ht (by simp only [Dy, hT, Bool.not_false, Bool.and_true, decide_eq_true_eq]; omega) (by simp [Cu, hv]; omega)⟩, id, ⟨⟨rfl, rfl, by rw [Lq hlt]; rfl, rfl, rfl, rfl, trivial⟩, trivial, List.nodup_nil⟩, by show z.length - (m + 1) < z.length - m; omega⟩
  · obtain rfl : m = z.length := by omega
    rw [List.take_length] at ht
    rw [<- hB]; exact ht.symm
theorem B03 {l:List Av} {m:Nat} (h0:0 < m) (h:m < l.length):Bu (l.take m).getLast? = l[m - 1].span.hi:=by
 rw [Xt h0 (by omega)];rfl
set_option maxRecDepth 100000 in
set_option maxHeartbeats 800000 in
theorem Rn (z:List Av):A7 Tryz.prog A8 59 [.iv (znI z)] (.val (.bool (B7 z))) []:=by
 refine A7.of (n:=81) (rs:=[.tmp 2]) Tryz.func59 rfl (by kernel_rfl) Tryz.ntmps59 (by kernel_rfl) (by simp) (fun _ _=>A8.later) ?_
 intro hok V w0
 have hlen:z.length<=1073741824:=by simpa [znI] using hok.1.1
 obtain ⟨B,hB⟩ : ∃ B,B7 z=B:=⟨_,rfl⟩
 rw [hB]
 refine g ?_
 repeat' refine st_ rfl (g ?_)
 refine AW.loop (fun m:{m:Nat // m<=z.length/\Bc none (z.take m)=true}=>⟨[(0,.iv (znI z)),(3,.val (.int .i64 (m.1:Nat)))],[]⟩) (fun m=>z.length - m.1) ⟨0,Nat.zero_le _,rfl⟩ id ⟨⟨rfl,rfl,trivial⟩,trivial,List.nodup_nil⟩ fun ⟨m,hm,ht⟩=>?_
 have hE:=Mt ht
 refine g ?_
 repeat' (first | refine st_ rfl (g ?_) | refine Az (fun h=>g ?_) (fun h=>g ?_) | refine C3 (fun h=>g ?_) (fun h=>g ?_) | (refine Ci rfl rfl (fun h e=>?_) (fun h e=>?_)<;>simp only [e]<;>clear e<;>refine g ?_) | refine ix_ (by omega) (g ?_) | refine A9 (Nc _) rfl (g ?_))
 ·rw [<-hB,Ju (by omega) ht];simp [Dy];omega
 ·rw [<-hB,Ju (by omega) ht];simp [Cu];omega
 ·rw [<-hB,Ju (by omega) ht];simp [Cu];omega
 ·rw [<-hB,Ju (by omega) ht];simp at h;simp [Cu,h]
 ·have hlt:m < z.length:=by omega
  have hv:Ak z[m].vec=true:=by simpa using h
  refine AW.drawn (ds:=[40,41,42,43,44,45,46,47,48,49,50,51,52,53,54,55,56,57,58,59,60,61,62,63,64,65,66,67,68,69,70,71,72,73,74,75,76,77,78,79,80]) (fin:=[0]) (bs:=[1,1,1,1,1,1,1,1,1,1,1,1,1,1,1,1,1,1,1,1,1,1,1,1,1,1,1,1,1,1,1,1,1,1,1,1,1,1,1,1,1]) [⟨[],[],[],[],0⟩,⟨[(40,0)],[],[],[],0⟩,⟨[(41,1)],[],[],[],0⟩,⟨[],[],[],[],0⟩,⟨[],[],[],[],0⟩,⟨[(44,4)],[],[],[],0⟩,⟨[(43,3),(45,5)],[],[0],[],0⟩,⟨[(46,6)],[],[],[],0⟩,⟨[(47,7)],[],[],[],0⟩,⟨[(48,8)],[],[0],[],0⟩,⟨[],[],[],[],0⟩,⟨[(50,10)],[],[0],[],0⟩,⟨[(49,9),(51,11)],[],[],[],0⟩,⟨[(52,12)],[],[],[],0⟩,⟨[],[],[],[],0⟩,⟨[],[],[],[],0⟩,⟨[(55,15)],[],[],[],0⟩,⟨[(54,14),(56,16)],[],[0],[],0⟩,⟨[(57,17)],[],[],[],0⟩,⟨[(58,18)],[],[],[],0⟩,⟨[(59,19)],[],[0],[],0⟩,⟨[],[],[],[],0⟩,⟨[(61,21)],[],[0],[],0⟩,⟨[(62,22)],[],[],[],0⟩,⟨[(60,20),(63,23)],[],[],[],0⟩,⟨[(64,24)],[],[],[],0⟩,⟨[],[],[],[],0⟩,⟨[],[],[],[],0⟩,⟨[(67,27)],[],[],[],0⟩,⟨[(66,26),(68,28)],[],[0],[],0⟩,⟨[(69,29)],[],[],[],0⟩,⟨[(70,30)],[],[0],[],0⟩,⟨[],[],[],[],0⟩,⟨[],[],[],[],0⟩,⟨[(72,32),(73,33)],[],[0],[],0⟩,⟨[(74,34)],[],[],[],0⟩,⟨[(75,35)],[],[0],[],0⟩,⟨[(71,31),(76,36)],[],[0],[],0⟩,⟨[(65,25),(77,37)],[],[],[],0⟩,⟨[(53,13),(78,38)],[],[],[],0⟩,⟨[(42,2),(79,39)],[],[],[],0⟩] (by kernel_rfl) rfl (by kernel_rfl) rfl rfl rfl fun KD hKD=>?_
  refine g ?_
  repeat' (first | refine st_ rfl (g ?_) | refine Az (fun h=>g ?_) (fun h=>g ?_) | (refine hKD _ _ ⟨rfl,g ?_⟩;clear hKD KD) | (refine Kf rfl rfl (fun h e=>?_) (fun h e=>?_)<;>simp only [e]<;>clear e<;>refine g ?_) | refine ix_ (by omega) (g ?_) | refine A9 (Hg _ _) rfl (g ?_) | (refine ixm (m - 1) (by omega) (by omega) (by omega) ?_)<;>refine g ?_)
  ·rw [<-hB,Ju hlt ht,Dy,B03 (by omega) hlt,decide_eq_false (by omega)]
   simp
  ·have hT:Fv (z.take m).getLast? z[m]=true:=by
    rw [Rx (by omega) hlt,B03 (by omega) hlt,Bool.and_eq_true,decide_eq_true_eq,decide_eq_true_eq]
    exact ⟨by omega,h⟩
   rw [<-hB,Ju hlt ht,Dy,hT]
   simp
  ·have hT:Fv (z.take m).getLast? z[m]=false:=by rw [Rx (by omega) hlt,decide_eq_false (p:=_=z[m].vec) h,Bool.and_false]
   have he:=B03 (l:=z) (m:=m) (by omega) hlt
   refine ⟨⟨m+1,hlt,Mr hlt ht (by simp only [Dy,hT,Bool.not_false,Bool.and_true,decide_eq_true_eq];omega) (by simp [Cu,hv];omega)⟩,id,⟨⟨rfl,rfl,trivial⟩,trivial,List.nodup_nil⟩,by show z.length - (m+1) < z.length - m;omega⟩
  ·have he:=B03 (l:=z) (m:=m) (by omega) hlt
   have hT:Fv (z.take m).getLast? z[m]=false:=by rw [Rx (by omega) hlt,decide_eq_false (by omega),Bool.false_and]
   refine ⟨⟨m+1,hlt,Mr hlt ht (by simp only [Dy,hT,Bool.not_false,Bool.and_true,decide_eq_true_eq];omega) (by simp [Cu,hv];omega)⟩,id,⟨⟨rfl,rfl,trivial⟩,trivial,List.nodup_nil⟩,by show z.length - (m+1) < z.length - m;omega⟩
  ·have h0:m=0:=by omega
   have he:Bu (z.take m).getLast? = -1:=by rw [h0];rfl
   have hT:Fv (z.take m).getLast? z[m]=false:=by rw [show (z.take m).getLast? = none by rw [h0];rfl];rfl
   refine ⟨⟨m+1,hlt,Mr hlt ht (by simp only [Dy,hT,Bool.not_false,Bool.and_true,decide_eq_true_eq];omega) (by simp [Cu,hv];omega)⟩,id,⟨⟨rfl,rfl,trivial⟩,trivial,List.nodup_nil⟩,by show z.length - (m+1) < z.length - m;omega⟩
 ·obtain rfl:m=z.length:=by omega
  rw [List.take_length] at ht
  rw [<-hB];exact ht.symm
theorem Zy {z:List Av} {o:Int} {m:Nat} (h:m < z.length) (ht:∀ x∈z.take m,x.has o=false) (hx:z[m].has o=false):∀ x∈z.take (m+1),x.has o=false:=fun x hxm=>by
 rw [List.take_succ_eq_append_getElem h] at hxm
 rcases List.mem_append.1 hxm with h1 | h1
 ·exact ht x h1
 ·rw [List.mem_singleton.1 h1];exact hx
set_option maxRecDepth 100000 in
theorem B20 (z:List Av) (known:List Ab) (o:Int):A7 Tryz.prog A8 131 [.iv (znI z),.iv (stI known),.val (.int .i64 o)] (.iv (stI (Kq z known o))) []:=by
 refine A7.ofS (n:=49) (rs:=[.tmp 6]) Tryz.func131 rfl (by kernel_rfl) Tryz.ntmps131 (by kernel_rfl) (by simp) (fun _ _=>A8.later) ?_
 intro hok V w0
 have hlen:z.length<=1073741824:=by simpa [znI] using hok.1.1
 obtain ⟨R,hR⟩ : ∃ R,Kq z known o=R:=⟨_,rfl⟩
 rw [hR]
 unfold Kq at hR
 refine g ?_
 repeat' (first | refine st_ rfl (g ?_) | refine Az (fun h=>g ?_) (fun h=>g ?_) | (refine Ci rfl rfl (fun h e=>?_) (fun h e=>?_)<;>simp only [e]<;>clear e<;>refine g ?_) | (refine Ej rfl rfl (fun h=>?_) (fun h=>?_)<;>simp only [h]<;>refine g ?_) | refine A9 (Pj _) rfl (g ?_) | refine A9 (Ke _) rfl (g ?_))
 ·(rw [<-hR,if_neg (by rintro ⟨a1,a2,a3,a4⟩;first | (simp [a1] at h;done) | (simp [a2] at h;done) | omega)];exact Bf 2)
 ·(rw [<-hR,if_neg (by rintro ⟨a1,a2,a3,a4⟩;first | (simp [a1] at h;done) | (simp [a2] at h;done) | omega)];exact Bf 2)
 ·(rw [<-hR,if_neg (by rintro ⟨a1,a2,a3,a4⟩;first | (simp [a1] at h;done) | (simp [a2] at h;done) | omega)];exact Bf 2)
 ·(rw [<-hR,if_neg (by rintro ⟨a1,a2,a3,a4⟩;first | (simp [a1] at h;done) | (simp [a2] at h;done) | omega)];exact Bf 2)
 rename_i h1 h2 h3
 rw [if_pos ⟨by simpa using h1,by simpa using h2,by omega,by omega⟩] at hR
 unfold Bb at hR
 refine AW.loop (fun m:{m:Nat // m<=z.length/\∀ x∈z.take m,x.has o=false}=>⟨[(1,.iv (stI known)),(2,.val (.int .i64 o)),(25,.iv (znI z)),(26,.val (.int .i64 (z.length:Nat))),(27,.val (.int .i64 (m.1:Nat)))],[]⟩) (fun m=>z.length - m.1) ⟨0,Nat.zero_le _,fun x hx=>by simp at hx⟩ id ⟨⟨rfl,rfl,rfl,rfl,rfl,trivial⟩,trivial,List.nodup_nil⟩ fun ⟨m,hm,ht⟩=>?_
 refine g ?_
 repeat' (first | refine st_ rfl (g ?_) | refine Az (fun h=>g ?_) (fun h=>g ?_) | (refine Ci rfl rfl (fun h e=>?_) (fun h e=>?_)<;>simp only [e]<;>clear e<;>refine g ?_) | refine ix_ (by omega) (g ?_) | refine A9 (Kb _) rfl (g ?_))
 ·rw [Ue ht (by omega) (by simp [Av.has];omega)] at hR
  rw [<-hR]
  exact Cm.rfl_ _
 ·refine ⟨⟨m+1,by omega,Zy (by omega) ht (by simp [Av.has];omega)⟩,id,⟨⟨rfl,rfl,rfl,rfl,rfl,trivial⟩,trivial,List.nodup_nil⟩,by show z.length - (m+1) < z.length - m;omega⟩
 ·refine ⟨⟨m+1,by omega,Zy (by omega) ht (by simp [Av.has];omega)⟩,id,⟨⟨rfl,rfl,rfl,rfl,rfl,trivial⟩,trivial,List.nodup_nil⟩,by show z.length - (m+1) < z.length - m;omega⟩
 ·obtain rfl:m=z.length:=by omega
  rw [List.take_length] at ht
  rw [A68 ht] at hR
  rw [<-hR]
  exact Cm.rfl_ _
set_option maxRecDepth 100000 in
theorem Aq3 (z:List Av) (o:Int):A7 Tryz.prog A8 61 [.iv (znI z),.val (.int .i64 o)] (.val (.int .i64 (Ms z o))) []:=by
 refine A7.of (n:=31) (rs:=[.tmp 4]) Tryz.func61 rfl (by kernel_rfl) Tryz.ntmps61 (by kernel_rfl) (by simp) (fun _ _=>A8.later) ?_
 intro hok V w0
 have hlen:z.length<=1073741824:=by simpa [znI] using hok.1.1
 refine g ?_
 repeat' refine st_ rfl (g ?_)
 refine AW.loop (fun m:{m:Nat // m<=z.length/\∀ x∈z.take m,x.has o=false}=>⟨[(0,.iv (znI z)),(1,.val (.int .i64 o)),(5,.val (.int .i64 (m.1:Nat)))],[]⟩) (fun m=>z.length - m.1) ⟨0,Nat.zero_le _,fun x hx=>by simp at hx⟩ id ⟨⟨rfl,rfl,rfl,trivial⟩,trivial,List.nodup_nil⟩ fun ⟨m,hm,ht⟩=>?_
 refine g ?_
 repeat' (first | refine st_ rfl (g ?_) | refine Az (fun h=>g ?_) (fun h=>g ?_) | (refine Ci rfl rfl (fun h e=>?_) (fun h e=>?_)<;>simp only [e]<;>clear e<;>refine g ?_) | refine ix_ (by omega) (g ?_))
 ·rw [Bu1 (by omega) ht (by simp [Av.has];omega)]
 ·refine ⟨⟨m+1,by omega,Zy (by omega) ht (by simp [Av.has];omega)⟩,id,⟨⟨rfl,rfl,rfl,trivial⟩,trivial,List.nodup_nil⟩,by show z.length - (m+1) < z.length - m;omega⟩
 ·refine ⟨⟨m+1,by omega,Zy (by omega) ht (by simp [Av.has];omega)⟩,id,⟨⟨rfl,rfl,rfl,trivial⟩,trivial,List.nodup_nil⟩,by show z.length - (m+1) < z.length - m;omega⟩
 ·obtain rfl:m=z.length:=by omega
  rw [List.take_length] at ht
  rw [B22 ht]
set_option maxRecDepth 100000 in
theorem M6 (z:List Av) (known:List Ab) (o:Int):A7 Tryz.prog A8 14 [.iv (znI z),.iv (stI known),.val (.int .i64 o)] (.iv (stI (Kq z known o))) []:=by
 refine A7.ofS (n:=37) (rs:=[.tmp 6]) Tryz.func14 rfl (by kernel_rfl) Tryz.ntmps14 (by kernel_rfl) (by simp) (fun _ _=>A8.later) ?_
 intro hok V w0
 have hlen:z.length<=1073741824:=by simpa [znI] using hok.1.1
 obtain ⟨R,hR⟩ : ∃ R,Kq z known o=R:=⟨_,rfl⟩
 rw [hR]
 unfold Kq at hR
 refine g ?_
 repeat' (first | refine st_ rfl (g ?_) | refine Az (fun h=>g ?_) (fun h=>g ?_) | (refine Ci rfl rfl (fun h e=>?_) (fun h e=>?_)<;>simp only [e]<;>clear e<;>refine g ?_) | (refine Ej rfl rfl (fun h=>?_) (fun h=>?_)<;>simp only [h]<;>refine g ?_) | refine A9 (Rn _) rfl (g ?_) | refine A9 (Nc _) rfl (g ?_) | refine A9 (Aq3 _ _) rfl (g ?_) | refine A9 (R5 _) rfl (g ?_))
 ·(rw [<-hR,if_neg (by rintro ⟨a1,a2,a3,a4⟩;first | (simp [a1] at h;done) | (simp [a2] at h;done) | omega)];exact Bf 2)
 ·(rw [<-hR,if_neg (by rintro ⟨a1,a2,a3,a4⟩;first | (simp [a1] at h;done) | (simp [a2] at h;done) | omega)];exact Bf 2)
 ·(rw [<-hR,if_neg (by rintro ⟨a1,a2,a3,a4⟩;first | (simp [a1] at h;done) | (simp [a2] at h;done) | omega)];exact Bf 2)
 ·(rw [<-hR,if_neg (by rintro ⟨a1,a2,a3,a4⟩;first | (simp [a1] at h;done) | (simp [a2] at h;done) | omega)];exact Bf 2)
 all_goals
  rename_i h1 h2 h3 h4
  rw [if_pos ⟨by simpa using h1,by simpa using h2,by omega,by omega⟩] at hR
  unfold Bb at hR
 ·obtain ⟨hl,hz⟩:=Bu3 h
  refine ⟨h,_,C0 (List.getElem?_eq_getElem hl),?_⟩
  refine g ?_
  repeat' (first | refine st_ rfl (g ?_) | refine Ag (g ?_) | refine A9 (R5 _) rfl (g ?_))
  rw [hz] at hR
  rw [<-hR]
  exact Cm.rfl_ _
 ·rw [Bu2 h] at hR
  rw [<-hR]
  exact Cm.rfl_ _
end Go.Proofs.YthlgnjlpakimaaaGreatDoor
namespace Go.Proofs.YthlgnjlpakimaaaGreatDoor
open Go.ChangeShapes Go.WideShapes Go.ChangeAt Go.RowKit
attribute [local irreducible] AW AWY Cd Bk vop C5 Bl Bz qop Cj Cv B4 Aw C4 A7 Bq Ct
attribute [local go_sem] Gp Gv Ao As
theorem Zi:(rep 256 (.bool false)).map IV.val=Ct fun _=>false:=List.ext_getElem? fun o=>by
 unfold rep
 rw [List.map_replicate,List.getElem?_replicate]
 by_cases ho:o < 256
 ·rw [if_pos ho,D6 ho]
 ·rw [if_neg ho,List.getElem?_eq_none (by rw [Bx];omega)]
theorem Ff {f:Nat->Bool} {p:Nat} {b:Bool} (hp:p < 256):(Ct f).set p (.val (.bool b))=Ct fun o=>if o=p then b else f o:=List.ext_getElem? fun o=>by
 rw [List.getElem?_set]
 by_cases e:p=o
 ·subst e;rw [if_pos rfl,Bx,if_pos hp,D6 hp,if_pos rfl]
 ·rw [if_neg e]
  by_cases ho:o < 256
  ·rw [D6 ho,D6 ho,if_neg fun h=>e h.symm]
  ·rw [List.getElem?_eq_none (by rw [Bx];omega),List.getElem?_eq_none (by rw [Bx];omega)]
theorem Bg4 (l:List Av) (o:Int):decide (0<=Ms l o)=l.any fun x=>x.has o:=by
 unfold Ms
 rw [Bool.eq_iff_iff,decide_eq_true_eq,List.any_eq_true,<-List.findIdx_lt_length]
 by_cases h:l.findIdx (fun x=>x.has o) < l.length
 ·rw [if_pos h];simp [h]
 ·rw [if_neg h];simp [h]
set_option maxRecDepth 100000 in
theorem Ad0 (z:List Av):A7 Tryz.prog A8 68 [.iv (znI z)] (.iv (spI (E5 z))) []:=by
 refine A7.ofS (n:=24) (rs:=[.tmp 2]) Tryz.func68 rfl (by kernel_rfl) Tryz.ntmps68 (by kernel_rfl) (by simp) (fun _ _=>A8.later) ?_
 intro hok V w0
 have hlen:z.length<=1073741824:=by simpa [znI] using hok.1.1
 refine g ?_
 repeat' (first | refine st_ rfl (g ?_) | refine C3 (fun h=>g ?_) (fun h=>g ?_) | refine A9 (Pj _) rfl (g ?_))
 ·rw [E5,if_neg (by simpa using h)]
  exact Bf 2
 rw [E5,if_pos (by simpa using h)]
 refine AW.adopt 3 9900 66 2 rfl rfl ?_
 refine AW.loop (fun m:{m:Nat // m<=z.length}=>⟨[(3,.own 9900),(9,.iv (znI z)),(10,.val (.int .i64 (z.length:Nat))),(11,.val (.int .i64 (m.1:Nat)))],[.row 9900 66 2 (((z.take m.1).map (·.span)).map P9)]⟩) (fun m=>z.length - m.1) ⟨0,Nat.zero_le _⟩ id ⟨⟨rfl,rfl,rfl,rfl,trivial⟩,⟨rfl,trivial⟩,by simp [Aq,BA.id]⟩ fun ⟨m,hm⟩=>?_
 repeat (refine AW.seq ?_)
 refine AW.reg rfl fun KK hKK=>?_
 refine g ?_
 repeat' (refine hKK _ (g ?_);clear hKK KK)
 repeat (refine AW.seq ?_)
 refine st_ rfl ?_
 refine g ?_
 refine Az (fun h=>?_) (fun h=>?_)
 ·refine g ?_
  repeat' (first | refine st_ rfl (g ?_) | refine ix_ (by omega) (g ?_))
  have hlt:m < z.length:=by omega
  obtain ⟨-,o1,o2,-⟩:=D7 (by simpa [znI] using hok.1.2) (enZ z[m]) (List.mem_map_of_mem (List.getElem_mem hlt))
  refine bs1 (by omega) rfl rfl rfl ⟨o1,o2,trivial⟩ ?_
  refine g ?_
  refine Bo rfl (by kernel_rfl) (by omega) (by kernel_rfl) rfl (by simp;omega) ?_
  refine g ?_
  repeat' refine st_ rfl (g ?_)
  refine ⟨⟨m+1,hlt⟩,fun b=>if b=9900 then 2000 else b,⟨⟨rfl,rfl,rfl,rfl,trivial⟩,⟨?_,trivial⟩,by simp [Aq]⟩,by show z.length - (m+1) < z.length - m;omega⟩
  rw [List.take_succ_eq_append_getElem hlt,List.map_append,List.map_append]
  rfl
 ·obtain rfl:m=z.length:=by omega
  rw [List.take_length]
  refine AW.freeze 9900 _ rfl trivial ?_
  simp only [go_sem,reduceIte,Nat.reduceEqDiff]
  refine g ?_
  repeat' refine st_ rfl (g ?_)
  refine bs1 (by omega) rfl rfl rfl ⟨trivial,trivial⟩ ?_
  refine g ?_
  refine Pb (T8 [z.map (·.span)] (by simp [F5];omega)) (by simp [Wn,J3,okA,okV]) rfl (Qt (Az6 _)) (by exact Sbs.rfl_ _) rfl ?_
  refine g ?_
  refine AW.freeze 2400 _ rfl trivial ?_
  simp only [go_sem,reduceIte,Nat.reduceEqDiff]
  refine g ?_
  repeat' refine st_ rfl (g ?_)
  simp only [List.flatten_cons,List.flatten_nil,List.append_nil]
  exact Cm.rfl_ _
set_option maxRecDepth 100000 in
theorem B60 (z:List Av):A7 Tryz.prog A8 152 [.iv (znI z)] (.iv (spI (E5 z))) []:=by
 refine A7.ofS (n:=20) (rs:=[.tmp 2]) Tryz.func152 rfl (by kernel_rfl) Tryz.ntmps152 (by kernel_rfl) (by simp) (fun _ _=>A8.later) ?_
 intro hok V w0
 have hlen:z.length<=1073741824:=by simpa [znI] using hok.1.1
 refine g ?_
 repeat' (first | refine st_ rfl (g ?_) | refine C3 (fun h=>g ?_) (fun h=>g ?_) | refine A9 (Rn _) rfl (g ?_))
 ·rw [E5,if_neg (by simpa using h)]
  exact Bf 2
 rw [E5,if_pos (by simpa using h)]
 refine AW.loop (fun m:{m:Nat // m<=256}=>⟨[(0,.iv (znI z)),(3,.bp 400 0),(4,.val (.int .i64 (m.1:Nat)))],[.arr 400 (Ct fun o=>decide (o < m.1)&&(z.any fun x=>x.has o))]⟩) (fun m=>256 - m.1) ⟨0,Nat.zero_le _⟩ id ⟨⟨rfl,rfl,rfl,trivial⟩,⟨?_,trivial⟩,by simp [Aq,BA.id]⟩ fun ⟨m,hm⟩=>?_
 ·exact congrArg (fun C=>some (BA.arr 400 C)) (Zi.trans (C6 fun o ho=>by simp))
 refine g ?_
 repeat' (first | refine st_ rfl (g ?_) | refine Az (fun h=>g ?_) (fun h=>g ?_) | refine A9 (Aq3 _ _) rfl (g ?_))
 ·refine ⟨by omega,h,?_⟩
  rw [Nat.mul_one,Nat.zero_add]
  refine g ?_
  repeat' refine Ag (g ?_)
  refine ⟨_,rfl,⟨trivial,trivial⟩,by rw [Bx];omega,?_⟩
  refine g ?_
  repeat' (first | refine st_ rfl (g ?_) | refine Ag (g ?_))
  refine ⟨⟨m+1,by omega⟩,id,⟨⟨rfl,rfl,rfl,trivial⟩,⟨congrArg (fun C=>some (BA.arr 400 C)) ?_,trivial⟩,by simp [Aq,BA.id]⟩,by show 256 - (m+1) < 256 - m;omega⟩
  rw [Ff (by omega)]
  refine C6 fun o ho=>?_
  by_cases e:o=m
  ·subst e
   rw [if_pos rfl,Bg4]
   simp
  ·rw [if_neg e]
   congr 1
   rw [decide_eq_decide]
   show o < m↔o < m+1
   omega
 ·obtain rfl:m=256:=by omega
  refine ⟨(Bx _).symm,?_⟩
  refine g ?_
  repeat' (first | refine st_ rfl (g ?_) | refine A9 (Br0 _) rfl (g ?_))
  rw [show Ch (fun o=>decide (o < 256)&&z.any fun x=>x.has o)=Br (z.map (·.span)) from Er fun o ho=>by
   rw [decide_eq_true ho,Bool.true_and,Al,List.any_map]
   rfl]
  exact Cm.rfl_ _
end Go.Proofs.YthlgnjlpakimaaaGreatDoor
