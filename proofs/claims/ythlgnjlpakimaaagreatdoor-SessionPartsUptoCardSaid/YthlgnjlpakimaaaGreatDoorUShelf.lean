/- Shelves: formed, an object's write, all of them (the program's and the reference's). -/
import Derived.Test.YthlgnjlpakimaaaGreatDoorUZones
import Derived.Test.YthlgnjlpakimaaaGreatDoorURep
set_option linter.all false
set_option linter.unnecessarySimpa false
set_option linter.unusedSimpArgs false
set_option linter.unusedVariables false
namespace Go.Proofs.YthlgnjlpakimaaaGreatDoor
open Go.ChangeShapes Go.WideShapes Go.ChangeAt Go.RowKit
attribute [local irreducible] AW AWY Bw Bc vop Bj Az Bi qop By Ce Ar Ap Bo A7 Bd C5
attribute [local go_sem] Ei Dp J9 Ai An
theorem Xv (c n:Int):A7 Tryz.prog A8 140 [.agg [.val (.int .i64 c),.val (.int .i64 n)]] (.val (.bool (Bm c n))) [] :=
 Bq Tryz.func140 rfl (by kernel_rfl) fun V w E vs hV hG hr=>by
  obtain ⟨v0,rfl,h0⟩:=Fy hr
  obtain rfl:=Wz h0
  exact Ry c n w
theorem Vo (c n:Int):A7 Tryz.prog A8 57 [.agg [.val (.int .i64 c),.val (.int .i64 n)]] (.val (.bool (Bm c n))) [] :=
 Bq Tryz.func57 rfl (by kernel_rfl) fun V w E vs hV hG hr=>by
  obtain ⟨v0,rfl,h0⟩:=Fy hr
  obtain rfl:=Wz h0
  exact Ag0 c n w
theorem Ab5 (w:Aq):A7 Tryz.prog A8 132 [wA w] (.val (.bool (Gi w))) []:=by
 refine A7.of (n:=16) (rs:=[.tmp 2]) Tryz.func132 rfl (by kernel_rfl) Tryz.ntmps132 (by kernel_rfl) (by simp) (fun _ _=>A8.later) ?_
 intro hok V w0
 obtain ⟨B,hB⟩ : ∃ B,Gi w=B:=⟨_,rfl⟩
 rw [hB]
 unfold Gi Jv at hB
 refine g ?_
 repeat' (first | refine st_ rfl (g ?_) | (refine Cz rfl rfl (fun h e=>?_) (fun h e=>?_)<;>simp only [e]<;>clear e<;>refine g ?_) | refine Aa (Xv _ _) rfl (g ?_))
 all_goals (rw [<-hB,Bool.eq_iff_iff];simp [*];try omega)
theorem A60 (w:Aq):A7 Tryz.prog A8 154 [wA w] (.val (.bool (Gi w))) []:=by
 refine A7.of (n:=16) (rs:=[.tmp 2]) Tryz.func154 rfl (by kernel_rfl) Tryz.ntmps154 (by kernel_rfl) (by simp) (fun _ _=>A8.later) ?_
 intro hok V w0
 obtain ⟨B,hB⟩ : ∃ B,Gi w=B:=⟨_,rfl⟩
 rw [hB]
 unfold Gi Jv at hB
 refine g ?_
 repeat' (first | refine st_ rfl (g ?_) | (refine Cz rfl rfl (fun h e=>?_) (fun h e=>?_)<;>simp only [e]<;>clear e<;>refine g ?_) | refine Aa (Vo _ _) rfl (g ?_))
 all_goals (rw [<-hB,Bool.eq_iff_iff];simp [*];try omega)
set_option maxRecDepth 100000 in
theorem Gs (l:List Aq):A7 Tryz.prog A8 112 [.iv (wrI l)] (.val (.bool (Bp l))) []:=by
 refine A7.of (n:=24) (rs:=[.tmp 2]) Tryz.func112 rfl (by kernel_rfl) Tryz.ntmps112 (by kernel_rfl) (by simp) (fun _ _=>A8.later) ?_
 intro hok V w0
 have hlen:l.length<=1073741824:=by simpa [wrI] using hok.1.1
 obtain ⟨B,hB⟩ : ∃ B,Bp l=B:=⟨_,rfl⟩
 rw [hB]
 refine g ?_
 repeat' refine st_ rfl (g ?_)
 refine AW.loop (fun m:{m:Nat // m<=l.length/\C9 (-1) (l.take m)=true}=>⟨[(3,.val (.int .i64 (Fi (-1) (l.take m.1)))),(6,.iv (wrI l)),(7,.val (.int .i64 (l.length:Nat))),(8,.val (.int .i64 (m.1:Nat)))],[]⟩) (fun m=>l.length - m.1) ⟨0,Nat.zero_le _,rfl⟩ id ⟨⟨rfl,rfl,rfl,rfl,trivial⟩,trivial,List.nodup_nil⟩ fun ⟨m,hm,ht⟩=>?_
 refine g ?_
 repeat' (first | refine st_ rfl (g ?_) | refine Bk (fun h=>g ?_) (fun h=>g ?_) | (refine Eu rfl rfl (fun h=>?_) (fun h=>?_)<;>simp only [h]<;>refine g ?_) | refine ix_ (by omega) (g ?_) | refine Aa (Ab5 _) rfl (g ?_))
 ·rw [<-hB,T5 (by omega) ht];simp at h;simp [h]
 ·rw [<-hB,T5 (by omega) ht,decide_eq_false (by omega)];simp
 ·obtain ⟨g1,g2⟩:=S0 (by omega) ht (by simp at *;assumption) (by omega)
  refine ⟨⟨m+1,by omega,g1⟩,id,⟨⟨by rw [g2];rfl,rfl,rfl,rfl,trivial⟩,trivial,List.nodup_nil⟩,by show l.length - (m+1) < l.length - m;omega⟩
 ·obtain rfl:m=l.length:=by omega
  rw [List.take_length] at ht
  rw [<-hB];exact ht.symm
set_option maxRecDepth 100000 in
theorem Pz (l:List Aq):A7 Tryz.prog A8 76 [.iv (wrI l)] (.val (.bool (Bp l))) []:=by
 refine A7.of (n:=34) (rs:=[.tmp 2]) Tryz.func76 rfl (by kernel_rfl) Tryz.ntmps76 (by kernel_rfl) (by simp) (fun _ _=>A8.later) ?_
 intro hok V w0
 have hlen:l.length<=1073741824:=by simpa [wrI] using hok.1.1
 obtain ⟨B,hB⟩ : ∃ B,Bp l=B:=⟨_,rfl⟩
 rw [hB]
 refine g ?_
 repeat' refine st_ rfl (g ?_)
 refine AW.loop (fun m:{m:Nat // m<=l.length/\C9 (-1) (l.take m)=true}=>⟨[(0,.iv (wrI l)),(3,.val (.int .i64 (m.1:Nat)))],[]⟩) (fun m=>l.length - m.1) ⟨0,Nat.zero_le _,rfl⟩ id ⟨⟨rfl,rfl,trivial⟩,trivial,List.nodup_nil⟩ fun ⟨m,hm,ht⟩=>?_
 refine g ?_
 repeat' (first | refine st_ rfl (g ?_) | refine Bk (fun h=>g ?_) (fun h=>g ?_))
 ·refine AW.drawn (ds:=[10,11,12,13,14,15,16,17,18,19,20,21,22,23,24,25,26,27,28,29,30,31,32,33]) (fin:=[]) (bs:=[0,0,0,0,0,0,0,0,0,0,0,0,0,0,0,0,0,0,0,0,0,0,0,0]) [⟨[],[],[],[],0⟩,⟨[],[],[],[],0⟩,⟨[(10,0),(11,1)],[],[],[],0⟩,⟨[(12,2)],[],[],[],0⟩,⟨[(13,3)],[],[],[],0⟩,⟨[(14,4)],[],[],[],0⟩,⟨[(15,5)],[],[],[],0⟩,⟨[],[],[],[],0⟩,⟨[(17,7)],[],[],[],0⟩,⟨[(18,8)],[],[],[],0⟩,⟨[],[],[],[],0⟩,⟨[],[],[],[],0⟩,⟨[(21,11)],[],[],[],0⟩,⟨[(20,10),(22,12)],[],[],[],0⟩,⟨[(23,13)],[],[],[],0⟩,⟨[(24,14)],[],[],[],0⟩,⟨[],[],[],[],0⟩,⟨[],[],[],[],0⟩,⟨[(26,16),(27,17)],[],[],[],0⟩,⟨[(28,18)],[],[],[],0⟩,⟨[(29,19)],[],[],[],0⟩,⟨[(25,15),(30,20)],[],[],[],0⟩,⟨[(19,9),(31,21)],[],[],[],0⟩,⟨[(16,6),(32,22)],[],[],[],0⟩] (by kernel_rfl) rfl (by kernel_rfl) rfl rfl rfl fun KD hKD=>?_
  refine g ?_
  repeat' (first | refine st_ rfl (g ?_) | refine Bk (fun h=>g ?_) (fun h=>g ?_) | (refine hKD _ _ ⟨rfl,g ?_⟩;clear hKD KD) | (refine L8 rfl rfl (fun h e=>?_) (fun h e=>?_)<;>simp only [e]<;>clear e<;>refine g ?_) | (refine B73 rfl rfl (fun h=>?_) (fun h=>?_)<;>simp only [h]<;>refine g ?_) | refine ix_ (by omega) (g ?_) | refine Aa (A60 _) rfl (g ?_) | (refine ixm (m - 1) (by omega) (by omega) (by omega) ?_)<;>refine g ?_)
  ·rw [<-hB,T5 (by omega) ht];simp at h;simp [h]
  ·rw [<-hB,T5 (by omega) ht,Vk (by omega) (by omega),decide_eq_false (by omega)];simp
  ·obtain ⟨g1,g2⟩:=S0 (m:=m) (by omega) ht (by simp at *;assumption) (by rw [Vk (by omega) (by omega)];omega)
   refine ⟨⟨m+1,by omega,g1⟩,id,⟨⟨rfl,rfl,trivial⟩,trivial,List.nodup_nil⟩,by show l.length - (m+1) < l.length - m;omega⟩
  ·have hw:Gi l[m]=true:=by simp at *;assumption
   obtain ⟨g1,g2⟩:=S0 (m:=m) (by omega) ht hw (by
    rw [show l.take m=[] by rw [show m=0 by omega];rfl]
    simp only [Gi,Jv,Bool.and_eq_true,decide_eq_true_eq] at hw
    show (-1:Int) < _
    omega)
   refine ⟨⟨m+1,by omega,g1⟩,id,⟨⟨rfl,rfl,trivial⟩,trivial,List.nodup_nil⟩,by show l.length - (m+1) < l.length - m;omega⟩
 ·obtain rfl:m=l.length:=by omega
  rw [List.take_length] at ht
  rw [<-hB];exact ht.symm
set_option maxRecDepth 100000 in
theorem Ba1 (l:List Aq) (o:Int):A7 Tryz.prog A8 157 [.iv (wrI l),.val (.int .i64 o)] (.tup [wA ((M3 l o).getD noW),.val (.bool (M3 l o).isSome)]) []:=by
 refine A7.of (n:=25) (rs:=[.cell 4 49,.tmp 5]) Tryz.func157 rfl (by kernel_rfl) Tryz.ntmps157 (by kernel_rfl) (by simp) (fun _ _=>A8.later) ?_
 intro hok V w0
 have hlen:l.length<=1073741824:=by simpa [wrI] using hok.1.1
 refine g ?_
 repeat' refine st_ rfl (g ?_)
 refine AW.loop (fun m:{m:Nat // m<=l.length/\∀ w∈l.take m,¬ w.object=o}=>⟨[(0,.iv (wrI l)),(1,.val (.int .i64 o)),(4,.bp 500 0),(6,.val (.int .i64 (m.1:Nat)))],[.box 500 [.val (.int .i64 0),.val (.int .i64 0),.val (.int .i64 0),.val (.bool false)]]⟩) (fun m=>l.length - m.1) ⟨0,Nat.zero_le _,fun w hw=>by simp at hw⟩ id ⟨⟨rfl,rfl,rfl,rfl,trivial⟩,⟨rfl,trivial⟩,by simp [Ay,BA.id]⟩ fun ⟨m,hm,ht⟩=>?_
 refine g ?_
 repeat' (first | refine st_ rfl (g ?_) | refine Bk (fun h=>g ?_) (fun h=>g ?_) | refine ix_ (by omega) (g ?_))
 ·rw [A37 ht (by omega) h];rfl
 ·refine ⟨⟨m+1,by omega,B43 (by omega) ht h⟩,id,⟨⟨rfl,rfl,rfl,rfl,trivial⟩,⟨rfl,trivial⟩,by simp [Ay,BA.id]⟩,by show l.length - (m+1) < l.length - m;omega⟩
 ·obtain rfl:m=l.length:=by omega
  rw [List.take_length] at ht
  rw [Uw ht];rfl
end Go.Proofs.YthlgnjlpakimaaaGreatDoor
