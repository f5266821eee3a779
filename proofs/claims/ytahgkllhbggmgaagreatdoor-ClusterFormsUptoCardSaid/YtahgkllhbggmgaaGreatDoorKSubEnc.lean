/- Subscriptions as trees; one's own copy of them (the reference's). -/
import Derived.Test.YtahgkllhbggmgaaGreatDoorKShelfAll
import Derived.Test.YtahgkllhbggmgaaGreatDoorKMeet
import Derived.Test.YtahgkllhbggmgaaGreatDoorKRefLog
import Derived.Test.YtahgkllhbggmgaaGreatDoorKSubsForm
set_option linter.all false
set_option linter.unnecessarySimpa false
set_option linter.unusedSimpArgs false
set_option linter.unusedVariables false
namespace Go.Proofs.YtahgkllhbggmgaaGreatDoor
open Go.ChangeShapes Go.WideShapes Go.ChangeAt Go.RowKit
attribute [local irreducible] AW AWY Bd As vop B4 Ap Aw qop Bc Bs Ai Ag Ay A7 Av Et
attribute [local go_sem] He Ek F8 Dg Ei Cr Je Fz Dx Es Ae Af
set_option maxRecDepth 100000 in
set_option maxHeartbeats 1600000 in
theorem Bh1 (hc:∀ (l:List Ci) (room:Int),I64 room->A7 Tryz.prog A8 62 [.iv (boI l),.val (.int .i64 room)] (.val (.bool (Cq l room))) []) (v:Gb) (iR:I64 v.room):A7 Tryz.prog A8 63 [vwA v] (.val (.bool (Au v))) []:=by
 refine A7.of (n:=62) (rs:=[.cell 2 4]) Tryz.func63 rfl (by kernel_rfl) Tryz.ntmps63 (by kernel_rfl) (by simp) (fun _ _=>A8.later) ?_
 intro hok V w0
 have hz:v.zones.length<=1073741824:=by simpa [znI] using hok.1.2.1.1
 obtain ⟨B,hB⟩ : ∃ B,Au v=B:=⟨_,rfl⟩
 rw [hB]
 refine g ?_
 refine AW.seq ?_
 refine AW.reg rfl fun KK hKK=>?_
 refine g ?_
 repeat' (refine hKK _ (g ?_);clear hKK KK)
 refine AW.freeze 200 _ rfl ⟨trivial,trivial,trivial,trivial,iR,trivial⟩ ?_
 simp only [go_sem,reduceIte,Nat.reduceEqDiff]
 refine g ?_
 repeat' (first | refine st_ rfl (g ?_) | refine Da (fun h=>g ?_) (fun h=>g ?_) | (refine Dm rfl rfl (fun h=>?_) (fun h=>?_)<;>simp only [h]<;>refine g ?_) | refine Aa (Fo _) rfl (g ?_) | refine Aa (Qo _) rfl (g ?_) | refine Aa (Hf _) rfl (g ?_) | refine Aa (hc _ _ iR) rfl (g ?_))
 ·rw [<-hB];simp at h;simp [Au,Gl,h]
 ·rw [<-hB];simp at h;simp [Au,Gl,h]
 ·rw [<-hB];simp at h;simp [Au,Gl,h]
 ·rw [<-hB];simp at h;simp [Au,Gl,h]
 have hP:Gl v=true:=by simp at *;simp [Gl, *]
 have hH:C7 v.held=true:=by simp only [Gl,Bool.and_eq_true] at hP;exact hP.1.2
 refine AW.loop (fun m:{m:Nat // m<=v.zones.length/\∀ x∈v.zones.take m,decide (Wy x.vec v.known=1)=true}=>⟨[(1,.ip [stI v.known,znI v.zones,wrI v.held,boI v.bodies,.val (.int .i64 v.room)]),(2,.bp 300 0),(32,.iv (znI v.zones)),(33,.val (.int .i64 (v.zones.length:Nat))),(34,.val (.int .i64 (m.1:Nat)))],[.box 300 [.val (.bool false)]]⟩) (fun m=>v.zones.length - m.1) ⟨0,Nat.zero_le _,fun x hx=>by simp at hx⟩ id ⟨⟨rfl,rfl,rfl,rfl,rfl,trivial⟩,⟨rfl,trivial⟩,by simp [D4,BA.id]⟩ fun ⟨m,hm,ht⟩=>?_
 refine g ?_
 repeat' (first | refine st_ rfl (g ?_) | refine Aj (fun h=>g ?_) (fun h=>g ?_) | refine ix_ (by omega) (g ?_) | refine Aa (Xf _ _) rfl (g ?_) | refine Aa (Aj3 _) rfl (g ?_))
 ·have hlt:m < v.zones.length:=by omega
  rw [<-hB];simp only [Au];rw [A47 (l:=v.zones) (p:=fun (x:Bi)=>decide (Wy x.vec v.known=1)) hlt (by simpa using h)];simp
 ·exact ⟨⟨m+1,by omega,Rv (by omega) ht (by simpa using h)⟩,id,⟨⟨rfl,rfl,rfl,rfl,rfl,trivial⟩,⟨rfl,trivial⟩,by simp [D4,BA.id]⟩,by show v.zones.length - (m+1) < v.zones.length - m;omega⟩
 obtain rfl:m=v.zones.length:=by omega
 rw [List.take_length] at ht
 have h1:(v.zones.all fun x=>decide (Wy x.vec v.known=1))=true:=List.all_eq_true.2 ht
 refine AW.le (S:=⟨[(2,.bp 300 0),(1,.ip [stI v.known,znI v.zones,wrI v.held,boI v.bodies,.val (.int .i64 v.room)]),(47,.fn 264 [.ip [wrI v.held]])],[.box 300 [.val (.bool false)]]⟩) (ρ:=id) ⟨⟨rfl,rfl,rfl,trivial⟩,⟨rfl,trivial⟩,by simp [D4,BA.id]⟩ ?_
 refine AW.range (Aj2 v.held hH) [(2,.bp 300 0)] [(1,.ip [stI v.known,znI v.zones,wrI v.held,boI v.bodies,.val (.int .i64 v.room)]),(47,.fn 264 [.ip [wrI v.held]])] (fun _=>[.box 300 [.val (.bool false)]]) (fun pre=>∀ w∈pre,G4 v.zones v.known w=true) rfl (fun w hw=>by cases hw) rfl rfl rfl rfl (fun x=>⟨rfl,rfl⟩) (fun k pre x hsp hI=>?_) (fun xs hS hI=>?_)
 ·simp only [Aa9,Cp7,List.cons_append,List.nil_append]
  refine g ?_
  refine g ?_
  repeat' (first | refine st_ rfl (g ?_) | refine Da (fun h=>g ?_) (fun h=>g ?_) | refine Aa (A03 _ _ x) rfl (g ?_))
  ·refine ⟨id,[.box 300 [.val (.bool false)]],⟨⟨rfl,trivial⟩,⟨rfl,trivial⟩,by simp [D4,BA.id]⟩,?_⟩
   refine g ?_
   have hx:x∈v.held:=hsp.subset (by simp)
   rw [<-hB]
   simp only [Au]
   rw [show (v.held.all fun w=>G4 v.zones v.known w)=false from List.all_eq_false.2 ⟨x,hx,by simpa using h⟩]
   simp
  ·refine ⟨fun w hw=>?_,id,⟨rfl,trivial⟩,⟨rfl,trivial⟩,by simp [D4,BA.id]⟩
   rcases List.mem_append.1 hw with h3 | h3
   ·exact hI w h3
   ·rw [List.mem_singleton.1 h3];simpa using h
 ·obtain rfl:xs=v.held:=hS
  have h2:(v.held.all fun x=>G4 v.zones v.known x)=true:=List.all_eq_true.2 hI
  refine g ?_
  repeat' (first | refine st_ rfl (g ?_) | refine Aa (Ao7 _ _ _ _ (fun x=>A33 v x hH)) rfl (g ?_))
  rw [<-hB]
  simp only [Au]
  rw [hP,h1,h2,List.not_any_eq_all_not]
  simp
end Go.Proofs.YtahgkllhbggmgaaGreatDoor
namespace Go.Proofs.YtahgkllhbggmgaaGreatDoor
open Go.ChangeShapes Go.WideShapes Go.ChangeAt Go.RowKit
attribute [local irreducible] AW AWY Bd As vop B4 Ap Aw qop Bc Bs Ai Ag Ay A7 Av Et
attribute [local go_sem] He Ek F8 Dg Ae Af
set_option maxRecDepth 100000 in
theorem Mj (l:List Ci) (room:Int) (iR:I64 room):A7 Tryz.prog A8 62 [.iv (boI l),.val (.int .i64 room)] (.val (.bool (Cq l room))) []:=by
 refine A7.of (n:=43) (rs:=[.tmp 4]) Tryz.func62 rfl (by kernel_rfl) Tryz.ntmps62 (by kernel_rfl) (by simp) (fun _ _=>A8.later) ?_
 intro hok V w0
 have hlen:l.length<=1073741824:=by simpa [boI] using hok.1.1
 obtain ⟨B,hB⟩ : ∃ B,Cq l room=B:=⟨_,rfl⟩
 rw [hB]
 unfold Cq Jg at hB
 refine g ?_
 repeat' (first | refine st_ rfl (g ?_) | refine Aj (fun h=>g ?_) (fun h=>g ?_) | (refine B7 rfl rfl (fun h e=>?_) (fun h e=>?_)<;>simp only [e]<;>clear e<;>refine g ?_))
 ·rw [<-hB,decide_eq_false (p:=0<=room) (by omega)];rfl
 ·rw [<-hB,decide_eq_false (p:=room<=16777216) (by omega)];simp
 ·rw [<-hB,decide_eq_false (p:=l.length<=256) (by omega)];simp
 rw [decide_eq_true (p:=0<=room) (by omega),decide_eq_true (p:=room<=16777216) (by omega),decide_eq_true (p:=l.length<=256) (by omega),Bool.true_and,Bool.true_and,Bool.true_and] at hB
 refine AW.loop (fun x:{x:Nat×List (Int×Value) // x.1<=l.length/\J0 (l.take x.1)=true/\∀ o,(J3 x.2 o).getD (.bool false)=.bool (Xt (l.take x.1) o)}=>⟨[(0,.iv (boI l)),(1,.val (.int .i64 room)),(5,.mv 2000),(20,.iv (boI l)),(21,.val (.int .i64 (l.length:Nat))),(22,.val (.int .i64 (x.1.1:Nat)))],[.mp 2000 .i64 x.1.2]⟩) (fun x=>l.length - x.1.1) ⟨(0,[]),Nat.zero_le _,rfl,fun o=>rfl⟩ id ⟨⟨rfl,rfl,rfl,rfl,rfl,rfl,trivial⟩,⟨rfl,trivial⟩,by simp [D4,BA.id]⟩ fun ⟨⟨m,kv⟩,hm,ht,hk⟩=>?_
 simp only at hm ht hk
 refine g ?_
 repeat' (first | refine st_ rfl (g ?_) | refine Aj (fun h=>g ?_) (fun h=>g ?_) | refine ix_ (by omega) (g ?_))
 ·have hlt:m < l.length:=by omega
  refine ⟨.bool (Xt (l.take m) l[m].object),hk _,?_⟩
  cases hh:Xt (l.take m) l[m].object
  ·refine g ?_
   repeat' (first | refine st_ rfl (g ?_) | refine Bt (g ?_) | refine Da (fun h=>g ?_) (fun h=>g ?_) | refine Aa (Ag2 _) rfl (g ?_))
   ·rw [<-hB,U9 hlt ht (.inl (by simpa using h))];rfl
   ·have hr:Cz l[m]=true:=by simpa using h
    refine ⟨⟨(m+1,_),hlt,by rw [Sa hlt ht,hr,hh];rfl,fun o=>?_⟩,id,⟨⟨rfl,rfl,rfl,rfl,rfl,rfl,trivial⟩,⟨rfl,trivial⟩,by simp [D4,BA.id]⟩,by show l.length - (m+1) < l.length - m;omega⟩
    rw [Yq,Yy hlt]
    by_cases e:o=l[m].object
    ·rw [if_pos e,e];simp
    ·rw [if_neg e,hk o,decide_eq_false (fun e'=>e e'.symm),Bool.or_false]
  ·refine g ?_
   repeat' (first | refine st_ rfl (g ?_) | refine Bt (g ?_))
   rw [<-hB,U9 hlt ht (.inr hh)];rfl
 ·obtain rfl:m=l.length:=by omega
  rw [List.take_length] at ht
  refine Aa (Aw3 l (by omega) fun x hx=>(M4 (Vs ht x hx)).2.2) rfl ?_
  refine g ?_
  repeat' refine st_ rfl (g ?_)
  rw [<-hB,ht];rfl
end Go.Proofs.YtahgkllhbggmgaaGreatDoor
namespace Go.Proofs.YtahgkllhbggmgaaGreatDoor
open Go.ChangeShapes Go.WideShapes Go.ChangeAt Go.RowKit
attribute [local irreducible] AW AWY Bd As vop B4 Ap Aw qop Bc Bs Ai Ag Ay A7 Av Et
attribute [local go_sem] Ae Af
def Dk3:Prop:=∀ ls:List (List Ad),(∀ l∈ls,B6 l=true)->A7 Tryz.prog A8 440 [.iv (Bu0 ls)] (.iv (stI (Ba9 ls))) []
def B82 (it:List Ar) (ps:List Bi):List (List Ad):=(ps.filter fun x=>B50 it [x.span]).map (·.vec)
def Bu6 (z:List Bi) (known:List Ad) (it:List Ar):List Ad:=if D0 z=true/\B6 known=true then (if (B82 it (As8 z known)).length=0 then known else Ba9 (B82 it (As8 z known))) else []
end Go.Proofs.YtahgkllhbggmgaaGreatDoor
namespace Go.Proofs.YtahgkllhbggmgaaGreatDoor
end Go.Proofs.YtahgkllhbggmgaaGreatDoor
namespace Go.Proofs.YtahgkllhbggmgaaGreatDoor
open Go.ChangeShapes Go.WideShapes Go.ChangeAt Go.RowKit
attribute [local irreducible] AW AWY Bd As vop B4 Ap Aw qop Bc Bs Ai Ag Ay A7 Av Et
attribute [local go_sem] Es Ae Af
def D00 (v:Gb) (it:List Ar):List Ad:=if Au v=true then Bu6 v.zones v.known it else []
end Go.Proofs.YtahgkllhbggmgaaGreatDoor
namespace Go.Proofs.YtahgkllhbggmgaaGreatDoor
open Go.ChangeShapes Go.WideShapes Go.ChangeAt Go.RowKit
attribute [local irreducible] AW AWY Bd As vop B4 Ap Aw qop Bc Bs Ai Ag Ay A7 Av Et
theorem Ai3 (v:Gb) (iR:I64 v.room):A7 Tryz.prog A8 63 [vwA v] (.val (.bool (Au v))) []:=Bh1 (fun l r h=>Mj l r h) v iR
end Go.Proofs.YtahgkllhbggmgaaGreatDoor
namespace Go.Proofs.YtahgkllhbggmgaaGreatDoor
open Go.ChangeShapes Go.WideShapes Go.ChangeAt Go.RowKit
attribute [local irreducible] AW AWY Bd As vop B4 Ap Aw qop Bc Bs Ai Ag Ay A7 Av Et
attribute [local go_sem] Ae Af
def Wm (s:Sub):List IV:=[.val (.int .i64 s.from_),spI s.interest,.val (.int .i64 s.session),.val (.int .i64 s.seq),.val (.bool s.live),.val (.bool s.heard),.val (.bool s.idle)]
def Hu (l:List Sub):IV:=.sl 7 (l.map Wm)
theorem Nm (s:Sub):Wm s=[.val (.int .i64 s.from_),spI s.interest,.val (.int .i64 s.session),.val (.int .i64 s.seq),.val (.bool s.live),.val (.bool s.heard),.val (.bool s.idle)]:=rfl
theorem Kl (l:List Sub):Hu l=.sl 7 (l.map Wm):=rfl
attribute [local go_sem] Nm Kl
end Go.Proofs.YtahgkllhbggmgaaGreatDoor
