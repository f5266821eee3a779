/- Whether bodies are as they must be (the program's): a set that is kept in a map. -/
import Derived.Test.YtahgkllhbggmgaaGreatDoorLPlace
import Derived.Test.YtahgkllhbggmgaaGreatDoorLReached
import Derived.Test.YtahgkllhbggmgaaGreatDoorLStreamArgs
import Derived.Test.YtahgkllhbggmgaaGreatDoorLRefThr
import Derived.Test.YtahgkllhbggmgaaGreatDoorLTouch
set_option linter.all false
set_option linter.unnecessarySimpa false
set_option linter.unusedSimpArgs false
set_option linter.unusedVariables false
namespace Go.Proofs.YtahgkllhbggmgaaGreatDoor
open Go.ChangeShapes Go.WideShapes Go.ChangeAt Go.RowKit
attribute [local irreducible] AW AWY Be As vop Az Aq Ax qop Bd Bv Aj Ag Ay A7 Aw Du
attribute [local go_sem] Gr Eg Ez Dp Dz Ch Gu Fp Dx E6 Ae Af
set_option maxRecDepth 100000 in
theorem Ac9 (l:List Ar) (x:Cr) (hf:Cd l=true):A7 Tryz.prog A8 138 [.iv (wrI l),boA x] (.val (.bool (Fb l x))) []:=by
 refine A7.of (n:=28) (rs:=[.tmp 4]) Tryz.func138 rfl (by kernel_rfl) Tryz.ntmps138 (by kernel_rfl) (by simp) (fun _ _=>A8.later) ?_
 intro hok V w0
 obtain ⟨B,hB⟩ : ∃ B,Fb l x=B:=⟨_,rfl⟩
 rw [hB]
 unfold Fb A41 at hB
 have hat:=Ar6 l x.object
 unfold A97 at hat
 rw [if_pos hf] at hat
 cases hg:N8 l x.object with
 | none =>
  rw [hg] at hB hat
  refine g ?_
  repeat' (first | refine st_ rfl (g ?_) | refine Aa (hat) rfl (g ?_))
  exact hB
 | some w =>
  rw [hg] at hB hat
  simp only at hat hB
  rw [Zr] at hB
  refine g ?_
  repeat' (first | refine st_ rfl (g ?_) | refine Aa (hat) rfl (g ?_))
  refine ⟨_,fun u=>S6 _ _ _ _ _ _ u,?_⟩
  refine g ?_
  repeat' (first | refine st_ rfl (g ?_) | refine B9 (g ?_) | (refine E9 rfl rfl (fun h=>?_) (fun h=>?_)<;>simp only [h]<;>refine g ?_))
  ·rw [<-hB,h];simp
  ·rw [<-hB,h];simp
set_option maxRecDepth 100000 in
theorem Bb5 (l:List Cr) (f:FuncId) (C:List IV) (p:Cr->Bool) (hp:∀ x,A7 Tryz.prog A8 f [boA x,.ip C] (.val (.bool (p x))) []):A7 Tryz.prog A8 266 [.iv (boI l),.fn f [.ip C]] (.val (.int .i64 (if l.any p=true then ((l.findIdx p:Nat):Int) else -1))) []:=by
 refine A7.of (n:=19) (rs:=[.tmp 4]) Tryz.func266 rfl (by kernel_rfl) Tryz.ntmps266 (by kernel_rfl) (by simp) (fun _ _=>A8.later) ?_
 intro hok V w0
 have hlen:l.length<=1073741824:=by simpa [boI] using hok.1.1
 refine g ?_
 repeat' refine st_ rfl (g ?_)
 refine AW.loop (fun m:{m:Nat // m<=l.length/\∀ x∈l.take m,p x=false}=>⟨[(0,.iv (boI l)),(1,.fn f [.ip C]),(7,.val (.int .i64 (l.length:Nat))),(8,.val (.int .i64 (m.1:Nat)))],[]⟩) (fun m=>l.length - m.1) ⟨0,Nat.zero_le _,fun x hx=>by simp at hx⟩ id ⟨⟨rfl,rfl,rfl,rfl,trivial⟩,trivial,List.nodup_nil⟩ fun ⟨m,hm,ht⟩=>?_
 refine g ?_
 repeat' (first | refine st_ rfl (g ?_) | refine Al (fun h=>g ?_) (fun h=>g ?_) | refine De (fun h=>g ?_) (fun h=>g ?_) | refine ix_ (by omega) (g ?_) | refine Aa (hp _) rfl (g ?_))
 ·have hlt:m < l.length:=by omega
  rw [if_pos (List.any_eq_true.2 ⟨_,List.getElem_mem hlt,h⟩),(List.findIdx_eq hlt).2 ⟨h,fun j hj=>ht _ (List.mem_take_iff_getElem.2 ⟨j,by omega,rfl⟩)⟩]
 ·refine ⟨⟨m+1,by omega,fun x hx=>?_⟩,id,⟨⟨rfl,rfl,rfl,rfl,trivial⟩,trivial,List.nodup_nil⟩,by show l.length - (m+1) < l.length - m;omega⟩
  rw [List.take_succ_eq_append_getElem (by omega)] at hx
  rcases List.mem_append.1 hx with h1 | h1
  ·exact ht x h1
  ·rw [List.mem_singleton.1 h1];exact h
 ·obtain rfl:m=l.length:=by omega
  rw [List.take_length] at ht
  rw [if_neg]
  rw [List.any_eq_true]
  rintro ⟨x,hx,hp⟩
  rw [ht x hx] at hp
  cases hp
theorem Ax6 (l:List Cr) (f:FuncId) (C:List IV) (p:Cr->Bool) (hp:∀ x,A7 Tryz.prog A8 f [boA x,.ip C] (.val (.bool (p x))) []):A7 Tryz.prog A8 136 [.iv (boI l),.fn f [.ip C]] (.val (.bool (l.any p))) []:=by
 refine A7.of (n:=9) (rs:=[.tmp 4]) Tryz.func136 rfl (by kernel_rfl) Tryz.ntmps136 (by kernel_rfl) (by simp) (fun _ _=>A8.later) ?_
 intro hok V w0
 have h1:=Bb5 l f C p hp
 cases ha:l.any p with
 | true =>
  rw [if_pos ha] at h1
  refine g ?_
  repeat' (first | refine st_ rfl (g ?_) | refine Aa (h1) rfl (g ?_))
  exact decide_eq_true (by omega)
 | false =>
  rw [if_neg (by rw [ha];decide)] at h1
  refine g ?_
  repeat' (first | refine st_ rfl (g ?_) | refine Aa (h1) rfl (g ?_))
  rfl
theorem A98 (v:E8) (x:Cr) (hf:Cd v.held=true):A7 Tryz.prog A8 137 [boA x,.ip [stI v.known,znI v.zones,wrI v.held,boI v.bodies,.val (.int .i64 v.room)]] (.val (.bool (!Fb v.held x))) []:=by
 refine A7.of (n:=9) (rs:=[.tmp 3]) Tryz.func137 rfl (by kernel_rfl) Tryz.ntmps137 (by kernel_rfl) (by simp) (fun _ _=>A8.later) ?_
 intro hok V w0
 refine g ?_
 repeat' (first | refine st_ rfl (g ?_) | exact trivial | refine Aa (Ac9 _ x hf) rfl (g ?_))
end Go.Proofs.YtahgkllhbggmgaaGreatDoor
namespace Go.Proofs.YtahgkllhbggmgaaGreatDoor
variable {α : Type}
def E36 (l:List α) (a i:Nat):List (α×Nat):=((l.take i).drop a).zipIdx a
def Dx7 (l:List α) (a:Nat):List (α×Nat):=(l.drop a).zipIdx a
end Go.Proofs.YtahgkllhbggmgaaGreatDoor
namespace Go.Proofs.YtahgkllhbggmgaaGreatDoor
open Go.ChangeShapes Go.WideShapes Go.ChangeAt Go.RowKit
attribute [local irreducible] AW AWY Be As vop Az Aq Ax qop Bd Bv Aj Ag Ay A7 Aw
attribute [local go_sem] Ge L5 G9 Cf Ae Af
theorem A88 (l:Log) (iS:I64 l.sure):A7 Tryz.prog A8 64 [Xz l] (.val (.bool (C6 l))) []:=by
 refine A7.of (n:=11) (rs:=[.tmp 2]) Tryz.func64 rfl (by kernel_rfl) Tryz.ntmps64 (by kernel_rfl) (by simp) (fun _ _=>A8.later) ?_
 intro hok V w0
 refine g ?_
 refine g ?_
 repeat' refine st_ rfl (g ?_)
 refine Aa (Aw6 l iS) rfl ?_
 refine g ?_
 repeat' refine st_ rfl (g ?_)
 first | exact trivial | exact ⟨.inl trivial,id,List.nodup_nil⟩ | rfl
end Go.Proofs.YtahgkllhbggmgaaGreatDoor
namespace Go.Proofs.YtahgkllhbggmgaaGreatDoor
open Go.ChangeShapes Go.WideShapes Go.ChangeAt Go.RowKit
attribute [local irreducible] AW AWY Be As vop Az Aq Ax qop Bd Bv Aj Ag Ay A7 Aw
attribute [local go_sem] Ge L5 G9 Cf Ae Af
def Du6 (l:Log):AV:=.ip [stI l.base,noI l.notes,.val (.int .i64 l.sure)]
theorem Bx4 (l:Log):Du6 l=.ip [stI l.base,noI l.notes,.val (.int .i64 l.sure)]:=rfl
attribute [local go_sem] Bx4
def enL (p:Bz×Nat):List AV:=[.val (.int .i64 (p.2:Nat)),Qz p.1]
def E41 (l:Log) (a:Nat):List (Bz×Nat):=if C6 l=true then Dx7 l.notes a else []
end Go.Proofs.YtahgkllhbggmgaaGreatDoor
namespace Go.Proofs.YtahgkllhbggmgaaGreatDoor
open Go.ChangeShapes Go.WideShapes Go.ChangeAt Go.RowKit
attribute [local irreducible] AW AWY Be As vop Az Aq Ax qop Bd Bv Aj Ag Ay A7 Aw Du
attribute [local go_sem] Dz Ch Gu Ae Af
theorem Ar8 (l:List Ar):A7 Tryz.prog A8 134 [.iv (wrI l)] (.fn 264 [.ip [wrI l]]) []:=by
 have h:A7 Tryz.prog A8 134 [.iv (wrI l)] (.fn 264 [.bp 0 0]) [.box 0 [.iv (wrI l)]]:=by
  refine A7.of (n:=4) (rs:=[.tmp 2]) Tryz.func134 rfl (by kernel_rfl) Tryz.ntmps134 (by kernel_rfl) (by simp) (fun _ _=>A8.later) ?_
  intro hok V w0
  refine g ?_
  repeat' refine st_ rfl (g ?_)
  exact ⟨fun b=>200+100*b,rfl,rfl,by simp⟩
 exact h.frz ⟨trivial,trivial⟩
def D39 (w:Ar):List AV:=[.val (.int .i64 w.object),wA w]
theorem Ar7 (l:List Ar) (hf:Cd l=true):Aw Tryz.prog A8 264 [.ip [wrI l]] D39 (fun ys=>ys=l) (fun pre=>pre <+: l):=by
 refine Aw.of (n:=21) Tryz.func264 rfl (by kernel_rfl) Tryz.ntmps264 (by kernel_rfl) (by simp) (fun _ _=>A8.later) ?_
 intro hok Y
 have hlen:l.length<=1073741824:=by simpa [wrI] using hok.1.1.1
 have h1:=Jd l
 rw [hf] at h1
 refine g ?_
 refine g ?_
 repeat' refine B72 rfl (g ?_)
 refine Aa h1 rfl ?_
 refine g ?_
 repeat' refine B72 rfl (g ?_)
 refine AWY.loop (fun i:{i:Nat // i<=l.length}=>(.going (l.take i.1),⟨[(0,.val (.func (.yield Y.l) #[] #[])),(8,.iv (wrI l)),(9,.val (.int .i64 (l.length:Nat))),(10,.val (.int .i64 (i.1:Nat)))],[]⟩)) (fun i=>l.length - i.1) ⟨0,Nat.zero_le _⟩ id ⟨rfl,⟨rfl,rfl,rfl,rfl,trivial⟩,trivial,List.nodup_nil⟩ fun ⟨i,hi⟩=>?_
 refine g ?_
 repeat' (first | refine B72 rfl (g ?_) | refine De (fun h=>g ?_) (fun h=>g ?_))
 ·have hlt:i < l.length:=by simpa using h
  obtain ⟨-,o1,o2,o3,o4,-⟩:=Q7 (by simpa [wrI] using hok.1.1.2) (enW l[i]) (List.mem_map_of_mem (List.getElem_mem hlt))
  have hs:l.take i++[l[i]]=l.take (i+1):=(List.take_succ_eq_append_getElem hlt).symm
  refine ⟨by omega,_,Dl (List.getElem?_eq_getElem hlt),?_⟩
  refine g ?_
  repeat' (first | refine B72 rfl (g ?_) | refine B9 (g ?_))
  refine Bt6 (x:=l[i]) ?_ ?_ ?_ ?_
  ·rfl
  ·exact Sbs.rfl_ _
  ·rw [hs];exact List.take_prefix _ _
  simp only [go_sem]
  rw [hs]
  refine ⟨⟨o1,o2,o3,o4,trivial⟩,?_,?_⟩
  ·refine g ?_
   repeat' refine B72 rfl (g ?_)
   exact ⟨⟨i+1,hlt⟩,id,rfl,⟨⟨rfl,rfl,rfl,rfl,trivial⟩,trivial,List.nodup_nil⟩,by show l.length - (i+1) < l.length - i;omega⟩
  ·refine g ?_
   repeat' (first | refine B72 rfl (g ?_) | exact trivial)
 ·have hle:l.length<=i:=by simpa using h
  exact ⟨.inr trivial,List.take_of_length_le hle⟩
end Go.Proofs.YtahgkllhbggmgaaGreatDoor
namespace Go.Proofs.YtahgkllhbggmgaaGreatDoor
open Go.ChangeShapes Go.WideShapes Go.ChangeAt Go.RowKit
attribute [local irreducible] AW AWY Be As vop Az Aq Ax qop Bd Bv Aj Ag Ay A7 Aw Du
attribute [local go_sem] Gr Eg Ez Dp Dz Ch Gu Fp Dx E6 Ae Af
set_option maxRecDepth 100000 in
set_option maxHeartbeats 1600000 in
theorem Bt8 (hc:∀ (l:List Cr) (room:Int),I64 room->A7 Tryz.prog A8 62 [.iv (boI l),.val (.int .i64 room)] (.val (.bool (Dc l room))) []) (v:E8) (iR:I64 v.room):A7 Tryz.prog A8 63 [vwA v] (.val (.bool (At v))) []:=by
 refine A7.of (n:=62) (rs:=[.cell 2 4]) Tryz.func63 rfl (by kernel_rfl) Tryz.ntmps63 (by kernel_rfl) (by simp) (fun _ _=>A8.later) ?_
 intro hok V w0
 have hz:v.zones.length<=1073741824:=by simpa [znI] using hok.1.2.1.1
 obtain ⟨B,hB⟩ : ∃ B,At v=B:=⟨_,rfl⟩
 rw [hB]
 refine g ?_
 refine AW.seq ?_
 refine AW.reg rfl fun KK hKK=>?_
 refine g ?_
 repeat' (refine hKK _ (g ?_);clear hKK KK)
 refine AW.freeze 200 _ rfl ⟨trivial,trivial,trivial,trivial,iR,trivial⟩ ?_
 simp only [go_sem,reduceIte,Nat.reduceEqDiff]
 refine g ?_
 repeat' (first | refine st_ rfl (g ?_) | refine De (fun h=>g ?_) (fun h=>g ?_) | (refine E9 rfl rfl (fun h=>?_) (fun h=>?_)<;>simp only [h]<;>refine g ?_) | refine Aa (G6 _) rfl (g ?_) | refine Aa (Ry _) rfl (g ?_) | refine Aa (Jd _) rfl (g ?_) | refine Aa (hc _ _ iR) rfl (g ?_))
 ·rw [<-hB];simp at h;simp [At,H8,h]
 ·rw [<-hB];simp at h;simp [At,H8,h]
 ·rw [<-hB];simp at h;simp [At,H8,h]
 ·rw [<-hB];simp at h;simp [At,H8,h]
 have hP:H8 v=true:=by simp at *;simp [H8, *]
 have hH:Cd v.held=true:=by simp only [H8,Bool.and_eq_true] at hP;exact hP.1.2
 refine AW.loop (fun m:{m:Nat // m<=v.zones.length/\∀ x∈v.zones.take m,decide (Yo x.vec v.known=1)=true}=>⟨[(1,.ip [stI v.known,znI v.zones,wrI v.held,boI v.bodies,.val (.int .i64 v.room)]),(2,.bp 300 0),(32,.iv (znI v.zones)),(33,.val (.int .i64 (v.zones.length:Nat))),(34,.val (.int .i64 (m.1:Nat)))],[.box 300 [.val (.bool false)]]⟩) (fun m=>v.zones.length - m.1) ⟨0,Nat.zero_le _,fun x hx=>by simp at hx⟩ id ⟨⟨rfl,rfl,rfl,rfl,rfl,trivial⟩,⟨rfl,trivial⟩,by simp [Bw,BA.id]⟩ fun ⟨m,hm,ht⟩=>?_
 refine g ?_
 repeat' (first | refine st_ rfl (g ?_) | refine Al (fun h=>g ?_) (fun h=>g ?_) | refine ix_ (by omega) (g ?_) | refine Aa (Z3 _ _) rfl (g ?_) | refine Aa (Ar8 _) rfl (g ?_))
 ·have hlt:m < v.zones.length:=by omega
  rw [<-hB];simp only [At];rw [Ab4 (l:=v.zones) (p:=fun (x:Bp)=>decide (Yo x.vec v.known=1)) hlt (by simpa using h)];simp
 ·exact ⟨⟨m+1,by omega,Td (by omega) ht (by simpa using h)⟩,id,⟨⟨rfl,rfl,rfl,rfl,rfl,trivial⟩,⟨rfl,trivial⟩,by simp [Bw,BA.id]⟩,by show v.zones.length - (m+1) < v.zones.length - m;omega⟩
 obtain rfl:m=v.zones.length:=by omega
 rw [List.take_length] at ht
 have h1:(v.zones.all fun x=>decide (Yo x.vec v.known=1))=true:=List.all_eq_true.2 ht
 refine AW.le (S:=⟨[(2,.bp 300 0),(1,.ip [stI v.known,znI v.zones,wrI v.held,boI v.bodies,.val (.int .i64 v.room)]),(47,.fn 264 [.ip [wrI v.held]])],[.box 300 [.val (.bool false)]]⟩) (ρ:=id) ⟨⟨rfl,rfl,rfl,trivial⟩,⟨rfl,trivial⟩,by simp [Bw,BA.id]⟩ ?_
 refine AW.range (Ar7 v.held hH) [(2,.bp 300 0)] [(1,.ip [stI v.known,znI v.zones,wrI v.held,boI v.bodies,.val (.int .i64 v.room)]),(47,.fn 264 [.ip [wrI v.held]])] (fun _=>[.box 300 [.val (.bool false)]]) (fun pre=>∀ w∈pre,Gj v.zones v.known w=true) rfl (fun w hw=>by cases hw) rfl rfl rfl rfl (fun x=>⟨rfl,rfl⟩) (fun k pre x hsp hI=>?_) (fun xs hS hI=>?_)
 ·simp only [Ai7,D39,List.cons_append,List.nil_append]
  refine g ?_
  refine g ?_
  repeat' (first | refine st_ rfl (g ?_) | refine De (fun h=>g ?_) (fun h=>g ?_) | refine Aa (A68 _ _ x) rfl (g ?_))
  ·refine ⟨id,[.box 300 [.val (.bool false)]],⟨⟨rfl,trivial⟩,⟨rfl,trivial⟩,by simp [Bw,BA.id]⟩,?_⟩
   refine g ?_
   have hx:x∈v.held:=hsp.subset (by simp)
   rw [<-hB]
   simp only [At]
   rw [show (v.held.all fun w=>Gj v.zones v.known w)=false from List.all_eq_false.2 ⟨x,hx,by simpa using h⟩]
   simp
  ·refine ⟨fun w hw=>?_,id,⟨rfl,trivial⟩,⟨rfl,trivial⟩,by simp [Bw,BA.id]⟩
   rcases List.mem_append.1 hw with h3 | h3
   ·exact hI w h3
   ·rw [List.mem_singleton.1 h3];simpa using h
 ·obtain rfl:xs=v.held:=hS
  have h2:(v.held.all fun x=>Gj v.zones v.known x)=true:=List.all_eq_true.2 hI
  refine g ?_
  repeat' (first | refine st_ rfl (g ?_) | refine Aa (Ax6 _ _ _ _ (fun x=>A98 v x hH)) rfl (g ?_))
  rw [<-hB]
  simp only [At]
  rw [hP,h1,h2,List.not_any_eq_all_not]
  simp
end Go.Proofs.YtahgkllhbggmgaaGreatDoor
namespace Go.Proofs.YtahgkllhbggmgaaGreatDoor
open Go.ChangeShapes Go.WideShapes Go.ChangeAt Go.RowKit
attribute [local irreducible] AW AWY Be As vop Az Aq Ax qop Bd Bv Aj Ag Ay A7 Aw Du
attribute [local go_sem] Gr Eg Ez Dp Ae Af
set_option maxRecDepth 100000 in
theorem T7 (l:List Cr) (room:Int) (iR:I64 room):A7 Tryz.prog A8 62 [.iv (boI l),.val (.int .i64 room)] (.val (.bool (Dc l room))) []:=by
 refine A7.of (n:=43) (rs:=[.tmp 4]) Tryz.func62 rfl (by kernel_rfl) Tryz.ntmps62 (by kernel_rfl) (by simp) (fun _ _=>A8.later) ?_
 intro hok V w0
 have hlen:l.length<=1073741824:=by simpa [boI] using hok.1.1
 obtain ⟨B,hB⟩ : ∃ B,Dc l room=B:=⟨_,rfl⟩
 rw [hB]
 unfold Dc P0 at hB
 refine g ?_
 repeat' (first | refine st_ rfl (g ?_) | refine Al (fun h=>g ?_) (fun h=>g ?_) | (refine B8 rfl rfl (fun h e=>?_) (fun h e=>?_)<;>simp only [e]<;>clear e<;>refine g ?_))
 ·rw [<-hB,decide_eq_false (p:=0<=room) (by omega)];rfl
 ·rw [<-hB,decide_eq_false (p:=room<=16777216) (by omega)];simp
 ·rw [<-hB,decide_eq_false (p:=l.length<=256) (by omega)];simp
 rw [decide_eq_true (p:=0<=room) (by omega),decide_eq_true (p:=room<=16777216) (by omega),decide_eq_true (p:=l.length<=256) (by omega),Bool.true_and,Bool.true_and,Bool.true_and] at hB
 refine AW.loop (fun x:{x:Nat×List (Int×Value) // x.1<=l.length/\K1 (l.take x.1)=true/\∀ o,(Jq x.2 o).getD (.bool false)=.bool (Zi (l.take x.1) o)}=>⟨[(0,.iv (boI l)),(1,.val (.int .i64 room)),(5,.mv 2000),(20,.iv (boI l)),(21,.val (.int .i64 (l.length:Nat))),(22,.val (.int .i64 (x.1.1:Nat)))],[.mp 2000 .i64 x.1.2]⟩) (fun x=>l.length - x.1.1) ⟨(0,[]),Nat.zero_le _,rfl,fun o=>rfl⟩ id ⟨⟨rfl,rfl,rfl,rfl,rfl,rfl,trivial⟩,⟨rfl,trivial⟩,by simp [Bw,BA.id]⟩ fun ⟨⟨m,kv⟩,hm,ht,hk⟩=>?_
 simp only at hm ht hk
 refine g ?_
 repeat' (first | refine st_ rfl (g ?_) | refine Al (fun h=>g ?_) (fun h=>g ?_) | refine ix_ (by omega) (g ?_))
 ·have hlt:m < l.length:=by omega
  refine ⟨.bool (Zi (l.take m) l[m].object),hk _,?_⟩
  cases hh:Zi (l.take m) l[m].object
  ·refine g ?_
   repeat' (first | refine st_ rfl (g ?_) | refine B9 (g ?_) | refine De (fun h=>g ?_) (fun h=>g ?_) | refine Aa (Ao4 _) rfl (g ?_))
   ·rw [<-hB,Vz hlt ht (.inl (by simpa using h))];rfl
   ·have hr:Da l[m]=true:=by simpa using h
    refine ⟨⟨(m+1,_),hlt,by rw [Tw hlt ht,hr,hh];rfl,fun o=>?_⟩,id,⟨⟨rfl,rfl,rfl,rfl,rfl,rfl,trivial⟩,⟨rfl,trivial⟩,by simp [Bw,BA.id]⟩,by show l.length - (m+1) < l.length - m;omega⟩
    rw [A17,A24 hlt]
    by_cases e:o=l[m].object
    ·rw [if_pos e,e];simp
    ·rw [if_neg e,hk o,decide_eq_false (fun e'=>e e'.symm),Bool.or_false]
  ·refine g ?_
   repeat' (first | refine st_ rfl (g ?_) | refine B9 (g ?_))
   rw [<-hB,Vz hlt ht (.inr hh)];rfl
 ·obtain rfl:m=l.length:=by omega
  rw [List.take_length] at ht
  refine Aa (B64 l (by omega) fun x hx=>(Mx (Xp ht x hx)).2.2) rfl ?_
  refine g ?_
  repeat' refine st_ rfl (g ?_)
  rw [<-hB,ht];rfl
end Go.Proofs.YtahgkllhbggmgaaGreatDoor
