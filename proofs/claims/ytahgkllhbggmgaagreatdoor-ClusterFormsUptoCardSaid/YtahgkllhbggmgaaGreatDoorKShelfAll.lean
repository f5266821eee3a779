/- Shelves: told one by one (the program's). -/
import Derived.Test.YtahgkllhbggmgaaGreatDoorKPlace
import Derived.Test.YtahgkllhbggmgaaGreatDoorKReached
import Derived.Test.YtahgkllhbggmgaaGreatDoorKStreamArgs
import Derived.Test.YtahgkllhbggmgaaGreatDoorKNoteMerge
set_option linter.all false
set_option linter.unnecessarySimpa false
set_option linter.unusedSimpArgs false
set_option linter.unusedVariables false
namespace Go.Proofs.YtahgkllhbggmgaaGreatDoor
open Go.ChangeShapes Go.WideShapes Go.ChangeAt Go.RowKit
attribute [local irreducible] AW AWY Bd As vop B4 Ap Aw qop Bc Bs Ai Ag Ay A7 Av Et
attribute [local go_sem] He Ek F8 Dg Ei Cr Je Fz Dx Es Ae Af
set_option maxRecDepth 100000 in
theorem A62 (l:List Aq) (x:Ci) (hf:C7 l=true):A7 Tryz.prog A8 138 [.iv (wrI l),boA x] (.val (.bool (Fb l x))) []:=by
 refine A7.of (n:=28) (rs:=[.tmp 4]) Tryz.func138 rfl (by kernel_rfl) Tryz.ntmps138 (by kernel_rfl) (by simp) (fun _ _=>A8.later) ?_
 intro hok V w0
 obtain ⟨B,hB⟩ : ∃ B,Fb l x=B:=⟨_,rfl⟩
 rw [hB]
 unfold Fb Ze at hB
 have hat:=Aj1 l x.object
 unfold A32 at hat
 rw [if_pos hf] at hat
 cases hg:Mh l x.object with
 | none =>
  rw [hg] at hB hat
  refine g ?_
  repeat' (first | refine st_ rfl (g ?_) | refine Aa (hat) rfl (g ?_))
  exact hB
 | some w =>
  rw [hg] at hB hat
  simp only at hat hB
  rw [Y6] at hB
  refine g ?_
  repeat' (first | refine st_ rfl (g ?_) | refine Aa (hat) rfl (g ?_))
  refine ⟨_,fun u=>Qx _ _ _ _ _ _ u,?_⟩
  refine g ?_
  repeat' (first | refine st_ rfl (g ?_) | refine Bt (g ?_) | (refine Dm rfl rfl (fun h=>?_) (fun h=>?_)<;>simp only [h]<;>refine g ?_))
  ·rw [<-hB,h];simp
  ·rw [<-hB,h];simp
set_option maxRecDepth 100000 in
theorem B09 (l:List Ci) (f:FuncId) (C:List IV) (p:Ci->Bool) (hp:∀ x,A7 Tryz.prog A8 f [boA x,.ip C] (.val (.bool (p x))) []):A7 Tryz.prog A8 266 [.iv (boI l),.fn f [.ip C]] (.val (.int .i64 (if l.any p=true then ((l.findIdx p:Nat):Int) else -1))) []:=by
 refine A7.of (n:=19) (rs:=[.tmp 4]) Tryz.func266 rfl (by kernel_rfl) Tryz.ntmps266 (by kernel_rfl) (by simp) (fun _ _=>A8.later) ?_
 intro hok V w0
 have hlen:l.length<=1073741824:=by simpa [boI] using hok.1.1
 refine g ?_
 repeat' refine st_ rfl (g ?_)
 refine AW.loop (fun m:{m:Nat // m<=l.length/\∀ x∈l.take m,p x=false}=>⟨[(0,.iv (boI l)),(1,.fn f [.ip C]),(7,.val (.int .i64 (l.length:Nat))),(8,.val (.int .i64 (m.1:Nat)))],[]⟩) (fun m=>l.length - m.1) ⟨0,Nat.zero_le _,fun x hx=>by simp at hx⟩ id ⟨⟨rfl,rfl,rfl,rfl,trivial⟩,trivial,List.nodup_nil⟩ fun ⟨m,hm,ht⟩=>?_
 refine g ?_
 repeat' (first | refine st_ rfl (g ?_) | refine Aj (fun h=>g ?_) (fun h=>g ?_) | refine Da (fun h=>g ?_) (fun h=>g ?_) | refine ix_ (by omega) (g ?_) | refine Aa (hp _) rfl (g ?_))
 ·have hlt:m < l.length:=by omega
  rw [if_pos (List.any_eq_true.2 ⟨_,List.getElem_mem hlt,h⟩),(List.findIdx_eq hlt).2 ⟨h,fun j hj=>ht _ (List.mem_take_iff_getElem.2 ⟨j,by omega,rfl⟩)⟩]
 ·refine ⟨⟨m+1,by omega,fun x hx=>?_⟩,id,⟨⟨rfl,rfl,rfl,rfl,trivial⟩,trivial,List.nodup_nil⟩,by show l.length - (m+1) < l.length - m;omega⟩
  rw [List.take_succ_eq_append_getElem (by omega)] at hx
  rcases List.mem_append.1 hx with h1 | h1
  ·exact ht x h1
  ·rw [List.mem_singleton.1 h1];exact h
 ·obtain rfl:m=l.length:=by omega
  rw [List.take_length] at ht
  rw [if_neg]
  rw [List.any_eq_true]
  rintro ⟨x,hx,hp⟩
  rw [ht x hx] at hp
  cases hp
theorem Ao7 (l:List Ci) (f:FuncId) (C:List IV) (p:Ci->Bool) (hp:∀ x,A7 Tryz.prog A8 f [boA x,.ip C] (.val (.bool (p x))) []):A7 Tryz.prog A8 136 [.iv (boI l),.fn f [.ip C]] (.val (.bool (l.any p))) []:=by
 refine A7.of (n:=9) (rs:=[.tmp 4]) Tryz.func136 rfl (by kernel_rfl) Tryz.ntmps136 (by kernel_rfl) (by simp) (fun _ _=>A8.later) ?_
 intro hok V w0
 have h1:=B09 l f C p hp
 cases ha:l.any p with
 | true =>
  rw [if_pos ha] at h1
  refine g ?_
  repeat' (first | refine st_ rfl (g ?_) | refine Aa (h1) rfl (g ?_))
  exact decide_eq_true (by omega)
 | false =>
  rw [if_neg (by rw [ha];decide)] at h1
  refine g ?_
  repeat' (first | refine st_ rfl (g ?_) | refine Aa (h1) rfl (g ?_))
  rfl
theorem A33 (v:Gb) (x:Ci) (hf:C7 v.held=true):A7 Tryz.prog A8 137 [boA x,.ip [stI v.known,znI v.zones,wrI v.held,boI v.bodies,.val (.int .i64 v.room)]] (.val (.bool (!Fb v.held x))) []:=by
 refine A7.of (n:=9) (rs:=[.tmp 3]) Tryz.func137 rfl (by kernel_rfl) Tryz.ntmps137 (by kernel_rfl) (by simp) (fun _ _=>A8.later) ?_
 intro hok V w0
 refine g ?_
 repeat' (first | refine st_ rfl (g ?_) | exact trivial | refine Aa (A62 _ x hf) rfl (g ?_))
end Go.Proofs.YtahgkllhbggmgaaGreatDoor
namespace Go.Proofs.YtahgkllhbggmgaaGreatDoor
variable {α : Type}
def Dp0 (l:List α) (a i:Nat):List (α×Nat):=((l.take i).drop a).zipIdx a
def Dj2 (l:List α) (a:Nat):List (α×Nat):=(l.drop a).zipIdx a
end Go.Proofs.YtahgkllhbggmgaaGreatDoor
namespace Go.Proofs.YtahgkllhbggmgaaGreatDoor
open Go.ChangeShapes Go.WideShapes Go.ChangeAt Go.RowKit
attribute [local irreducible] AW AWY Bd As vop B4 Ap Aw qop Bc Bs Ai Ag Ay A7 Av
attribute [local go_sem] Fx K7 Fs Cp Ae Af
theorem A23 (l:Log) (iS:I64 l.sure):A7 Tryz.prog A8 64 [Sj l] (.val (.bool (C0 l))) []:=by
 refine A7.of (n:=11) (rs:=[.tmp 2]) Tryz.func64 rfl (by kernel_rfl) Tryz.ntmps64 (by kernel_rfl) (by simp) (fun _ _=>A8.later) ?_
 intro hok V w0
 refine g ?_
 refine g ?_
 repeat' refine st_ rfl (g ?_)
 refine Aa (An7 l iS) rfl ?_
 refine g ?_
 repeat' refine st_ rfl (g ?_)
 first | exact trivial | exact ⟨.inl trivial,id,List.nodup_nil⟩ | rfl
end Go.Proofs.YtahgkllhbggmgaaGreatDoor
namespace Go.Proofs.YtahgkllhbggmgaaGreatDoor
open Go.ChangeShapes Go.WideShapes Go.ChangeAt Go.RowKit
attribute [local irreducible] AW AWY Bd As vop B4 Ap Aw qop Bc Bs Ai Ag Ay A7 Av
attribute [local go_sem] Fx K7 Fs Cp Ae Af
def Df9 (l:Log):AV:=.ip [stI l.base,noI l.notes,.val (.int .i64 l.sure)]
theorem Bk3 (l:Log):Df9 l=.ip [stI l.base,noI l.notes,.val (.int .i64 l.sure)]:=rfl
attribute [local go_sem] Bk3
def enL (p:Bv×Nat):List AV:=[.val (.int .i64 (p.2:Nat)),Py p.1]
def Dp4 (l:Log) (a:Nat):List (Bv×Nat):=if C0 l=true then Dj2 l.notes a else []
end Go.Proofs.YtahgkllhbggmgaaGreatDoor
namespace Go.Proofs.YtahgkllhbggmgaaGreatDoor
open Go.ChangeShapes Go.WideShapes Go.ChangeAt Go.RowKit
attribute [local irreducible] AW AWY Bd As vop B4 Ap Aw qop Bc Bs Ai Ag Ay A7 Av Et
attribute [local go_sem] Ei Cr Je Ae Af
theorem Aj3 (l:List Aq):A7 Tryz.prog A8 134 [.iv (wrI l)] (.fn 264 [.ip [wrI l]]) []:=by
 have h:A7 Tryz.prog A8 134 [.iv (wrI l)] (.fn 264 [.bp 0 0]) [.box 0 [.iv (wrI l)]]:=by
  refine A7.of (n:=4) (rs:=[.tmp 2]) Tryz.func134 rfl (by kernel_rfl) Tryz.ntmps134 (by kernel_rfl) (by simp) (fun _ _=>A8.later) ?_
  intro hok V w0
  refine g ?_
  repeat' refine st_ rfl (g ?_)
  exact ⟨fun b=>200+100*b,rfl,rfl,by simp⟩
 exact h.frz ⟨trivial,trivial⟩
def Cp7 (w:Aq):List AV:=[.val (.int .i64 w.object),wA w]
theorem Aj2 (l:List Aq) (hf:C7 l=true):Av Tryz.prog A8 264 [.ip [wrI l]] Cp7 (fun ys=>ys=l) (fun pre=>pre <+: l):=by
 refine Av.of (n:=21) Tryz.func264 rfl (by kernel_rfl) Tryz.ntmps264 (by kernel_rfl) (by simp) (fun _ _=>A8.later) ?_
 intro hok Y
 have hlen:l.length<=1073741824:=by simpa [wrI] using hok.1.1.1
 have h1:=Hf l
 rw [hf] at h1
 refine g ?_
 refine g ?_
 repeat' refine Ax1 rfl (g ?_)
 refine Aa h1 rfl ?_
 refine g ?_
 repeat' refine Ax1 rfl (g ?_)
 refine AWY.loop (fun i:{i:Nat // i<=l.length}=>(.going (l.take i.1),⟨[(0,.val (.func (.yield Y.l) #[] #[])),(8,.iv (wrI l)),(9,.val (.int .i64 (l.length:Nat))),(10,.val (.int .i64 (i.1:Nat)))],[]⟩)) (fun i=>l.length - i.1) ⟨0,Nat.zero_le _⟩ id ⟨rfl,⟨rfl,rfl,rfl,rfl,trivial⟩,trivial,List.nodup_nil⟩ fun ⟨i,hi⟩=>?_
 refine g ?_
 repeat' (first | refine Ax1 rfl (g ?_) | refine Da (fun h=>g ?_) (fun h=>g ?_))
 ·have hlt:i < l.length:=by simpa using h
  obtain ⟨-,o1,o2,o3,o4,-⟩:=P3 (by simpa [wrI] using hok.1.1.2) (enW l[i]) (List.mem_map_of_mem (List.getElem_mem hlt))
  have hs:l.take i++[l[i]]=l.take (i+1):=(List.take_succ_eq_append_getElem hlt).symm
  refine ⟨by omega,_,Dv (List.getElem?_eq_getElem hlt),?_⟩
  refine g ?_
  repeat' (first | refine Ax1 rfl (g ?_) | refine Bt (g ?_))
  refine Bg9 (x:=l[i]) ?_ ?_ ?_ ?_
  ·rfl
  ·exact Sbs.rfl_ _
  ·rw [hs];exact List.take_prefix _ _
  simp only [go_sem]
  rw [hs]
  refine ⟨⟨o1,o2,o3,o4,trivial⟩,?_,?_⟩
  ·refine g ?_
   repeat' refine Ax1 rfl (g ?_)
   exact ⟨⟨i+1,hlt⟩,id,rfl,⟨⟨rfl,rfl,rfl,rfl,trivial⟩,trivial,List.nodup_nil⟩,by show l.length - (i+1) < l.length - i;omega⟩
  ·refine g ?_
   repeat' (first | refine Ax1 rfl (g ?_) | exact trivial)
 ·have hle:l.length<=i:=by simpa using h
  exact ⟨.inr trivial,List.take_of_length_le hle⟩
end Go.Proofs.YtahgkllhbggmgaaGreatDoor
