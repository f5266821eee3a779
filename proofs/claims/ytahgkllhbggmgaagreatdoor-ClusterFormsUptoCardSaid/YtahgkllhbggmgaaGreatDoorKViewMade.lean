/- A view is made; the next stamp; the greatest count; a note of one write (the program's). -/
import Derived.Test.YtahgkllhbggmgaaGreatDoorKSortSpan
import Derived.Test.YtahgkllhbggmgaaGreatDoorKClone
import Derived.Test.YtahgkllhbggmgaaGreatDoorKEnc
import Derived.Test.YtahgkllhbggmgaaGreatDoorKViewSpec3
import Derived.Test.YtahgkllhbggmgaaGreatDoorKNoteMerge
import Derived.Test.YtahgkllhbggmgaaGreatDoorKCluSpec
import Derived.Test.YtahgkllhbggmgaaGreatDoorRows
import Derived.Shelf.SlGeneric
import Derived.Shelf.SlSortCmp.WholeK
import Derived.Ground.SlsfProg
import Derived.Test.YtahgkllhbggmgaaGreatDoorKMeet
import Derived.Test.YtahgkllhbggmgaaGreatDoorKSubEnc
import Derived.Test.YtahgkllhbggmgaaGreatDoorKShelfAll
set_option linter.all false
set_option linter.unnecessarySimpa false
set_option linter.unusedSimpArgs false
set_option linter.unusedVariables false
namespace Go.Proofs.YtahgkllhbggmgaaGreatDoor
open Go.ChangeShapes Go.WideShapes Go.ChangeAt Go.RowKit
section
variable {V w0 : World} {n : Nd} {ro : Option Nat} {σ : Ab} {K : Exit -> Ab -> Prop}
end
attribute [local irreducible] AW AWY Bd As vop B4 Ap Aw qop Bc Bs Ai Ag Ay A7 Av
attribute [local go_sem] Cr Ei Je Ae Af
end Go.Proofs.YtahgkllhbggmgaaGreatDoor
namespace Go.Proofs.YtahgkllhbggmgaaGreatDoor
open Go.ChangeShapes Go.WideShapes Go.ChangeAt Go.RowKit
attribute [local irreducible] AW AWY Bd As vop B4 Ap Aw qop Bc Bs Ai Ag Ay A7 Av
attribute [local go_sem] Cr Ei Je Ae Af
section
variable (f : FuncId) (C D : List IV) (p : Aq -> Bool) (hp : ∀ x, A7 Tryz.prog A8 f [wA x, .ip C, .ip D] (.val (.bool (p x))) [])
include hp
structure Dq5 (p:Aq->Bool) (l:List Aq) where
 i:Nat
 j:Nat
 M:List Aq
 hj:j<=l.length
 hij:i < j
 hl:M.length=l.length
 ht:M.take i=(l.take j).filter fun x=>!p x
 hd:M.drop j=l.drop j
end
end Go.Proofs.YtahgkllhbggmgaaGreatDoor
namespace Go.Proofs.YtahgkllhbggmgaaGreatDoor
open Go.ChangeShapes Go.WideShapes Go.ChangeAt Go.RowKit
attribute [local irreducible] AW AWY Bd As vop B4 Ap Aw qop Bc Bs Ai Ag Ay A7 Av
attribute [local go_sem] He Ek F8 Dg Ae Af
end Go.Proofs.YtahgkllhbggmgaaGreatDoor
namespace Go.Proofs.YtahgkllhbggmgaaGreatDoor
open Go.Proofs Go.Shelf
def Bh7:Go.Shelf.Ren:=⟨fun | 6=>488 | 15=>101 | 14=>499 | 28=>191 | 29=>192 | 20=>506 | 21=>507 | 22=>508 | 23=>509 | 24=>510 | 25=>511 | 26=>512 | 27=>513 | 46=>516 | 47=>294 | 48=>295 | 49=>517 | 50=>518 | 57=>520 | n=>n,fun | 22=>52 | 24=>180 | 25=>510 | 3=>3 | 39=>147 | 0=>0 | 53=>228 | 55=>230 | 4=>4 | 46=>221 | 45=>220 | 50=>225 | 5=>5 | 9=>9 | 66=>328 | 70=>332 | 76=>408 | 77=>409 | n=>n,fun | n=>n⟩
end Go.Proofs.YtahgkllhbggmgaaGreatDoor
namespace Go.Proofs.YtahgkllhbggmgaaGreatDoor
open Go.ChangeShapes Go.WideShapes Go.ChangeAt Go.RowKit
attribute [local irreducible] AW AWY Bd As vop B4 Ap Aw qop Bc Bs Ai Ag Ay A7 Av Bm2
attribute [local go_sem] Cp Ae Af
def Dp3 (v:List Ad) (n:Bv) (pre:List (Fin 64)) (o:Nat):Int:=if pre.any (fun x=>decide (x.1=o))=true then A75 v n o else A9 v o
end Go.Proofs.YtahgkllhbggmgaaGreatDoor
namespace Go.Proofs.YtahgkllhbggmgaaGreatDoor
open Go.ChangeShapes Go.WideShapes Go.ChangeAt Go.RowKit
attribute [local irreducible] AW AWY Bd As vop B4 Ap Aw qop Bc Bs Ai Ag Ay A7 Av
attribute [local go_sem] Fz Ae Af
theorem Bu2 (l:List Ar):spI l=.sl 2 (l.map Xv):=rfl
attribute [local go_sem] Bu2 Au2
end Go.Proofs.YtahgkllhbggmgaaGreatDoor
namespace Go.Proofs.YtahgkllhbggmgaaGreatDoor
open Go.ChangeShapes Go.WideShapes Go.ChangeAt Go.RowKit Go.Sort Go.Shelf
structure ZB where
 lo:Nat
 hi:Int
 v:Value
 small:lo < 256
 one:v.oneCell'=true
instance:Inhabited ZB:=⟨⟨0,0,.bool false,by decide,rfl⟩⟩
def Dn2 (b:ZB):List Value:=[.int .i64 (b.lo:Nat),.int .i64 b.hi,b.v]
def Dp7 (a b:ZB):Int:=(a.lo:Int) - b.lo
def Dj9 (X:World):List Bi->List ZB->Prop
 | [],[]=>True
 | z :: l,b :: d=>((b.lo:Int)=z.span.lo/\b.hi=z.span.hi/\I64 z.span.hi/\C1 X b.v (stI z.vec))/\Dj9 X l d
 | _,_=>False
end Go.Proofs.YtahgkllhbggmgaaGreatDoor
namespace Go.Proofs.YtahgkllhbggmgaaGreatDoor
open Go.ChangeShapes Go.WideShapes Go.ChangeAt Go.RowKit
attribute [local irreducible] AW AWY Bd As vop B4 Ap Aw qop Bc Bs Ai Ag Ay A7 Av
attribute [local go_sem] Fz Dx Ae Af
end Go.Proofs.YtahgkllhbggmgaaGreatDoor
namespace Go.Proofs.YtahgkllhbggmgaaGreatDoor
open Go.ChangeShapes Go.WideShapes Go.ChangeAt Go.RowKit
attribute [local irreducible] AW AWY Bd As vop B4 Ap Aw qop Bc Bs Ai Ag Ay A7 Av
attribute [local go_sem] Cr Cp Ae Af
end Go.Proofs.YtahgkllhbggmgaaGreatDoor
namespace Go.Proofs.YtahgkllhbggmgaaGreatDoor
open Go.ChangeShapes Go.WideShapes Go.ChangeAt Go.RowKit
attribute [local irreducible] AW AWY Bd As vop B4 Ap Aw qop Bc Bs Ai Ag Ay A7 Av
attribute [local go_sem] Ae Af
theorem Ty (l:List Ar):spI l=.sl 2 (l.map Xv):=rfl
attribute [local go_sem] Ty Au2
def Dg6 (n:Int) (s:Ar):List Ar:=if n < s.lo then [⟨n,s.lo - 1⟩] else []
def Bp0 (n:Int):List Ar->List Ar×Int
 | []=>([],n)
 | s :: l=>(Dg6 n s++(Bp0 (s.hi+1) l).1,(Bp0 (s.hi+1) l).2)
def Dl4 (n:Int):List Ar:=if n<=255 then [⟨n,255⟩] else []
def Dm1 (l:List Ar):List Ar:=Rh fun o=>!Dj l o
end Go.Proofs.YtahgkllhbggmgaaGreatDoor
namespace Go.Proofs.YtahgkllhbggmgaaGreatDoor
open Go.ChangeShapes Go.WideShapes Go.ChangeAt Go.RowKit
attribute [local irreducible] AW AWY Bd As vop B4 Ap Aw qop Bc Bs Ai Ag Ay A7 Av
attribute [local go_sem] Cr Ei Cp Ae Af
def enI (n:Int):List IV:=[.val (.int .i64 n)]
end Go.Proofs.YtahgkllhbggmgaaGreatDoor
namespace Go.Proofs.YtahgkllhbggmgaaGreatDoor
open Go.ChangeShapes Go.WideShapes Go.ChangeAt Go.RowKit
attribute [local irreducible] AW AWY Bd As vop B4 Ap Aw qop Bc Bs Ai Ag Ay A7 Av
attribute [local go_sem] Fz Dx Cp Cr Ei Ae Af
end Go.Proofs.YtahgkllhbggmgaaGreatDoor
namespace Go.Proofs.YtahgkllhbggmgaaGreatDoor
def Dl6 (H:List Aq) (t:List Aq) (l:List Ci):List Ci:=l.filter fun x=>Fb H x || !t.any fun w=>decide (x.object=w.object)
end Go.Proofs.YtahgkllhbggmgaaGreatDoor
namespace Go.Proofs.YtahgkllhbggmgaaGreatDoor
open Go.ChangeShapes Go.WideShapes Go.ChangeAt Go.RowKit
attribute [local irreducible] AW AWY Bd As vop B4 Ap Aw qop Bc Bs Ai Ag Ay A7 Av
attribute [local go_sem] Fz Dx He Ek F8 Dg Ei Cr Je Es Cp Ae Af
theorem Zg {q:Gb×Int} {e:Int} (h:q=(Nb,e)):Em (.tup [.agg [.val (.slice none 0 0),.val (.slice none 0 0),.val (.slice none 0 0),.val (.slice none 0 0),.val (.int .i64 0)],.val (.int .i64 e)]) (.tup [vwA q.1,.val (.int .i64 q.2)]):=by
 subst h
 refine Lz rfl fun p hp=>?_
 simp only [List.zip_cons_cons,List.zip_nil_right,List.mem_cons,List.not_mem_nil,or_false] at hp
 rcases hp with rfl | rfl
 ·refine L0 rfl fun p hp=>?_
  simp only [List.zip_cons_cons,List.zip_nil_right,List.mem_cons,List.not_mem_nil,or_false] at hp
  rcases hp with rfl | rfl | rfl | rfl | rfl
  ·exact Bx 2
  ·exact Bx 3
  ·exact Bx 4
  ·exact Bx 4
  ·exact Em.rfl_ _
 ·exact Em.rfl_ _
end Go.Proofs.YtahgkllhbggmgaaGreatDoor
namespace Go.Proofs.YtahgkllhbggmgaaGreatDoor
open Go.ChangeShapes Go.WideShapes Go.ChangeAt Go.RowKit
attribute [local irreducible] AW AWY Bd As vop B4 Ap Aw qop Bc Bs Ai Ag Ay A7 Av
attribute [local go_sem] He Ek F8 Dg Ei Cr Je Fz Dx Es Cp Ae Af
theorem At1 (room:Int):Em (.tup [.agg [.val (.slice none 0 0),.val (.slice none 0 0),.val (.slice none 0 0),.val (.slice none 0 0),.val (.int .i64 room)],.val (.int .i64 0)]) (.tup [vwA ⟨[],[],[],[],room⟩,.val (.int .i64 0)]):=by
 refine Lz rfl fun p hp=>?_
 simp only [List.zip_cons_cons,List.zip_nil_right,List.mem_cons,List.not_mem_nil,or_false] at hp
 rcases hp with rfl | rfl
 ·refine L0 rfl fun p hp=>?_
  simp only [List.zip_cons_cons,List.zip_nil_right,List.mem_cons,List.not_mem_nil,or_false] at hp
  rcases hp with rfl | rfl | rfl | rfl | rfl
  ·exact Bx 2
  ·exact Bx 3
  ·exact Bx 4
  ·exact Bx 4
  ·exact Em.rfl_ _
 ·exact Em.rfl_ _
theorem Ba1 (room:Int) (iR:I64 room):A7 Tryz.prog A8 57 [.val (.int .i64 room)] (.tup [vwA (Xr room).1,.val (.int .i64 (Xr room).2)]) []:=by
 refine A7.ofS (n:=10) (rs:=[.cell 2 56,.tmp 3]) Tryz.func57 rfl (by kernel_rfl) Tryz.ntmps57 (by kernel_rfl) (by simp) (fun _ _=>A8.later) ?_
 intro hok V w0
 obtain ⟨R,hR⟩ : ∃ R,Xr room=R:=⟨_,rfl⟩
 rw [hR]
 unfold Xr at hR
 have hc:=Mj [] room iR
 have e:Cq [] room=Jg room:=by
  simp only [Cq,J0,Lb]
  cases h:Jg room with
  | false=>simp
  | true =>
   simp only [Jg,Bool.and_eq_true,decide_eq_true_eq] at h
   simp [h.1]
 rw [e] at hc
 refine g ?_
 repeat' refine st_ rfl (g ?_)
 refine A42 hc (by exact Sbs.of_ (Bx 4) (Sbs.rfl_ _)) rfl (g ?_)
 refine g ?_
 repeat' (first | refine st_ rfl (g ?_) | refine Da (fun h=>g ?_) (fun h=>g ?_))
 ·rw [if_neg (by simpa using h)] at hR
  exact Zg hR.symm
 ·rw [if_pos (by simpa using h)] at hR
  subst hR
  exact At1 room
end Go.Proofs.YtahgkllhbggmgaaGreatDoor
