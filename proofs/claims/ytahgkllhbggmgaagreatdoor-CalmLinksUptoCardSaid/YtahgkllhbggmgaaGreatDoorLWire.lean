/- Vectors, sets, notes and bodies laid behind bytes (the program's). -/
import Derived.Test.YtahgkllhbggmgaaGreatDoorLTurnRow
import Derived.Test.YtahgkllhbggmgaaGreatDoorLSortWorld
import Derived.Test.YtahgkllhbggmgaaGreatDoorLClone
import Derived.Test.YtahgkllhbggmgaaGreatDoorLEnc
import Derived.Test.YtahgkllhbggmgaaGreatDoorLSpanLess
import Derived.Test.YtahgkllhbggmgaaGreatDoorLRefThr
import Derived.Test.YtahgkllhbggmgaaGreatDoorLDisk
import Derived.Test.YtahgkllhbggmgaaGreatDoorRows
import Derived.Shelf.SlGeneric
import Derived.Shelf.SlSortCmp.WholeK
import Derived.Ground.SlsfProg
import Derived.Test.YtahgkllhbggmgaaGreatDoorLSubsCmp
import Derived.Test.YtahgkllhbggmgaaGreatDoorLSortSpan
import Derived.Test.YtahgkllhbggmgaaGreatDoorLCacheForm
import Derived.Test.YtahgkllhbggmgaaGreatDoorLSubsForm
set_option linter.all false
set_option linter.unnecessarySimpa false
set_option linter.unusedSimpArgs false
set_option linter.unusedVariables false
namespace Go.Proofs.YtahgkllhbggmgaaGreatDoor
open Go.ChangeShapes Go.WideShapes Go.ChangeAt Go.RowKit
section
variable {V w0 : World} {n : Nd} {ro : Option Nat} {σ : Ab} {K : Exit -> Ab -> Prop}
end
attribute [local irreducible] AW AWY Be As vop Az Aq Ax qop Bd Bv Aj Ag Ay A7 Aw
attribute [local go_sem] Ch Dz Gu Ae Af
end Go.Proofs.YtahgkllhbggmgaaGreatDoor
namespace Go.Proofs.YtahgkllhbggmgaaGreatDoor
open Go.ChangeShapes Go.WideShapes Go.ChangeAt Go.RowKit
attribute [local irreducible] AW AWY Be As vop Az Aq Ax qop Bd Bv Aj Ag Ay A7 Aw
attribute [local go_sem] Ch Dz Gu Ae Af
section
variable (f : FuncId) (C D : List IV) (p : Ar -> Bool) (hp : ∀ x, A7 Tryz.prog A8 f [wA x, .ip C, .ip D] (.val (.bool (p x))) [])
include hp
structure E50 (p:Ar->Bool) (l:List Ar) where
 i:Nat
 j:Nat
 M:List Ar
 hj:j<=l.length
 hij:i < j
 hl:M.length=l.length
 ht:M.take i=(l.take j).filter fun x=>!p x
 hd:M.drop j=l.drop j
end
end Go.Proofs.YtahgkllhbggmgaaGreatDoor
namespace Go.Proofs.YtahgkllhbggmgaaGreatDoor
open Go.ChangeShapes Go.WideShapes Go.ChangeAt Go.RowKit
attribute [local irreducible] AW AWY Be As vop Az Aq Ax qop Bd Bv Aj Ag Ay A7 Aw
attribute [local go_sem] Gr Eg Ez Dp Ae Af
end Go.Proofs.YtahgkllhbggmgaaGreatDoor
namespace Go.Proofs.YtahgkllhbggmgaaGreatDoor
open Go.Proofs Go.Shelf
def Bu7:Go.Shelf.Ren:=⟨fun | 6=>488 | 15=>101 | 14=>499 | 28=>191 | 29=>192 | 20=>506 | 21=>507 | 22=>508 | 23=>509 | 24=>510 | 25=>511 | 26=>512 | 27=>513 | 46=>516 | 47=>294 | 48=>295 | 49=>517 | 50=>518 | 57=>520 | n=>n,fun | 22=>52 | 24=>180 | 25=>510 | 3=>3 | 39=>147 | 0=>0 | 53=>228 | 55=>230 | 4=>4 | 46=>221 | 45=>220 | 50=>225 | 5=>5 | 9=>9 | 66=>328 | 70=>332 | 76=>408 | 77=>409 | n=>n,fun | n=>n⟩
end Go.Proofs.YtahgkllhbggmgaaGreatDoor
namespace Go.Proofs.YtahgkllhbggmgaaGreatDoor
open Go.ChangeShapes Go.WideShapes Go.ChangeAt Go.RowKit
attribute [local irreducible] AW AWY Be As vop Az Aq Ax qop Bd Bv Aj Ag Ay A7 Aw Bz7
attribute [local go_sem] Cf Ae Af
def E40 (v:List Ad) (n:Bz) (pre:List (Fin 64)) (o:Nat):Int:=if pre.any (fun x=>decide (x.1=o))=true then Ae5 v n o else A9 v o
end Go.Proofs.YtahgkllhbggmgaaGreatDoor
namespace Go.Proofs.YtahgkllhbggmgaaGreatDoor
open Go.ChangeShapes Go.WideShapes Go.ChangeAt Go.RowKit
attribute [local irreducible] AW AWY Be As vop Az Aq Ax qop Bd Bv Aj Ag Ay A7 Aw
attribute [local go_sem] Fp Ae Af
theorem C82 (l:List Ah):spI l=.sl 2 (l.map Po):=rfl
attribute [local go_sem] C82 B42
end Go.Proofs.YtahgkllhbggmgaaGreatDoor
namespace Go.Proofs.YtahgkllhbggmgaaGreatDoor
open Go.ChangeShapes Go.WideShapes Go.ChangeAt Go.RowKit Go.Sort Go.Shelf
structure ZB where
 lo:Nat
 hi:Int
 v:Value
 small:lo < 256
 one:v.oneCell'=true
instance:Inhabited ZB:=⟨⟨0,0,.bool false,by decide,rfl⟩⟩
def E17 (b:ZB):List Value:=[.int .i64 (b.lo:Nat),.int .i64 b.hi,b.v]
def E43 (a b:ZB):Int:=(a.lo:Int) - b.lo
def Dy4 (X:World):List Bp->List ZB->Prop
 | [],[]=>True
 | z :: l,b :: d=>((b.lo:Int)=z.span.lo/\b.hi=z.span.hi/\I64 z.span.hi/\C7 X b.v (stI z.vec))/\Dy4 X l d
 | _,_=>False
end Go.Proofs.YtahgkllhbggmgaaGreatDoor
namespace Go.Proofs.YtahgkllhbggmgaaGreatDoor
open Go.ChangeShapes Go.WideShapes Go.ChangeAt Go.RowKit
attribute [local irreducible] AW AWY Be As vop Az Aq Ax qop Bd Bv Aj Ag Ay A7 Aw
attribute [local go_sem] Fp Dx Ae Af
end Go.Proofs.YtahgkllhbggmgaaGreatDoor
namespace Go.Proofs.YtahgkllhbggmgaaGreatDoor
open Go.ChangeShapes Go.WideShapes Go.ChangeAt Go.RowKit
attribute [local irreducible] AW AWY Be As vop Az Aq Ax qop Bd Bv Aj Ag Ay A7 Aw
attribute [local go_sem] Ch Dz Cf Ae Af
def enI (n:Int):List IV:=[.val (.int .i64 n)]
end Go.Proofs.YtahgkllhbggmgaaGreatDoor
namespace Go.Proofs.YtahgkllhbggmgaaGreatDoor
open Go.ChangeShapes Go.WideShapes Go.ChangeAt Go.RowKit
attribute [local irreducible] AW AWY Be As vop Az Aq Ax qop Bd Bv Aj Ag Ay A7 Aw
attribute [local go_sem] Fp Dx Cf Ch Dz Ae Af
end Go.Proofs.YtahgkllhbggmgaaGreatDoor
namespace Go.Proofs.YtahgkllhbggmgaaGreatDoor
open Go.ChangeShapes Go.WideShapes Go.ChangeAt Go.RowKit
attribute [local irreducible] AW AWY Be As vop Az Aq Ax qop Bd Bv Aj Ag Ay A7 Aw
attribute [local go_sem] Fp Dx Gr Eg Ez Dp Dz Ch Gu E6 Cf Ae Af
theorem B05 {q:E8×Int} {e:Int} (h:q=(Pd,e)):Hm (.tup [.agg [.val (.slice none 0 0),.val (.slice none 0 0),.val (.slice none 0 0),.val (.slice none 0 0),.val (.int .i64 0)],.val (.int .i64 e)]) (.tup [vwA q.1,.val (.int .i64 q.2)]):=by
 subst h
 refine A46 rfl fun p hp=>?_
 simp only [List.zip_cons_cons,List.zip_nil_right,List.mem_cons,List.not_mem_nil,or_false] at hp
 rcases hp with rfl | rfl
 ·refine Ab6 rfl fun p hp=>?_
  simp only [List.zip_cons_cons,List.zip_nil_right,List.mem_cons,List.not_mem_nil,or_false] at hp
  rcases hp with rfl | rfl | rfl | rfl | rfl
  ·exact Dd 2
  ·exact Dd 3
  ·exact Dd 4
  ·exact Dd 4
  ·exact Hm.rfl_ _
 ·exact Hm.rfl_ _
end Go.Proofs.YtahgkllhbggmgaaGreatDoor
namespace Go.Proofs.YtahgkllhbggmgaaGreatDoor
open Go.ChangeShapes Go.WideShapes Go.ChangeAt Go.RowKit
attribute [local irreducible] AW AWY Be As vop Az Aq Ax qop Bd Bv Aj Ag Ay A7 Aw
attribute [local go_sem] Gr Eg Ez Dp Dz Ch Gu Fp Dx E6 Cf Ae Af
theorem Bw9 (room:Int):Hm (.tup [.agg [.val (.slice none 0 0),.val (.slice none 0 0),.val (.slice none 0 0),.val (.slice none 0 0),.val (.int .i64 room)],.val (.int .i64 0)]) (.tup [vwA ⟨[],[],[],[],room⟩,.val (.int .i64 0)]):=by
 refine A46 rfl fun p hp=>?_
 simp only [List.zip_cons_cons,List.zip_nil_right,List.mem_cons,List.not_mem_nil,or_false] at hp
 rcases hp with rfl | rfl
 ·refine Ab6 rfl fun p hp=>?_
  simp only [List.zip_cons_cons,List.zip_nil_right,List.mem_cons,List.not_mem_nil,or_false] at hp
  rcases hp with rfl | rfl | rfl | rfl | rfl
  ·exact Dd 2
  ·exact Dd 3
  ·exact Dd 4
  ·exact Dd 4
  ·exact Hm.rfl_ _
 ·exact Hm.rfl_ _
end Go.Proofs.YtahgkllhbggmgaaGreatDoor
namespace Go.Proofs.YtahgkllhbggmgaaGreatDoor
open Go.ChangeShapes Go.WideShapes Go.ChangeAt Go.RowKit
section
variable {L : Operand -> AV} {K K' : List (List IV) -> Prop} {x0 x1 x2 x3 : Operand} {a b c d : Int}
end
attribute [local irreducible] AW AWY Be As vop Az Aq Ax qop Bd Bv Aj Ag Ay A7 Aw
attribute [local go_sem] Bq7 Bn2 Dz Ch Gu Ez Cf Ae Af
theorem S7 (l:List Ad):stI l=.sl 2 (l.map Yd):=rfl
theorem Zs (l:List Ah):spI l=.sl 2 (l.map Po):=rfl
theorem Cc8 (s:Ah):Po s=[.val (.int .i64 s.lo),.val (.int .i64 s.hi)]:=rfl
attribute [local go_sem] S7 Zs By6 Cc8
def stY (s:Ad):List Nat:=Xr [s.node,s.count]
def spY (s:Ah):List Nat:=Xr [s.lo,s.hi]
end Go.Proofs.YtahgkllhbggmgaaGreatDoor
