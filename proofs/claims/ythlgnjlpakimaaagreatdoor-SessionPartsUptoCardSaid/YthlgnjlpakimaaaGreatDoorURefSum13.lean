/- The sum of a view (the reference's). -/
import Derived.Test.YthlgnjlpakimaaaGreatDoorUBodies
import Derived.Test.YthlgnjlpakimaaaGreatDoorUTakeLaw
import Derived.Test.YthlgnjlpakimaaaGreatDoorRows
import Derived.Shelf.SlGeneric
import Derived.Shelf.SlSortCmp.WholeK
import Derived.Ground.SlsfProg
import Derived.Test.YthlgnjlpakimaaaGreatDoorUSortWorld
import Derived.Test.YthlgnjlpakimaaaGreatDoorUSortSpan
import Derived.Test.YthlgnjlpakimaaaGreatDoorUTouch
import Derived.Test.YthlgnjlpakimaaaGreatDoorUGoes
import Derived.Test.YthlgnjlpakimaaaGreatDoorUNoteThrough
import Derived.Test.YthlgnjlpakimaaaGreatDoorUCacheForm
import Derived.Test.YthlgnjlpakimaaaGreatDoorURefTouch
import Derived.Test.YthlgnjlpakimaaaGreatDoorUByte
import Derived.Test.YthlgnjlpakimaaaGreatDoorURefThr
import Derived.Test.YthlgnjlpakimaaaGreatDoorUBlur
set_option linter.all false
set_option linter.unnecessarySimpa false
set_option linter.unusedSimpArgs false
set_option linter.unusedVariables false
namespace Go.Proofs.YthlgnjlpakimaaaGreatDoor
def Lu (c n s:Int):Ab×Int :=
 if c < 0\/n < 0\/64<=n\/s < 0 then (⟨0,0⟩,1)
 else if 9223372036854775807 - c<=s then (⟨0,0⟩,2)
 else (⟨c+s+1,n⟩,0)
def H9 (l:List Ab):Int:=(Cf (Dg l) 64).foldl (fun m k=>max m (A9 l (k:Nat))) 0
def ofN (known:List Ab) (w:Aq):B7×Int :=
 if Av known=true/\Bm w.stamp.count w.stamp.node=true/\Jv w.object=true/\Fs known w.stamp=false then (⟨known,Eb [known,[w.stamp]],[],[w]⟩,0) else (Aq8,1)
structure Bs5 where
 view:Bz
 note:B7
 err:Int
def Y7 (e:Int):Bs5:=⟨Uq,Aq8,e⟩
def Cp8 (v : Bz) (me object skip : Int) (value : List Nat) (gone : Bool) : Bs5 :=
  if Ao v = true /\ Jv object = true /\ value.length <= 256 /\ (gone && decide (0 < value.length)) = false then
    (if (Lu (H9 v.known) me skip).2 = 0 then
      (if (ofN v.known ⟨(Lu (H9 v.known) me skip).1, object, gone⟩).2 = 0 then
        (if (Vf v (ofN v.known ⟨(Lu (H9 v.known) me skip).1, object, gone⟩).1).2 = 0 then
          (if gone = true then ⟨(Vf v (ofN v.known ⟨(Lu (H9 v.known) me skip).1, object, gone⟩).1).1, (ofN v.known ⟨(Lu (H9 v.known) me skip).1, object, gone⟩).1, 0⟩
           else (if (Be1 (Vf v (ofN v.known ⟨(Lu (H9 v.known) me skip).1, object, gone⟩).1).1 ⟨object, (Lu (H9 v.known) me skip).1, value⟩).2 = 0 then
              ⟨(Be1 (Vf v (ofN v.known ⟨(Lu (H9 v.known) me skip).1, object, gone⟩).1).1 ⟨object, (Lu (H9 v.known) me skip).1, value⟩).1, (ofN v.known ⟨(Lu (H9 v.known) me skip).1, object, gone⟩).1, 0⟩
            else Y7 (Be1 (Vf v (ofN v.known ⟨(Lu (H9 v.known) me skip).1, object, gone⟩).1).1 ⟨object, (Lu (H9 v.known) me skip).1, value⟩).2))
         else Y7 (Vf v (ofN v.known ⟨(Lu (H9 v.known) me skip).1, object, gone⟩).1).2)
       else Y7 (ofN v.known ⟨(Lu (H9 v.known) me skip).1, object, gone⟩).2)
     else Y7 (Lu (H9 v.known) me skip).2)
  else Y7 1
end Go.Proofs.YthlgnjlpakimaaaGreatDoor
namespace Go.Proofs.YthlgnjlpakimaaaGreatDoor
open Go.Proofs Go.Shelf
def Bg2:Go.Shelf.Ren:=⟨fun | 6=>192 | 15=>219 | 14=>218 | 28=>235 | 29=>236 | 20=>227 | 21=>228 | 22=>229 | 23=>230 | 24=>231 | 25=>232 | 26=>233 | 27=>234 | 46=>247 | 47=>248 | 48=>249 | 49=>250 | 50=>251 | 57=>256 | n=>n,fun | 22=>26 | 24=>122 | 25=>232 | 3=>3 | 39=>34 | 0=>0 | 53=>265 | 55=>223 | 4=>4 | 46=>259 | 45=>258 | 50=>187 | 5=>5 | 9=>9 | 66=>273 | 70=>277 | 76=>281 | 77=>282 | n=>n,fun | n=>n⟩
end Go.Proofs.YthlgnjlpakimaaaGreatDoor
namespace Go.Proofs.YthlgnjlpakimaaaGreatDoor
open Go.ChangeShapes Go.WideShapes Go.ChangeAt Go.RowKit
attribute [local irreducible] AW AWY Bw Bc vop Bj Az Bi qop By Ce Ar Ap Bo A7 Bd Ni
attribute [local go_sem] Ai An
def Bp7 (f:Nat->Int) (M n:Nat):Int:=if M.testBit n=true then f n else 0
end Go.Proofs.YthlgnjlpakimaaaGreatDoor
namespace Go.Proofs.YthlgnjlpakimaaaGreatDoor
open Go.ChangeShapes Go.WideShapes Go.ChangeAt Go.RowKit
attribute [local irreducible] Bw Bc vop Bj Az Bi qop By Ce Ar Ap Bo A7 Bd
attribute [local go_sem] Ai An
section
variable {V w0 : World} {n : Nd} {ro : Option Nat} {σ : Ah} {K : Exit -> Ah -> Prop}
end
def enX (x:Fin 64):List AV:=[.val (.int .i64 (x.1:Nat)),.any]
attribute [local irreducible] Ni AW
section
variable {V w0 : World} {n : Nd} {K : Exit -> Ah -> Prop}
end
def Cw8 (f d:Nat->Int) (pre:List (Fin 64)) (n:Nat):Int:=if pre.any (fun x=>decide (x.1=n))=true then min (f n) (d n) else f n
structure D22 (ls:List (List Ab)) where
 i:Nat
 f:Nat->Int
 M:Nat
 h0:0 < i
 hi:i<=ls.length
 hM:M < 18446744073709551616
 hf:∀ n,n < 64->I64 (f n)
 pos:∀ n,n < 64->M.testBit n=true->0 < f n
 is:∀ n,n < 64->Bp7 f M n=Bl2 (ls.take i) n
end Go.Proofs.YthlgnjlpakimaaaGreatDoor
namespace Go.Proofs.YthlgnjlpakimaaaGreatDoor
open Go.ChangeShapes Go.WideShapes Go.ChangeAt Go.RowKit
attribute [local irreducible] AW AWY Bw Bc vop Bj Az Bi qop By Ce Ar Ap Bo A7 Bd Ni
attribute [local go_sem] C3 Ai An
def D32 (v:List Ab) (n:B7) (pre:List (Fin 64)) (o:Nat):Int:=if pre.any (fun x=>decide (x.1=o))=true then Ad0 v n o else A9 v o
end Go.Proofs.YthlgnjlpakimaaaGreatDoor
namespace Go.Proofs.YthlgnjlpakimaaaGreatDoor
open Go.ChangeShapes Go.WideShapes Go.ChangeAt Go.RowKit
attribute [local irreducible] AW AWY Bw Bc vop Bj Az Bi qop By Ce Ar Ap Bo A7 Bd
attribute [local go_sem] Fe Ai An
theorem Bo1 (l:List Ad):spI l=.sl 2 (l.map L2):=rfl
attribute [local go_sem] Bo1 Aw9
end Go.Proofs.YthlgnjlpakimaaaGreatDoor
namespace Go.Proofs.YthlgnjlpakimaaaGreatDoor
open Go.ChangeShapes Go.WideShapes Go.ChangeAt Go.RowKit Go.Sort Go.Shelf
structure ZB where
 lo:Nat
 hi:Int
 v:Value
 small:lo < 256
 one:v.oneCell'=true
instance:Inhabited ZB:=⟨⟨0,0,.bool false,by decide,rfl⟩⟩
def D19 (b:ZB):List Value:=[.int .i64 (b.lo:Nat),.int .i64 b.hi,b.v]
def D34 (a b:ZB):Int:=(a.lo:Int) - b.lo
def Cz4 (X:World):List B8->List ZB->Prop
 | [],[]=>True
 | z :: l,b :: d=>((b.lo:Int)=z.span.lo/\b.hi=z.span.hi/\I64 z.span.hi/\Cs X b.v (stI z.vec))/\Cz4 X l d
 | _,_=>False
end Go.Proofs.YthlgnjlpakimaaaGreatDoor
namespace Go.Proofs.YthlgnjlpakimaaaGreatDoor
open Go.ChangeShapes Go.WideShapes Go.ChangeAt Go.RowKit
attribute [local irreducible] AW AWY Bw Bc vop Bj Az Bi qop By Ce Ar Ap Bo A7 Bd
attribute [local go_sem] Fe Fq Ai An
end Go.Proofs.YthlgnjlpakimaaaGreatDoor
namespace Go.Proofs.YthlgnjlpakimaaaGreatDoor
open Go.ChangeShapes Go.WideShapes Go.ChangeAt Go.RowKit
attribute [local irreducible] AW AWY Bw Bc vop Bj Az Bi qop By Ce Ar Ap Bo A7 Bd
attribute [local go_sem] Ai An
theorem Wc (l:List Ad):spI l=.sl 2 (l.map L2):=rfl
attribute [local go_sem] Wc Aw9
def As2 (n:Int) (s:Ad):List Ad:=if n < s.lo then [⟨n,s.lo - 1⟩] else []
def Fw (n:Int):List Ad->List Ad×Int
 | []=>([],n)
 | s :: l=>(As2 n s++(Fw (s.hi+1) l).1,(Fw (s.hi+1) l).2)
theorem Xw:∀ (l:List Ad) (n:Int) (s:Ad),Fw n (l++[s])=((Fw n l).1++As2 (Fw n l).2 s,s.hi+1)
 | [],n,s=>by simp [Fw]
 | t :: l,n,s=>by rw [List.cons_append,Fw,Xw l];simp [Fw]
def Au5 (n:Int):List Ad:=if n<=255 then [⟨n,255⟩] else []
theorem A12:∀ (l:List Ad) (n:Int),Q0 n l=(Fw n l).1++Au5 (Fw n l).2
 | [],n=>by rw [Q0,Fw,Au5,List.nil_append]
 | s :: l,n=>by rw [Q0,Fw,A12 l];simp [As2]
theorem A11:∀ (l:List Ad) (n:Int),(Fw n l).1.length<=l.length
 | [],n=>Nat.le_refl _
 | s :: l,n=>by
  have:=A11 l (s.hi+1)
  have h2:(As2 n s).length<=1:=by unfold As2;split<;>simp
  rw [Fw,List.length_append,List.length_cons]
  omega
def Av5 (l:List Ad):List Ad:=C1 fun o=>!Ak l o
set_option maxRecDepth 100000 in
set_option maxHeartbeats 800000 in
theorem An2 (l:List Ad):A7 Tryz.prog A8 191 [.iv (spI l)] (.iv (spI (Av5 l))) []:=by
 refine A7.ofS (n:=38) (rs:=[.tmp 2]) Tryz.func191 rfl (by kernel_rfl) Tryz.ntmps191 (by kernel_rfl) (by simp) (fun _ _=>A8.later) ?_
 intro hok V w0
 obtain ⟨T,hT⟩ : ∃ T,B9 l=T:=⟨_,rfl⟩
 have hin:∀ s∈T,0<=s.lo/\s.lo<=s.hi/\s.hi<=255:=fun s hs=>by
  have:=Jz (e:=-2) (by rw [<-hT];exact Bg _) s hs
  omega
 have hTl:T.length<=128:=by rw [<-hT];exact Hv _
 have hres:Av5 l=(Fw 0 T).1++Au5 (Fw 0 T).2:=by rw [<-A12,<-hT,Ao7];rfl
 have hst:=An0 l
 rw [hT] at hst
 rw [hres]
 refine g ?_
 repeat' (first | refine st_ rfl (g ?_) | refine Aa (hst) rfl (g ?_))
 refine AW.adopt 3 9900 66 2 rfl rfl ?_
 refine AW.loop (fun m:{m:Nat // m<=T.length/\0<=(Fw 0 (T.take m)).2/\(Fw 0 (T.take m)).2<=256}=>⟨[(3,.own 9900),(4,.val (.int .i64 (Fw 0 (T.take m.1)).2)),(8,.iv (spI T)),(9,.val (.int .i64 (T.length:Nat))),(10,.val (.int .i64 (m.1:Nat)))],[.row 9900 66 2 ((Fw 0 (T.take m.1)).1.map L2)]⟩) (fun m=>T.length - m.1) ⟨0,Nat.zero_le _,by simp [Fw],by simp [Fw]⟩ id ⟨⟨rfl,rfl,rfl,?_,rfl,trivial⟩,⟨rfl,trivial⟩,by simp [Ay,BA.id]⟩ fun ⟨m,hm,h0,h1⟩=>?_
 ·simp [AV.ren,Ct]
 simp only
 have hl1:=A11 (T.take m) 0
 rw [List.length_take] at hl1
 obtain ⟨fr,hfr⟩ : ∃ fr,(Fw 0 (T.take m)).2=fr:=⟨_,rfl⟩
 obtain ⟨O,hO⟩ : ∃ O,(Fw 0 (T.take m)).1=O:=⟨_,rfl⟩
 simp only [hfr,hO] at h0 h1 hl1 ⊢
 repeat (refine AW.seq ?_)
 refine AW.reg rfl fun KK hKK=>?_
 refine g ?_
 repeat' (refine hKK _ (g ?_);clear hKK KK)
 repeat (refine AW.seq ?_)
 refine st_ rfl ?_
 refine g ?_
 refine Cl (fun h=>?_) (fun h=>?_)
 ·have hlt:m < T.length:=by have:=of_decide_eq_true h;omega
  obtain ⟨x,hx⟩ : ∃ x,T[m]=x:=⟨_,rfl⟩
  have hi:=hin x (hx ▸ List.getElem_mem hlt)
  have hget:=Cg (f:=L2) (List.getElem?_eq_getElem hlt)
  have hs:=Xw (T.take m) 0 T[m]
  rw [<-List.take_succ_eq_append_getElem hlt,hfr,hO] at hs
  rw [hx] at hs hget
  have w1:I64 x.lo:=I64.of (by omega) (by omega)
  have w2:I64 x.hi:=I64.of (by omega) (by omega)
  have w3:I64 fr:=I64.of (by omega) (by omega)
  have w4:I64 (x.lo - 1):=I64.of (by omega) (by omega)
  refine g ?_
  repeat' refine st_ rfl (g ?_)
  refine ⟨by omega,_,hget,?_⟩
  refine g ?_
  repeat' (first | refine st_ rfl (g ?_) | refine Aj (g ?_) | refine Bk (fun h=>g ?_) (fun h=>g ?_))
  ·refine bs1 (by omega) rfl rfl rfl ⟨w3,w4,trivial⟩ ?_
   refine g ?_
   refine C6 rfl (by kernel_rfl) (by omega) (by kernel_rfl) rfl (by simp;omega) ?_
   refine g ?_
   repeat' refine st_ rfl (g ?_)
   refine ⟨⟨m+1,hlt,by rw [hs];show 0<=x.hi+1;omega,by rw [hs];show x.hi+1<=256;omega⟩,fun b=>if b=9900 then 2600 else b,⟨⟨rfl,by rw [hs];rfl,rfl,rfl,rfl,trivial⟩,⟨?_,trivial⟩,by simp [Ay,BA.id]⟩,by show T.length - (m+1) < T.length - m;omega⟩
   rw [hs,As2,if_pos h,List.map_append]
   rfl
  ·refine ⟨⟨m+1,hlt,by rw [hs];show 0<=x.hi+1;omega,by rw [hs];show x.hi+1<=256;omega⟩,id,⟨⟨rfl,by rw [hs];rfl,rfl,rfl,rfl,trivial⟩,⟨?_,trivial⟩,by simp [Ay,BA.id]⟩,by show T.length - (m+1) < T.length - m;omega⟩
   rw [hs,As2,if_neg h,List.append_nil]
   rfl
 ·obtain rfl:m=T.length:=by have:=of_decide_eq_false h;omega
  rw [List.take_length] at hfr hO
  have w3:I64 fr:=I64.of (by omega) (by omega)
  refine AW.exit ?_
  simp only [reduceIte,hfr,hO]
  unfold Au5
  repeat (refine AW.seq ?_)
  refine AW.reg rfl fun KK hKK=>?_
  refine g ?_
  repeat' (refine hKK _ (g ?_);clear hKK KK)
  repeat (refine AW.seq ?_)
  refine st_ rfl ?_
  refine g ?_
  refine Bk (fun h=>?_) (fun h=>?_)
  ·rw [if_pos h]
   refine g ?_
   repeat' refine st_ rfl (g ?_)
   refine bs1 (by omega) rfl rfl rfl ⟨w3,rfl,trivial⟩ ?_
   refine g ?_
   refine C6 rfl (by kernel_rfl) (by omega) (by kernel_rfl) rfl (by simp;omega) ?_
   refine g ?_
   refine AW.freeze 3700 _ rfl trivial ?_
   simp only [go_sem,reduceIte,Nat.reduceEqDiff]
   refine g ?_
   repeat' refine st_ rfl (g ?_)
   rw [List.map_append]
   exact Dz.rfl_ _
  ·rw [if_neg h,List.append_nil]
   refine AW.freeze 9900 _ rfl trivial ?_
   simp only [go_sem,reduceIte,Nat.reduceEqDiff]
   refine g ?_
   repeat' refine st_ rfl (g ?_)
   exact Dz.rfl_ _
theorem Au7 (l m:List Ad):A7 Tryz.prog A8 128 [.iv (spI l),.iv (spI m)] (.iv (spI (Jn l m))) []:=by
 have he:Jn l m=D1 l (Av5 m):=by
  unfold Jn D1 Av5
  exact Dd fun o ho=>by rw [Cc _ ho]
 rw [he]
 refine A7.of (n:=9) (rs:=[.tmp 4]) Tryz.func128 rfl (by kernel_rfl) Tryz.ntmps128 (by kernel_rfl) (by simp) (fun _ _=>A8.later) ?_
 intro hok V w0
 refine g ?_
 repeat' (first | refine st_ rfl (g ?_) | exact trivial | refine Aa (An2 _) rfl (g ?_) | refine Aa (Wp _ _) rfl (g ?_))
end Go.Proofs.YthlgnjlpakimaaaGreatDoor
namespace Go.Proofs.YthlgnjlpakimaaaGreatDoor
open Go.ChangeShapes Go.WideShapes Go.ChangeAt Go.RowKit
attribute [local irreducible] AW AWY Bw Bc vop Bj Az Bi qop By Ce Ar Ap Bo A7 Bd
attribute [local go_sem] Fe Fq C3 Dp Ei Ai An
theorem Bo2 (ls:List (List Ad)) (hs:Dr ls<=1073741824):A7 Tryz.prog A8 125 [.iv (Bo0 ls)] (.iv (spI (B9 ls.flatten))) []:=(Nv ls hs).frz trivial
end Go.Proofs.YthlgnjlpakimaaaGreatDoor
namespace Go.Proofs.YthlgnjlpakimaaaGreatDoor
open Go.ChangeShapes Go.WideShapes Go.ChangeAt Go.RowKit
attribute [local irreducible] AW AWY Bw Bc vop Bj Az Bi qop By Ce Ar Ap Bo A7 Bd C5
attribute [local go_sem] Eh Ai An
def Cj5 (v:Bz) (it:List Ad):List Ab:=if Ao v=true then Bo3 v.zones v.known it else []
end Go.Proofs.YthlgnjlpakimaaaGreatDoor
namespace Go.Proofs.YthlgnjlpakimaaaGreatDoor
open Go.ChangeShapes Go.WideShapes Go.ChangeAt Go.RowKit
attribute [local irreducible] AW AWY Bw Bc vop Bj Az Bi qop By Ce Ar Ap Bo A7 Bd C5
theorem Rt (v:Bz) (iR:I64 v.room):A7 Tryz.prog A8 45 [vwA v] (.val (.bool (Ao v))) []:=Bf5 (fun l r h=>Aa1 l r h) v iR
end Go.Proofs.YthlgnjlpakimaaaGreatDoor
namespace Go.Proofs.YthlgnjlpakimaaaGreatDoor
def D04 (H:List Aq) (t:List Aq) (l:List Dc):List Dc:=l.filter fun x=>F9 H x || !t.any fun w=>decide (x.object=w.object)
theorem Am5 {v:Bz} (h:Ao v=true):v.zones.length<=256:=by
 simp only [Ao,Gj,Bool.and_eq_true] at h
 have:(v.zones.length:Int)<=255 - -1:=Zo h.1.1.1.1.1.2 (by decide)
 omega
end Go.Proofs.YthlgnjlpakimaaaGreatDoor
namespace Go.Proofs.YthlgnjlpakimaaaGreatDoor
open Go.ChangeShapes Go.WideShapes Go.ChangeAt Go.RowKit
attribute [local irreducible] AW AWY Bw Bc vop Bj Az Bi qop By Ce Ar Ap Bo A7 Bd
attribute [local go_sem] Fe Fq Ha Hf Ff Gl Ei Dp J9 Eh C3 Ai An
end Go.Proofs.YthlgnjlpakimaaaGreatDoor
namespace Go.Proofs.YthlgnjlpakimaaaGreatDoor
open Go.ChangeShapes Go.WideShapes Go.ChangeAt Go.RowKit
attribute [local irreducible] AW AWY Bw Bc vop Bj Az Bi qop By Ce Ar Ap Bo A7 Bd
attribute [local go_sem] Ha Hf Ff Gl Ei Dp J9 Fe Fq Eh C3 Ai An
end Go.Proofs.YthlgnjlpakimaaaGreatDoor
namespace Go.Proofs.YthlgnjlpakimaaaGreatDoor
open Go.ChangeShapes Go.WideShapes Go.ChangeAt Go.RowKit
attribute [local irreducible] AW AWY Bw Bc vop Bj Az Bi qop By Ce Ar Ap Bo A7 Bd
attribute [local go_sem] Ha Hf Ff Ei Dp J9 Fe Fq Eh C3 Ai An
end Go.Proofs.YthlgnjlpakimaaaGreatDoor
namespace Go.Proofs.YthlgnjlpakimaaaGreatDoor
open Go.ChangeShapes Go.WideShapes Go.ChangeAt Go.RowKit
attribute [local irreducible] AW AWY Bw Bc vop Bj Az Bi qop By Ce Ar Ap Bo A7 Bd
attribute [local go_sem] Ha Hf Ff Ei Dp J9 Fe Fq Eh C3 Ai An
end Go.Proofs.YthlgnjlpakimaaaGreatDoor
namespace Go.Proofs.YthlgnjlpakimaaaGreatDoor
open Go.ChangeShapes Go.WideShapes Go.ChangeAt Go.RowKit
attribute [local irreducible] AW AWY Bw Bc vop Bj Az Bi qop By Ce Ar Ap Bo A7 Bd
attribute [local go_sem] Ha Hf Ff Ei Dp J9 Fe Fq Eh C3 Ai An
def C99 (v:Bz) (it:List Ad) (w:Aq):Bool:=!w.gone&&Bv it w.object&&!decide ((B44 v.bodies w.object w.stamp).2=0)
def C98 (v:Bz) (it:List Ad) (l:List Aq):List Int:=(l.filter (C99 v it)).map (·.object)
def Cw9 (v:Bz) (it:List Ad):List Int×Int:=if Ao v=true then (C98 v it v.held,0) else ([],1)
def enO (o:Int):List IV:=[.val (.int .i64 o)]
end Go.Proofs.YthlgnjlpakimaaaGreatDoor
namespace Go.Proofs.YthlgnjlpakimaaaGreatDoor
theorem Q2 {z:List B8} {known:List Ab} (hz:Br z=true) (hk:Av known=true) (o:Int):Av (C4 z known o)=true:=by
 unfold C4
 split
 ·rename_i x hx
  have:=K4 hz x (List.mem_of_find?_eq_some hx)
  simp only [E8,Bool.and_eq_true] at this
  exact this.2
 ·exact hk
theorem Yw {a b:List Ab} : V0 a b=1↔Ba a b=false/\Ba b a=true:=by
 unfold V0
 cases Ba a b<;>cases Ba b a<;>simp
theorem Qk (a:List Ab):Ba a a=true:=J3.2 fun _ _=>Int.le_refl _
structure VF (v:Bz):Prop where
 known:Av v.known=true
 zones:Br v.zones=true
 held:Shelf v.held
 cache:E5 v.bodies v.room=true
 below:∀ x∈v.zones,Ba x.vec v.known=false/\Ba v.known x.vec=true
 reached:∀ w∈v.held,Fs (C4 v.zones v.known w.object) w.stamp=true
 wanted:∀ x∈v.bodies,F9 v.held x=true
theorem Vs {z:List B8} {k:List Ab} (hz:Br z=true) (hk:Av k=true) {w:Aq} : Fj z k w=true↔(0<=w.object/\w.object<=255)/\Fs (C4 z k w.object) w.stamp=true:=by
 unfold Fj Lq
 by_cases h:0<=w.object/\w.object<=255
 ·rw [if_pos ⟨hz,hk,h⟩]
  exact ⟨fun hh=>⟨h,hh⟩,fun hh=>hh.2⟩
 ·rw [if_neg fun hh=>h hh.2.2]
  refine ⟨fun hh=>?_,fun hh=>absurd hh.1 h⟩
  exfalso
  simp only [Fs,Bool.and_eq_true,decide_eq_true_eq] at hh
  have h1:=hh.1
  have h2:=hh.2
  simp only [A9,Bm,decide_eq_true_eq] at h1 h2
  omega
theorem X8 {v:Bz} : Ao v=true↔VF v:=by
 simp only [Ao,Gj,Bool.and_eq_true,List.all_eq_true,decide_eq_true_eq]
 constructor
 ·rintro ⟨⟨⟨⟨⟨⟨h1,h2⟩,h3⟩,h4⟩,h5⟩,h6⟩,h7⟩
  exact ⟨h1,h2,Lb.1 h3,h4,fun x hx=>Yw.1 (h5 x hx),fun w hw=>((Vs h2 h1).1 (h6 w hw)).2,h7⟩
 ·rintro ⟨h1,h2,h3,h4,h5,h6,h7⟩
  exact ⟨⟨⟨⟨⟨⟨h1,h2⟩,Lb.2 h3⟩,h4⟩,fun x hx=>Yw.2 (h5 x hx)⟩,fun w hw=>(Vs h2 h1).2 ⟨Qw (h3.2 w hw),h6 w hw⟩⟩,h7⟩
theorem VF.reach_le {v:Bz} (h:VF v) (o:Int):Ba v.known (C4 v.zones v.known o)=true:=by
 unfold C4
 split
 ·rename_i x hx
  exact (h.below x (List.mem_of_find?_eq_some hx)).2
 ·exact Qk _
def C62 (v:Bz) (n:B7):List B8:=A45 (Zp v.zones v.known n)
theorem Ak2 {a b:List Ab} (ha:Av a=true) (hb:Av b=true) (h1:Ba a b=true) (h2:Ba b a=true):a=b :=
 Rv (e:=-1) (by omega) ha hb fun n hn=>by
  have:=J3.1 h1 n hn
  have:=J3.1 h2 n hn
  omega
attribute [local irreducible] A45 C62 in
theorem Au1 {v:Bz} (h:VF v) {o:Int} {u:List Ab} : InZ v.zones o u↔∃ k:Nat,k < 256/\o=k/\C4 v.zones v.known k=u/\Ba u v.known=false:=by
 constructor
 ·rintro ⟨x,hx,h1,h2,rfl⟩
  have hp:=(Nm h.zones).2 x hx
  have hok:=K4 h.zones x hx
  simp only [E8,Bool.and_eq_true,decide_eq_true_eq] at hok
  simp only [Ca] at hp
  obtain ⟨i,hi,rfl⟩:=List.mem_iff_getElem.1 hx
  refine ⟨o.toNat,by omega,by omega,?_,(h.below _ hx).1⟩
  exact Te h.zones v.known hi (by omega)
 ·rintro ⟨k,hk,rfl,e,hc⟩
  unfold C4 at e
  split at e
  ·rename_i x hx
   have hh:=List.find?_some hx
   simp only [B8.has,Bool.and_eq_true,decide_eq_true_eq] at hh
   exact ⟨x,List.mem_of_find?_eq_some hx,hh.1,hh.2,e⟩
  ·rw [<-e,Qk] at hc
   cases hc
theorem Be2 {v:Bz} (h:VF v) {o:Nat} (ho:o < 256):Ak (D7 v.zones) o=!Ba (C4 v.zones v.known o) v.known:=by
 unfold D7
 rw [if_pos h.zones,show B9 (v.zones.map (·.span))=C1 fun o=>Ak (v.zones.map (·.span)) o from rfl,Cc _ ho,Bool.eq_iff_iff,N9]
 constructor
 ·rintro ⟨s,hs,h1,h2⟩
  obtain ⟨x,hx,rfl⟩:=List.mem_map.1 hs
  obtain ⟨k,hk,e,h3,h4⟩:=(Au1 h).1 ⟨x,hx,h1,h2,rfl⟩
  obtain rfl:o=k:=by omega
  rw [h3,h4]
  rfl
 ·intro hc
  obtain ⟨x,hx,h1,h2,_⟩:=(Au1 h).2 ⟨o,ho,rfl,rfl,by simpa using hc⟩
  exact ⟨x.span,List.mem_map_of_mem hx,h1,h2⟩
end Go.Proofs.YthlgnjlpakimaaaGreatDoor
namespace Go.Proofs.YthlgnjlpakimaaaGreatDoor
def N5 (v:Bz) (r:List Ab) (f:Nat->Bool):B7:=⟨[],r,C1 fun o=>!f o,Dw v.held (C1 f)⟩
theorem A22 (v:Bz) (r:List Ab) (f:Nat->Bool):(N5 v r f).blur=C1 fun o=>!f o:=rfl
theorem Bh2 (v:Bz) (r:List Ab) {f:Nat->Bool} {o:Nat} (ho:o < 256):Ak (N5 v r f).blur o=!f o:=by rw [A22,Cc _ ho]
def M0 (v:Bz) (it:List Ad) (o:Nat):Bool:=Ak it o&&Ak (D7 v.zones) o
def G3 (v:Bz) (it:List Ad) (o:Nat):Bool:=Ak it o&&!Ak (D7 v.zones) o
def C7 (v:Bz) (it:List Ad):Nat->List (List Ab)
 | 0=>[]
 | m+1=>C7 v it m++if M0 v it m=true/\C4 v.zones v.known m∉C7 v it m then [C4 v.zones v.known m] else []
def Gh (v:Bz) (it:List Ad) (r:List Ab) (o:Nat):Bool:=M0 v it o&&decide (C4 v.zones v.known o=r)
def Am8 (v:Bz) (it:List Ad):List B7:=N5 v v.known (G3 v it) :: (C7 v it 256).map fun r=>N5 v r (Gh v it r)
def Z5 (v:Bz) (it:List Ad):List B7×Int:=if Ao v=true then (Am8 v it,0) else ([],1)
theorem M7 {v:Bz} {it:List Ad} {r:List Ab} : ∀ {m:Nat},r∈C7 v it m↔∃ o,o < m/\M0 v it o=true/\C4 v.zones v.known o=r
 | 0=>by simp [C7]
 | m+1=>by
  rw [C7,List.mem_append,M7]
  constructor
  ·rintro (⟨o,h1,h2⟩ | h)
   ·exact ⟨o,by omega,h2⟩
   ·split at h
    ·rename_i hb
     exact ⟨m,by omega,hb.1,(List.mem_singleton.1 h).symm⟩
    ·cases h
  ·rintro ⟨o,h1,h2,h3⟩
   rcases Nat.lt_or_ge o m with h | h
   ·exact .inl ⟨o,h,h2,h3⟩
   ·obtain rfl:o=m:=by omega
    by_cases hi:C4 v.zones v.known o∈C7 v it o
    ·exact .inl (h3 ▸ M7.1 hi)
    ·right
     rw [if_pos ⟨h2,hi⟩,h3]
     simp
theorem M8 (v:Bz) (it:List Ad):∀ m,(C7 v it m).length<=m
 | 0=>Nat.le_refl _
 | m+1=>by
  have:=M8 v it m
  rw [C7,List.length_append]
  split<;>simp<;>omega
theorem Am3 {l:List Aq} {f:Nat->Bool} {w:Aq} (h:Shelf l):w∈Dw l (C1 f)↔w∈l/\∃ k:Nat,k < 256/\w.object=k/\f k=true:=by
 unfold Dw
 rw [List.mem_filter]
 constructor
 ·rintro ⟨h1,h2⟩
  unfold Bv at h2
  rw [Bool.and_eq_true] at h2
  exact ⟨h1,Tm h2.2⟩
 ·rintro ⟨h1,k,h2,h3,h4⟩
  refine ⟨h1,?_⟩
  unfold Bv
  rw [h3,Bool.and_eq_true,decide_eq_true_eq,Cc _ h2]
  exact ⟨by omega,h4⟩
structure Z2 (v:Bz) (r:List Ab) (f:Nat->Bool):Prop where
 formed:Av r=true
 below:Ba v.known r=true
 told:∀ o:Nat,o < 256->f o=true->C4 v.zones v.known o=r
theorem At3 (r:List Ab):Ba r []=true:=J3.2 fun n _=>G9 r n
theorem Z2.has {v:Bz} (hv:VF v) {r:List Ab} {f:Nat->Bool} (h:Z2 v r f) {w:Aq} (hw:w∈(N5 v r f).writes):w∈v.held/\(∃ k:Nat,k < 256/\w.object=k/\f k=true)/\Fs r w.stamp=true:=by
 obtain ⟨h1,k,h2,h3,h4⟩:=(Am3 hv.held).1 hw
 refine ⟨h1,⟨k,h2,h3,h4⟩,?_⟩
 have:=hv.reached w h1
 rwa [h3,h.told k h2 h4] at this
theorem Vv {v:Bz} (hv:VF v) {r:List Ab} {f:Nat->Bool} (h:Z2 v r f):Al (N5 v r f)=true:=by
 refine D5.2 ⟨rfl,h.formed,At3 r,by rw [A22];exact Bg _,G0.2 ⟨fun w hw=>?_,hv.held.1.sublist List.filter_sublist⟩⟩
 obtain ⟨h1,⟨k,h2,h3,h4⟩,h5⟩:=h.has hv hw
 refine ⟨by omega,by omega,by omega,?_,h5⟩
 rw [h3]
 unfold Bv
 rw [Bh2 v r h2,h4]
 simp
theorem Bh1 {v:Bz} (hv:VF v) (it:List Ad):Z2 v v.known (G3 v it):=⟨hv.known,Qk _,fun o ho h=>by
 unfold G3 at h
 rw [Bool.and_eq_true,Be2 hv ho,Bool.not_not] at h
 exact Ak2 (Q2 hv.zones hv.known _) hv.known h.2 (hv.reach_le o)⟩
theorem Bg7 {v:Bz} (hv:VF v) (it:List Ad) {r:List Ab} (hr:r∈C7 v it 256):Z2 v r (Gh v it r):=by
 obtain ⟨o,ho,_,rfl⟩:=M7.1 hr
 exact ⟨Q2 hv.zones hv.known _,hv.reach_le _,fun p hp h=>by
  unfold Gh at h
  rw [Bool.and_eq_true,decide_eq_true_eq] at h
  exact h.2⟩
theorem Ac9 {v:Bz} (hv:VF v) (it:List Ad):∀ n∈Am8 v it,Al n=true:=fun n hn=>by
 rcases List.mem_cons.1 hn with rfl | hn
 ·exact Vv hv (Bh1 hv it)
 ·obtain ⟨r,hr,rfl⟩:=List.mem_map.1 hn
  exact Vv hv (Bg7 hv it hr)
def B79:Bz->List B7->Bz×Bool
 | v,[]=>(v,true)
 | v,n :: l=>if (Vf v n).2=0 then B79 (Vf v n).1 l else (v,false)
def Cj4 (x v:Bz) (it:List Ad):Bz×Bool:=if Ao v=true then B79 x (Am8 v it) else (x,false)
end Go.Proofs.YthlgnjlpakimaaaGreatDoor
namespace Go.Proofs.YthlgnjlpakimaaaGreatDoor
open Go.ChangeShapes Go.WideShapes Go.ChangeAt Go.RowKit
attribute [local irreducible] AW AWY Bw Bc vop Bj Az Bi qop By Ce Ar Ap Bo A7 Bd
attribute [local go_sem] Ei Dp J9 Eh C3 Ai An
theorem Sj (set:List Ad) (l:List Aq) (w:Aq):Dw (l++[w]) set=Dw l set++if Bv set w.object=true then [w] else []:=by
 unfold Dw
 rw [List.filter_append,List.filter_cons,List.filter_nil]
theorem Zq {q:List Aq×Int} {e:Int} (h:q=([],e)):Dz (.tup [.val (.slice none 0 0),.val (.int .i64 e)]) (.tup [.iv (wrI q.1),.val (.int .i64 q.2)]):=by
 subst h
 refine Ns rfl fun p hp=>?_
 simp only [List.zip_cons_cons,List.zip_nil_right,List.mem_cons,List.not_mem_nil,or_false] at hp
 rcases hp with rfl | rfl
 ·exact D6 4
 ·exact Dz.rfl_ _
set_option maxRecDepth 100000 in
set_option maxHeartbeats 1600000 in
theorem A51 (l:List Aq) (set:List Ad):A7 Tryz.prog A8 200 [.iv (wrI l),.iv (spI set)] (.tup [.iv (wrI (K5 l set).1),.val (.int .i64 (K5 l set).2)]) []:=by
 refine A7.ofS (n:=24) (rs:=[.tmp 4,.tmp 5]) Tryz.func200 rfl (by kernel_rfl) Tryz.ntmps200 (by kernel_rfl) (by simp) (fun _ _=>A8.later) ?_
 intro hok V w0
 obtain ⟨R,hR⟩ : ∃ R,K5 l set=R:=⟨_,rfl⟩
 rw [hR]
 unfold K5 at hR
 have hI:∀ x∈l,I64 x.stamp.count/\I64 x.stamp.node/\I64 x.object:=fun x hx=>by
  obtain ⟨-,o1,o2,o3,-⟩:=Gc (by simpa [wrI] using hok.1.2) (enW x) (List.mem_map_of_mem hx)
  exact ⟨o1,o2,o3⟩
 refine g ?_
 refine AW.seq ?_
 refine AW.reg rfl fun KK hKK=>?_
 refine g ?_
 repeat' (refine hKK _ (g ?_);clear hKK KK)
 refine AW.freeze 400 _ rfl ⟨trivial,trivial⟩ ?_
 simp only [go_sem,reduceIte,Nat.reduceEqDiff]
 refine g ?_
 repeat' (first | refine st_ rfl (g ?_) | refine Cl (fun h=>g ?_) (fun h=>g ?_) | refine Aa (Gs _) rfl (g ?_) | refine Aa (Xm _) rfl (g ?_))
 ·rw [if_neg (by simpa using h)] at hR
  exact Zq hR.symm
 have hF:Bp l=true:=by simpa using h
 rw [if_pos hF] at hR
 have hhl:=A02 (Lb.1 hF)
 refine AW.adoptB 700 9900 49 4 rfl rfl ?_
 refine AW.le (S:=⟨[(6,.bp 700 0),(3,.ip [spI set]),(13,.fn 184 [.ip [wrI l]])],[.row 9900 49 4 ((Dw [] set).map enW),.box 700 [.own 9900]]⟩) (ρ:=id) ⟨⟨rfl,rfl,rfl,trivial⟩,⟨rfl,rfl,trivial⟩,by simp [Ay,BA.id]⟩ ?_
 refine AW.range (Xl l hF) [(6,.bp 700 0)] [(3,.ip [spI set]),(13,.fn 184 [.ip [wrI l]])] (fun pre=>[.row 9900 49 4 ((Dw pre set).map enW),.box 700 [.own 9900]]) (fun _=>True) rfl trivial rfl rfl rfl rfl (fun x=>⟨rfl,rfl⟩) (fun c pre x hsp _=>?_) (fun xs hS _=>?_)
 ·have hx:x∈l:=hsp.subset (by simp)
  obtain ⟨w1,w2,w3⟩:=hI x hx
  have hs:=Sj set pre x
  have hll:(Dw pre set).length<=256:=by
   unfold Dw
   have h1:=List.length_filter_le (fun w=>Bv set w.object) pre
   have h2:=hsp.length_le
   rw [List.length_append,List.length_singleton] at h2
   omega
  simp only [Tf,Bq8,List.cons_append,List.nil_append]
  refine g ?_
  refine AW.seq ?_
  refine AW.reg rfl fun KK hKK=>?_
  refine g ?_
  repeat' (refine hKK _ (g ?_);clear hKK KK)
  refine AW.reg rfl fun KK hKK=>?_
  refine g ?_
  repeat' (refine hKK _ (g ?_);clear hKK KK)
  refine AW.freeze 900 _ rfl ⟨w1,w2,w3,trivial,trivial⟩ ?_
  simp only [go_sem,reduceIte,Nat.reduceEqDiff]
  refine g ?_
  repeat' (first | refine st_ rfl (g ?_) | refine Cl (fun h=>g ?_) (fun h=>g ?_) | refine Aa (A03 _ _) rfl (g ?_))
  ·rw [if_pos (by simpa using h)] at hs
   refine bs1 (by omega) rfl rfl rfl ⟨w1,w2,w3,trivial,trivial⟩ ?_
   refine g ?_
   refine C6 rfl (by kernel_rfl) (by omega) (by kernel_rfl) rfl (by simp;omega) ?_
   refine g ?_
   refine ⟨trivial,fun b=>if b=9900 then 2300 else b,⟨rfl,trivial⟩,⟨?_,rfl,trivial⟩,by simp [Ay,BA.id]⟩
   rw [hs,List.map_append]
   rfl
  ·rw [if_neg (by simpa using h),List.append_nil] at hs
   refine ⟨trivial,id,⟨rfl,trivial⟩,⟨?_,rfl,trivial⟩,by simp [Ay,BA.id]⟩
   rw [hs]
   rfl
 ·obtain rfl:xs=l:=hS
  refine AW.freeze 9900 _ rfl trivial ?_
  simp only [go_sem,reduceIte,Nat.reduceEqDiff]
  refine g ?_
  repeat' refine st_ rfl (g ?_)
  subst hR
  exact Dz.rfl_ _
theorem Ah7 (a b c:IV):Dz (.agg [.val (.slice none 0 0),.iv a,.iv b,.iv c]) (.agg [.iv (stI []),.iv a,.iv b,.iv c]):=by
 refine Aa7 rfl fun p hp=>?_
 simp only [List.zip_cons_cons,List.zip_nil_right,List.mem_cons,List.not_mem_nil,or_false] at hp
 rcases hp with rfl | rfl | rfl | rfl
 ·exact D6 2
 all_goals exact Dz.rfl_ _
set_option maxRecDepth 100000 in
set_option maxHeartbeats 1600000 in
theorem X7 (v:Bz) (r:List Ab) (set:List Ad) (iR:I64 v.room) (hF:Bp v.held=true):A7 Tryz.prog A8 149 [vwA v,.iv (stI r),.iv (spI set)] (Et ⟨[],r,Jn [⟨0,255⟩] set,Dw v.held set⟩) []:=by
 refine A7.ofS (n:=24) (rs:=[.cell 6 37]) Tryz.func149 rfl (by kernel_rfl) Tryz.ntmps149 (by kernel_rfl) (by simp) (fun _ _=>A8.later) ?_
 intro hok V w0
 have hw:=A51 v.held set
 unfold K5 at hw
 rw [if_pos hF] at hw
 obtain ⟨W,hW⟩ : ∃ W,Dw v.held set=W:=⟨_,rfl⟩
 have hl:=Au7 [⟨0,255⟩] set
 obtain ⟨B,hB⟩ : ∃ B,Jn [⟨0,255⟩] set=B:=⟨_,rfl⟩
 rw [hW] at hw ⊢
 rw [hB] at hl ⊢
 simp only at hw
 refine g ?_
 refine AW.seq ?_
 refine AW.reg rfl fun KK hKK=>?_
 refine g ?_
 repeat' (refine hKK _ (g ?_);clear hKK KK)
 refine AW.freeze 400 _ rfl ⟨trivial,trivial,trivial,trivial,iR,trivial⟩ ?_
 simp only [go_sem,reduceIte,Nat.reduceEqDiff]
 refine g ?_
 repeat' (first | refine st_ rfl (g ?_) | refine Aa (hw) rfl (g ?_) | refine Aa (Lz _) rfl (g ?_))
 refine bd1 (by omega) rfl rfl rfl ⟨rfl,rfl,trivial⟩ ?_
 refine g ?_
 repeat' (first | refine st_ rfl (g ?_) | refine Aa (hl) rfl (g ?_))
 exact Ah7 _ _ _
end Go.Proofs.YthlgnjlpakimaaaGreatDoor
namespace Go.Proofs.YthlgnjlpakimaaaGreatDoor
open Go.ChangeShapes Go.WideShapes Go.ChangeAt Go.RowKit
attribute [local irreducible] AW AWY Bw Bc vop Bj Az Bi qop By Ce Ar Ap Bo A7 Bd
attribute [local go_sem] Gl Ha Hf Ff Ei Dp J9 Fe Fq Eh C3 Ai An
def D02 (q:Bs5):AV:=.tup [vwA q.view,Et q.note,.val (.int .i64 q.err)]
end Go.Proofs.YthlgnjlpakimaaaGreatDoor
namespace Go.Proofs.YthlgnjlpakimaaaGreatDoor
open Go.ChangeShapes Go.WideShapes Go.ChangeAt Go.RowKit
attribute [local irreducible] AW AWY Bw Bc vop Bj Az Bi qop By Ce Ar Ap Bo A7 Bd
attribute [local go_sem] Ha Hf Ff Ei Dp J9 Fe Fq Eh Ai An
end Go.Proofs.YthlgnjlpakimaaaGreatDoor
namespace Go.Proofs.YthlgnjlpakimaaaGreatDoor
open Go.ChangeShapes Go.WideShapes Go.ChangeAt Go.RowKit
attribute [local irreducible] AW AWY Bw Bc vop Bj Az Bi qop By Ce Ar Ap Bo A7 Bd
attribute [local go_sem] Ha Hf Ff Ei Dp J9 Fe Fq Eh Ai An
end Go.Proofs.YthlgnjlpakimaaaGreatDoor
namespace Go.Proofs.YthlgnjlpakimaaaGreatDoor
open Go.ChangeShapes Go.WideShapes Go.ChangeAt Go.RowKit
attribute [local irreducible] AW AWY Bw Bc vop Bj Az Bi qop By Ce Ar Ap Bo A7 Bd C5
attribute [local go_sem] Ei Dp J9 Eh C3 Js La Jt Nt
set_option maxRecDepth 100000 in
set_option maxHeartbeats 1600000 in
theorem Ae8 (a b:List Ad):A7 Tryz.prog A8 223 [.iv (spI a),.iv (spI b)] (.iv (spI (Jn a b))) []:=by
 refine A7.of (n:=29) (rs:=[.tmp 4]) Tryz.func223 rfl (by kernel_rfl) Tryz.ntmps223 (by kernel_rfl) (by simp) (fun _ _=>A8.later) ?_
 intro hok V w0
 refine g ?_
 repeat' refine st_ rfl (g ?_)
 refine Aa (Hu a) rfl (g ?_)
 refine g ?_
 refine Aa (Hu b) rfl (g ?_)
 refine g ?_
 refine G2 (q:=2) (s:=256) (by kernel_rfl) (Be _) rfl (by simp [rep]) ?_
 refine g ?_
 refine G2 (q:=2) (s:=256) (by kernel_rfl) (Be _) rfl (by simp [rep]) ?_
 refine g ?_
 repeat' refine st_ rfl (g ?_)
 refine AW.freeze 700 _ rfl trivial ?_
 simp only [go_sem,reduceIte,Nat.reduceEqDiff]
 refine AW.loop (fun m:{m:Nat // m<=256}=>⟨[(5,.bp 600 0),(6,.ip (C5 fun o=>Ak b o)),(7,.val (.int .i64 (m.1:Nat)))],[.arr 600 (C5 fun o=>Ak a o&&!(decide (o < m.1)&&Ak b o))]⟩) (fun m=>256 - m.1) ⟨0,Nat.zero_le _⟩ id ⟨⟨rfl,rfl,rfl,trivial⟩,⟨congrArg (fun C=>some (BA.arr 600 C)) (Bf fun o _=>by simp),trivial⟩,by simp [Ay,BA.id]⟩ fun ⟨m,hm⟩=>?_
 simp only
 repeat (refine AW.seq ?_)
 refine AW.reg rfl fun KK hKK=>?_
 refine g ?_
 repeat' (refine hKK _ (g ?_);clear hKK KK)
 repeat (refine AW.seq ?_)
 refine st_ rfl ?_
 refine g ?_
 refine Bk (fun h=>?_) (fun h=>?_)
 ·have hm':m < 256:=by omega
  obtain ⟨F,hF⟩ : ∃ F:Nat->Bool,(fun o:Nat=>Ak a o&&!(decide (o < m)&&Ak b o))=F:=⟨_,rfl⟩
  have hld:(C5 F)[m]? = some (.val (.bool (Ak a m))):=by rw [Cj hm',<-hF];simp
  have hnx:C5 (fun o=>if o=m then (Ak a m&&!Ak b m) else F o)=C5 fun o=>Ak a o&&!(decide (o < m+1)&&Ak b o):=Bf fun o _=>by
   rw [<-hF]
   by_cases e:o=m
   ·subst e;simp
   ·rw [if_neg e,show decide (o < m+1)=decide (o < m) from decide_eq_decide.2 (by omega)]
  rw [hF]
  refine g ?_
  repeat' refine st_ rfl (g ?_)
  refine ⟨by omega,by omega,?_⟩
  rw [Nat.mul_one,Nat.zero_add]
  refine g ?_
  repeat' refine Aj (g ?_)
  refine ⟨_,hld,?_⟩
  cases ha:Ak a m with
  | false =>
   rw [ha,Bool.false_and] at hnx
   refine g ?_
   repeat' refine Aj (g ?_)
   refine ⟨by omega,by omega,?_⟩
   rw [Nat.mul_one,Nat.zero_add]
   refine g ?_
   repeat' refine Aj (g ?_)
   refine ⟨_,rfl,⟨trivial,trivial⟩,by rw [Be];omega,?_⟩
   refine g ?_
   repeat' (first | refine st_ rfl (g ?_) | refine Aj (g ?_))
   refine ⟨⟨m+1,hm'⟩,id,⟨⟨rfl,rfl,rfl,trivial⟩,⟨congrArg (fun C=>some (BA.arr 600 C)) ((Du hm').trans hnx),trivial⟩,by simp [Ay,BA.id]⟩,by show 256 - (m+1) < 256 - m;omega⟩
  | true =>
   rw [ha,Bool.true_and] at hnx
   refine g ?_
   repeat' refine Aj (g ?_)
   refine ⟨by omega,by omega,?_⟩
   rw [Nat.mul_one]
   refine g ?_
   repeat' refine Aj (g ?_)
   refine En (Cj hm') ?_
   refine g ?_
   refine ⟨by omega,by omega,?_⟩
   rw [Nat.mul_one,Nat.zero_add]
   refine g ?_
   repeat' refine Aj (g ?_)
   refine ⟨_,rfl,⟨trivial,trivial⟩,by rw [Be];omega,?_⟩
   refine g ?_
   repeat' (first | refine st_ rfl (g ?_) | refine Aj (g ?_))
   refine ⟨⟨m+1,hm'⟩,id,⟨⟨rfl,rfl,rfl,trivial⟩,⟨congrArg (fun C=>some (BA.arr 600 C)) ((Du hm').trans hnx),trivial⟩,by simp [Ay,BA.id]⟩,by show 256 - (m+1) < 256 - m;omega⟩
 ·obtain rfl:m=256:=by omega
  refine AW.exit ?_
  simp only [reduceIte]
  refine g ?_
  repeat' refine st_ rfl (g ?_)
  refine ⟨(Be _).symm,?_⟩
  rw [show Jn a b=C1 (fun o=>Ak a o&&!(decide (o < 256)&&Ak b o)) from Dd fun o ho=>by simp [ho]]
  refine g ?_
  repeat' (first | refine st_ rfl (g ?_) | exact trivial | refine Aa (Av1 _) rfl (g ?_))
theorem Ae6 (l:List Ad):A7 Tryz.prog A8 201 [.iv (spI l)] (.iv (spI (Jn [⟨0,255⟩] l))) []:=by
 refine A7.of (n:=7) (rs:=[.tmp 2]) Tryz.func201 rfl (by kernel_rfl) Tryz.ntmps201 (by kernel_rfl) (by simp) (fun _ _=>A8.later) ?_
 intro hok V w0
 refine g ?_
 repeat' refine st_ rfl (g ?_)
 refine bd1 (by omega) rfl rfl rfl ⟨rfl,rfl,trivial⟩ ?_
 refine g ?_
 repeat' (first | refine st_ rfl (g ?_) | exact trivial | refine Aa (Ae8 [⟨0,255⟩] l) rfl (g ?_))
set_option maxRecDepth 100000 in
set_option maxHeartbeats 1600000 in
theorem Zc (l:List Aq) (set:List Ad):A7 Tryz.prog A8 202 [.iv (wrI l),.iv (spI set)] (.tup [.iv (wrI (K5 l set).1),.val (.int .i64 (K5 l set).2)]) []:=by
 refine A7.ofS (n:=35) (rs:=[.tmp 4,.tmp 5]) Tryz.func202 rfl (by kernel_rfl) Tryz.ntmps202 (by kernel_rfl) (by simp) (fun _ _=>A8.later) ?_
 intro hok V w0
 obtain ⟨R,hR⟩ : ∃ R,K5 l set=R:=⟨_,rfl⟩
 rw [hR]
 unfold K5 at hR
 have hI:∀ x∈l,I64 x.stamp.count/\I64 x.stamp.node/\I64 x.object:=fun x hx=>by
  obtain ⟨-,o1,o2,o3,-⟩:=Gc (by simpa [wrI] using hok.1.2) (enW x) (List.mem_map_of_mem hx)
  exact ⟨o1,o2,o3⟩
 refine g ?_
 repeat' (first | refine st_ rfl (g ?_) | refine Cl (fun h=>g ?_) (fun h=>g ?_) | refine Aa (Pz _) rfl (g ?_))
 ·rw [if_neg (by simpa using h)] at hR
  exact Zq hR.symm
 have hF:Bp l=true:=by simpa using h
 rw [if_pos hF] at hR
 have hS:=Lb.1 hF
 have hhl:=A02 hS
 refine Aa (Hu set) rfl (g ?_)
 refine g ?_
 refine G2 (q:=2) (s:=256) (by kernel_rfl) (Be _) rfl (by simp [rep]) ?_
 refine g ?_
 repeat' refine st_ rfl (g ?_)
 refine AW.freeze 700 _ rfl trivial ?_
 simp only [go_sem,reduceIte,Nat.reduceEqDiff]
 refine AW.adopt 7 9900 49 4 rfl rfl ?_
 refine AW.loop (fun m:{m:Nat // m<=l.length}=>⟨[(0,.iv (wrI l)),(6,.ip (C5 fun o=>Ak set o)),(7,.own 9900),(8,.val (.int .i64 (m.1:Nat)))],[.row 9900 49 4 ((Dw (l.take m.1) set).map enW)]⟩) (fun m=>l.length - m.1) ⟨0,Nat.zero_le _⟩ id ⟨⟨rfl,rfl,rfl,rfl,trivial⟩,⟨rfl,trivial⟩,by simp [Ay,BA.id]⟩ fun ⟨m,hm⟩=>?_
 simp only
 repeat (refine AW.seq ?_)
 refine AW.reg rfl fun KK hKK=>?_
 refine g ?_
 repeat' (refine hKK _ (g ?_);clear hKK KK)
 repeat (refine AW.seq ?_)
 refine st_ rfl ?_
 refine g ?_
 refine Bk (fun h=>?_) (fun h=>?_)
 ·have hlt:m < l.length:=by omega
  have hs:=Sj set (l.take m) l[m]
  rw [<-List.take_succ_eq_append_getElem hlt] at hs
  have hll:(Dw (l.take m) set).length<=256:=by
   unfold Dw
   have h1:=List.length_filter_le (fun w=>Bv set w.object) (l.take m)
   have h2:=List.length_take_le m l
   omega
  have hr:=Qw (hS.2 _ (List.getElem_mem hlt))
  obtain ⟨o1,o2,o3⟩:=hI _ (List.getElem_mem hlt)
  obtain ⟨J,hJ⟩ : ∃ J,Dw (l.take m) set=J:=⟨_,rfl⟩
  obtain ⟨x,hx⟩ : ∃ x,l[m]=x:=⟨_,rfl⟩
  rw [hJ] at hs hll ⊢
  rw [hx] at hs hr o1 o2 o3
  obtain ⟨k,hk⟩ : ∃ k:Nat,x.object=k:=⟨x.object.toNat,by omega⟩
  have hkt:x.object.toNat=k:=by omega
  have hsp:Bv set x.object=Ak set k:=by
   unfold Bv
   rw [decide_eq_true hr,Bool.true_and,hk]
  rw [hsp] at hs
  refine g ?_
  repeat' (first | refine st_ rfl (g ?_) | refine ix_ (by omega) (g ?_))
  rw [hx]
  refine ⟨by omega,by omega,?_⟩
  rw [hkt,Nat.mul_one]
  refine g ?_
  repeat' refine Aj (g ?_)
  refine En (Cj (by omega)) ?_
  cases hb:Ak set k with
  | false =>
   rw [hb,if_neg (by decide),List.append_nil] at hs
   refine g ?_
   repeat' refine st_ rfl (g ?_)
   refine ⟨⟨m+1,hlt⟩,id,⟨⟨rfl,rfl,rfl,rfl,trivial⟩,⟨?_,trivial⟩,by simp [Ay,BA.id]⟩,by show l.length - (m+1) < l.length - m;omega⟩
   rw [hs]
   rfl
  | true =>
   rw [hb,if_pos rfl] at hs
   refine g ?_
   repeat' (first | refine st_ rfl (g ?_) | refine ix_ (by omega) (g ?_))
   rw [hx]
   refine bs1 (by omega) rfl rfl rfl ⟨o1,o2,o3,trivial,trivial⟩ ?_
   refine g ?_
   refine C6 rfl (by kernel_rfl) (by omega) (by kernel_rfl) rfl (by simp;omega) ?_
   refine g ?_
   repeat' refine st_ rfl (g ?_)
   refine ⟨⟨m+1,hlt⟩,fun b=>if b=9900 then 3400 else b,⟨⟨rfl,rfl,rfl,rfl,trivial⟩,⟨?_,trivial⟩,by simp [Ay,BA.id]⟩,by show l.length - (m+1) < l.length - m;omega⟩
   rw [hs,List.map_append]
   rfl
 ·obtain rfl:m=l.length:=by omega
  rw [List.take_length]
  refine AW.exit ?_
  simp only [reduceIte]
  refine AW.freeze 9900 _ rfl trivial ?_
  simp only [go_sem,reduceIte,Nat.reduceEqDiff]
  refine g ?_
  repeat' refine st_ rfl (g ?_)
  subst hR
  exact Dz.rfl_ _
set_option maxRecDepth 100000 in
set_option maxHeartbeats 1600000 in
theorem Vn (v:Bz) (r:List Ab) (f:Nat->Bool) (iR:I64 v.room) (hF:Bp v.held=true):A7 Tryz.prog A8 153 [vwA v,.iv (stI r),.aggI (C5 f)] (Et (N5 v r f)) []:=by
 refine A7.ofS (n:=25) (rs:=[.cell 6 37]) Tryz.func153 rfl (by kernel_rfl) Tryz.ntmps153 (by kernel_rfl) (by simp) (fun _ _=>A8.later) ?_
 intro hok V w0
 have hw:=Zc v.held (C1 f)
 unfold K5 at hw
 rw [if_pos hF] at hw
 have hl:=Ae6 (C1 f)
 have hb:Jn [⟨0,255⟩] (C1 f)=C1 fun o=>!f o:=Dd fun o ho=>by
  rw [Cc _ ho]
  have:Ak [⟨0,255⟩] (o:Int)=true:=Tn.2 ⟨by simp only;omega,by simp only;omega⟩
  rw [this,Bool.true_and]
 rw [hb] at hl
 unfold N5
 obtain ⟨W,hW⟩ : ∃ W,Dw v.held (C1 f)=W:=⟨_,rfl⟩
 obtain ⟨B,hB⟩ : ∃ B,(C1 fun o=>!f o)=B:=⟨_,rfl⟩
 rw [hW] at hw ⊢
 rw [hB] at hl ⊢
 simp only at hw
 refine g ?_
 refine AW.seq ?_
 refine AW.reg rfl fun KK hKK=>?_
 refine g ?_
 repeat' (refine hKK _ (g ?_);clear hKK KK)
 refine AW.freeze 400 _ rfl ⟨trivial,trivial,trivial,trivial,iR,trivial⟩ ?_
 simp only [go_sem,reduceIte,Nat.reduceEqDiff]
 refine g ?_
 repeat' refine st_ rfl (g ?_)
 refine ⟨(Be _).symm,?_⟩
 refine g ?_
 repeat' (first | refine st_ rfl (g ?_) | refine Aa (Av1 f) rfl (g ?_) | refine Aa (T9 _) rfl (g ?_) | refine Aa (hl) rfl (g ?_) | refine Aa (hw) rfl (g ?_))
 exact Ah7 _ _ _
end Go.Proofs.YthlgnjlpakimaaaGreatDoor
namespace Go.Proofs.YthlgnjlpakimaaaGreatDoor
def Cq (z:List B8) (it:List Ad):Nat->List (List Ab)
 | 0=>[]
 | i+1=>Cq z it i++match z[i]? with
  | some x=>if Gg [x.span] it=true/\x.vec∉Cq z it i then [x.vec] else []
  | none=>[]
theorem Pp {z:List B8} {it:List Ad} {i:Nat} (h:i < z.length):Cq z it (i+1)=Cq z it i++if Gg [z[i].span] it=true/\z[i].vec∉Cq z it i then [z[i].vec] else []:=by
 rw [Cq,List.getElem?_eq_getElem h]
theorem Nn {z:List B8} {it:List Ad} {r:List Ab} : ∀ {i:Nat},i<=z.length->(r∈Cq z it i↔∃ j,∃ h:j < z.length,j < i/\z[j].vec=r/\Gg [z[j].span] it=true)
 | 0,_=>by simp [Cq]
 | i+1,hi=>by
  rw [Pp (by omega),List.mem_append,Nn (by omega)]
  constructor
  ·rintro (⟨j,h,h1,h2⟩ | h)
   ·exact ⟨j,h,by omega,h2⟩
   ·split at h
    ·rename_i hb
     exact ⟨i,by omega,by omega,(List.mem_singleton.1 h).symm,hb.1⟩
    ·cases h
  ·rintro ⟨j,h,h1,h2,h3⟩
   rcases Nat.lt_or_ge j i with h4 | h4
   ·exact .inl ⟨j,h,h4,h2,h3⟩
   ·obtain rfl:j=i:=by omega
    by_cases hm:z[j].vec∈Cq z it j
    ·exact .inl (h2 ▸ (Nn (by omega)).1 hm)
    ·right
     rw [if_pos ⟨h3,hm⟩,h2]
     simp
theorem Zv {s:Ad} {it:List Ad} : Gg [s] it=true↔∃ o:Nat,o < 256/\(s.lo<=o/\(o:Int)<=s.hi)/\Ak it o=true:=by
 rw [Ay8]
 constructor
 ·rintro ⟨o,h1,h2,h3⟩;exact ⟨o,h1,Tn.1 h2,h3⟩
 ·rintro ⟨o,h1,h2,h3⟩;exact ⟨o,h1,Tn.2 h2,h3⟩
theorem Xt {v:Bz} {it:List Ad} {a:Nat} : ∀ {b:Nat},a<=b->(∀ o,a<=o->o < b->M0 v it o=false)->C7 v it b=C7 v it a
 | 0,h,_=>by
  obtain rfl:a=0:=by omega
  rfl
 | b+1,h,hb=>by
  rcases Nat.eq_or_lt_of_le h with rfl | h1
  ·rfl
  ·rw [C7,if_neg (by rw [hb b (by omega) (by omega)];simp),List.append_nil]
   exact Xt (by omega) fun o h2 h3=>hb o h2 (by omega)
open Classical in
theorem Af0 {v:Bz} {it:List Ad} {r:List Ab} {a:Nat} : ∀ {b:Nat},a<=b->(∀ o,a<=o->o < b->M0 v it o=Ak it o/\C4 v.zones v.known o=r)->C7 v it b=C7 v it a++if (∃ o:Nat,(a<=o/\o < b)/\Ak it o=true)/\r∉C7 v it a then [r] else []
 | 0,h,_=>by
  obtain rfl:a=0:=by omega
  rw [if_neg (by rintro ⟨⟨o,h1,_⟩,_⟩;omega),List.append_nil]
 | b+1,h,hb=>by
  rcases Nat.eq_or_lt_of_le h with rfl | h1
  ·rw [if_neg (by rintro ⟨⟨o,h1,_⟩,_⟩;omega),List.append_nil]
  ·have ih:=Af0 (v:=v) (it:=it) (r:=r) (a:=a) (b:=b) (by omega) fun o h2 h3=>hb o h2 (by omega)
   obtain ⟨e1,e2⟩:=hb b (by omega) (by omega)
   rw [C7,e1,e2]
   by_cases hA:r∈C7 v it a
   ·have hs:C7 v it b=C7 v it a:=by rw [ih,if_neg (fun h=>h.2 hA),List.append_nil]
    rw [hs,if_neg (fun h=>h.2 hA),if_neg (fun h=>h.2 hA)]
   ·rw [ih]
    by_cases hE:∃ o:Nat,(a<=o/\o < b)/\Ak it o=true
    ·rw [if_pos ⟨hE,hA⟩,if_neg (by simp),List.append_nil,if_pos]
     obtain ⟨o,h2,h3⟩:=hE
     exact ⟨⟨o,by omega,h3⟩,hA⟩
    ·rw [if_neg (fun h=>hE h.1),List.append_nil]
     by_cases hm:Ak it b=true
     ·rw [if_pos ⟨hm,hA⟩,if_pos ⟨⟨b,by omega,hm⟩,hA⟩]
     ·rw [if_neg (fun h=>hm h.1),if_neg]
      rintro ⟨⟨o,h2,h3⟩,_⟩
      rcases Nat.eq_or_lt_of_le (show o<=b by omega) with rfl | h4
      ·exact hm h3
      ·exact hE ⟨o,by omega,h3⟩
theorem Ml {v:Bz} (hv:VF v) {o:Nat} (ho:o < 256):Ak (D7 v.zones) o=true↔∃ j,∃ h:j < v.zones.length,v.zones[j].span.lo<=o/\(o:Int)<=v.zones[j].span.hi:=by
 unfold D7
 rw [if_pos hv.zones,show B9 (v.zones.map (·.span))=C1 fun o=>Ak (v.zones.map (·.span)) o from rfl,Cc _ ho,N9]
 constructor
 ·rintro ⟨s,hs,h1,h2⟩
  obtain ⟨x,hx,rfl⟩:=List.mem_map.1 hs
  obtain ⟨j,hj,rfl⟩:=List.mem_iff_getElem.1 hx
  exact ⟨j,hj,h1,h2⟩
 ·rintro ⟨j,hj,h1,h2⟩
  exact ⟨_,List.mem_map_of_mem (List.getElem_mem hj),h1,h2⟩
theorem B03 {v:Bz} (hv:VF v) (it:List Ad):C7 v it 256=Cq v.zones it v.zones.length:=by
 have key:∀ i,i<=v.zones.length->∀ m:Nat,(m:Int)=Ca (v.zones.take i).getLast? + 1->C7 v it m=Cq v.zones it i:=by
  intro i
  induction i with
  | zero =>
   intro _ m hm
   simp only [List.take_zero,List.getLast?_nil,Ca] at hm
   obtain rfl:m=0:=by omega
   rfl
  | succ i ih =>
   intro hi m hm
   have hlt:=Bc9 hv.zones (i:=i) (by omega)
   have hle:=A47 hv.zones (i:=i) (by omega)
   have hge:=Np (l:=v.zones) (m:=i) (by
    have h1:=hv.zones
    unfold Br at h1
    rw [<-List.take_append_drop i v.zones,Ga,Bool.and_eq_true] at h1
    exact h1.1)
   have hok:=K4 hv.zones v.zones[i] (List.getElem_mem (by omega))
   simp only [E8,Bool.and_eq_true,decide_eq_true_eq] at hok
   rw [A96 (l:=v.zones) (m:=i+1) (by omega) (by omega)] at hm
   simp only [Nat.add_sub_cancel] at hm
   obtain ⟨a,ha⟩ : ∃ a:Nat,(a:Int)=Ca (v.zones.take i).getLast? + 1:=⟨(Ca (v.zones.take i).getLast? + 1).toNat,by omega⟩
   obtain ⟨b,hb⟩ : ∃ b:Nat,(b:Int)=v.zones[i].span.lo:=⟨v.zones[i].span.lo.toNat,by omega⟩
   have hgap:C7 v it b=C7 v it a:=Xt (by omega) fun o h1 h2=>by
    unfold M0
    cases hm2:Ak (D7 v.zones) o with
    | false=>rw [Bool.and_false]
    | true =>
     obtain ⟨j,hj,h3,h4⟩:=(Ml hv (by omega)).1 hm2
     exfalso
     rcases Nat.lt_or_ge j i with h5 | h5
     ·have:=As8 hv.zones h5 (by omega)
      omega
     ·rcases Nat.eq_or_lt_of_le h5 with rfl | h6
      ·omega
      ·have:=A46 hv.zones h6 hj
       omega
   have hrun:=Af0 (v:=v) (it:=it) (r:=v.zones[i].vec) (a:=b) (b:=m) (by omega) fun o h1 h2=>by
    refine ⟨?_,Te hv.zones v.known (by omega) (by omega)⟩
    unfold M0
    rw [(Ml hv (by omega)).2 ⟨i,by omega,by omega,by omega⟩,Bool.and_true]
   rw [hrun,hgap,ih (by omega) a ha,Pp (by omega)]
   congr 1
   have e:(∃ o:Nat,(b<=o/\o < m)/\Ak it o=true)↔Gg [v.zones[i].span] it=true:=by
    rw [Zv]
    constructor
    ·rintro ⟨o,h1,h2⟩;exact ⟨o,by omega,by omega,h2⟩
    ·rintro ⟨o,h0,h1,h2⟩;exact ⟨o,by omega,h2⟩
   by_cases h1:Gg [v.zones[i].span] it=true/\v.zones[i].vec∉Cq v.zones it i
   ·exact (if_pos ⟨e.2 h1.1,h1.2⟩).trans (if_pos h1).symm
   ·exact (if_neg fun h=>h1 ⟨e.1 h.1,h.2⟩).trans (if_neg h1).symm
 have hge:=Np (l:=v.zones) (m:=v.zones.length) (by rw [List.take_length];exact hv.zones)
 obtain ⟨a,ha⟩ : ∃ a:Nat,(a:Int)=Ca (v.zones.take v.zones.length).getLast? + 1:=⟨(Ca (v.zones.take v.zones.length).getLast? + 1).toNat,by omega⟩
 rw [<-key _ (Nat.le_refl _) a ha]
 refine Xt (by omega) fun o h1 h2=>?_
 unfold M0
 cases hm2:Ak (D7 v.zones) o with
 | false=>rw [Bool.and_false]
 | true =>
  obtain ⟨j,hj,h3,h4⟩:=(Ml hv (by omega)).1 hm2
  have:=As8 hv.zones (show j < v.zones.length from hj) (Nat.le_refl _)
  omega
def Pv (z:List B8) (it:List Ad) (i:Nat) (r:List Ab) (k:Nat) (o:Nat):Bool:=Ak it o&&((z.drop i).take k).any fun x=>decide (x.vec=r)&&x.has o
theorem Az4 (z:List B8) (it:List Ad) (i:Nat) (r:List Ab):C1 (Pv z it i r 0)=[]:=by
 refine Ka (Bg _) (show Aw _ []=true from rfl) fun o=>⟨fun h=>?_,fun h=>by simp [Ak] at h⟩
 obtain ⟨k,_,_,h2⟩:=Tm h
 simp [Pv] at h2
theorem Az5 {z:List B8} {it:List Ad} {i k:Nat} (h:i+k < z.length) (r:List Ab) (o:Nat):Pv z it i r (k+1) o=(Pv z it i r k o || (decide (z[i+k].vec=r)&&(Ak [z[i+k].span] o&&Ak it o))):=by
 unfold Pv
 rw [List.take_succ_eq_append_getElem (by simp;omega),List.any_append,List.getElem_drop]
 simp only [List.any_cons,List.any_nil,Bool.or_false]
 rw [show Ak [z[i+k].span] (o:Int)=z[i+k].has o from by simp [Ak,B8.has]]
 cases Ak it o<;>simp
theorem B90 {z:List B8} {it:List Ad} {i k:Nat} (h:i+k < z.length):B9 (C1 (Pv z it i z[i].vec k)++D1 [z[i+k].span] it)=C1 (fun o=>Pv z it i z[i].vec k o || (Ak [z[i+k].span] o&&Ak it o)):=by
 refine Dd fun o ho=>?_
 rw [Cm,Cc _ ho]
 unfold D1
 rw [Cc _ ho]
theorem B91 {v:Bz} (hv:VF v) {it:List Ad} {i:Nat} (hi:i < v.zones.length) (hn:v.zones[i].vec∉Cq v.zones it i):C1 (Pv v.zones it i v.zones[i].vec (v.zones.length - i))=C1 (Gh v it v.zones[i].vec):=by
 refine Dd fun o ho=>?_
 unfold Pv Gh M0
 rw [List.take_of_length_le (by simp)]
 cases hm:Ak it o with
 | false=>simp
 | true =>
  rw [Bool.true_and,Bool.true_and,Bool.eq_iff_iff,List.any_eq_true,Bool.and_eq_true,decide_eq_true_eq,Ml hv ho]
  constructor
  ·rintro ⟨x,hx,h1⟩
   obtain ⟨j,hj,rfl⟩:=List.mem_drop_iff_getElem.1 hx
   simp only [B8.has,Bool.and_eq_true,decide_eq_true_eq] at h1
   exact ⟨⟨i+j,by omega,h1.2⟩,by rw [Te hv.zones v.known (i:=i+j) (by omega) h1.2,h1.1]⟩
  ·rintro ⟨⟨j,hj,h1⟩,h2⟩
   rw [Te hv.zones v.known hj h1] at h2
   rcases Nat.lt_or_ge j i with h3 | h3
   ·exact (hn ((Nn (by omega)).2 ⟨j,hj,h3,h2,Zv.2 ⟨o,ho,h1,hm⟩⟩)).elim
   ·refine ⟨v.zones[j],List.mem_drop_iff_getElem.2 ⟨j - i,by omega,by congr 1;omega⟩,?_⟩
    simp only [B8.has,Bool.and_eq_true,decide_eq_true_eq]
    exact ⟨h2,h1⟩
end Go.Proofs.YthlgnjlpakimaaaGreatDoor
namespace Go.Proofs.YthlgnjlpakimaaaGreatDoor
open Go.ChangeShapes Go.WideShapes Go.ChangeAt Go.RowKit
attribute [local irreducible] AW AWY Bw Bc vop Bj Az Bi qop By Ce Ar Ap Bo A7 Bd
attribute [local go_sem] Fe Fq Eh C3 Kq Jh Ai An
@[go_sem] theorem Cl8 {b:Nat} {k:IntKind} {kv:List (Int×Value)} {x:BA} {r:List BA} : Gv x (.mp b k kv :: r)=.mp b k kv :: Gv x r:=rfl
@[go_sem] theorem Bl8 {b c:Nat} {cs:List AV} : Eo (.box b cs) (.mv c)=if c=b then .any else .mv c:=rfl
theorem A21 (v:Bz) (r:List Ab) (f:Nat->Bool):(⟨[],r,Jn [⟨0,255⟩] (C1 f),Dw v.held (C1 f)⟩ : B7)=N5 v r f:=by
 unfold N5 Jn
 rw [show C1 (fun o=>Ak [⟨0,255⟩] o&&!Ak (C1 f) o)=C1 fun o=>!f o from Dd fun o ho=>by
  rw [Cc _ ho,show Ak [⟨0,255⟩] (o:Int)=true from Tn.2 ⟨by simp only;omega,by simp only;omega⟩,Bool.true_and]]
theorem A04 (v:Bz) (it:List Ad):Jn it (D7 v.zones)=C1 (G3 v it):=rfl
theorem B80 {q:List B7×Int} {e:Int} (h:q=([],e)):Dz (.tup [.val (.slice none 0 0),.val (.int .i64 e)]) (.tup [.iv (noI q.1),.val (.int .i64 q.2)]):=by
 subst h
 refine Ns rfl fun p hp=>?_
 simp only [List.zip_cons_cons,List.zip_nil_right,List.mem_cons,List.not_mem_nil,or_false] at hp
 rcases hp with rfl | rfl
 ·exact D6 4
 ·exact Dz.rfl_ _
theorem Si (z:List B8) (it:List Ad):∀ i,(Cq z it i).length<=i
 | 0=>Nat.le_refl _
 | i+1=>by
  have:=Si z it i
  rw [Cq,List.length_append]
  split
  ·split<;>simp<;>omega
  ·simp;omega
def Pi (v:Bz) (it:List Ad) (i:Nat):List B7:=N5 v v.known (G3 v it) :: (Cq v.zones it i).map fun r=>N5 v r (Gh v it r)
def Bm4 (z:List B8) (i:Nat) (p:B8->Nat->Bool) (kv:List (Int×Value)):Prop:=∀ (j:Nat) (x:B8),i<=j->z[j]? = some x->(Lv kv (j:Int)).getD (.bool false)=.bool (p x j)
set_option maxRecDepth 100000 in
set_option maxHeartbeats 3200000 in
theorem Ay2 (v:Bz) (it:List Ad) (iR:I64 v.room):A7 Tryz.prog A8 73 [vwA v,.iv (spI it)] (.tup [.iv (noI (Z5 v it).1),.val (.int .i64 (Z5 v it).2)]) []:=by
 refine A7.ofS (n:=84) (rs:=[.tmp 4,.tmp 5]) Tryz.func73 rfl (by kernel_rfl) Tryz.ntmps73 (by kernel_rfl) (by simp) (fun _ _=>A8.later) ?_
 intro hok V w0
 obtain ⟨R,hR⟩ : ∃ R,Z5 v it=R:=⟨_,rfl⟩
 rw [hR]
 unfold Z5 at hR
 refine g ?_
 refine AW.seq ?_
 refine AW.reg rfl fun KK hKK=>?_
 refine g ?_
 repeat' (refine hKK _ (g ?_);clear hKK KK)
 refine AW.freeze 300 _ rfl ⟨trivial,trivial,trivial,trivial,iR,trivial⟩ ?_
 simp only [go_sem,reduceIte,Nat.reduceEqDiff]
 refine g ?_
 repeat' (first | refine st_ rfl (g ?_) | refine Cl (fun h=>g ?_) (fun h=>g ?_) | refine Aa (Rt v iR) rfl (g ?_))
 ·rw [if_neg (by simpa using h)] at hR
  exact B80 hR.symm
 have hF:Ao v=true:=by simpa using h
 rw [if_pos hF] at hR
 have hv:=X8.1 hF
 have hhf:Bp v.held=true:=Lb.2 hv.held
 have hzl:=Am5 hF
 have hp0:=X7 v v.known (Jn it (D7 v.zones)) iR hhf
 rw [A04,A21] at hp0
 have hl0:=Au7 it (D7 v.zones)
 rw [A04] at hl0
 refine AW.drawn (ds:=[16,17,18,19,20,21,22,23,24,25,6]) (fin:=[0]) (bs:=[0,0,0,0,0,0,0,0,0,0,1]) [⟨[],[],[],[],0⟩,⟨[],[],[],[],0⟩,⟨[(17,1)],[],[],[],0⟩,⟨[],[],[],[],0⟩,⟨[],[],[],[],0⟩,⟨[(20,4)],[],[],[],0⟩,⟨[(21,5)],[],[],[],0⟩,⟨[(19,3),(22,6)],[],[],[],0⟩,⟨[(16,0),(18,2),(23,7)],[],[],[],0⟩,⟨[(24,8)],[],[],[],1⟩,⟨[(25,9)],[],[],[],0⟩] (by kernel_rfl) rfl (by kernel_rfl) rfl rfl rfl fun KD hKD=>?_
 refine g ?_
 repeat' (first | refine Aa (Am2 _) rfl (g ?_) | refine Aa (hl0) rfl (g ?_) | refine Aa (hp0) rfl (g ?_))
 refine bs1 (by omega) rfl rfl rfl ⟨trivial,trivial,trivial,trivial,trivial⟩ ?_
 refine g ?_
 repeat' (first | refine st_ rfl (g ?_) | (refine hKD _ _ ⟨rfl,g ?_⟩;clear hKD KD))
 have hzI:∀ z∈v.zones,I64 z.span.lo/\I64 z.span.hi:=fun z hz=>by
  obtain ⟨-,o1,o2,-⟩:=Gc (by simpa [znI] using hok.1.2.1.2) (enZ z) (List.mem_map_of_mem hz)
  exact ⟨o1,o2⟩
 refine AW.loop (fun x:{x:Nat×List (Int×Value) // x.1<=v.zones.length/\Bm4 v.zones x.1 (fun z _=>decide (z.vec∈Cq v.zones it x.1)) x.2}=>⟨[(1,.iv (spI it)),(2,.ip [stI v.known,znI v.zones,wrI v.held,boI v.bodies,.val (.int .i64 v.room)]),(6,.own 2600),(7,.mv 2700),(28,.iv (znI v.zones)),(29,.val (.int .i64 (v.zones.length:Nat))),(30,.val (.int .i64 (x.1.1:Nat)))],[.mp 2700 .i64 x.1.2,.row 2600 37 4 ((Pi v it x.1.1).map enN)]⟩) (fun x=>v.zones.length - x.1.1) ⟨(0,[]),Nat.zero_le _,fun j x _ _=>rfl⟩ id ⟨⟨rfl,rfl,rfl,rfl,rfl,rfl,rfl,trivial⟩,⟨rfl,rfl,trivial⟩,by simp [Ay,BA.id]⟩ fun ⟨⟨i,kv⟩,hi,hk⟩=>?_
 simp only at hi hk ⊢
 repeat (refine AW.seq ?_)
 refine AW.reg rfl fun KK hKK=>?_
 refine g ?_
 repeat' (refine hKK _ (g ?_);clear hKK KK)
 repeat (refine AW.seq ?_)
 refine st_ rfl ?_
 refine g ?_
 refine Bk (fun h=>?_) (fun h=>?_)
 ·have hlt:i < v.zones.length:=by omega
  obtain ⟨x,hx⟩ : ∃ x,v.zones[i]=x:=⟨_,rfl⟩
  have hgx:v.zones[i]? = some x:=by rw [List.getElem?_eq_getElem hlt,hx]
  obtain ⟨w1,w2⟩:=hzI _ (List.getElem_mem hlt)
  have hz:=Pp (it:=it) hlt
  have hzl2:=Si v.zones it i
  have hall:=B91 hv (it:=it) hlt
  rw [hx] at w1 w2 hz hall
  have hki:=hk i x (Nat.le_refl _) hgx
  have htc:=Ad1 [x.span] it
  refine st_ rfl (g ?_)
  refine AW.seq ?_
  refine AW.block ?_
  repeat (refine AW.seq ?_)
  refine AW.reg rfl fun KK hKK=>?_
  refine g ?_
  refine ⟨by omega,_,Cg (f:=enZ) hgx,?_⟩
  refine g ?_
  repeat' (first | refine Aj (g ?_) | (refine hKK _ (g ?_);clear hKK KK))
  refine AW.freeze 1000 _ rfl ⟨w1,w2,trivial,trivial⟩ ?_
  simp only [go_sem,reduceIte,Nat.reduceEqDiff]
  refine g ?_
  repeat' refine st_ rfl (g ?_)
  refine ⟨_,hki,?_⟩
  refine g ?_
  repeat' (first | refine st_ rfl (g ?_) | refine Aj (g ?_) | (refine Cz rfl rfl (fun h e=>?_) (fun h e=>?_)<;>simp only [e]<;>clear e<;>refine g ?_))
  ·have hz0:Cq v.zones it (i+1)=Cq v.zones it i:=by rw [hz,if_neg (fun q=>q.2 h),List.append_nil]
   refine ⟨⟨(i+1,kv),hlt,fun j y hj hy=>by rw [hz0];exact hk j y (by omega) hy⟩,id,⟨⟨rfl,rfl,rfl,rfl,rfl,rfl,rfl,trivial⟩,⟨rfl,?_,trivial⟩,by simp [Ay,BA.id]⟩,by show v.zones.length - (i+1) < v.zones.length - i;omega⟩
   show some (BA.row _ _ _ _)=some (BA.row _ _ _ ((Pi v it (i+1)).map enN))
   unfold Pi
   rw [hz0]
   rfl
  refine bd1 (by omega) rfl rfl rfl ⟨w1,w2,trivial⟩ ?_
  refine g ?_
  repeat' (first | refine st_ rfl (g ?_) | refine Cl (fun h=>g ?_) (fun h=>g ?_) | refine Aa (htc) rfl (g ?_))
  ·have hz0:Cq v.zones it (i+1)=Cq v.zones it i:=by rw [hz,if_neg (fun q=>by rw [q.1] at h;cases h),List.append_nil]
   refine ⟨⟨(i+1,kv),hlt,fun j y hj hy=>by rw [hz0];exact hk j y (by omega) hy⟩,id,⟨⟨rfl,rfl,rfl,rfl,rfl,rfl,rfl,trivial⟩,⟨rfl,?_,trivial⟩,by simp [Ay,BA.id]⟩,by show v.zones.length - (i+1) < v.zones.length - i;omega⟩
   show some (BA.row _ _ _ _)=some (BA.row _ _ _ ((Pi v it (i+1)).map enN))
   unfold Pi
   rw [hz0]
   rfl
  rename_i ht
  have htt:Gg [x.span] it=true:=by simpa using h
  rw [if_pos ⟨htt,ht⟩] at hz
  have hp1:=X7 v x.vec (C1 (Gh v it x.vec)) iR hhf
  rw [A21] at hp1
  refine ⟨i,v.zones.length,rfl,rfl,by omega,Nat.le_refl _,?_⟩
  rw [show ((v.zones.map enZ).take v.zones.length).drop i=(v.zones.drop i).map enZ by rw [List.take_of_length_le (by simp),List.map_drop]]
  have hdl:(v.zones.drop i).length=v.zones.length - i:=List.length_drop
  refine g ?_
  repeat' (first | refine st_ rfl (g ?_) | refine Aj (g ?_))
  refine AW.sub 10 _ (.iv (spI [])) rfl (D6 2) ?_
  refine AW.loop (fun y:{y:Nat×List (Int×Value) // y.1<=v.zones.length - i/\Bm4 v.zones i (fun z j=>decide (z.vec∈Cq v.zones it i) || (decide (j < i+y.1)&&decide (z.vec=x.vec))) y.2}=>⟨[(1,.iv (spI it)),(2,.ip [stI v.known,znI v.zones,wrI v.held,boI v.bodies,.val (.int .i64 v.room)]),(6,.own 2600),(7,.mv 2700),(8,.val (.int .i64 (i:Nat))),(9,.ip [.val (.int .i64 x.span.lo),.val (.int .i64 x.span.hi),stI x.vec]),(10,.iv (spI (C1 (Pv v.zones it i x.vec y.1.1)))),(28,.iv (znI v.zones)),(29,.val (.int .i64 (v.zones.length:Nat))),(30,.val (.int .i64 (i:Nat))),(49,.iv (znI (v.zones.drop i))),(50,.val (.int .i64 ((v.zones.drop i).length:Nat))),(51,.val (.int .i64 (y.1.1:Nat)))],[.mp 2700 .i64 y.1.2,.row 2600 37 4 ((Pi v it i).map enN)]⟩) (fun y=>v.zones.length - i - y.1.1) ⟨(0,kv),Nat.zero_le _,fun j y hj hy=>by rw [hk j y hj hy];simp;omega⟩ id ⟨⟨rfl,rfl,rfl,rfl,rfl,rfl,?_,rfl,rfl,rfl,rfl,rfl,rfl,trivial⟩,⟨rfl,rfl,trivial⟩,by simp [Ay,BA.id]⟩ fun ⟨⟨k,kv'⟩,hkl,hk'⟩=>?_
  ·show AV.iv (spI [])=AV.iv (spI (C1 (Pv v.zones it i x.vec 0)))
   rw [Az4]
  simp only at hkl hk' ⊢
  repeat (refine AW.seq ?_)
  refine AW.reg rfl fun KK hKK=>?_
  refine g ?_
  repeat' (refine hKK _ (g ?_);clear hKK KK)
  repeat (refine AW.seq ?_)
  refine st_ rfl ?_
  refine g ?_
  refine Bk (fun h=>?_) (fun h=>?_)
  ·have hlk:i+k < v.zones.length:=by omega
   obtain ⟨y,hy⟩ : ∃ y,v.zones[i+k]=y:=⟨_,rfl⟩
   have hgy:v.zones[i+k]? = some y:=by rw [List.getElem?_eq_getElem hlk,hy]
   have hgd:(v.zones.drop i)[k]? = some y:=by rw [List.getElem?_drop];exact hgy
   obtain ⟨u1,u2⟩:=hzI _ (List.getElem_mem hlk)
   have hfs:=Az5 (it:=it) hlk x.vec
   have hfp:=B90 (it:=it) hlk
   rw [hx] at hfp
   rw [hy] at u1 u2 hfs hfp
   have hSl:=Hv (Pv v.zones it i x.vec k)
   have hMl:(D1 [y.span] it).length<=128:=Hv _
   have hmc:=Wp [y.span] it
   have heq:=Uz y.vec x.vec
   obtain ⟨T,hT⟩ : ∃ T,C1 (Pv v.zones it i x.vec k)=T:=⟨_,rfl⟩
   obtain ⟨M,hM⟩ : ∃ M,D1 [y.span] it=M:=⟨_,rfl⟩
   rw [hT] at hSl hfp ⊢
   rw [hM] at hMl hfp hmc
   refine st_ rfl (g ?_)
   refine AW.seq ?_
   refine AW.block ?_
   repeat (refine AW.seq ?_)
   refine AW.reg rfl fun KK hKK=>?_
   refine g ?_
   refine ⟨by omega,_,Cg (f:=enZ) hgd,?_⟩
   refine g ?_
   repeat' (first | refine Aj (g ?_) | (refine hKK _ (g ?_);clear hKK KK))
   refine AW.freeze 1300 _ rfl ⟨u1,u2,trivial,trivial⟩ ?_
   simp only [go_sem,reduceIte,Nat.reduceEqDiff]
   refine g ?_
   repeat' (first | refine st_ rfl (g ?_) | refine Bk (fun h=>g ?_) (fun h=>g ?_) | refine Aa (heq) rfl (g ?_))
   ·refine bd1 (by omega) rfl rfl rfl ⟨u1,u2,trivial⟩ ?_
    refine g ?_
    repeat' refine Aa (hmc) rfl (g ?_)
    refine bd2 (by omega) rfl rfl rfl ⟨trivial,trivial⟩ rfl rfl rfl ⟨trivial,trivial⟩ ?_
    refine g ?_
    repeat' (first | refine st_ rfl (g ?_) | refine Aa (Bo2 [T,M] (by simp [Dr];omega)) rfl (g ?_))
    refine ⟨⟨(k+1,Mh kv' ((i:Int)+k) (.bool true)),by omega,fun j z hj hz=>?_⟩,id,⟨⟨rfl,rfl,rfl,rfl,rfl,rfl,?_,rfl,rfl,rfl,rfl,rfl,rfl,trivial⟩,⟨rfl,rfl,trivial⟩,by simp [Ay,BA.id]⟩,by show v.zones.length - i - (k+1) < v.zones.length - i - k;omega⟩
    ·rw [Uu]
     by_cases e:j=i+k
     ·subst e
      rw [hgy] at hz
      cases hz
      rw [if_pos (by omega)]
      simp [h]
     ·rw [if_neg (by omega),hk' j z hj hz]
      simp only
      rw [show decide (j < i+(k+1))=decide (j < i+k) from decide_eq_decide.2 (by omega)]
    ·show AV.iv (spI _)=AV.iv (spI (C1 (Pv v.zones it i x.vec (k+1))))
     rw [Dd (g:=fun o=>Pv v.zones it i x.vec k o || (Ak [y.span] o&&Ak it o)) fun o _=>by rw [hfs,decide_eq_true h,Bool.true_and],<-hfp]
     simp
   ·refine ⟨⟨(k+1,kv'),by omega,fun j z hj hz=>?_⟩,id,⟨⟨rfl,rfl,rfl,rfl,rfl,rfl,?_,rfl,rfl,rfl,rfl,rfl,rfl,trivial⟩,⟨rfl,rfl,trivial⟩,by simp [Ay,BA.id]⟩,by show v.zones.length - i - (k+1) < v.zones.length - i - k;omega⟩
    ·rw [hk' j z hj hz]
     by_cases e:j=i+k
     ·subst e
      rw [hgy] at hz
      cases hz
      simp [h]
     ·simp only
      rw [show decide (j < i+(k+1))=decide (j < i+k) from decide_eq_decide.2 (by omega)]
    ·show AV.iv (spI T)=AV.iv (spI (C1 (Pv v.zones it i x.vec (k+1))))
     rw [Dd (g:=Pv v.zones it i x.vec k) fun o _=>by rw [hfs,decide_eq_false h,Bool.false_and,Bool.or_false],hT]
  ·obtain rfl:k=v.zones.length - i:=by omega
   rw [hall ht]
   have hsl:(Pi v it i).length<=257:=by
    unfold Pi
    rw [List.length_cons,List.length_map]
    omega
   refine AW.exit ?_
   simp only [reduceIte]
   refine g ?_
   repeat' (first | refine st_ rfl (g ?_) | refine Aa (hp1) rfl (g ?_))
   refine bs1 (by omega) rfl rfl rfl ⟨trivial,trivial,trivial,trivial,trivial⟩ ?_
   refine g ?_
   refine C6 rfl (by kernel_rfl) (by omega) (by kernel_rfl) rfl (by simp;omega) ?_
   refine g ?_
   repeat' refine st_ rfl (g ?_)
   refine ⟨⟨(i+1,kv'),hlt,fun j z hj hz9=>?_⟩,fun b=>if b=2600 then 8200 else b,⟨⟨rfl,rfl,rfl,rfl,rfl,rfl,rfl,trivial⟩,⟨rfl,?_,trivial⟩,by simp [Ay,BA.id]⟩,by show v.zones.length - (i+1) < v.zones.length - i;omega⟩
   ·have hjl:j < v.zones.length:=(List.getElem?_eq_some_iff.1 hz9).1
    simp only at hj
    rw [hk' j z (by omega) hz9,hz]
    simp only
    rw [decide_eq_true (p:=j < i+(v.zones.length - i)) (by omega),Bool.true_and]
    simp
   ·show some (BA.row _ _ _ _)=some (BA.row _ _ _ ((Pi v it (i+1)).map enN))
    unfold Pi
    rw [hz,List.map_append,<-List.cons_append,List.map_append]
    rfl
 ·obtain rfl:i=v.zones.length:=by omega
  have hs:Pi v it v.zones.length=Am8 v it:=by
   unfold Pi Am8
   rw [B03 hv]
  rw [hs]
  refine AW.exit ?_
  simp only [reduceIte]
  refine AW.freeze 2600 _ rfl trivial ?_
  simp only [go_sem,reduceIte,Nat.reduceEqDiff]
  refine g ?_
  repeat' refine st_ rfl (g ?_)
  subst hR
  exact Dz.rfl_ _
end Go.Proofs.YthlgnjlpakimaaaGreatDoor
namespace Go.Proofs.YthlgnjlpakimaaaGreatDoor
open Go.ChangeShapes Go.WideShapes Go.ChangeAt Go.RowKit
attribute [local irreducible] AW AWY Bw Bc vop Bj Az Bi qop By Ce Ar Ap Bo A7 Bd C5
attribute [local go_sem] Eh C3 Kq Jh Js La Jt Nt
def M9 (v:Bz) (it:List Ad) (o:Nat):List B7:=(C7 v it o).map fun r=>N5 v r (Gh v it r)
def J2 (v:Bz) (it:List Ad) (o p:Nat):Bool:=M0 v it p&&decide (C4 v.zones v.known p∈C7 v it o)
def upB (v:Bz) (it:List Ad) (r:List Ab) (o p q:Nat):Bool:=decide (o<=q/\q < p)&&Gh v it r q
theorem Ac4 (v:Bz) (it:List Ad) (r:List Ab) (o q:Nat):upB v it r o o q=false:=by
 unfold upB
 rw [decide_eq_false (by omega),Bool.false_and]
theorem B75 (v:Bz) (it:List Ad) (r:List Ab) {o p:Nat} (h:o<=p):∀ q,upB v it r o (p+1) q=if q=p then Gh v it r p else upB v it r o p q:=fun q=>by
 unfold upB
 by_cases e:q=p
 ·subst e
  rw [if_pos rfl,decide_eq_true (by omega),Bool.true_and]
 ·rw [if_neg e,show decide (o<=q/\q < p+1)=decide (o<=q/\q < p) from decide_eq_decide.2 (by omega)]
theorem A18 {v:Bz} (hv:VF v) {o:Nat} (ho:o < 256):Lq v.zones v.known o=C4 v.zones v.known o:=by
 unfold Lq
 rw [if_pos ⟨hv.zones,hv.known,by omega,by omega⟩]
set_option maxRecDepth 100000 in
set_option maxHeartbeats 3200000 in
theorem An8 (v:Bz) (it:List Ad) (iR:I64 v.room):A7 Tryz.prog A8 74 [vwA v,.iv (spI it)] (.tup [.iv (noI (Z5 v it).1),.val (.int .i64 (Z5 v it).2)]) []:=by
 refine A7.ofS (n:=109) (rs:=[.tmp 4,.tmp 5]) Tryz.func74 rfl (by kernel_rfl) Tryz.ntmps74 (by kernel_rfl) (by simp) (fun _ _=>A8.later) ?_
 intro hok V w0
 obtain ⟨R,hR⟩ : ∃ R,Z5 v it=R:=⟨_,rfl⟩
 rw [hR]
 unfold Z5 at hR
 refine g ?_
 refine AW.seq ?_
 refine AW.reg rfl fun KK hKK=>?_
 refine g ?_
 repeat' (refine hKK _ (g ?_);clear hKK KK)
 refine AW.freeze 300 _ rfl ⟨trivial,trivial,trivial,trivial,iR,trivial⟩ ?_
 simp only [go_sem,reduceIte,Nat.reduceEqDiff]
 refine g ?_
 repeat' (first | refine st_ rfl (g ?_) | refine Cl (fun h=>g ?_) (fun h=>g ?_) | refine Aa (S3 v iR) rfl (g ?_))
 ·rw [if_neg (by simpa using h)] at hR
  exact B80 hR.symm
 have hF:Ao v=true:=by simpa using h
 rw [if_pos hF] at hR
 have hv:=X8.1 hF
 have hhf:Bp v.held=true:=Lb.2 hv.held
 obtain ⟨bl,hbl⟩ : ∃ bl,D7 v.zones=bl:=⟨_,rfl⟩
 have hzb:=Ae4 v.zones
 rw [hbl] at hzb
 refine AW.drawn (ds:=[18,19,20,21,22,23,6,7]) (fin:=[2,3]) (bs:=[0,0,0,0,0,0,0,1,2,3]) [⟨[],[],[],[],0⟩,⟨[(18,0)],[],[],[],0⟩,⟨[],[],[],[],0⟩,⟨[(20,2)],[],[],[],0⟩,⟨[(21,3)],[],[],[],0⟩,⟨[(22,4)],[],[],[],0⟩,⟨[],[],[],[],1⟩,⟨[],[],[],[],1⟩,⟨[(6,6),(19,1)],[],[],[0],1⟩,⟨[(7,7),(23,5)],[],[],[1],1⟩] (by kernel_rfl) rfl (by kernel_rfl) rfl rfl rfl fun KD hKD=>?_
 refine g ?_
 refine Aa (Hu it) rfl (g ?_)
 refine g ?_
 repeat' refine Aa (hzb) rfl (g ?_)
 refine Aa (Hu bl) rfl (g ?_)
 refine g ?_
 refine G2 (q:=2) (s:=256) (by kernel_rfl) (Be _) rfl (by simp [rep]) ?_
 refine g ?_
 refine G2 (q:=2) (s:=256) (by kernel_rfl) (Be _) rfl (by simp [rep]) ?_
 refine g ?_
 repeat' (first | refine st_ rfl (g ?_) | (refine hKD _ _ ⟨rfl,g ?_⟩;clear hKD KD))
 refine AW.freeze 700 _ rfl trivial ?_
 simp only [go_sem,reduceIte,Nat.reduceEqDiff]
 refine AW.freeze 800 _ rfl trivial ?_
 simp only [go_sem,reduceIte,Nat.reduceEqDiff]
 refine AW.adopt 10 50000 37 4 rfl rfl ?_
 refine AW.loop (fun o:{o:Nat // o<=256}=>⟨[(2,.ip [stI v.known,znI v.zones,wrI v.held,boI v.bodies,.val (.int .i64 v.room)]),(6,.ip (C5 fun p=>Ak it p)),(7,.ip (C5 fun p=>Ak bl p)),(8,.bp 900 0),(9,.bp 1000 0),(10,.own 50000),(11,.val (.int .i64 (o.1:Nat)))],[.row 50000 37 4 ((M9 v it o.1).map enN),.arr 1000 (C5 (J2 v it o.1)),.arr 900 (C5 fun p=>decide (p < o.1)&&G3 v it p)]⟩) (fun o=>256 - o.1) ⟨0,Nat.zero_le _⟩ id ⟨⟨rfl,rfl,rfl,rfl,rfl,rfl,rfl,trivial⟩,⟨rfl,congrArg (fun C=>some (BA.arr 1000 C)) (Tc.trans (Bf fun o _=>by simp [J2,C7])),congrArg (fun C=>some (BA.arr 900 C)) (Tc.trans (Bf fun o _=>by simp)),trivial⟩,by simp [Ay,BA.id]⟩ fun ⟨o,ho⟩=>?_
 simp only
 repeat (refine AW.seq ?_)
 refine AW.reg rfl fun KK hKK=>?_
 refine g ?_
 repeat' (refine hKK _ (g ?_);clear hKK KK)
 repeat (refine AW.seq ?_)
 refine st_ rfl ?_
 refine g ?_
 refine Bk (fun h=>?_) (fun h=>?_)
 ·have ho':o < 256:=by omega
  have hsp:G3 v it o=(Ak it o&&!Ak bl o):=by unfold G3;rw [hbl]
  have hbp:M0 v it o=(Ak it o&&Ak bl o):=by unfold M0;rw [hbl]
  have hrow:C7 v it (o+1)=C7 v it o++if M0 v it o=true/\C4 v.zones v.known o∉C7 v it o then [C4 v.zones v.known o] else []:=rfl
  obtain ⟨F,hFs⟩ : ∃ F:Nat->Bool,(fun p=>decide (p < o)&&G3 v it p)=F:=⟨_,rfl⟩
  have hnx:C5 (fun p=>if p=o then G3 v it o else F p)=C5 fun p=>decide (p < o+1)&&G3 v it p:=Bf fun p _=>by
   rw [<-hFs]
   by_cases e:p=o
   ·subst e;simp
   ·rw [if_neg e,show decide (p < o+1)=decide (p < o) from decide_eq_decide.2 (by omega)]
  rw [hFs]
  refine g ?_
  repeat' refine st_ rfl (g ?_)
  refine ⟨by omega,by omega,?_⟩
  rw [Nat.mul_one]
  refine g ?_
  repeat' refine Aj (g ?_)
  refine En (Cj ho') ?_
  cases hm:Ak it o with
  | false =>
   rw [hm,Bool.false_and] at hsp hbp
   rw [hsp] at hnx
   rw [hbp,if_neg (fun q=>by cases q.1),List.append_nil] at hrow
   refine g ?_
   refine ⟨by omega,by omega,?_⟩
   rw [Nat.mul_one,Nat.zero_add]
   refine g ?_
   repeat' refine Aj (g ?_)
   refine ⟨_,rfl,⟨trivial,trivial⟩,by rw [Be];omega,?_⟩
   refine g ?_
   repeat' (first | refine st_ rfl (g ?_) | refine Aj (g ?_))
   refine ⟨by omega,by omega,?_⟩
   rw [Nat.mul_one]
   refine g ?_
   repeat' refine Aj (g ?_)
   refine En (Cj ho') ?_
   rw [hm]
   refine g ?_
   repeat' refine st_ rfl (g ?_)
   refine ⟨⟨o+1,ho'⟩,id,⟨⟨rfl,rfl,rfl,rfl,rfl,rfl,rfl,trivial⟩,⟨?_,congrArg (fun C=>some (BA.arr 1000 C)) ?_,congrArg (fun C=>some (BA.arr 900 C)) ((Du ho').trans hnx),trivial⟩,by simp [Ay,BA.id]⟩,by show 256 - (o+1) < 256 - o;omega⟩
   ·show some (BA.row _ _ _ _)=some (BA.row _ _ _ ((M9 v it (o+1)).map enN))
    unfold M9
    rw [hrow]
    rfl
   ·exact Bf fun p _=>by unfold J2;rw [hrow]
  | true =>
   rw [hm,Bool.true_and] at hsp hbp
   refine g ?_
   refine ⟨by omega,by omega,?_⟩
   rw [Nat.mul_one]
   refine g ?_
   repeat' refine Aj (g ?_)
   refine En (Cj ho') ?_
   have hG:∀ c,G3 v it o=c->(C5 fun p=>decide (p < o+1)&&G3 v it p)[o]? = some (.val (.bool c)):=fun c hc=>by
    rw [Cj ho',hc]
    simp
   cases hb:Ak bl o with
   | false =>
    rw [hb] at hsp hbp
    have hG':=hG _ hsp
    rw [hsp] at hnx
    rw [hbp,if_neg (fun q=>by cases q.1),List.append_nil] at hrow
    refine g ?_
    refine ⟨by omega,by omega,?_⟩
    rw [Nat.mul_one,Nat.zero_add]
    refine g ?_
    repeat' refine Aj (g ?_)
    refine ⟨_,rfl,⟨trivial,trivial⟩,by rw [Be];omega,?_⟩
    refine g ?_
    repeat' (first | refine st_ rfl (g ?_) | refine Aj (g ?_))
    refine ⟨by omega,by omega,?_⟩
    rw [Nat.mul_one]
    refine g ?_
    repeat' refine Aj (g ?_)
    refine En (Cj ho') ?_
    rw [hm]
    simp only [Bool.not_false] at hnx hG'
    refine g ?_
    rw [Du ho',hnx]
    refine ⟨by omega,by omega,?_⟩
    rw [Nat.mul_one,Nat.zero_add]
    refine g ?_
    repeat' refine Aj (g ?_)
    refine ⟨_,hG',?_⟩
    refine g ?_
    repeat' (first | refine st_ rfl (g ?_) | refine Aj (g ?_))
    refine ⟨⟨o+1,ho'⟩,id,⟨⟨rfl,rfl,rfl,rfl,rfl,rfl,rfl,trivial⟩,⟨?_,congrArg (fun C=>some (BA.arr 1000 C)) ?_,congrArg (fun C=>some (BA.arr 900 C)) (rfl),trivial⟩,by simp [Ay,BA.id]⟩,by show 256 - (o+1) < 256 - o;omega⟩
    ·show some (BA.row _ _ _ _)=some (BA.row _ _ _ ((M9 v it (o+1)).map enN))
     unfold M9
     rw [hrow]
     rfl
    ·exact Bf fun p _=>by unfold J2;rw [hrow]
   | true =>
    rw [hb] at hsp hbp
    have hG':=hG _ hsp
    rw [hsp] at hnx
    rw [hbp] at hrow
    simp only [Bool.not_true] at hnx hG'
    refine g ?_
    refine ⟨by omega,by omega,?_⟩
    rw [Nat.mul_one,Nat.zero_add]
    refine g ?_
    repeat' refine Aj (g ?_)
    refine ⟨_,rfl,⟨trivial,trivial⟩,by rw [Be];omega,?_⟩
    refine g ?_
    repeat' (first | refine st_ rfl (g ?_) | refine Aj (g ?_))
    refine ⟨by omega,by omega,?_⟩
    rw [Nat.mul_one]
    refine g ?_
    repeat' refine Aj (g ?_)
    refine En (Cj ho') ?_
    rw [hm]
    refine g ?_
    rw [Du ho',hnx]
    refine ⟨by omega,by omega,?_⟩
    rw [Nat.mul_one,Nat.zero_add]
    refine g ?_
    repeat' refine Aj (g ?_)
    refine ⟨_,hG',?_⟩
    have hdn:J2 v it o o=decide (C4 v.zones v.known o∈C7 v it o):=by unfold J2;rw [hbp,Bool.true_and]
    refine g ?_
    repeat' refine Aj (g ?_)
    refine ⟨by omega,by omega,?_⟩
    rw [Nat.mul_one,Nat.zero_add]
    refine g ?_
    repeat' refine Aj (g ?_)
    refine ⟨_,Cj ho',?_⟩
    rw [hdn]
    refine g ?_
    repeat' (first | refine st_ rfl (g ?_) | refine Aj (g ?_) | refine Bk (fun h=>g ?_) (fun h=>g ?_))
    ·rw [if_neg (fun q=>q.2 h),List.append_nil] at hrow
     refine ⟨⟨o+1,ho'⟩,id,⟨⟨rfl,rfl,rfl,rfl,rfl,rfl,rfl,trivial⟩,⟨?_,congrArg (fun C=>some (BA.arr 1000 C)) ?_,congrArg (fun C=>some (BA.arr 900 C)) (rfl),trivial⟩,by simp [Ay,BA.id]⟩,by show 256 - (o+1) < 256 - o;omega⟩
     ·show some (BA.row _ _ _ _)=some (BA.row _ _ _ ((M9 v it (o+1)).map enN))
      unfold M9
      rw [hrow]
      rfl
     ·exact Bf fun p _=>by unfold J2;rw [hrow]
    rw [if_pos ⟨rfl,h⟩] at hrow
    have hrc:=Nx v.zones v.known o
    rw [A18 hv ho'] at hrc
    have hrm:C4 v.zones v.known o∉C7 v it o:=h
    have hslen:(M9 v it o).length<=256:=by
     unfold M9
     rw [List.length_map]
     have:=M8 v it o
     omega
    obtain ⟨r,hr⟩ : ∃ r,C4 v.zones v.known o=r:=⟨_,rfl⟩
    rw [hr] at hrow hrc hrm
    have hpart:=Vn v r (Gh v it r) iR hhf
    obtain ⟨G,hGe⟩ : ∃ G:Nat->Bool,(fun p=>decide (p < o+1)&&G3 v it p)=G:=⟨_,rfl⟩
    rw [hGe]
    clear hG hG' hnx hFs
    refine g ?_
    repeat' (first | refine st_ rfl (g ?_) | refine Aa (hrc) rfl (g ?_))
    refine AW.loop (fun p:{p:Nat // o<=p/\p<=256}=>⟨[(2,.ip [stI v.known,znI v.zones,wrI v.held,boI v.bodies,.val (.int .i64 v.room)]),(6,.ip (C5 fun p=>Ak it p)),(7,.ip (C5 fun p=>Ak bl p)),(8,.bp 900 0),(9,.bp 1000 0),(10,.own 50000),(11,.val (.int .i64 (o:Nat))),(12,.iv (stI r)),(13,.bp 1400 0),(14,.val (.int .i64 (p.1:Nat)))],[.arr 1400 (C5 (upB v it r o p.1)),.row 50000 37 4 ((M9 v it o).map enN),.arr 1000 (C5 fun q=>J2 v it o q || upB v it r o p.1 q),.arr 900 (C5 G)]⟩) (fun p=>256 - p.1) ⟨o,Nat.le_refl _,by omega⟩ id ⟨⟨rfl,rfl,rfl,rfl,rfl,rfl,rfl,rfl,rfl,rfl,trivial⟩,⟨congrArg (fun C=>some (BA.arr 1400 C)) (Tc.trans (Bf fun q _=>(Ac4 v it r o q).symm)),rfl,congrArg (fun C=>some (BA.arr 1000 C)) (Bf fun q _=>by rw [Ac4,Bool.or_false]),rfl,trivial⟩,by simp [Ay,BA.id]⟩ fun ⟨p,hp1,hp2⟩=>?_
    simp only
    repeat (refine AW.seq ?_)
    refine AW.reg rfl fun KK hKK=>?_
    refine g ?_
    repeat' (refine hKK _ (g ?_);clear hKK KK)
    repeat (refine AW.seq ?_)
    refine st_ rfl ?_
    refine g ?_
    refine Bk (fun h=>?_) (fun h=>?_)
    ·have hp:p < 256:=by omega
     have hrp:=Nx v.zones v.known p
     rw [A18 hv hp] at hrp
     have hsame:=Mb (C4 v.zones v.known p) r
     have hss:Gh v it r p=(Ak it p&&Ak bl p&&decide (C4 v.zones v.known p=r)):=by unfold Gh M0;rw [hbl]
     have hu:=B75 v it r hp1
     obtain ⟨U,hU⟩ : ∃ U,upB v it r o p=U:=⟨_,rfl⟩
     obtain ⟨W,hW⟩ : ∃ W,upB v it r o (p+1)=W:=⟨_,rfl⟩
     have hup:U p=false:=by rw [<-hU];simp [upB]
     rw [hU,hW] at hu
     rw [hU]
     refine g ?_
     repeat' refine st_ rfl (g ?_)
     refine ⟨by omega,by omega,?_⟩
     rw [Nat.mul_one]
     refine g ?_
     repeat' refine Aj (g ?_)
     refine En (Cj hp) ?_
     cases ha:Ak it p with
     | false =>
      rw [ha,Bool.false_and,Bool.false_and] at hss
      rw [hss] at hu
      refine g ?_
      refine ⟨by omega,by omega,?_⟩
      rw [Nat.mul_one,Nat.zero_add]
      refine g ?_
      repeat' refine Aj (g ?_)
      refine ⟨_,rfl,⟨trivial,trivial⟩,by rw [Be];omega,?_⟩
      refine g ?_
      repeat' (first | refine st_ rfl (g ?_) | refine Aj (g ?_))
      have hld:(C5 fun q=>J2 v it o q || U q)[p]? = some (.val (.bool (J2 v it o p))):=by rw [Cj hp,hup,Bool.or_false]
      have hWp:(C5 W)[p]? = some (.val (.bool (false))):=by rw [Cj hp,hu,if_pos rfl]
      have hW2:C5 (fun q=>if q=p then false else U q)=C5 W:=Bf fun q _=>(hu q).symm
      rw [Du hp,hW2]
      refine ⟨by omega,by omega,?_⟩
      rw [Nat.mul_one,Nat.zero_add]
      refine g ?_
      repeat' refine Aj (g ?_)
      refine ⟨_,hld,?_⟩
      cases hd:J2 v it o p with
      | true =>
       refine g ?_
       repeat' refine Aj (g ?_)
       refine ⟨by omega,by omega,?_⟩
       rw [Nat.mul_one,Nat.zero_add]
       refine g ?_
       repeat' refine Aj (g ?_)
       refine ⟨_,rfl,⟨trivial,trivial⟩,by rw [Be];omega,?_⟩
       refine g ?_
       repeat' (first | refine st_ rfl (g ?_) | refine Aj (g ?_))
       refine ⟨⟨p+1,by omega,hp⟩,id,⟨⟨rfl,rfl,rfl,rfl,rfl,rfl,rfl,rfl,rfl,rfl,trivial⟩,⟨congrArg (fun C=>some (BA.arr 1400 C)) (by rw [hW]),rfl,congrArg (fun C=>some (BA.arr 1000 C)) ((Du hp).trans (Bf fun q _=>?_)),rfl,trivial⟩,by simp [Ay,BA.id]⟩,by show 256 - (p+1) < 256 - p;omega⟩
       rw [hW,hu]
       by_cases e:q=p
       ·rw [if_pos e,if_pos e,e,hd];simp
       ·rw [if_neg e,if_neg e]
      | false =>
       refine g ?_
       repeat' refine Aj (g ?_)
       refine ⟨by omega,by omega,?_⟩
       rw [Nat.mul_one,Nat.zero_add]
       refine g ?_
       repeat' refine Aj (g ?_)
       refine ⟨_,hWp,?_⟩
       refine g ?_
       repeat' refine Aj (g ?_)
       refine ⟨by omega,by omega,?_⟩
       rw [Nat.mul_one,Nat.zero_add]
       refine g ?_
       repeat' refine Aj (g ?_)
       refine ⟨_,rfl,⟨trivial,trivial⟩,by rw [Be];omega,?_⟩
       refine g ?_
       repeat' (first | refine st_ rfl (g ?_) | refine Aj (g ?_))
       refine ⟨⟨p+1,by omega,hp⟩,id,⟨⟨rfl,rfl,rfl,rfl,rfl,rfl,rfl,rfl,rfl,rfl,trivial⟩,⟨congrArg (fun C=>some (BA.arr 1400 C)) (by rw [hW]),rfl,congrArg (fun C=>some (BA.arr 1000 C)) ((Du hp).trans (Bf fun q _=>?_)),rfl,trivial⟩,by simp [Ay,BA.id]⟩,by show 256 - (p+1) < 256 - p;omega⟩
       rw [hW,hu]
       by_cases e:q=p
       ·rw [if_pos e,if_pos e,e,hd];simp
       ·rw [if_neg e,if_neg e]
     | true =>
      rw [ha,Bool.true_and] at hss
      refine g ?_
      refine ⟨by omega,by omega,?_⟩
      rw [Nat.mul_one]
      refine g ?_
      repeat' refine Aj (g ?_)
      refine En (Cj hp) ?_
      cases hb2:Ak bl p with
      | false =>
       rw [hb2,Bool.false_and] at hss
       rw [hss] at hu
       refine g ?_
       refine ⟨by omega,by omega,?_⟩
       rw [Nat.mul_one,Nat.zero_add]
       refine g ?_
       repeat' refine Aj (g ?_)
       refine ⟨_,rfl,⟨trivial,trivial⟩,by rw [Be];omega,?_⟩
       refine g ?_
       repeat' (first | refine st_ rfl (g ?_) | refine Aj (g ?_))
       have hld:(C5 fun q=>J2 v it o q || U q)[p]? = some (.val (.bool (J2 v it o p))):=by rw [Cj hp,hup,Bool.or_false]
       have hWp:(C5 W)[p]? = some (.val (.bool (false))):=by rw [Cj hp,hu,if_pos rfl]
       have hW2:C5 (fun q=>if q=p then false else U q)=C5 W:=Bf fun q _=>(hu q).symm
       rw [Du hp,hW2]
       refine ⟨by omega,by omega,?_⟩
       rw [Nat.mul_one,Nat.zero_add]
       refine g ?_
       repeat' refine Aj (g ?_)
       refine ⟨_,hld,?_⟩
       cases hd:J2 v it o p with
       | true =>
        refine g ?_
        repeat' refine Aj (g ?_)
        refine ⟨by omega,by omega,?_⟩
        rw [Nat.mul_one,Nat.zero_add]
        refine g ?_
        repeat' refine Aj (g ?_)
        refine ⟨_,rfl,⟨trivial,trivial⟩,by rw [Be];omega,?_⟩
        refine g ?_
        repeat' (first | refine st_ rfl (g ?_) | refine Aj (g ?_))
        refine ⟨⟨p+1,by omega,hp⟩,id,⟨⟨rfl,rfl,rfl,rfl,rfl,rfl,rfl,rfl,rfl,rfl,trivial⟩,⟨congrArg (fun C=>some (BA.arr 1400 C)) (by rw [hW]),rfl,congrArg (fun C=>some (BA.arr 1000 C)) ((Du hp).trans (Bf fun q _=>?_)),rfl,trivial⟩,by simp [Ay,BA.id]⟩,by show 256 - (p+1) < 256 - p;omega⟩
        rw [hW,hu]
        by_cases e:q=p
        ·rw [if_pos e,if_pos e,e,hd];simp
        ·rw [if_neg e,if_neg e]
       | false =>
        refine g ?_
        repeat' refine Aj (g ?_)
        refine ⟨by omega,by omega,?_⟩
        rw [Nat.mul_one,Nat.zero_add]
        refine g ?_
        repeat' refine Aj (g ?_)
        refine ⟨_,hWp,?_⟩
        refine g ?_
        repeat' refine Aj (g ?_)
        refine ⟨by omega,by omega,?_⟩
        rw [Nat.mul_one,Nat.zero_add]
        refine g ?_
        repeat' refine Aj (g ?_)
        refine ⟨_,rfl,⟨trivial,trivial⟩,by rw [Be];omega,?_⟩
        refine g ?_
        repeat' (first | refine st_ rfl (g ?_) | refine Aj (g ?_))
        refine ⟨⟨p+1,by omega,hp⟩,id,⟨⟨rfl,rfl,rfl,rfl,rfl,rfl,rfl,rfl,rfl,rfl,trivial⟩,⟨congrArg (fun C=>some (BA.arr 1400 C)) (by rw [hW]),rfl,congrArg (fun C=>some (BA.arr 1000 C)) ((Du hp).trans (Bf fun q _=>?_)),rfl,trivial⟩,by simp [Ay,BA.id]⟩,by show 256 - (p+1) < 256 - p;omega⟩
        rw [hW,hu]
        by_cases e:q=p
        ·rw [if_pos e,if_pos e,e,hd];simp
        ·rw [if_neg e,if_neg e]
      | true =>
       rw [hb2,Bool.true_and] at hss
       rw [hss] at hu
       refine g ?_
       repeat' (first | refine Aa (hrp) rfl (g ?_) | refine Aa (hsame) rfl (g ?_))
       refine ⟨by omega,by omega,?_⟩
       rw [Nat.mul_one,Nat.zero_add]
       refine g ?_
       repeat' refine Aj (g ?_)
       refine ⟨_,rfl,⟨trivial,trivial⟩,by rw [Be];omega,?_⟩
       refine g ?_
       repeat' (first | refine st_ rfl (g ?_) | refine Aj (g ?_))
       have hld:(C5 fun q=>J2 v it o q || U q)[p]? = some (.val (.bool (J2 v it o p))):=by rw [Cj hp,hup,Bool.or_false]
       have hWp:(C5 W)[p]? = some (.val (.bool (decide (C4 v.zones v.known p=r)))):=by rw [Cj hp,hu,if_pos rfl]
       have hW2:C5 (fun q=>if q=p then decide (C4 v.zones v.known p=r) else U q)=C5 W:=Bf fun q _=>(hu q).symm
       rw [Du hp,hW2]
       refine ⟨by omega,by omega,?_⟩
       rw [Nat.mul_one,Nat.zero_add]
       refine g ?_
       repeat' refine Aj (g ?_)
       refine ⟨_,hld,?_⟩
       cases hd:J2 v it o p with
       | true =>
        refine g ?_
        repeat' refine Aj (g ?_)
        refine ⟨by omega,by omega,?_⟩
        rw [Nat.mul_one,Nat.zero_add]
        refine g ?_
        repeat' refine Aj (g ?_)
        refine ⟨_,rfl,⟨trivial,trivial⟩,by rw [Be];omega,?_⟩
        refine g ?_
        repeat' (first | refine st_ rfl (g ?_) | refine Aj (g ?_))
        refine ⟨⟨p+1,by omega,hp⟩,id,⟨⟨rfl,rfl,rfl,rfl,rfl,rfl,rfl,rfl,rfl,rfl,trivial⟩,⟨congrArg (fun C=>some (BA.arr 1400 C)) (by rw [hW]),rfl,congrArg (fun C=>some (BA.arr 1000 C)) ((Du hp).trans (Bf fun q _=>?_)),rfl,trivial⟩,by simp [Ay,BA.id]⟩,by show 256 - (p+1) < 256 - p;omega⟩
        rw [hW,hu]
        by_cases e:q=p
        ·rw [if_pos e,if_pos e,e,hd];simp
        ·rw [if_neg e,if_neg e]
       | false =>
        refine g ?_
        repeat' refine Aj (g ?_)
        refine ⟨by omega,by omega,?_⟩
        rw [Nat.mul_one,Nat.zero_add]
        refine g ?_
        repeat' refine Aj (g ?_)
        refine ⟨_,hWp,?_⟩
        refine g ?_
        repeat' refine Aj (g ?_)
        refine ⟨by omega,by omega,?_⟩
        rw [Nat.mul_one,Nat.zero_add]
        refine g ?_
        repeat' refine Aj (g ?_)
        refine ⟨_,rfl,⟨trivial,trivial⟩,by rw [Be];omega,?_⟩
        refine g ?_
        repeat' (first | refine st_ rfl (g ?_) | refine Aj (g ?_))
        refine ⟨⟨p+1,by omega,hp⟩,id,⟨⟨rfl,rfl,rfl,rfl,rfl,rfl,rfl,rfl,rfl,rfl,trivial⟩,⟨congrArg (fun C=>some (BA.arr 1400 C)) (by rw [hW]),rfl,congrArg (fun C=>some (BA.arr 1000 C)) ((Du hp).trans (Bf fun q _=>?_)),rfl,trivial⟩,by simp [Ay,BA.id]⟩,by show 256 - (p+1) < 256 - p;omega⟩
        rw [hW,hu]
        by_cases e:q=p
        ·rw [if_pos e,if_pos e,e,hd];simp
        ·rw [if_neg e,if_neg e]
    ·obtain rfl:p=256:=by omega
     have hus:∀ q,q < 256->upB v it r o 256 q=Gh v it r q:=fun q hq=>by
      unfold upB
      rcases Nat.lt_or_ge q o with h1 | h1
      ·rw [decide_eq_false (by omega),Bool.false_and]
       refine (Bool.eq_false_iff.2 fun hh=>hrm ?_).symm
       unfold Gh at hh
       rw [Bool.and_eq_true,decide_eq_true_eq] at hh
       exact M7.2 ⟨q,h1,hh.1,hh.2⟩
      ·rw [decide_eq_true ⟨h1,hq⟩,Bool.true_and]
     rw [Bf hus,Bf (f:=fun q=>J2 v it o q || upB v it r o 256 q) (g:=J2 v it (o+1)) fun q hq=>by
      rw [hus q hq]
      unfold J2 Gh
      rw [hrow]
      cases M0 v it q<;>simp]
     refine AW.exit ?_
     simp only [reduceIte]
     refine g ?_
     repeat' refine st_ rfl (g ?_)
     refine ⟨(Be _).symm,?_⟩
     refine g ?_
     repeat' refine Aa (hpart) rfl (g ?_)
     refine bs1 (by omega) rfl rfl rfl ⟨trivial,trivial,trivial,trivial,trivial⟩ ?_
     refine g ?_
     refine C6 rfl (by kernel_rfl) (by omega) (by kernel_rfl) rfl (by simp;omega) ?_
     refine g ?_
     repeat' refine st_ rfl (g ?_)
     refine ⟨⟨o+1,ho'⟩,fun b=>if b=50000 then 10100 else b,⟨⟨rfl,rfl,rfl,rfl,rfl,rfl,rfl,trivial⟩,⟨?_,rfl,congrArg (fun C=>some (BA.arr 900 (C5 C))) hGe.symm,trivial⟩,by simp [Ay,BA.id]⟩,by show 256 - (o+1) < 256 - o;omega⟩
     show some (BA.row _ _ _ _)=some (BA.row _ _ _ ((M9 v it (o+1)).map enN))
     unfold M9
     rw [hrow,List.map_append,List.map_append]
     rfl
 ·obtain rfl:o=256:=by omega
  rw [Bf (f:=fun p=>decide (p < 256)&&G3 v it p) (g:=G3 v it) fun q hq=>by rw [decide_eq_true hq,Bool.true_and]]
  have hpart:=Vn v v.known (G3 v it) iR hhf
  have hslen:(M9 v it 256).length<=256:=by
   unfold M9
   rw [List.length_map]
   exact M8 v it 256
  refine AW.exit ?_
  simp only [reduceIte]
  refine g ?_
  repeat' refine st_ rfl (g ?_)
  refine ⟨(Be _).symm,?_⟩
  refine g ?_
  repeat' refine Aa (hpart) rfl (g ?_)
  refine bs1 (by omega) rfl rfl rfl ⟨trivial,trivial,trivial,trivial,trivial⟩ ?_
  refine g ?_
  refine C6 rfl (by kernel_rfl) (by omega) (by kernel_rfl) rfl (by simp;omega) ?_
  refine g ?_
  refine AW.freeze 10900 _ rfl trivial ?_
  simp only [go_sem,reduceIte,Nat.reduceEqDiff]
  refine g ?_
  repeat' refine st_ rfl (g ?_)
  subst hR
  exact Dz.rfl_ _
end Go.Proofs.YthlgnjlpakimaaaGreatDoor
