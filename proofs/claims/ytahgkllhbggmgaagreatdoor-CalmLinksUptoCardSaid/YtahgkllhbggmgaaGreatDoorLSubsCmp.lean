/- Whether two rows of subscriptions are the same (the reference's). -/
import Derived.Test.YtahgkllhbggmgaaGreatDoorLTouch
import Derived.Test.YtahgkllhbggmgaaGreatDoorLCacheForm
import Derived.Test.YtahgkllhbggmgaaGreatDoorLRefThr
import Derived.Test.YtahgkllhbggmgaaGreatDoorLSubsForm
set_option linter.all false
set_option linter.unnecessarySimpa false
set_option linter.unusedSimpArgs false
set_option linter.unusedVariables false
namespace Go.Proofs.YtahgkllhbggmgaaGreatDoor
open Go.ChangeShapes Go.WideShapes Go.ChangeAt Go.RowKit
attribute [local irreducible] AW AWY Be As vop Az Aq Ax qop Bd Bv Aj Ag Ay A7 Aw Du
attribute [local go_sem] Fp Dx Ae Af
def zoA (x:Bp):AV:=.agg [.val (.int .i64 x.span.lo),.val (.int .i64 x.span.hi),.iv (stI x.vec)]
def E42 (x:Bp):List AV:=[zoA x]
def Dv3 (known:List Ad) (p:Option Bp) (x:Bp):List Bp:=if El p+1 < x.span.lo then [⟨⟨El p+1,x.span.lo - 1⟩,known⟩] else []
def C23 (z:List Bp) (known:List Ad):Nat->List Bp
 | 0=>[]
 | i+1=>C23 z known i++(match z[i]? with
  | some x=>Dv3 known (z.take i).getLast? x++[x]
  | none=>[])
def Cw8 (z:List Bp) (known:List Ad):List Bp:=if El z.getLast? + 1<=255 then [⟨⟨El z.getLast? + 1,255⟩,known⟩] else []
def B24 (z:List Bp) (known:List Ad):List Bp:=C23 z known z.length++Cw8 z known
end Go.Proofs.YtahgkllhbggmgaaGreatDoor
namespace Go.Proofs.YtahgkllhbggmgaaGreatDoor
open Go.ChangeShapes Go.WideShapes Go.ChangeAt Go.RowKit
attribute [local irreducible] AW AWY Be As vop Az Aq Ax qop Bd Bv Aj Ag Ay A7 Aw Du
attribute [local go_sem] Ae Af
def Dy9:Prop:=∀ ls:List (List Ad),(∀ l∈ls,B7 l=true)->A7 Tryz.prog A8 440 [.iv (C80 ls)] (.iv (stI (Bm6 ls))) []
def Bj9 (it:List Ah) (ps:List Bp):List (List Ad):=(ps.filter fun x=>Lq it [x.span]).map (·.vec)
def C87 (z:List Bp) (known:List Ad) (it:List Ah):List Ad:=if Cw z=true/\B7 known=true then (if (Bj9 it (B24 z known)).length=0 then known else Bm6 (Bj9 it (B24 z known))) else []
end Go.Proofs.YtahgkllhbggmgaaGreatDoor
namespace Go.Proofs.YtahgkllhbggmgaaGreatDoor
end Go.Proofs.YtahgkllhbggmgaaGreatDoor
namespace Go.Proofs.YtahgkllhbggmgaaGreatDoor
open Go.ChangeShapes Go.WideShapes Go.ChangeAt Go.RowKit
attribute [local irreducible] AW AWY Be As vop Az Aq Ax qop Bd Bv Aj Ag Ay A7 Aw Bz7
attribute [local go_sem] Ae Af
def Ca6 (f:Nat->Int) (M n:Nat):Int:=if M.testBit n=true then f n else 0
end Go.Proofs.YtahgkllhbggmgaaGreatDoor
namespace Go.Proofs.YtahgkllhbggmgaaGreatDoor
open Go.ChangeShapes Go.WideShapes Go.ChangeAt Go.RowKit
attribute [local irreducible] Be As vop Az Aq Ax qop Bd Bv Aj Ag Ay A7 Aw
attribute [local go_sem] Ae Af
section
variable {V w0 : World} {n : Nd} {ro : Option Nat} {σ : Ab} {K : Exit -> Ab -> Prop}
end
def enX (x:Fin 64):List AV:=[.val (.int .i64 (x.1:Nat)),.any]
attribute [local irreducible] Bz7 AW
section
variable {V w0 : World} {n : Nd} {K : Exit -> Ab -> Prop}
end
def Du5 (f d:Nat->Int) (pre:List (Fin 64)) (n:Nat):Int:=if pre.any (fun x=>decide (x.1=n))=true then min (f n) (d n) else f n
structure E22 (ls:List (List Ad)) where
 i:Nat
 f:Nat->Int
 M:Nat
 h0:0 < i
 hi:i<=ls.length
 hM:M < 18446744073709551616
 hf:∀ n,n < 64->I64 (f n)
 pos:∀ n,n < 64->M.testBit n=true->0 < f n
 is:∀ n,n < 64->Ca6 f M n=C34 (ls.take i) n
end Go.Proofs.YtahgkllhbggmgaaGreatDoor
namespace Go.Proofs.YtahgkllhbggmgaaGreatDoor
open Go.ChangeShapes Go.WideShapes Go.ChangeAt Go.RowKit
attribute [local irreducible] AW AWY Be As vop Az Aq Ax qop Bd Bv Aj Ag Ay A7 Aw Du
attribute [local go_sem] E6 Ae Af
def Df1 (v:E8) (it:List Ah):List Ad:=if At v=true then C87 v.zones v.known it else []
end Go.Proofs.YtahgkllhbggmgaaGreatDoor
namespace Go.Proofs.YtahgkllhbggmgaaGreatDoor
open Go.ChangeShapes Go.WideShapes Go.ChangeAt Go.RowKit
attribute [local irreducible] AW AWY Be As vop Az Aq Ax qop Bd Bv Aj Ag Ay A7 Aw Du
theorem Aq1 (v:E8) (iR:I64 v.room):A7 Tryz.prog A8 63 [vwA v] (.val (.bool (At v))) []:=Bt8 (fun l r h=>T7 l r h) v iR
end Go.Proofs.YtahgkllhbggmgaaGreatDoor
namespace Go.Proofs.YtahgkllhbggmgaaGreatDoor
open Go.ChangeShapes Go.WideShapes Go.ChangeAt Go.RowKit
attribute [local irreducible] AW AWY Be As vop Az Aq Ax qop Bd Bv Aj Ag Ay A7 Aw Du
attribute [local go_sem] Ae Af
def Yc (s:Sub):List IV:=[.val (.int .i64 s.from_),spI s.interest,.val (.int .i64 s.session),.val (.int .i64 s.seq),.val (.bool s.live),.val (.bool s.heard),.val (.bool s.idle)]
def J2 (l:List Sub):IV:=.sl 7 (l.map Yc)
theorem L4 (s:Sub):Yc s=[.val (.int .i64 s.from_),spI s.interest,.val (.int .i64 s.session),.val (.int .i64 s.seq),.val (.bool s.live),.val (.bool s.heard),.val (.bool s.idle)]:=rfl
theorem Jc (l:List Sub):J2 l=.sl 7 (l.map Yc):=rfl
attribute [local go_sem] L4 Jc
end Go.Proofs.YtahgkllhbggmgaaGreatDoor
namespace Go.Proofs.YtahgkllhbggmgaaGreatDoor
open Go.ChangeShapes Go.WideShapes Go.ChangeAt Go.RowKit
attribute [local irreducible] AW AWY Be As vop Az Aq Ax qop Bd Bv Aj Ag Ay A7 Aw Du
attribute [local go_sem] L4 Jc Ae Af
theorem Bu5:∀ (x y:Sub),x.from_=y.from_->x.interest=y.interest->x.session=y.session->x.seq=y.seq->x.live=y.live->x.heard=y.heard->x.idle=y.idle->x=y
 | ⟨_,_,_,_,_,_,_⟩,⟨_,_,_,_,_,_,_⟩,rfl,rfl,rfl,rfl,rfl,rfl,rfl=>rfl
theorem exR {A K:Value->Prop} (r:Value) (hA:A r) (hk:K r):∃ r,A r/\D0 (K r):=⟨r,hA,B9 hk⟩
set_option maxRecDepth 100000 in
set_option maxHeartbeats 1600000 in
theorem As6 (l m:List Sub):A7 Tryz.prog A8 152 [.iv (J2 l),.iv (J2 m)] (.val (.bool (decide (l=m)))) []:=by
 refine A7.of (n:=75) (rs:=[.tmp 4]) Tryz.func152 rfl (by kernel_rfl) Tryz.ntmps152 (by kernel_rfl) (by simp) (fun _ _=>A8.later) ?_
 intro hok V w0
 have hlen:l.length<=1073741824:=by simpa [J2] using hok.1.1
 obtain ⟨B,hB⟩ : ∃ B,decide (l=m)=B:=⟨_,rfl⟩
 rw [hB]
 refine g ?_
 repeat' (first | refine st_ rfl (g ?_) | refine Al (fun h=>g ?_) (fun h=>g ?_))
 ·rw [<-hB,decide_eq_false]
  rintro rfl
  exact h rfl
 have hlm:l.length=m.length:=by omega
 refine AW.loop (fun i:{i:Nat // i<=l.length/\l.take i=m.take i}=>⟨[(0,.iv (J2 l)),(1,.iv (J2 m)),(5,.val (.int .i64 (i.1:Nat)))],[]⟩) (fun i=>l.length - i.1) ⟨0,Nat.zero_le _,rfl⟩ id ⟨⟨rfl,rfl,rfl,trivial⟩,trivial,List.nodup_nil⟩ fun ⟨i,hi,ht⟩=>?_
 refine g ?_
 repeat' (first | refine st_ rfl (g ?_) | refine Al (fun h=>g ?_) (fun h=>g ?_))
 ·have hlt:i < l.length:=by omega
  have hlt2:i < m.length:=by omega
  refine AW.drawn (ds:=[19,20,21,22,23,24,25,26,6,7]) (fin:=[2,3]) (bs:=[0,0,0,0,0,0,0,0,0,1,2,3]) [⟨[],[],[],[],0⟩,⟨[],[],[],[],0⟩,⟨[(19,0),(20,1)],[],[],[],0⟩,⟨[(21,2)],[],[],[],0⟩,⟨[],[],[],[],0⟩,⟨[],[],[],[],0⟩,⟨[(23,4),(24,5)],[],[],[],0⟩,⟨[(25,6)],[],[],[],0⟩,⟨[],[],[],[],1⟩,⟨[],[],[],[],1⟩,⟨[(6,8),(22,3)],[],[],[0],1⟩,⟨[(7,9),(26,7)],[],[],[1],1⟩] (by kernel_rfl) rfl (by kernel_rfl) rfl rfl rfl fun KD hKD=>?_
  refine g ?_
  repeat' (first | refine st_ rfl (g ?_) | refine De (fun h=>g ?_) (fun h=>g ?_) | (refine hKD _ _ ⟨rfl,g ?_⟩;clear hKD KD) | (refine B8 rfl rfl (fun h e=>?_) (fun h e=>?_)<;>simp only [e]<;>clear e<;>refine g ?_) | (refine E9 rfl rfl (fun h=>?_) (fun h=>?_)<;>simp only [h]<;>refine g ?_) | refine ix_ (by omega) (g ?_) | refine Aa (Ny _ _) rfl (g ?_) | ((refine exR (.bool (l[i].live != m[i].live)) ?_ ?_;focus (intro w;generalize l[i].live=a;generalize m[i].live=b;cases a<;>cases b<;>rfl)))<;>refine g ?_ | ((refine exR (.bool (l[i].heard != m[i].heard)) ?_ ?_;focus (intro w;generalize l[i].heard=a;generalize m[i].heard=b;cases a<;>cases b<;>rfl)))<;>refine g ?_ | ((refine exR (.bool (l[i].idle != m[i].idle)) ?_ ?_;focus (intro w;generalize l[i].idle=a;generalize m[i].idle=b;cases a<;>cases b<;>rfl)))<;>refine g ?_)
  all_goals first
   | (rw [<-hB];refine (decide_eq_false ?_).symm;rintro rfl;simp at h;done)
   | (rw [<-hB];refine decide_eq_false ?_;rintro rfl;simp at h;done)
   | skip
  rename_i a1 a2 a3 a4 a5 a6
  have he:l[i]=m[i]:=Bu5 _ _ (by simpa using a1) (by simpa using a2) (by simpa using a3) (by simpa using a4) (by simpa using a5) (by simpa using a6) (by simpa using h)
  refine ⟨⟨i+1,hlt,by rw [List.take_succ_eq_append_getElem hlt,List.take_succ_eq_append_getElem hlt2,ht,he]⟩,id,⟨⟨rfl,rfl,rfl,trivial⟩,trivial,List.nodup_nil⟩,by show l.length - (i+1) < l.length - i;omega⟩
 ·obtain rfl:i=l.length:=by omega
  rw [List.take_length,hlm,List.take_length] at ht
  rw [<-hB]
  exact (decide_eq_true ht).symm
end Go.Proofs.YtahgkllhbggmgaaGreatDoor
