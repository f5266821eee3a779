/- A view that takes the sum of another one, note by note (the laws'). -/
import Derived.Test.YthlgnjlpakimaaaGreatDoorQSum13
import Derived.Test.YthlgnjlpakimaaaGreatDoorQFreshLaw
import Derived.Test.YthlgnjlpakimaaaGreatDoorQViewWrite
set_option linter.all false
set_option linter.unnecessarySimpa false
set_option linter.unusedSimpArgs false
set_option linter.unusedVariables false
namespace Go.Proofs.YthlgnjlpakimaaaGreatDoor
open Go.ChangeShapes Go.WideShapes Go.ChangeAt Go.RowKit
attribute [local irreducible] AW AWY Cd Bk vop C5 Bl Bz qop Cj Cv B4 Aw C4 A7 Bq
attribute [local go_sem] Ce Mk Kt Ei Ao As
theorem B36 (v:B8) {l:List At} {i:Nat} (h:i < l.length):Bs v (l.drop i)=if (Bd v l[i]).2=0 then Bs (Bd v l[i]).1 (l.drop (i+1)) else (v,false):=by
 rw [List.drop_eq_getElem_cons h,Bs]
theorem B40 {x v:B8} {it:List Ad} (iX:I64 x.room):I64 (Kg x v it).1.room:=by
 have key:∀ (l:List At) (x:B8),I64 x.room->I64 (Bs x l).1.room:=by
  intro l
  induction l with
  | nil=>exact fun x h=>h
  | cons n l ih =>
   intro x h
   unfold Bs
   split
   ·exact ih _ (Gw x n h)
   ·exact h
 unfold Kg
 split
 ·exact key _ x iX
 ·exact iX
set_option maxRecDepth 100000 in
set_option maxHeartbeats 3200000 in
theorem A75 (x v:B8) (it:List Ad) (iX:I64 x.room) (iR:I64 v.room):A7 Tryz.prog A8 25 [vwA x,vwA v,.iv (spI it)] (.tup [vwA (Kg x v it).1,.val (.bool (Kg x v it).2)]) []:=by
 refine A7.of (n:=47) (rs:=[.cell 6 30,.tmp 7]) Tryz.func25 rfl (by kernel_rfl) Tryz.ntmps25 (by kernel_rfl) (by simp) (fun _ _=>A8.later) ?_
 intro hok V w0
 have hs:=Ao5 v it iR
 obtain ⟨R,hR⟩ : ∃ R,Kg x v it=R:=⟨_,rfl⟩
 rw [hR]
 unfold Kg at hR
 unfold Ae3 at hs
 refine g ?_
 refine AW.seq ?_
 refine AW.reg rfl fun KK hKK=>?_
 refine g ?_
 repeat' (refine hKK _ (g ?_);clear hKK KK)
 refine AW.freeze 500 _ rfl ⟨trivial,trivial,trivial,trivial,iR,trivial⟩ ?_
 simp only [go_sem,reduceIte,Nat.reduceEqDiff]
 cases hF:Af v with
 | false =>
  rw [hF,if_neg (by decide)] at hs hR
  subst hR
  refine g ?_
  repeat' (first | refine st_ rfl (g ?_) | exact trivial | refine A9 (hs) rfl (g ?_))
 | true =>
 rw [hF,if_pos rfl] at hs hR
 have hne:0 < (Z5 v it).length:=by unfold Z5;simp
 have hll:(Z5 v it).length<=257:=by
  unfold Z5
  have:=Nq v it 256
  simp only [List.length_cons,List.length_map]
  omega
 obtain ⟨l,hl⟩ : ∃ l,Z5 v it=l:=⟨_,rfl⟩
 rw [hl] at hs hR hne hll
 simp only at hs
 refine g ?_
 repeat' (first | refine st_ rfl (g ?_) | refine Az (fun h=>g ?_) (fun h=>g ?_) | refine A9 (hs) rfl (g ?_))
 ·omega
 refine AW.loop (fun y:{y:Nat×B8 // y.1<=l.length/\I64 y.2.room/\Bs x l=Bs y.2 (l.drop y.1)}=>⟨[(3,.bp 400 0),(6,.bp 700 0),(8,.iv (noI l)),(10,.val (.int .i64 (y.1.1:Nat)))],[.box 700 [.val (.slice none 0 0),.val (.slice none 0 0),.val (.slice none 0 0),.val (.slice none 0 0),.val (.int .i64 0)],.box 400 [.iv (stI y.1.2.known),.iv (znI y.1.2.zones),.iv (wrI y.1.2.held),.iv (boI y.1.2.bodies),.val (.int .i64 y.1.2.room)]]⟩) (fun y=>l.length - y.1.1) ⟨(0,x),Nat.zero_le _,iX,rfl⟩ id ⟨⟨rfl,rfl,rfl,rfl,trivial⟩,⟨rfl,rfl,trivial⟩,by simp [Aq,BA.id]⟩ fun ⟨⟨i,X⟩,hi,iX',hX⟩=>?_
 simp only at hi iX' hX ⊢
 repeat (refine AW.seq ?_)
 refine AW.reg rfl fun KK hKK=>?_
 refine g ?_
 repeat' (refine hKK _ (g ?_);clear hKK KK)
 repeat (refine AW.seq ?_)
 refine st_ rfl ?_
 refine g ?_
 refine Az (fun h=>?_) (fun h=>?_)
 ·have hlt:i < l.length:=by omega
  have htk:=Gl X l[i] iX'
  have hrm:=Gw X l[i] iX'
  have hst:=B36 X hlt
  obtain ⟨n,hn⟩ : ∃ n,l[i]=n:=⟨_,rfl⟩
  have hgn:l[i]? = some n:=by rw [List.getElem?_eq_getElem hlt,hn]
  rw [hn] at htk hrm hst
  generalize Bd X n=T at htk hrm hst
  obtain ⟨Y,e⟩:=T
  simp only at htk hrm hst
  refine st_ rfl (g ?_)
  refine AW.seq ?_
  refine AW.block ?_
  repeat (refine AW.seq ?_)
  refine AW.drawn (ds:=[34,35,36,37,38,39,33,40,41,11,12]) (fin:=[0,1,3]) (bs:=[2,2,2,2,2,2,2,2,2,2,3,4]) [⟨[],[],[0,1],[],0⟩,⟨[],[],[],[],0⟩,⟨[],[],[],[],0⟩,⟨[(35,1),(36,2)],[],[0,1],[],0⟩,⟨[(37,3)],[],[0,1],[],0⟩,⟨[(34,0),(38,4)],[],[0,1],[],0⟩,⟨[(39,5)],[],[],[],0⟩,⟨[(33,6)],[],[],[],0⟩,⟨[(33,6)],[],[],[],0⟩,⟨[],[],[],[],1⟩,⟨[(11,9),(40,7)],[],[],[2],1⟩,⟨[(41,8)],[],[],[],0⟩] (by kernel_rfl) rfl (by kernel_rfl) rfl rfl rfl fun KD hKD=>?_
  refine g ?_
  repeat' refine ix_ (by omega) (g ?_)
  rw [hn]
  refine g ?_
  repeat' (first | refine st_ rfl (g ?_) | refine Az (fun h=>g ?_) (fun h=>g ?_) | (refine hKD _ _ ⟨rfl,g ?_⟩;clear hKD KD) | refine A9 (htk) rfl (g ?_))
  ·rw [hX,hst,if_neg h] at hR
   subst hR
   rfl
  ·obtain rfl:e=0:=by simpa using h
   rw [if_pos rfl] at hst
   exact ⟨⟨(i+1,Y),hlt,hrm,hX.trans hst⟩,id,⟨⟨rfl,rfl,rfl,rfl,trivial⟩,⟨rfl,rfl,trivial⟩,by simp [Aq,BA.id]⟩,by show l.length - (i+1) < l.length - i;omega⟩
 ·obtain rfl:i=l.length:=by omega
  rw [hX,List.drop_length] at hR
  subst hR
  refine AW.exit ?_
  simp only [reduceIte]
  refine g ?_
  repeat' refine st_ rfl (g ?_)
  rfl
end Go.Proofs.YthlgnjlpakimaaaGreatDoor
