/- Who knows nothing and takes a sum reads the interest as the view that it is of. Plain. -/
import Derived.Test.YthlgnjlpakimaaaGreatDoorQSumLaw
set_option linter.all false
set_option linter.unnecessarySimpa false
set_option linter.unusedSimpArgs false
set_option linter.unusedVariables false
namespace Go.Proofs.YthlgnjlpakimaaaGreatDoor
structure Qw (v x:B8) (T:Nat->Bool):Prop where
 vf:VF x
 known:x.known=v.known
 reach:∀ o:Nat,o < 256->Bb x.zones x.known o=if T o=true then Bb v.zones v.known o else []
 held:∀ o:Nat,o < 256->D5 x.held o=if T o=true then D5 v.held o else none
 bodies:x.bodies=[]
def Mj:B8:=⟨[],[],[],[],0⟩
theorem Vh:VF Mj:=Ja.1 (by decide)
theorem Qw.first {v:B8} (hv:VF v) (it:List Ad):(Bd Mj (Dg v v.known (Gb v it))).2=0/\Qw v (Bd Mj (Dg v v.known (Gb v it))).1 (Gb v it):=by
 have h:=Ax7 hv it
 have hr:∀ o:Int,Bb Mj.zones Mj.known o=[]:=fun o=>rfl
 obtain ⟨h0,h1,h2,h3,h4,h5⟩:=A29 hv Vh h fun o ho hf=>by rw [hr];exact N5 _
 refine ⟨h0,Jd h0,?_,fun o ho=>?_,fun o ho=>?_,by rw [h4];rfl⟩
 ·rw [h1]
  refine M0 (E7 _) hv.known (Ca.2 fun k hk=>?_) (Ca.2 fun k hk=>?_)
  all_goals
   have:=Di v.known k
   rw [Gq _ hk,Gf,show Aa Mj.known (k:Int)=0 from rfl]
   omega
 ·rw [h2 o ho]
  split
  ·rename_i hf
   exact (h.told o ho hf).symm
  ·rfl
 ·rw [h3,A46 hv Vh.held h ho]
  split
  ·cases D5 v.held o<;>rfl
  ·rfl
theorem Qw.step {v x:B8} {T:Nat->Bool} (hv:VF v) (hx:Qw v x T) {r:List Ab} {f:Nat->Bool} (h:U5 v r f):(Bd x (Dg v r f)).2=0/\Qw v (Bd x (Dg v r f)).1 fun o=>T o || f o:=by
 obtain ⟨h0,h1,h2,h3,h4,h5⟩:=A29 hv hx.vf h fun o ho hf=>by
  rw [hx.reach o ho]
  split
  ·rw [h.told o ho hf];exact Ka r
  ·exact N5 r
 refine ⟨h0,Jd h0,?_,fun o ho=>?_,fun o ho=>?_,by rw [h4,hx.bodies];rfl⟩
 ·rw [h1,hx.known,Ya hv.known h.below]
 ·rw [h2 o ho,hx.reach o ho]
  cases hf:f o with
  | true=>simp [h.told o ho hf]
  | false=>simp
 ·rw [h3,A46 hv hx.vf.held h ho,hx.held o ho]
  cases hf:f o with
  | true =>
   cases hg:D5 v.held o with
   | none=>simp
   | some w =>
    cases hT:T o with
    | true=>simp [Th,J5]
    | false=>simp [Th]
  | false=>simp
theorem Qw.rows {v:B8} (hv:VF v) (it:List Ad):∀ {l:List (List Ab)} {x:B8} {T:Nat->Bool},(∀ r∈l,r∈Cr v it 256)->Qw v x T->(Bs x (l.map fun r=>Dg v r (Ga v it r))).2=true/\Qw v (Bs x (l.map fun r=>Dg v r (Ga v it r))).1 fun o=>T o || l.any fun r=>Ga v it r o
 | [],x,T,_,hx=>⟨rfl,by simpa [Bs] using hx⟩
 | r :: l,x,T,hl,hx=>by
  obtain ⟨h0,h1⟩:=Qw.step hv hx (Aw7 hv it (hl r (by simp)))
  rw [List.map_cons,Bs,if_pos h0]
  obtain ⟨h2,h3⟩:=Qw.rows hv it (l:=l) (fun r hr=>hl r (by simp [hr])) h1
  refine ⟨h2,?_⟩
  simpa [Bool.or_assoc] using h3
theorem C23 {v:B8} (h:Af v=true) (it:List Ad):(Kg Mj v it).2=true/\Qw v (Kg Mj v it).1 fun o=>Al it o:=by
 have hv:=Ja.1 h
 obtain ⟨h0,h1⟩:=Qw.first hv it
 rw [Kg,if_pos h,Z5,Bs,if_pos h0]
 obtain ⟨h2,h3⟩:=Qw.rows hv it (l:=Cr v it 256) (fun _ hr=>hr) h1
 have e:∀ o:Nat,o < 256->(Gb v it o || (Cr v it 256).any fun r=>Ga v it r o)=Al it o:=fun o ho=>by
  unfold Gb
  cases hm:Al it o with
  | false =>
   rw [Bool.false_and,Bool.false_or,List.any_eq_false]
   intro r _ hh
   simp [Ga,Mq,hm] at hh
  | true =>
   cases hb:Al (E5 v.zones) o with
   | false=>rfl
   | true =>
    simp only [Bool.not_true,Bool.and_false,Bool.false_or,List.any_eq_true]
    exact ⟨Bb v.zones v.known o,Np.2 ⟨o,ho,by simp [Mq,hm,hb],rfl⟩,by simp [Ga,Mq,hm,hb]⟩
 exact ⟨h2,h3.vf,h3.known,fun o ho=>by rw [h3.reach o ho];simp only [e o ho],fun o ho=>by rw [h3.held o ho];simp only [e o ho],h3.bodies⟩
theorem Vz {v : B8} (h : VF v) {o : Nat} (ho : o < 256) : De v o = if Ay (Bb v.zones v.known o) v.known = true then (match D5 v.held o with
      | none => ([], noW, 8)
      | some w => if w.gone = true then ([], w, 0) else ((Wo v.bodies o w.stamp).1, w, (Wo v.bodies o w.stamp).2)) else ([], noW, 9) := by
  have hr : E9 o = true := by simp [E9]; omega
  have hs : By (E5 v.zones) o = !Ay (Bb v.zones v.known o) v.known := by
    unfold By
    rw [Bf5 h ho, decide_eq_true (by omega), Bool.true_and]
  unfold De
  rw [if_pos ⟨Ja.2 h, hr⟩, hs]
  cases Ay (Bb v.zones v.known o) v.known <;> rfl
theorem B79 {v:B8} {o:Int} (h:¬ (0<=o/\o<=255)):De v o=([],noW,1):=by
 unfold De
 rw [if_neg]
 rintro ⟨_,h2⟩
 simp only [E9,Bool.and_eq_true,decide_eq_true_eq] at h2
 exact h h2
theorem Bd8 {a:List Ab} (ha:Ak a=true):Ay [] a=true↔a=[] :=
 ⟨fun h=>(M0 (a:=[]) rfl ha h (N5 a)).symm,fun h=>by rw [h];rfl⟩
theorem Az3 {v x:B8} {it:List Ad} (hv:VF v) (hx:Qw v x fun o=>Al it o) (o:Int) (h:By it o=false):(De x o).2.2=1\/(De x o).2.2=9\/(De x o).2.2=8/\v.known=[]:=by
 by_cases ho:0<=o/\o<=255
 ·obtain ⟨k,rfl⟩ : ∃ k:Nat,o=k:=⟨o.toNat,by omega⟩
  have hk:k < 256:=by omega
  have hm:Al it (k:Int)=false:=by
   unfold By at h
   rw [decide_eq_true ho,Bool.true_and] at h
   exact h
  rw [Vz hx.vf hk,hx.reach k hk,hx.held k hk,hx.known,hm]
  simp only [Bool.false_eq_true,if_false]
  split
  ·rename_i hc
   exact .inr (.inr ⟨rfl,(Bd8 hv.known).1 hc⟩)
  ·exact .inr (.inl rfl)
 ·rw [B79 ho]
  exact .inl rfl
theorem Cd3 (o:Int) (s:Ab):Wo [] o s=([],10):=rfl
theorem Az2 {v x:B8} {it:List Ad} (hv:VF v) (hx:Qw v x fun o=>Al it o) (o:Int) (h:By it o=true):(De v o).2.1=(De x o).2.1/\(((De v o).2.2=0/\(De v o).2.1.gone=false/\(De x o).2.2=10)\/(¬ ((De v o).2.2=0/\(De v o).2.1.gone=false)/\(De v o).2.2=(De x o).2.2)):=by
 unfold By at h
 rw [Bool.and_eq_true,decide_eq_true_eq] at h
 obtain ⟨k,rfl⟩ : ∃ k:Nat,o=k:=⟨o.toNat,by omega⟩
 have hk:k < 256:=by omega
 rw [Vz hx.vf hk,hx.reach k hk,hx.held k hk,hx.known,h.2,if_pos rfl,Vz hv hk,hx.bodies]
 simp only [if_true]
 split
 ·cases hg:D5 v.held k with
  | none=>exact ⟨rfl,.inr ⟨by simp,rfl⟩⟩
  | some w =>
   simp only
   cases hgone:w.gone with
   | true=>exact ⟨rfl,.inr ⟨by simp [hgone],rfl⟩⟩
   | false =>
    simp only [Bool.false_eq_true,if_false,Cd3]
    refine ⟨trivial,?_⟩
    by_cases he:(Wo v.bodies k w.stamp).2=0
    ·exact .inl ⟨he,hgone,trivial⟩
    ·refine .inr ⟨fun hh=>he hh.1,?_⟩
     unfold Wo at he ⊢
     split
     ·rename_i y hy
      rw [hy] at he
      exact absurd rfl he
     ·rfl
 ·exact ⟨rfl,.inr ⟨by simp,rfl⟩⟩
end Go.Proofs.YthlgnjlpakimaaaGreatDoor
