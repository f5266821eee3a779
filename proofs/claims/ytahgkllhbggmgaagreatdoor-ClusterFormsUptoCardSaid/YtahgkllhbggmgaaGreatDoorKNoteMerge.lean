/- One note for two dull ones of which the second goes on where the first ends (the program's). -/
import Derived.Test.YtahgkllhbggmgaaGreatDoorKSortSpan
import Derived.Test.YtahgkllhbggmgaaGreatDoorKBridge
import Derived.Test.YtahgkllhbggmgaaGreatDoorKStreamArgs
set_option linter.all false
set_option linter.unnecessarySimpa false
set_option linter.unusedSimpArgs false
set_option linter.unusedVariables false
namespace Go.Proofs.YtahgkllhbggmgaaGreatDoor
open Go.ChangeShapes Go.WideShapes Go.ChangeAt Go.RowKit
abbrev Dq2:=Sl Cv2 1
def Dp1:Value->Nat
 | .slice _ n _=>n
 | _=>0
def inI (l:List Int):IV:=.sl 1 (l.map fun n=>[.val (.int .i64 n)])
section
variable {P : Program} {t : TypeId} {e k c b : Nat} {l m : List (List IV)} {y : AV} {bk : List BA} {K : AV -> List BA -> Prop}
theorem X9 (hb:C3 b bk=some (.row b e k l)) (ht:(Cl P t).map (fun q=>(q.1,q.2.1,Nat.ble q.2.2 131072))=some (e,k,true)) (hk:0 < k) (hz:(tyZ P e).map (fun z=>z.2.length)=some k)
  (hs:B61 bk k (nrm y)=some m) (hlen:l.length+m.length<=1073741824) (hK:K (.own c) (.row c e k (l++m) :: Ca b [] bk)):Ag P t (.own b) y c bk K:=by
 unfold Ag
 obtain ⟨⟨e',k',yb⟩,h1,h2⟩:=Option.map_eq_some_iff.1 ht
 simp only [Prod.mk.injEq] at h2
 obtain ⟨rfl,rfl,h3⟩:=h2
 rw [h1]
 refine ⟨hk,Nat.le_of_ble_eq_true h3,hz,?_⟩
 rw [show nrm (.own b)=.own b from rfl,hs]
 simp only [hb]
 exact ⟨trivial,trivial,hlen,hK⟩
theorem append_nil (ht:(Cl P t).map (fun q=>(q.1,q.2.1,Nat.ble q.2.2 131072))=some (e,k,true)) (hk:0 < k) (hz:(tyZ P e).map (fun z=>z.2.length)=some k)
  (hs:B61 bk k (nrm y)=some m) (hlen:m.length<=1073741824) (hK:K (.own c) (.row c e k m :: bk)):Ag P t (.val (.slice none 0 0)) y c bk K:=by
 unfold Ag
 obtain ⟨⟨e',k',yb⟩,h1,h2⟩:=Option.map_eq_some_iff.1 ht
 simp only [Prod.mk.injEq] at h2
 obtain ⟨rfl,rfl,h3⟩:=h2
 rw [h1]
 refine ⟨hk,Nat.le_of_ble_eq_true h3,hz,?_⟩
 rw [show nrm (.val (.slice none 0 0))=.val (.slice none 0 0) from rfl,hs]
 exact ⟨hlen,hK⟩
end
section
variable {P : Program} {G : World -> Prop} {α : Type} {encs : α -> List AV} {Sp : List α -> Prop} {Y : YC P G encs Sp} {n : Nat} {y : Ys α} {σ : Ab} {K : Exit -> Ys α -> Ab -> Prop} {c : Code}
end
section
variable {V w0 : World} {m : Fm} {E : Env} {a : Act} {w : World} {fr : List (Nat × AV)} {pre post : List BA} {b : Nat} {cs cs' : List AV}
theorem St.rebox (h:St V w0 m E ⟨fr,pre++.box b cs :: post⟩ a w) (hs:∀ vs:List Value,Ak E (vis V w0 w (Ac E (pre++.box b cs :: post))) vs cs->Ak E (vis V w0 w (Ac E (pre++.box b cs :: post))) vs cs'):St V w0 m E ⟨fr,pre++.box b cs' :: post⟩ a w:=by
 have ho:Ac E (pre++.box b cs' :: post)=Ac E (pre++.box b cs :: post):=by simp [Ao,Ac,BA.owned]
 refine ⟨h.ext,h.low,by rw [ho];exact h.apart,by rw [ho];exact h.base,fun x hx=>?_,fun i=>by rw [ho];exact h.slots i,h.size,h.defers,?_⟩
 ·rw [ho]
  rcases List.mem_append.1 hx with hx | hx
  ·exact h.holds x (List.mem_append_left _ hx)
  ·rcases List.mem_cons.1 hx with rfl | hx
   ·obtain ⟨C,t,h1,h2⟩:=h.holds (.box b cs) (by simp)
    exact ⟨C,t,h1,hs _ h2⟩
   ·exact h.holds x (List.mem_append_right _ (List.mem_cons_of_mem _ hx))
 ·have:=h.hold
  simp only [ho]
  exact this
end
section
variable {P : Program} {G : World -> Prop} {ro : Option Nat} {V w0 : World} {n : Nd} {σ : Ab} {K : Exit -> Ab -> Prop}
end
attribute [local irreducible] AW AWY Bd As vop B4 Ap Aw qop Bc Bs Ai Ag Ay A7 Av
@[go_sem] theorem De8 (l:List Ad):nrm (.iv (stI l))=.iv (stI l):=rfl
@[go_sem] theorem De9 (l:List Ar):nrm (.iv (spI l))=.iv (spI l):=rfl
@[go_sem] theorem De7 (l:List Aq):nrm (.iv (wrI l))=.iv (wrI l):=rfl
theorem Cp (x:Bv):Py x=.agg [.iv (stI x.start),.iv (stI x.end_),.iv (spI x.blur),.iv (wrI x.writes)]:=rfl
theorem Fx (l:List Bv):noI l=.sl 4 (l.map enN):=rfl
theorem Cr (l:List Aq):wrI l=.sl 4 (l.map enW):=rfl
theorem Rp {i e k:Nat} {l:List (List IV)} (h:∀ cs∈l,∀ x∈cs,∃ v,x=.val v):At7 [.row i e k l]:=fun b hb=>by
 rw [List.mem_singleton.1 hb]
 exact ⟨i,e,k,l,rfl,h⟩
theorem Ud (l:List Ad):∀ cs∈l.map Wn,∀ x∈cs,∃ v,x=IV.val v:=fun cs hcs x hx=>by
 obtain ⟨s,_,rfl⟩:=List.mem_map.1 hcs
 simp [Wn] at hx
 rcases hx with rfl | rfl<;>exact ⟨_,rfl⟩
attribute [local go_sem] Fx K7 Fs Cp Ae Af
set_option maxHeartbeats 1600000 in
set_option maxRecDepth 100000 in
theorem An7 (l:Log) (iS:I64 l.sure):A7 Tryz.prog A8 139 [Sj l] (.tup [.any,.val (.bool (C0 l))]) []:=by
 refine A7.ofS (n:=49) (rs:=[.tmp 2,.tmp 3]) Tryz.func139 rfl (by kernel_rfl) Tryz.ntmps139 (by kernel_rfl) (by simp) (fun _ _=>A8.later) ?_
 intro hok V w0
 have hlen:l.notes.length<=1073741824:=by simpa using hok.1.2.1.1
 obtain ⟨B,hB⟩ : ∃ B,C0 l=B:=⟨_,rfl⟩
 rw [hB]
 rw [Ng] at hB
 refine g ?_
 refine AW.seq ?_
 refine AW.reg rfl fun KK hKK=>?_
 refine g ?_
 repeat' (refine hKK _ (g ?_);clear hKK KK)
 refine AW.freeze 200 _ rfl ⟨trivial,trivial,iS,trivial⟩ ?_
 simp only [go_sem,reduceIte]
 refine g ?_
 repeat' refine st_ rfl (g ?_)
 refine bs1 (by omega) rfl rfl rfl ⟨trivial,trivial⟩ ?_
 refine g ?_
 refine A43 (Lv [l.base]) (by trivial) rfl (Rp (Ud _)) (by exact Sbs.rfl_ _) rfl ?_
 refine g ?_
 refine AW.freeze 1000 _ rfl trivial ?_
 simp only [go_sem,reduceIte]
 refine g ?_
 repeat' refine st_ rfl (g ?_)
 refine AW.loop (fun m:{m:Nat // m<=l.notes.length/\Bz (Dl [l.base]) (l.notes.take m)=true}=>⟨[(1,.ip [stI l.base,noI l.notes,.val (.int .i64 l.sure)]),(2,.iv (stI (Ax (Dl [l.base]) (l.notes.take m.1)))),(11,.iv (noI l.notes)),(12,.val (.int .i64 (l.notes.length:Nat))),(13,.val (.int .i64 m.1))],[]⟩) (fun m=>l.notes.length - m.1) ⟨0,Nat.zero_le _,rfl⟩ id (by simp [LeS,go_sem,Ax,stI,noI]) fun ⟨m,hm,ht⟩=>?_
 have hsp:∀ (hlt:m < l.notes.length),l.notes=l.notes.take m++l.notes[m] :: l.notes.drop (m+1):=fun hlt=>by rw [<-List.drop_eq_getElem_cons hlt,List.take_append_drop]
 refine g ?_
 repeat' (first | refine st_ rfl (g ?_) | refine Da (fun h=>g ?_) (fun h=>g ?_))
 ·have hlt:m < l.notes.length:=by simpa using h
  have hs2:Bz (Dl [l.base]) l.notes=((Bl l.notes[m]&&Bo (Ax (Dl [l.base]) (l.notes.take m)) l.notes[m].start)&&Bz (Dl [Ax (Dl [l.base]) (l.notes.take m),l.notes[m].end_]) (l.notes.drop (m+1))):=by
   conv=>lhs;rw [hsp hlt]
   rw [D6,ht,Bool.true_and];rfl
  refine ⟨by omega,_,Dv (List.getElem?_eq_getElem hlt),?_⟩
  refine g ?_
  repeat' (first | refine st_ rfl (g ?_) | refine Bt (g ?_))
  refine Aa (M9 l.notes[m]) rfl ?_
  cases hf:Bl l.notes[m]
  ·refine g ?_
   repeat' refine st_ rfl (g ?_)
   obtain rfl:B=false:=by rw [<-hB,hs2,hf];rfl
   first | exact ⟨.inl trivial,id,Cm,List.nodup_nil⟩ | exact Cm
  refine g ?_
  refine Aa (Vz l.notes[m] _) rfl ?_
  cases hc:Bo (Ax (Dl [l.base]) (l.notes.take m)) l.notes[m].start
  ·refine g ?_
   repeat' refine st_ rfl (g ?_)
   obtain rfl:B=false:=by rw [<-hB,hs2,hf,hc];rfl
   first | exact ⟨.inl trivial,id,Cm,List.nodup_nil⟩ | exact Cm
  refine g ?_
  repeat' refine st_ rfl (g ?_)
  refine bs2 (by omega) rfl rfl rfl ⟨trivial,trivial⟩ rfl rfl rfl ⟨trivial,trivial⟩ ?_
  refine g ?_
  refine A43 (Lv [Ax (Dl [l.base]) (l.notes.take m),l.notes[m].end_]) (by simp [Am8,J8,okA]) rfl (Rp (Ud _)) (by exact Sbs.rfl_ _) rfl ?_
  refine g ?_
  refine AW.freeze 3100 _ rfl trivial ?_
  simp only [go_sem,reduceIte]
  refine g ?_
  repeat' refine st_ rfl (g ?_)
  refine ⟨⟨m+1,hlt,?_⟩,id,?_,?_⟩
  ·rw [List.take_succ_eq_append_getElem hlt,D6,ht,Bool.true_and]
   simp [Bz,hf,hc]
  ·refine ⟨⟨rfl,?_,rfl,rfl,rfl,trivial⟩,trivial,List.nodup_nil⟩
   rw [List.take_succ_eq_append_getElem hlt,K4]
   rfl
  ·simp;omega
 ·have:m=l.notes.length:=by simp at h;omega
  subst this
  refine AW.drawn (ds:=[32,33,34,35,36,37,38,39,40,41,42,43,44,45,46,47,48,2,3]) (fin:=[]) (bs:=[0,0,0,0,0,0,0,0,0,0,0,0,0,0,0,0,0,0,0]) [⟨[],[2],[],[],0⟩,⟨[],[],[],[],0⟩,⟨[(33,1)],[],[],[],0⟩,⟨[(34,2)],[],[],[],0⟩,⟨[(35,3)],[],[],[],0⟩,⟨[],[],[],[],0⟩,⟨[(37,5)],[],[],[],0⟩,⟨[(38,6)],[],[],[],0⟩,⟨[(36,4),(39,7)],[],[],[],0⟩,⟨[(40,8)],[],[],[],0⟩,⟨[],[],[],[],0⟩,⟨[(42,10)],[],[],[],0⟩,⟨[],[],[],[],0⟩,⟨[(44,12)],[],[],[],0⟩,⟨[(45,13)],[],[],[],0⟩,⟨[(43,11),(46,14)],[],[],[],0⟩,⟨[(41,9),(47,15)],[],[],[],0⟩,⟨[(32,0)],[],[],[],0⟩,⟨[(48,16)],[],[],[],0⟩] (by kernel_rfl) rfl (by kernel_rfl) rfl rfl rfl fun KD hKD=>?_
  refine g ?_
  refine Aa (Fo l.base) rfl ?_
  cases hb:B6 l.base
  ·refine g ?_
   repeat' (first | refine st_ rfl (g ?_) | (refine hKD _ _ ⟨rfl,g ?_⟩;clear hKD KD))
   obtain rfl:B=false:=by rw [<-hB,hb,Bool.false_and,Bool.and_false]
   first | exact ⟨.inl trivial,id,Cm,List.nodup_nil⟩ | exact Cm
  rw [List.take_length] at ht
  rw [ht,hb,Bool.true_and,Bool.true_and] at hB
  by_cases h0:0<=l.sure
  ·have d0:decide ((0:Int)<=l.sure)=true:=decide_eq_true h0
   refine g ?_
   simp only [d0]
   refine g ?_
   repeat' (first | refine st_ rfl (g ?_) | (refine hKD _ _ ⟨rfl,g ?_⟩;clear hKD KD))
   obtain rfl:B=decide (l.sure<=(l.notes.length:Nat)):=by rw [<-hB,Uy,d0,Bool.true_and]
   first | exact ⟨.inl trivial,id,Cm,List.nodup_nil⟩ | exact Cm
  ·have d0:decide ((0:Int)<=l.sure)=false:=decide_eq_false h0
   refine g ?_
   simp only [d0]
   refine g ?_
   repeat' (first | refine st_ rfl (g ?_) | (refine hKD _ _ ⟨rfl,g ?_⟩;clear hKD KD))
   obtain rfl:B=false:=by rw [<-hB,Uy,d0,Bool.false_and]
   first | exact ⟨.inl trivial,id,Cm,List.nodup_nil⟩ | exact Cm
theorem Bd5 (l:List Ad):A7 Tryz.prog A8 195 [.iv (stI l)] (.iv (stI l)) []:=(A40 l).frz trivial
theorem Bd6 (l:List Ar):A7 Tryz.prog A8 205 [.iv (spI l)] (.iv (spI l)) []:=(A41 l).frz trivial
end Go.Proofs.YtahgkllhbggmgaaGreatDoor
namespace Go.Proofs.YtahgkllhbggmgaaGreatDoor
open Go.ChangeShapes Go.WideShapes Go.ChangeAt Go.RowKit
attribute [local irreducible] AW AWY Bd As vop B4 Ap Aw qop Bc Bs Ai Ag Ay A7 Av
attribute [local go_sem] Ae Af
def Df6:AV:=.iv (.sl 4 [])
theorem A16:Df6=.iv (.sl 4 []):=rfl
attribute [local go_sem] A16 List.length_nil
end Go.Proofs.YtahgkllhbggmgaaGreatDoor
namespace Go.Proofs.YtahgkllhbggmgaaGreatDoor
open Go.ChangeShapes Go.WideShapes Go.ChangeAt Go.RowKit
attribute [local irreducible] AW AWY Bd As vop B4 Ap Aw qop Bc Bs Ai Ag Ay A7 Av
attribute [local go_sem] Cp Ae Af Cr List.map_nil A16
end Go.Proofs.YtahgkllhbggmgaaGreatDoor
