/- One note for two dull ones of which the second goes on where the first ends (the program's). -/
import Derived.Test.YtahgkllhbggmgaaGreatDoorLTidy
import Derived.Test.YtahgkllhbggmgaaGreatDoorLSortWorld
import Derived.Test.YtahgkllhbggmgaaGreatDoorLBridge
import Derived.Test.YtahgkllhbggmgaaGreatDoorLStreamArgs
set_option linter.all false
set_option linter.unnecessarySimpa false
set_option linter.unusedSimpArgs false
set_option linter.unusedVariables false
namespace Go.Proofs.YtahgkllhbggmgaaGreatDoor
open Go.ChangeShapes Go.WideShapes Go.ChangeAt Go.RowKit
abbrev E48:=Sl D93 1
def E38:Value->Nat
 | .slice _ n _=>n
 | _=>0
def inI (l:List Int):IV:=.sl 1 (l.map fun n=>[.val (.int .i64 n)])
section
variable {P : Program} {t : TypeId} {e k c b : Nat} {l m : List (List IV)} {y : AV} {bk : List BA} {K : AV -> List BA -> Prop}
theorem Nf (hb:C8 b bk=some (.row b e k l)) (ht:(Cq P t).map (fun q=>(q.1,q.2.1,Nat.ble q.2.2 131072))=some (e,k,true)) (hk:0 < k) (hz:(tyZ P e).map (fun z=>z.2.length)=some k)
  (hs:Bh8 bk k (nrm y)=some m) (hlen:l.length+m.length<=1073741824) (hK:K (.own c) (.row c e k (l++m) :: Cg b [] bk)):Ag P t (.own b) y c bk K:=by
 unfold Ag
 obtain ⟨⟨e',k',yb⟩,h1,h2⟩:=Option.map_eq_some_iff.1 ht
 simp only [Prod.mk.injEq] at h2
 obtain ⟨rfl,rfl,h3⟩:=h2
 rw [h1]
 refine ⟨hk,Nat.le_of_ble_eq_true h3,hz,?_⟩
 rw [show nrm (.own b)=.own b from rfl,hs]
 simp only [hb]
 exact ⟨trivial,trivial,hlen,hK⟩
theorem append_nil (ht:(Cq P t).map (fun q=>(q.1,q.2.1,Nat.ble q.2.2 131072))=some (e,k,true)) (hk:0 < k) (hz:(tyZ P e).map (fun z=>z.2.length)=some k)
  (hs:Bh8 bk k (nrm y)=some m) (hlen:m.length<=1073741824) (hK:K (.own c) (.row c e k m :: bk)):Ag P t (.val (.slice none 0 0)) y c bk K:=by
 unfold Ag
 obtain ⟨⟨e',k',yb⟩,h1,h2⟩:=Option.map_eq_some_iff.1 ht
 simp only [Prod.mk.injEq] at h2
 obtain ⟨rfl,rfl,h3⟩:=h2
 rw [h1]
 refine ⟨hk,Nat.le_of_ble_eq_true h3,hz,?_⟩
 rw [show nrm (.val (.slice none 0 0))=.val (.slice none 0 0) from rfl,hs]
 exact ⟨hlen,hK⟩
end
section
variable {P : Program} {G : World -> Prop} {α : Type} {encs : α -> List AV} {Sp : List α -> Prop} {Y : YC P G encs Sp} {n : Nat} {y : Ys α} {σ : Ab} {K : Exit -> Ys α -> Ab -> Prop} {c : Code}
end
section
variable {V w0 : World} {m : Fm} {E : Env} {a : Act} {w : World} {fr : List (Nat × AV)} {pre post : List BA} {b : Nat} {cs cs' : List AV}
end
section
variable {P : Program} {G : World -> Prop} {ro : Option Nat} {V w0 : World} {n : Nd} {σ : Ab} {K : Exit -> Ab -> Prop}
end
section
variable {P : Program} {t : TypeId} {b p : Nat} {bk : List BA} {K : List BA -> Prop}
theorem Rb {cs:List AV} : Aj P t (.bp b p) (.agg cs) bk K=(match tyK P t with
  | some (_,s)=>okC (.agg cs)=true/\cs.length=s/\match C8 b bk with
   | some (.box _ ds)=>p+s<=ds.length/\K (Cg b [.box b (Et ds p cs)] bk)
   | some (.arr _ ds)=>∃ is,toIs cs=some is/\J8 cs/\p+s<=ds.length/\D0 (K (Cg b [.arr b (Et ds p is)] bk))
   | _=>False
  | none=>False):=Ae
theorem Kl {v:Value} : Aj P t (.bp b p) (.val v) bk K=(match tyK P t with
  | some (_,s)=>okC (.val v)=true/\[AV.val v].length=s/\match C8 b bk with
   | some (.box _ ds)=>p+s<=ds.length/\K (Cg b [.box b (Et ds p [.val v])] bk)
   | some (.arr _ ds)=>∃ is,toIs [.val v]=some is/\J8 [.val v]/\p+s<=ds.length/\D0 (K (Cg b [.arr b (Et ds p is)] bk))
   | _=>False
  | none=>False):=Ae
theorem M6 {i:IV} : Aj P t (.bp b p) (.iv i) bk K=(match tyK P t with
  | some (_,s)=>okC (.iv i)=true/\[AV.iv i].length=s/\match C8 b bk with
   | some (.box _ ds)=>p+s<=ds.length/\K (Cg b [.box b (Et ds p [.iv i])] bk)
   | some (.arr _ ds)=>∃ is,toIs [.iv i]=some is/\J8 [.iv i]/\p+s<=ds.length/\D0 (K (Cg b [.arr b (Et ds p is)] bk))
   | _=>False
  | none=>False):=Ae
theorem Km {r:Nat} : Aj P t (.bp b p) (.own r) bk K=(match tyK P t with
  | some (_,s)=>okC (.own r)=true/\[AV.own r].length=s/\match C8 b bk with
   | some (.box _ ds)=>p+s<=ds.length/\K (Cg b [.box b (Et ds p [.own r])] bk)
   | some (.arr _ ds)=>∃ is,toIs [.own r]=some is/\J8 [.own r]/\p+s<=ds.length/\D0 (K (Cg b [.arr b (Et ds p is)] bk))
   | _=>False
  | none=>False):=Ae
end
section
variable {P : Program} {G : World -> Prop} {ro : Option Nat} {V w0 : World} {n : Nd} {σ : Ab} {K : Exit -> Ab -> Prop}
end
section
variable {P : Program} {G : World -> Prop} {ops rest : List Oper} {KK : Ab -> Prop} {σ : Ab} {d : Option Tmp} {op : Op} {ty : TypeId} {pos : String} {after : Array Edge} {j : Nat} {g : Bool} {A B X p : Prop} [Decidable p]
variable {ds : List Nat} {fr0 : List (Nat × AV)} {toks : List BA} {rs : List AV} {KD : List BA -> List AV -> Prop} {hs : List F7}
theorem Al (h1:p->A) (h2:¬ p->B):L8 (.val (.bool (decide p))) A B:=De (fun h=>h1 (of_decide_eq_true h)) (fun h=>h2 (of_decide_eq_false h))
theorem B8 (_:X=Be P G ops (⟨d,op,ty,pos,after,some (j,g)⟩ :: rest) σ KK) (_:Hz ops σ.fr j=.val (.bool (decide p))) (h1:p->decide p=true->X) (h2:¬ p->decide p=false->X):X:=by
 by_cases h:p
 ·exact h1 h (decide_eq_true h)
 ·exact h2 h (decide_eq_false h)
theorem Lz (_:X=Aq P G ds fr0 (⟨d,op,ty,pos,after,some (j,g)⟩ :: rest) hs toks rs KD) (_:nrm (rs.getD j .any)=.val (.bool (decide p))) (h1:p->decide p=true->X) (h2:¬ p->decide p=false->X):X:=by
 by_cases h:p
 ·exact h1 h (decide_eq_true h)
 ·exact h2 h (decide_eq_false h)
theorem ix_ {α:Type} {l:List α} {f:α->List IV} {i:Nat} {K:List IV->Prop} (h:i < l.length) (hk:K (f l[i])):0<=(i:Int)/\∃ cs,(l.map f)[i]? = some cs/\D0 (K cs):=⟨by omega,_,Dl (List.getElem?_eq_getElem h),B9 hk⟩
end
attribute [go_sem] true_or exists_const List.nodup_nil AV.val.injEq Value.bool.injEq Value.int.injEq and_self
attribute [local irreducible] AW AWY Be As vop Az Aq Ax qop Bd Bv Aj Ag Ay A7 Aw
@[go_sem] theorem Dt6 (l:List Ad):nrm (.iv (stI l))=.iv (stI l):=rfl
@[go_sem] theorem Dt7 (l:List Ah):nrm (.iv (spI l))=.iv (spI l):=rfl
@[go_sem] theorem Dt5 (l:List Ar):nrm (.iv (wrI l))=.iv (wrI l):=rfl
theorem Cf (x:Bz):Qz x=.agg [.iv (stI x.start),.iv (stI x.end_),.iv (spI x.blur),.iv (wrI x.writes)]:=rfl
theorem Ge (l:List Bz):noI l=.sl 4 (l.map enN):=rfl
theorem Ch (l:List Ar):wrI l=.sl 4 (l.map enW):=rfl
theorem Sy {i e k:Nat} {l:List (List IV)} (h:∀ cs∈l,∀ x∈cs,∃ v,x=.val v):B38 [.row i e k l]:=fun b hb=>by
 rw [List.mem_singleton.1 hb]
 exact ⟨i,e,k,l,rfl,h⟩
theorem W9 (l:List Ad):∀ cs∈l.map Yd,∀ x∈cs,∃ v,x=IV.val v:=fun cs hcs x hx=>by
 obtain ⟨s,_,rfl⟩:=List.mem_map.1 hcs
 simp [Yd] at hx
 rcases hx with rfl | rfl<;>exact ⟨_,rfl⟩
attribute [local go_sem] Ge L5 G9 Cf Ae Af
set_option maxHeartbeats 1600000 in
set_option maxRecDepth 100000 in
theorem Aw6 (l:Log) (iS:I64 l.sure):A7 Tryz.prog A8 139 [Xz l] (.tup [.any,.val (.bool (C6 l))]) []:=by
 refine A7.ofS (n:=49) (rs:=[.tmp 2,.tmp 3]) Tryz.func139 rfl (by kernel_rfl) Tryz.ntmps139 (by kernel_rfl) (by simp) (fun _ _=>A8.later) ?_
 intro hok V w0
 have hlen:l.notes.length<=1073741824:=by simpa using hok.1.2.1.1
 obtain ⟨B,hB⟩ : ∃ B,C6 l=B:=⟨_,rfl⟩
 rw [hB]
 rw [Ph] at hB
 refine g ?_
 refine AW.seq ?_
 refine AW.reg rfl fun KK hKK=>?_
 refine g ?_
 repeat' (refine hKK _ (g ?_);clear hKK KK)
 refine AW.freeze 200 _ rfl ⟨trivial,trivial,iS,trivial⟩ ?_
 simp only [go_sem,reduceIte]
 refine g ?_
 repeat' refine st_ rfl (g ?_)
 refine bs1 (by omega) rfl rfl rfl ⟨trivial,trivial⟩ ?_
 refine g ?_
 refine Yt (Mp [l.base]) (by trivial) rfl (Sy (W9 _)) (by exact Sbs.rfl_ _) rfl ?_
 refine g ?_
 refine AW.freeze 1000 _ rfl trivial ?_
 simp only [go_sem,reduceIte]
 refine g ?_
 repeat' refine st_ rfl (g ?_)
 refine AW.loop (fun m:{m:Nat // m<=l.notes.length/\C5 (Dw [l.base]) (l.notes.take m)=true}=>⟨[(1,.ip [stI l.base,noI l.notes,.val (.int .i64 l.sure)]),(2,.iv (stI (B4 (Dw [l.base]) (l.notes.take m.1)))),(11,.iv (noI l.notes)),(12,.val (.int .i64 (l.notes.length:Nat))),(13,.val (.int .i64 m.1))],[]⟩) (fun m=>l.notes.length - m.1) ⟨0,Nat.zero_le _,rfl⟩ id (by simp [LeS,go_sem,B4,stI,noI]) fun ⟨m,hm,ht⟩=>?_
 have hsp:∀ (hlt:m < l.notes.length),l.notes=l.notes.take m++l.notes[m] :: l.notes.drop (m+1):=fun hlt=>by rw [<-List.drop_eq_getElem_cons hlt,List.take_append_drop]
 refine g ?_
 repeat' (first | refine st_ rfl (g ?_) | refine De (fun h=>g ?_) (fun h=>g ?_))
 ·have hlt:m < l.notes.length:=by simpa using h
  have hs2:C5 (Dw [l.base]) l.notes=((Bt l.notes[m]&&Bi (B4 (Dw [l.base]) (l.notes.take m)) l.notes[m].start)&&C5 (Dw [B4 (Dw [l.base]) (l.notes.take m),l.notes[m].end_]) (l.notes.drop (m+1))):=by
   conv=>lhs;rw [hsp hlt]
   rw [Dg,ht,Bool.true_and];rfl
  refine ⟨by omega,_,Dl (List.getElem?_eq_getElem hlt),?_⟩
  refine g ?_
  repeat' (first | refine st_ rfl (g ?_) | refine B9 (g ?_))
  refine Aa (N1 l.notes[m]) rfl ?_
  cases hf:Bt l.notes[m]
  ·refine g ?_
   repeat' refine st_ rfl (g ?_)
   obtain rfl:B=false:=by rw [<-hB,hs2,hf];rfl
   first | exact ⟨.inl trivial,id,Cx,List.nodup_nil⟩ | exact Cx
  refine g ?_
  refine Aa (Xw l.notes[m] _) rfl ?_
  cases hc:Bi (B4 (Dw [l.base]) (l.notes.take m)) l.notes[m].start
  ·refine g ?_
   repeat' refine st_ rfl (g ?_)
   obtain rfl:B=false:=by rw [<-hB,hs2,hf,hc];rfl
   first | exact ⟨.inl trivial,id,Cx,List.nodup_nil⟩ | exact Cx
  refine g ?_
  repeat' refine st_ rfl (g ?_)
  refine bs2 (by omega) rfl rfl rfl ⟨trivial,trivial⟩ rfl rfl rfl ⟨trivial,trivial⟩ ?_
  refine g ?_
  refine Yt (Mp [B4 (Dw [l.base]) (l.notes.take m),l.notes[m].end_]) (by simp [Aj9,J8,okA]) rfl (Sy (W9 _)) (by exact Sbs.rfl_ _) rfl ?_
  refine g ?_
  refine AW.freeze 3100 _ rfl trivial ?_
  simp only [go_sem,reduceIte]
  refine g ?_
  repeat' refine st_ rfl (g ?_)
  refine ⟨⟨m+1,hlt,?_⟩,id,?_,?_⟩
  ·rw [List.take_succ_eq_append_getElem hlt,Dg,ht,Bool.true_and]
   simp [C5,hf,hc]
  ·refine ⟨⟨rfl,?_,rfl,rfl,rfl,trivial⟩,trivial,List.nodup_nil⟩
   rw [List.take_succ_eq_append_getElem hlt,Kx]
   rfl
  ·simp;omega
 ·have:m=l.notes.length:=by simp at h;omega
  subst this
  refine AW.drawn (ds:=[32,33,34,35,36,37,38,39,40,41,42,43,44,45,46,47,48,2,3]) (fin:=[]) (bs:=[0,0,0,0,0,0,0,0,0,0,0,0,0,0,0,0,0,0,0]) [⟨[],[2],[],[],0⟩,⟨[],[],[],[],0⟩,⟨[(33,1)],[],[],[],0⟩,⟨[(34,2)],[],[],[],0⟩,⟨[(35,3)],[],[],[],0⟩,⟨[],[],[],[],0⟩,⟨[(37,5)],[],[],[],0⟩,⟨[(38,6)],[],[],[],0⟩,⟨[(36,4),(39,7)],[],[],[],0⟩,⟨[(40,8)],[],[],[],0⟩,⟨[],[],[],[],0⟩,⟨[(42,10)],[],[],[],0⟩,⟨[],[],[],[],0⟩,⟨[(44,12)],[],[],[],0⟩,⟨[(45,13)],[],[],[],0⟩,⟨[(43,11),(46,14)],[],[],[],0⟩,⟨[(41,9),(47,15)],[],[],[],0⟩,⟨[(32,0)],[],[],[],0⟩,⟨[(48,16)],[],[],[],0⟩] (by kernel_rfl) rfl (by kernel_rfl) rfl rfl rfl fun KD hKD=>?_
  refine g ?_
  refine Aa (G6 l.base) rfl ?_
  cases hb:B7 l.base
  ·refine g ?_
   repeat' (first | refine st_ rfl (g ?_) | (refine hKD _ _ ⟨rfl,g ?_⟩;clear hKD KD))
   obtain rfl:B=false:=by rw [<-hB,hb,Bool.false_and,Bool.and_false]
   first | exact ⟨.inl trivial,id,Cx,List.nodup_nil⟩ | exact Cx
  rw [List.take_length] at ht
  rw [ht,hb,Bool.true_and,Bool.true_and] at hB
  by_cases h0:0<=l.sure
  ·have d0:decide ((0:Int)<=l.sure)=true:=decide_eq_true h0
   refine g ?_
   simp only [d0]
   refine g ?_
   repeat' (first | refine st_ rfl (g ?_) | (refine hKD _ _ ⟨rfl,g ?_⟩;clear hKD KD))
   obtain rfl:B=decide (l.sure<=(l.notes.length:Nat)):=by rw [<-hB,Ww,d0,Bool.true_and]
   first | exact ⟨.inl trivial,id,Cx,List.nodup_nil⟩ | exact Cx
  ·have d0:decide ((0:Int)<=l.sure)=false:=decide_eq_false h0
   refine g ?_
   simp only [d0]
   refine g ?_
   repeat' (first | refine st_ rfl (g ?_) | (refine hKD _ _ ⟨rfl,g ?_⟩;clear hKD KD))
   obtain rfl:B=false:=by rw [<-hB,Ww,d0,Bool.false_and]
   first | exact ⟨.inl trivial,id,Cx,List.nodup_nil⟩ | exact Cx
theorem Bp8 (l:List Ad):A7 Tryz.prog A8 195 [.iv (stI l)] (.iv (stI l)) []:=(Aa6 l).frz trivial
theorem Bp9 (l:List Ah):A7 Tryz.prog A8 205 [.iv (spI l)] (.iv (spI l)) []:=(Aa7 l).frz trivial
end Go.Proofs.YtahgkllhbggmgaaGreatDoor
namespace Go.Proofs.YtahgkllhbggmgaaGreatDoor
open Go.ChangeShapes Go.WideShapes Go.ChangeAt Go.RowKit
attribute [local irreducible] AW AWY Be As vop Az Aq Ax qop Bd Bv Aj Ag Ay A7 Aw
attribute [local go_sem] Ge L5 Cf Ae Af
theorem A60 (l:List Ad):A7 Tryz.prog A8 165 [.iv (stI l)] (.iv (stI l)) []:=(Ag3 l).frz trivial
theorem Ag7 (x:Bz):A7 Tryz.prog A8 356 [Qz x,Qz x] (.val (.bool true)) [] :=
 Bu Tryz.func356 rfl (by kernel_rfl) fun V w E vs hV hG hr=>by
  obtain ⟨v0,v1,rfl,h0,h1⟩:=Lo hr
  obtain ⟨n0,n1,n2,n3,rfl,H0⟩:=Ma hV h0
  obtain ⟨m0,m1,m2,m3,rfl,H1⟩:=Ma hV h1
  exact A67 x _ _ _ _ _ _ _ _ w H0 H1
theorem A07 (l:List Bz):A7 Tryz.prog A8 275 [.iv (noI l),.iv (noI l)] (.val (.bool true)) []:=by
 refine A7.of (n:=27) (rs:=[.tmp 4]) Tryz.func275 rfl (by kernel_rfl) Tryz.ntmps275 (by kernel_rfl) (by simp) (fun _ _=>A8.later) ?_
 intro hok V w0
 have hlen:l.length<=1073741824:=by simpa using hok.1.1
 refine g ?_
 refine g ?_
 repeat' refine st_ rfl (g ?_)
 refine AW.loop (fun m:{m:Nat // m<=l.length}=>⟨[(0,.iv (noI l)),(1,.iv (noI l)),(5,.val (.int .i64 (m.1:Nat)))],[]⟩) (fun m=>l.length - m.1) ⟨0,Nat.zero_le _⟩ id ⟨⟨rfl,rfl,rfl,trivial⟩,trivial,List.nodup_nil⟩ fun ⟨m,hm⟩=>?_
 refine g ?_
 repeat' (first | refine st_ rfl (g ?_) | refine De (fun h=>g ?_) (fun h=>g ?_))
 ·have hlt:m < l.length:=by simpa using h
  refine AW.drawn (ds:=[17,18,19,20,21,22,23,24,25,26]) (fin:=[]) (bs:=[0,0,0,0,0,0,0,0,0,0]) [⟨[],[],[],[],0⟩,⟨[],[],[],[],0⟩,⟨[(17,0),(18,1)],[],[],[],0⟩,⟨[(19,2)],[],[],[],0⟩,⟨[],[],[],[],0⟩,⟨[],[],[],[],0⟩,⟨[(21,4),(22,5)],[],[],[],0⟩,⟨[(23,6)],[],[],[],0⟩,⟨[(20,3),(24,7)],[],[],[],0⟩,⟨[(25,8)],[],[],[],0⟩] (by kernel_rfl) rfl (by kernel_rfl) rfl rfl rfl fun KD hKD=>?_
  refine g ?_
  refine ⟨by omega,_,Dl (List.getElem?_eq_getElem hlt),?_⟩
  refine g ?_
  repeat' refine B9 (g ?_)
  refine ⟨by omega,_,Dl (List.getElem?_eq_getElem hlt),?_⟩
  refine g ?_
  repeat' refine B9 (g ?_)
  refine Aa (Ag7 l[m]) rfl ?_
  refine g ?_
  repeat' (refine hKD _ _ ⟨rfl,g ?_⟩;clear hKD KD)
  refine g ?_
  repeat' refine st_ rfl (g ?_)
  exact ⟨⟨m+1,hlt⟩,id,⟨⟨rfl,rfl,rfl,trivial⟩,trivial,List.nodup_nil⟩,by show l.length - (m+1) < l.length - m;omega⟩
 ·first | exact trivial | exact ⟨.inl trivial,id,List.nodup_nil⟩ | rfl
end Go.Proofs.YtahgkllhbggmgaaGreatDoor
namespace Go.Proofs.YtahgkllhbggmgaaGreatDoor
open Go.ChangeShapes Go.WideShapes Go.ChangeAt Go.RowKit
section
attribute [local irreducible] G2
theorem Fh (f:Nat->Bool):(Du f).length=256:=by unfold Du;rw [List.length_map,Array.length_toList,Lg]
theorem K7 {f:Nat->Bool} {o:Nat} (h:o < 256):(Du f)[o]? = some (.val (.bool (f o))):=by
 unfold Du setRow
 rw [List.getElem?_map,Array.getElem?_toList,Dv h];rfl
end
attribute [local irreducible] Du Az4
theorem Mv {f g:Nat->Bool} (h:∀ o,o < 256->f o=g o):Du f=Du g:=List.ext_getElem? fun o=>by
 by_cases ho:o < 256
 ·rw [K7 ho,K7 ho,h o ho]
 ·rw [List.getElem?_eq_none (by rw [Fh];omega),List.getElem?_eq_none (by rw [Fh];omega)]
theorem Ae7 {P:Program} {t q s b:Nat} {cells C:List IV} {bk:List BA} {K:List BA->Prop} (ht:tyK P t=some (q,s)) (hs:C.length=s) (hb:C8 b bk=some (.arr b cells)) (hl:cells.length=s) (hK:K (Cg b [.arr b C] bk)):Aj P t (.bp b 0) (.aggI C) bk K:=by
 rw [Ae,ht]
 refine ⟨rfl,by rw [Pu,List.length_map];exact hs,?_⟩
 rw [hb]
 refine ⟨C,by rw [Pu,Ad7],by rw [Pu];exact Ak0 C,by omega,?_⟩
 rw [B74 (by omega)]
 exact B9 hK
attribute [local irreducible] AW AWY Be As vop Az Aq Ax qop Bd Bv Aj Ag Ay A7 Aw
attribute [local go_sem] Ch Dz Cf Rb Kl M6 Km
def Dx1 (x:Bz) (it:List Ah) (m:Nat) (o:Nat):Bool:=Ba x.blur o || (B07 it (x.writes.take m)).any fun p=>decide (p=(o:Int))
theorem Cx9 (f:Nat->Bool):A7 Tryz.prog A8 194 [.aggI (Du f)] (.iv (spI (Gb f))) []:=(B79 f).frz trivial
end Go.Proofs.YtahgkllhbggmgaaGreatDoor
namespace Go.Proofs.YtahgkllhbggmgaaGreatDoor
open Go.ChangeShapes Go.WideShapes Go.ChangeAt Go.RowKit
attribute [local irreducible] AW AWY Be As vop Az Aq Ax qop Bd Bv Aj Ag Ay A7 Aw
attribute [local go_sem] Ae Af
def Du4:AV:=.iv (.sl 4 [])
theorem A80:Du4=.iv (.sl 4 []):=rfl
attribute [local go_sem] A80 List.length_nil
end Go.Proofs.YtahgkllhbggmgaaGreatDoor
namespace Go.Proofs.YtahgkllhbggmgaaGreatDoor
open Go.ChangeShapes Go.WideShapes Go.ChangeAt Go.RowKit
attribute [local irreducible] AW AWY Be As vop Az Aq Ax qop Bd Bv Aj Ag Ay A7 Aw
attribute [local go_sem] Cf Ae Af Ch List.map_nil A80
end Go.Proofs.YtahgkllhbggmgaaGreatDoor
