/- Logs: told one by one. -/
import Derived.Test.YthlgnjlpakimaaaGreatDoorQAbsNil
import Derived.Test.YthlgnjlpakimaaaGreatDoorQEnc
import Derived.Test.YthlgnjlpakimaaaGreatDoorQStreamSpec
import Derived.Test.YthlgnjlpakimaaaGreatDoorQBridge
set_option linter.all false
set_option linter.unnecessarySimpa false
set_option linter.unusedSimpArgs false
set_option linter.unusedVariables false
namespace Go.Proofs.YthlgnjlpakimaaaGreatDoor
open Go.ChangeShapes Go.WideShapes Go.ChangeAt Go.RowKit
def E42 (w:World) (B:Nat) (cs:List Value) (l:Log):Prop:=∃ v0 v1,cs=[v0,v1,.int .i64 l.sure]/\Co w B v0 l.base/\A17 w B v1 l.notes/\I64 l.sure
theorem W8 {w:World} : Hv Tryz.prog w 62 3 (E42 w w.heap.size):=by
 intro H enc fuel cs x h
 obtain ⟨hl,n,hf⟩:=Dj Tryz.underlying62 h
 have hk:Tryz.prog.cellsOf 62=3:=by kernel_rfl
 have hs:Tryz.prog.cellsOf 25=1:=by kernel_rfl
 have hn:Tryz.prog.cellsOf 60=1:=by kernel_rfl
 have hi:Tryz.prog.cellsOf 3=1:=by kernel_rfl
 rw [hk] at hl
 refine ⟨hl,?_⟩
 match cs,hl with
 | [v0,v1,v2],_ =>
  obtain ⟨y0,h0⟩:=hf 0 25 0 1 rfl hs
  obtain ⟨y1,h1⟩:=hf 1 60 1 1 rfl hn
  obtain ⟨y2,h2⟩:=hf 2 3 2 1 rfl hi
  obtain ⟨_,a,_,e0,s0⟩:=M9 (w:=w) H enc n _ _ h0
  obtain ⟨_,b,_,e1,s1⟩:=B91 (w:=w) H enc n _ _ h1
  obtain ⟨_,c,e2,i2⟩:=Dw (w:=w) Tryz.underlying3 H enc n _ _ h2
  simp at e0 e1 e2
  subst e0 e1 e2
  exact ⟨⟨a,b,c⟩,_,_,rfl,s0,s1,i2⟩
structure Ask where
 at_:Int
 most:Int
def E44 (cs:List Value) (a:Ask):Prop:=cs=[.int .i64 a.at_,.int .i64 a.most]/\I64 a.at_/\I64 a.most
theorem By9 {w:World} : Hv Tryz.prog w 64 2 E44:=by
 intro H enc fuel cs x h
 obtain ⟨hl,n,hf⟩:=Dj Tryz.underlying64 h
 have hk:Tryz.prog.cellsOf 64=2:=by kernel_rfl
 have hi:Tryz.prog.cellsOf 3=1:=by kernel_rfl
 rw [hk] at hl
 refine ⟨hl,?_⟩
 match cs,hl with
 | [v0,v1],_ =>
  obtain ⟨y0,h0⟩:=hf 0 3 0 1 rfl hi
  obtain ⟨y1,h1⟩:=hf 1 3 1 1 rfl hi
  obtain ⟨_,a,e0,i0⟩:=Dw (w:=w) Tryz.underlying3 H enc n _ _ h0
  obtain ⟨_,b,e1,i1⟩:=Dw (w:=w) Tryz.underlying3 H enc n _ _ h1
  simp at e0 e1
  subst e0 e1
  exact ⟨⟨a,b⟩,rfl,i0,i1⟩
def To (l:Log):AV:=.agg [.iv (stI l.base),.iv (noI l.notes),.val (.int .i64 l.sure)]
theorem Jq (l:Log):To l=.agg [.iv (stI l.base),.iv (noI l.notes),.val (.int .i64 l.sure)]:=rfl
theorem Cn7 {X:World} {cs:List Value} {x:At} (h:Bt8 X X.heap.size cs x):Ba X cs (enN x):=by
 obtain ⟨v0,v1,v2,v3,rfl,h⟩:=h
 exact ⟨Li h.start (Nat.le_refl _),Li h.end_ (Nat.le_refl _),Mx h.blur (Nat.le_refl _),Xk h.writes (Nat.le_refl _),trivial⟩
theorem Bz6 {X:World} {v:Value} {l:List At} (h:A17 X X.heap.size v l):Da X v (noI l):=Da.of_typed (fun _ _ h=>Cn7 h) h (Nat.le_refl _)
theorem Ac5 {E:Env} {X:World} {v0 v1:Value} {l:Log} (h0:Co X X.heap.size v0 l.base) (h1:A17 X X.heap.size v1 l.notes):Bp E X (.agg #[v0,v1,.int .i64 l.sure]) (To l) :=
 .agg rfl fun j v c a b=>by
  match j,a,b with
  | 0,a,b=>simp at a b;subst a b;exact .iv (Li h0 (Nat.le_refl _))
  | 1,a,b=>simp at a b;subst a b;exact .iv (Bz6 h1)
  | 2,a,b=>simp at a b;subst a b;exact .val
  | j+3,a,b=>simp at a
theorem Cm0 {E:Env} {X:World} {a:Ask} : Bp E X (.agg #[.int .i64 a.at_,.int .i64 a.most]) (.agg [.val (.int .i64 a.at_),.val (.int .i64 a.most)]) :=
 .agg rfl fun j v c e1 e2=>by
  match j,e1,e2 with
  | 0,a,b=>simp at a b;subst a b;exact .val
  | 1,a,b=>simp at a b;subst a b;exact .val
  | j+2,a,b=>simp at a
theorem A7.law {P:Program} {G:World->Prop} {f:FuncId} {args:List AV} {r:Value} (h:A7 P G f args (.val r) []) {W:World} {vs:Array Value} (hG:G W) (hr:Au ⟨fun _=>0,fun _=>undef⟩ W vs.toList args) :
  Calls P f vs W fun e w'=>e=.returned r/\Below W.heap.size W w' :=
 (h.2 W W _ vs (Ext.refl W) hG hr).mono fun _ _ ⟨v,E',h1,h2,_,_,_,h6⟩=>by
  cases h6
  exact ⟨h1,h2⟩
attribute [local irreducible] AW AWY Cd Bk vop C5 Bl Bz qop Cj Cv B4 Aw C4 A7 Bq
@[go_sem] theorem E08 (l:List Ab):nrm (.iv (stI l))=.iv (stI l):=rfl
@[go_sem] theorem E09 (l:List Ad):nrm (.iv (spI l))=.iv (spI l):=rfl
@[go_sem] theorem E07 (l:List Ai):nrm (.iv (wrI l))=.iv (wrI l):=rfl
theorem Ce (x:At):Ev x=.agg [.iv (stI x.start),.iv (stI x.end_),.iv (spI x.blur),.iv (wrI x.writes)]:=rfl
theorem Kt (l:List At):noI l=.sl 4 (l.map enN):=rfl
theorem Eh (l:List Ai):wrI l=.sl 4 (l.map enW):=rfl
theorem Qt {i e k:Nat} {l:List (List IV)} (h:∀ cs∈l,∀ x∈cs,∃ v,x=.val v):Bs6 [.row i e k l]:=fun b hb=>by
 rw [List.mem_singleton.1 hb]
 exact ⟨i,e,k,l,rfl,h⟩
theorem Az5 (l:List Ab):∀ cs∈l.map Yf,∀ x∈cs,∃ v,x=IV.val v:=fun cs hcs x hx=>by
 obtain ⟨s,_,rfl⟩:=List.mem_map.1 hcs
 simp [Yf] at hx
 rcases hx with rfl | rfl<;>exact ⟨_,rfl⟩
theorem Az6 (l:List Ad):∀ cs∈l.map P9,∀ x∈cs,∃ v,x=IV.val v:=fun cs hcs x hx=>by
 obtain ⟨s,_,rfl⟩:=List.mem_map.1 hcs
 simp [P9] at hx
 rcases hx with rfl | rfl<;>exact ⟨_,rfl⟩
attribute [local go_sem] Kt Mk Jq Ce Ao As
set_option maxHeartbeats 1600000 in
set_option maxRecDepth 100000 in
theorem Bm8 (l:Log) (iS:I64 l.sure):A7 Tryz.prog A8 148 [To l] (.tup [.any,.val (.bool (Bh l))]) []:=by
 refine A7.ofS (n:=49) (rs:=[.tmp 2,.tmp 3]) Tryz.func148 rfl (by kernel_rfl) Tryz.ntmps148 (by kernel_rfl) (by simp) (fun _ _=>A8.later) ?_
 intro hok V w0
 have hlen:l.notes.length<=1073741824:=by simpa using hok.1.2.1.1
 obtain ⟨B,hB⟩ : ∃ B,Bh l=B:=⟨_,rfl⟩
 rw [hB]
 rw [Aj0] at hB
 refine g ?_
 refine AW.seq ?_
 refine AW.reg rfl fun KK hKK=>?_
 refine g ?_
 repeat' (refine hKK _ (g ?_);clear hKK KK)
 refine AW.freeze 200 _ rfl ⟨trivial,trivial,iS,trivial⟩ ?_
 simp only [go_sem,reduceIte]
 refine g ?_
 repeat' refine st_ rfl (g ?_)
 refine bs1 (by omega) rfl rfl rfl ⟨trivial,trivial⟩ ?_
 refine g ?_
 refine Pb (Sy [l.base]) (by trivial) rfl (Qt (Az5 _)) (by exact Sbs.rfl_ _) rfl ?_
 refine g ?_
 refine AW.freeze 1000 _ rfl trivial ?_
 simp only [go_sem,reduceIte]
 refine g ?_
 repeat' refine st_ rfl (g ?_)
 refine AW.loop (fun m:{m:Nat // m<=l.notes.length/\Cl (E4 [l.base]) (l.notes.take m)=true}=>⟨[(1,.ip [stI l.base,noI l.notes,.val (.int .i64 l.sure)]),(2,.iv (stI (Dx (E4 [l.base]) (l.notes.take m.1)))),(11,.iv (noI l.notes)),(12,.val (.int .i64 (l.notes.length:Nat))),(13,.val (.int .i64 m.1))],[]⟩) (fun m=>l.notes.length - m.1) ⟨0,Nat.zero_le _,rfl⟩ id (by simp [LeS,go_sem,Dx,stI,noI]) fun ⟨m,hm,ht⟩=>?_
 have hsp:∀ (hlt:m < l.notes.length),l.notes=l.notes.take m++l.notes[m] :: l.notes.drop (m+1):=fun hlt=>by rw [<-List.drop_eq_getElem_cons hlt,List.take_append_drop]
 refine g ?_
 repeat' (first | refine st_ rfl (g ?_) | refine C3 (fun h=>g ?_) (fun h=>g ?_))
 ·have hlt:m < l.notes.length:=by simpa using h
  have hs2:Cl (E4 [l.base]) l.notes=((Ae l.notes[m]&&Ay (Dx (E4 [l.base]) (l.notes.take m)) l.notes[m].start)&&Cl (E4 [Dx (E4 [l.base]) (l.notes.take m),l.notes[m].end_]) (l.notes.drop (m+1))):=by
   conv=>lhs;rw [hsp hlt]
   rw [Ee,ht,Bool.true_and];rfl
  refine ⟨by omega,_,C0 (List.getElem?_eq_getElem hlt),?_⟩
  refine g ?_
  repeat' (first | refine st_ rfl (g ?_) | refine Ag (g ?_))
  refine A9 (Mc l.notes[m]) rfl ?_
  cases hf:Ae l.notes[m]
  ·refine g ?_
   repeat' refine st_ rfl (g ?_)
   obtain rfl:B=false:=by rw [<-hB,hs2,hf];rfl
   exact ⟨.inl trivial,id,Ui,List.nodup_nil⟩
  refine g ?_
  refine A9 (Ai2 l.notes[m] _) rfl ?_
  cases hc:Ay (Dx (E4 [l.base]) (l.notes.take m)) l.notes[m].start
  ·refine g ?_
   repeat' refine st_ rfl (g ?_)
   obtain rfl:B=false:=by rw [<-hB,hs2,hf,hc];rfl
   exact ⟨.inl trivial,id,Ui,List.nodup_nil⟩
  refine g ?_
  repeat' refine st_ rfl (g ?_)
  refine bs2 (by omega) rfl rfl rfl ⟨trivial,trivial⟩ rfl rfl rfl ⟨trivial,trivial⟩ ?_
  refine g ?_
  refine Pb (Sy [Dx (E4 [l.base]) (l.notes.take m),l.notes[m].end_]) (by simp [Wn,J3,okA]) rfl (Qt (Az5 _)) (by exact Sbs.rfl_ _) rfl ?_
  refine g ?_
  refine AW.freeze 3100 _ rfl trivial ?_
  simp only [go_sem,reduceIte]
  refine g ?_
  repeat' refine st_ rfl (g ?_)
  refine ⟨⟨m+1,hlt,?_⟩,id,?_,?_⟩
  ·rw [List.take_succ_eq_append_getElem hlt,Ee,ht,Bool.true_and]
   simp [Cl,hf,hc]
  ·refine ⟨⟨rfl,?_,rfl,rfl,rfl,trivial⟩,trivial,List.nodup_nil⟩
   rw [List.take_succ_eq_append_getElem hlt,Vb]
   rfl
  ·simp;omega
 ·have:m=l.notes.length:=by simp at h;omega
  subst this
  refine AW.drawn (ds:=[32,33,34,35,36,37,38,39,40,41,42,43,44,45,46,47,48,2,3]) (fin:=[]) (bs:=[0,0,0,0,0,0,0,0,0,0,0,0,0,0,0,0,0,0,0]) [⟨[],[2],[],[],0⟩,⟨[],[],[],[],0⟩,⟨[(33,1)],[],[],[],0⟩,⟨[(34,2)],[],[],[],0⟩,⟨[(35,3)],[],[],[],0⟩,⟨[],[],[],[],0⟩,⟨[(37,5)],[],[],[],0⟩,⟨[(38,6)],[],[],[],0⟩,⟨[(36,4),(39,7)],[],[],[],0⟩,⟨[(40,8)],[],[],[],0⟩,⟨[],[],[],[],0⟩,⟨[(42,10)],[],[],[],0⟩,⟨[],[],[],[],0⟩,⟨[(44,12)],[],[],[],0⟩,⟨[(45,13)],[],[],[],0⟩,⟨[(43,11),(46,14)],[],[],[],0⟩,⟨[(41,9),(47,15)],[],[],[],0⟩,⟨[(32,0)],[],[],[],0⟩,⟨[(48,16)],[],[],[],0⟩] (by kernel_rfl) rfl (by kernel_rfl) rfl rfl rfl fun KD hKD=>?_
  refine g ?_
  refine A9 (Ke l.base) rfl ?_
  cases hb:Ak l.base
  ·refine g ?_
   repeat' (first | refine st_ rfl (g ?_) | (refine hKD _ _ ⟨rfl,g ?_⟩;clear hKD KD))
   obtain rfl:B=false:=by rw [<-hB,hb,Bool.false_and,Bool.and_false]
   exact ⟨.inl trivial,id,Ui,List.nodup_nil⟩
  rw [List.take_length] at ht
  rw [ht,hb,Bool.true_and,Bool.true_and] at hB
  by_cases h0:0<=l.sure
  ·have d0:decide ((0:Int)<=l.sure)=true:=decide_eq_true h0
   refine g ?_
   simp only [d0]
   refine g ?_
   repeat' (first | refine st_ rfl (g ?_) | (refine hKD _ _ ⟨rfl,g ?_⟩;clear hKD KD))
   obtain rfl:B=decide (l.sure<=(l.notes.length:Nat)):=by rw [<-hB,U9,d0,Bool.true_and]
   exact ⟨.inl trivial,id,Ui,List.nodup_nil⟩
  ·have d0:decide ((0:Int)<=l.sure)=false:=decide_eq_false h0
   refine g ?_
   simp only [d0]
   refine g ?_
   repeat' (first | refine st_ rfl (g ?_) | (refine hKD _ _ ⟨rfl,g ?_⟩;clear hKD KD))
   obtain rfl:B=false:=by rw [<-hB,U9,d0,Bool.false_and]
   exact ⟨.inl trivial,id,Ui,List.nodup_nil⟩
theorem Kb (l:List Ab):A7 Tryz.prog A8 66 [.iv (stI l)] (.iv (stI l)) []:=(B05 l).frz trivial
theorem Be4 (l:List Ad):A7 Tryz.prog A8 166 [.iv (spI l)] (.iv (spI l)) []:=(B06 l).frz trivial
theorem Bt4 (l:List Ai):A7 Tryz.prog A8 48 [.iv (wrI l)] (.iv (wrI l)) []:=(Vo l).frz trivial
end Go.Proofs.YthlgnjlpakimaaaGreatDoor
namespace Go.Proofs.YthlgnjlpakimaaaGreatDoor
variable {α : Type}
def Lm (l:List α) (a i:Nat):List (α×Nat):=((l.take i).drop a).zipIdx a
def Vr (l:List α) (a:Nat):List (α×Nat):=(l.drop a).zipIdx a
theorem A48 (l:List α) (a:Nat):Lm l a a=[]:=by
 unfold Lm
 rw [List.drop_of_length_le (by rw [List.length_take];omega)]
 rfl
theorem Ah1 {l:List α} {a i:Nat} (h:i<=l.length):(Lm l a i).length=i - a:=by simp [Lm];omega
theorem A47 {l:List α} {a i:Nat} (ha:a<=i) (hi:i < l.length):Lm l a (i+1)=Lm l a i++[(l[i],i)]:=by
 unfold Lm
 rw [List.take_succ_eq_append_getElem hi,List.drop_append_of_le_length (by rw [List.length_take];omega),List.zipIdx_append]
 have:a+((l.take i).drop a).length=i:=by rw [List.length_drop,List.length_take];omega
 rw [this]
 rfl
theorem V0 {l:List α} {a i:Nat} (h:l.length<=i):Lm l a i=Vr l a:=by
 unfold Lm Vr
 rw [List.take_of_length_le h]
theorem Ac9 {l m:List α} (h:l <+: m) (a:Nat):l.zipIdx a <+: m.zipIdx a:=by
 obtain ⟨t,rfl⟩:=h
 rw [List.zipIdx_append]
 exact List.prefix_append _ _
theorem R7 (l:List α) (a i:Nat):Lm l a i <+: Vr l a:=by
 refine Ac9 ?_ a
 rw [List.drop_take]
 exact List.take_prefix _ _
theorem Cm1 {l:List α} {a j:Nat} {p:α×Nat} (h:(Vr l a)[j]? = some p):p.2=a+j/\l[a+j]? = some p.1:=by
 unfold Vr at h
 rw [List.getElem?_zipIdx,Option.map_eq_some_iff] at h
 obtain ⟨x,h1,rfl⟩:=h
 rw [List.getElem?_drop] at h1
 exact ⟨rfl,h1⟩
theorem B83 {l:List α} {a:Nat} {pre:List (α×Nat)} {x:α×Nat} (h:pre++[x] <+: Vr l a):pre=Lm l a (a+pre.length)/\x.2=a+pre.length/\l[a+pre.length]? = some x.1:=by
 have hx:(Vr l a)[pre.length]? = some x:=by
  obtain ⟨t,ht⟩:=h
  rw [<-ht,List.append_assoc,List.getElem?_append_right (Nat.le_refl _),Nat.sub_self];rfl
 obtain ⟨h1,h2⟩:=Cm1 hx
 refine ⟨?_,h1,h2⟩
 have hlt:=(List.getElem?_eq_some_iff.1 h2).1
 have p1:pre <+: Vr l a:=(List.prefix_append pre [x]).trans h
 have p2:=R7 l a (a+pre.length)
 rw [List.prefix_iff_eq_take] at p1 p2
 rw [Ah1 (by omega),Nat.add_sub_cancel_left] at p2
 exact p1.trans p2.symm
end Go.Proofs.YthlgnjlpakimaaaGreatDoor
namespace Go.Proofs.YthlgnjlpakimaaaGreatDoor
open Go.ChangeShapes Go.WideShapes Go.ChangeAt Go.RowKit
attribute [local irreducible] AW AWY Cd Bk vop C5 Bl Bz qop Cj Cv B4 Aw C4 A7 Bq
attribute [local go_sem] Kt Mk Jq Ce Ao As
theorem Pr (l:Log) (iS:I64 l.sure):A7 Tryz.prog A8 72 [To l] (.val (.bool (Bh l))) []:=by
 refine A7.of (n:=11) (rs:=[.tmp 2]) Tryz.func72 rfl (by kernel_rfl) Tryz.ntmps72 (by kernel_rfl) (by simp) (fun _ _=>A8.later) ?_
 intro hok V w0
 refine g ?_
 refine g ?_
 repeat' refine st_ rfl (g ?_)
 refine A9 (Bm8 l iS) rfl ?_
 refine g ?_
 repeat' refine st_ rfl (g ?_)
 first | exact trivial | exact ⟨.inl trivial,id,List.nodup_nil⟩
theorem Ca1 (x:At):A7 Tryz.prog A8 211 [Ev x] (Ev x) []:=by
 refine A7.of (n:=16) (rs:=[.cell 2 37]) Tryz.func211 rfl (by kernel_rfl) Tryz.ntmps211 (by kernel_rfl) (by simp) (fun _ _=>A8.later) ?_
 intro hok V w0
 refine g ?_
 refine AW.seq ?_
 refine AW.reg rfl fun KK hKK=>?_
 refine g ?_
 repeat' (refine hKK _ (g ?_);clear hKK KK)
 refine AW.freeze 200 _ rfl (by simp [okB,J3,okA]) ?_
 simp only [go_sem,reduceIte]
 refine g ?_
 repeat' refine st_ rfl (g ?_)
 refine AW.drawn (ds:=[3,4,5,6,7,8,9,10,11,12,13,14,15]) (fin:=[1]) (bs:=[1,1,1,1,1,1,1,1,1,1,1,1,1,1]) [⟨[],[],[],[],0⟩,⟨[(3,0)],[],[0],[],0⟩,⟨[(4,1)],[],[0],[],0⟩,⟨[],[],[],[],0⟩,⟨[(6,3)],[],[0],[],0⟩,⟨[(7,4)],[],[0],[],0⟩,⟨[],[],[],[],0⟩,⟨[(9,6)],[],[0],[],0⟩,⟨[(10,7)],[],[0],[],0⟩,⟨[],[],[],[],0⟩,⟨[(12,9)],[],[0],[],0⟩,⟨[(13,10)],[],[0],[],0⟩,⟨[(5,2),(8,5),(11,8),(14,11)],[],[],[],0⟩,⟨[(15,12)],[],[],[0],1⟩] (by kernel_rfl) rfl (by kernel_rfl) rfl rfl rfl fun KD hKD=>?_
 refine g ?_
 refine A9 (Kb x.start) rfl ?_
 refine g ?_
 refine A9 (Kb x.end_) rfl ?_
 refine g ?_
 refine A9 (Be4 x.blur) rfl ?_
 refine g ?_
 refine A9 (Bt4 x.writes) rfl ?_
 refine g ?_
 repeat' (first | refine st_ rfl (g ?_) | (refine hKD _ _ ⟨rfl,g ?_⟩;clear hKD KD))
 first | exact trivial | exact ⟨.inl trivial,id,List.nodup_nil⟩
end Go.Proofs.YthlgnjlpakimaaaGreatDoor
namespace Go.Proofs.YthlgnjlpakimaaaGreatDoor
open Go.ChangeShapes Go.WideShapes Go.ChangeAt Go.RowKit
attribute [local irreducible] AW AWY Cd Bk vop C5 Bl Bz qop Cj Cv B4 Aw C4 A7 Bq
attribute [local go_sem] Kt Mk Jq Ce Ao As
def Aa8 (l:Log):AV:=.ip [stI l.base,noI l.notes,.val (.int .i64 l.sure)]
theorem Zu (l:Log):Aa8 l=.ip [stI l.base,noI l.notes,.val (.int .i64 l.sure)]:=rfl
attribute [local go_sem] Zu
theorem C10 (l:Log) (n:Int) (iS:I64 l.sure) (iN:I64 n):A7 Tryz.prog A8 172 [To l,.val (.int .i64 n)] (.fn 210 [Aa8 l,.ip [.val (.int .i64 n)]]) []:=by
 have h:A7 Tryz.prog A8 172 [To l,.val (.int .i64 n)] (.fn 210 [.bp 0 0,.bp 1 0]) [.box 0 [.iv (stI l.base),.iv (noI l.notes),.val (.int .i64 l.sure)],.box 1 [.val (.int .i64 n)]]:=by
  refine A7.of (n:=6) (rs:=[.tmp 4]) Tryz.func172 rfl (by kernel_rfl) Tryz.ntmps172 (by kernel_rfl) (by simp) (fun _ _=>A8.later) ?_
  intro hok V w0
  refine g ?_
  refine g ?_
  repeat' refine st_ rfl (g ?_)
  exact ⟨.inl trivial,fun b=>300+100*b,rfl,⟨rfl,rfl⟩,by simp⟩
 exact (h.frz ⟨trivial,trivial,iS,trivial⟩).frz ⟨iN,trivial⟩
def enL (p:At×Nat):List AV:=[.val (.int .i64 (p.2:Nat)),Ev p.1]
def Bc8 (l:Log) (a:Nat):List (At×Nat):=if Bh l=true then Vr l.notes a else []
theorem C09 (l:Log) (n:Int) (iS:I64 l.sure):Bq Tryz.prog A8 210 [Aa8 l,.ip [.val (.int .i64 n)]] enL (fun ys=>ys=Bc8 l n.toNat) (fun pre=>pre <+: Bc8 l n.toNat):=by
 obtain ⟨a,ha⟩ : ∃ a,n.toNat=a:=⟨_,rfl⟩
 rw [ha]
 refine Bq.of (n:=27) Tryz.func210 rfl (by kernel_rfl) Tryz.ntmps210 (by kernel_rfl) (by simp) (fun _ _=>A8.later) ?_
 intro hok Y
 have hlen:l.notes.length<=1073741824:=by simpa using hok.1.2.1.1
 refine g ?_
 refine g ?_
 repeat' refine Jt rfl (g ?_)
 refine A9 (Pr l iS) rfl ?_
 cases hb:Bh l
 ·have he:Bc8 l a=[]:=by unfold Bc8;rw [hb];rfl
  refine g ?_
  repeat' refine Jt rfl (g ?_)
  exact ⟨.inl trivial,he.symm⟩
 have he:Bc8 l a=Vr l.notes a:=by unfold Bc8;rw [if_pos hb]
 refine g ?_
 repeat' refine Jt rfl (g ?_)
 refine ⟨(a:Int),by omega,?_⟩
 refine g ?_
 repeat' (first | refine Jt rfl (g ?_) | refine Ag (g ?_))
 refine AWY.loop (fun i:{i:Nat // a<=i/\(i<=l.notes.length\/i=a)}=>(.going (Lm l.notes a i.1),⟨[(0,.val (.func (.yield Y.l) #[] #[])),(1,Aa8 l),(4,.val (.int .i64 (i.1:Nat)))],[]⟩)) (fun i=>l.notes.length - i.1) ⟨a,Nat.le_refl _,.inr rfl⟩ id ⟨by rw [A48],⟨rfl,rfl,rfl,trivial⟩,trivial,List.nodup_nil⟩ fun ⟨i,hi,hi2⟩=>?_
 refine g ?_
 repeat' (first | refine Jt rfl (g ?_) | refine C3 (fun h=>g ?_) (fun h=>g ?_))
 ·have hlt:i < l.notes.length:=by simpa using h
  refine ⟨by omega,_,C0 (List.getElem?_eq_getElem hlt),?_⟩
  refine g ?_
  repeat' refine Ag (g ?_)
  refine A9 (Ca1 l.notes[i]) rfl ?_
  refine g ?_
  have hs:=A47 hi hlt
  refine Sx (x:=(l.notes[i],i)) ?_ ?_ ?_ ?_
  ·rfl
  ·exact Sbs.rfl_ _
  ·rw [he,<-hs];exact R7 _ _ _
  simp only [go_sem]
  rw [<-hs]
  refine ⟨?_,?_⟩
  ·refine g ?_
   repeat' refine Jt rfl (g ?_)
   refine ⟨⟨i+1,by omega,.inl hlt⟩,id,rfl,⟨⟨rfl,rfl,rfl,trivial⟩,trivial,List.nodup_nil⟩,by show l.notes.length - (i+1) < l.notes.length - i;omega⟩
  ·refine g ?_
   repeat' refine Jt rfl (g ?_)
   exact .inl trivial
 ·have hle:l.notes.length<=i:=by simpa using h
  exact ⟨.inr trivial,by rw [he,V0 hle]⟩
end Go.Proofs.YthlgnjlpakimaaaGreatDoor
