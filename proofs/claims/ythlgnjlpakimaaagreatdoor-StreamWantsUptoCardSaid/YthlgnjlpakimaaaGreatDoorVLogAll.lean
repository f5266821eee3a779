/- Logs: told one by one. -/
import Derived.Test.YthlgnjlpakimaaaGreatDoorVAbsNil
import Derived.Test.YthlgnjlpakimaaaGreatDoorVEnc
import Derived.Test.YthlgnjlpakimaaaGreatDoorVStreamSpec
import Derived.Test.YthlgnjlpakimaaaGreatDoorVBridge
set_option linter.all false
set_option linter.unnecessarySimpa false
set_option linter.unusedSimpArgs false
set_option linter.unusedVariables false
namespace Go.Proofs.YthlgnjlpakimaaaGreatDoor
open Go.ChangeShapes Go.WideShapes Go.ChangeAt Go.RowKit
def D72 (w:World) (B:Nat) (cs:List Value) (l:Log):Prop:=∃ v0 v1,cs=[v0,v1,.int .i64 l.sure]/\Cc w B v0 l.base/\At2 w B v1 l.notes/\I64 l.sure
theorem Aa4 {w:World} : Jb Tryz.prog w 62 3 (D72 w w.heap.size):=by
 intro H enc fuel cs x h
 obtain ⟨hl,n,hf⟩:=Ed Tryz.underlying62 h
 have hk:Tryz.prog.cellsOf 62=3:=by kernel_rfl
 have hs:Tryz.prog.cellsOf 25=1:=by kernel_rfl
 have hn:Tryz.prog.cellsOf 60=1:=by kernel_rfl
 have hi:Tryz.prog.cellsOf 3=1:=by kernel_rfl
 rw [hk] at hl
 refine ⟨hl,?_⟩
 match cs,hl with
 | [v0,v1,v2],_ =>
  obtain ⟨y0,h0⟩:=hf 0 25 0 1 rfl hs
  obtain ⟨y1,h1⟩:=hf 1 60 1 1 rfl hn
  obtain ⟨y2,h2⟩:=hf 2 3 2 1 rfl hi
  obtain ⟨_,a,_,e0,s0⟩:=K9 (w:=w) H enc n _ _ h0
  obtain ⟨_,b,_,e1,s1⟩:=An1 (w:=w) H enc n _ _ h1
  obtain ⟨_,c,e2,i2⟩:=Gm (w:=w) Tryz.underlying3 H enc n _ _ h2
  simp at e0 e1 e2
  subst e0 e1 e2
  exact ⟨⟨a,b,c⟩,_,_,rfl,s0,s1,i2⟩
structure Ask where
 at_:Int
 most:Int
def D75 (cs:List Value) (a:Ask):Prop:=cs=[.int .i64 a.at_,.int .i64 a.most]/\I64 a.at_/\I64 a.most
theorem B96 {w:World} : Jb Tryz.prog w 64 2 D75:=by
 intro H enc fuel cs x h
 obtain ⟨hl,n,hf⟩:=Ed Tryz.underlying64 h
 have hk:Tryz.prog.cellsOf 64=2:=by kernel_rfl
 have hi:Tryz.prog.cellsOf 3=1:=by kernel_rfl
 rw [hk] at hl
 refine ⟨hl,?_⟩
 match cs,hl with
 | [v0,v1],_ =>
  obtain ⟨y0,h0⟩:=hf 0 3 0 1 rfl hi
  obtain ⟨y1,h1⟩:=hf 1 3 1 1 rfl hi
  obtain ⟨_,a,e0,i0⟩:=Gm (w:=w) Tryz.underlying3 H enc n _ _ h0
  obtain ⟨_,b,e1,i1⟩:=Gm (w:=w) Tryz.underlying3 H enc n _ _ h1
  simp at e0 e1
  subst e0 e1
  exact ⟨⟨a,b⟩,rfl,i0,i1⟩
def Ug (l:Log):AV:=.agg [.iv (stI l.base),.iv (noI l.notes),.val (.int .i64 l.sure)]
theorem Kj (l:Log):Ug l=.agg [.iv (stI l.base),.iv (noI l.notes),.val (.int .i64 l.sure)]:=rfl
theorem Cg0 {X:World} {cs:List Value} {x:Aq} (h:Bn6 X X.heap.size cs x):B8 X cs (enN x):=by
 obtain ⟨v0,v1,v2,v3,rfl,h⟩:=h
 exact ⟨Mk h.start (Nat.le_refl _),Mk h.end_ (Nat.le_refl _),A79 h.blur (Nat.le_refl _),Zb h.writes (Nat.le_refl _),trivial⟩
theorem Ba2 {X:World} {v:Value} {l:List Aq} (h:At2 X X.heap.size v l):D3 X v (noI l):=D3.of_typed (fun _ _ h=>Cg0 h) h (Nat.le_refl _)
theorem B41 {E:Env} {X:World} {v0 v1:Value} {l:Log} (h0:Cc X X.heap.size v0 l.base) (h1:At2 X X.heap.size v1 l.notes):B9 E X (.agg #[v0,v1,.int .i64 l.sure]) (Ug l) :=
 .agg rfl fun j v c a b=>by
  match j,a,b with
  | 0,a,b=>simp at a b;subst a b;exact .iv (Mk h0 (Nat.le_refl _))
  | 1,a,b=>simp at a b;subst a b;exact .iv (Ba2 h1)
  | 2,a,b=>simp at a b;subst a b;exact .val
  | j+3,a,b=>simp at a
theorem Bs3 {E:Env} {X:World} {a:Ask} : B9 E X (.agg #[.int .i64 a.at_,.int .i64 a.most]) (.agg [.val (.int .i64 a.at_),.val (.int .i64 a.most)]) :=
 .agg rfl fun j v c e1 e2=>by
  match j,e1,e2 with
  | 0,a,b=>simp at a b;subst a b;exact .val
  | 1,a,b=>simp at a b;subst a b;exact .val
  | j+2,a,b=>simp at a
theorem A7.law {P:Program} {G:World->Prop} {f:FuncId} {args:List AV} {r:Value} (h:A7 P G f args (.val r) []) {W:World} {vs:Array Value} (hG:G W) (hr:As ⟨fun _=>0,fun _=>undef⟩ W vs.toList args) :
  Calls P f vs W fun e w'=>e=.returned r/\Below W.heap.size W w' :=
 (h.2 W W _ vs (Ext.refl W) hG hr).mono fun _ _ ⟨v,E',h1,h2,_,_,_,h6⟩=>by
  cases h6
  exact ⟨h1,h2⟩
attribute [local irreducible] AW AWY Cf Bf vop Bw Bh Bx qop Cg Cz Az Aw C5 A7 Bl
@[go_sem] theorem D33 (l:List Aa):nrm (.iv (stI l))=.iv (stI l):=rfl
@[go_sem] theorem D34 (l:List Ad):nrm (.iv (spI l))=.iv (spI l):=rfl
@[go_sem] theorem D32 (l:List Ai):nrm (.iv (wrI l))=.iv (wrI l):=rfl
theorem Ce (x:Aq):F3 x=.agg [.iv (stI x.start),.iv (stI x.end_),.iv (spI x.blur),.iv (wrI x.writes)]:=rfl
theorem Lk (l:List Aq):noI l=.sl 4 (l.map enN):=rfl
theorem Ee (l:List Ai):wrI l=.sl 4 (l.map enW):=rfl
theorem Mw {i e k:Nat} {l:List (List IV)} (h:∀ cs∈l,∀ x∈cs,∃ v,x=.val v):B45 [.row i e k l]:=fun b hb=>by
 rw [List.mem_singleton.1 hb]
 exact ⟨i,e,k,l,rfl,h⟩
theorem Ag0 (l:List Aa):∀ cs∈l.map Xo,∀ x∈cs,∃ v,x=IV.val v:=fun cs hcs x hx=>by
 obtain ⟨s,_,rfl⟩:=List.mem_map.1 hcs
 simp [Xo] at hx
 rcases hx with rfl | rfl<;>exact ⟨_,rfl⟩
theorem Ag1 (l:List Ad):∀ cs∈l.map M1,∀ x∈cs,∃ v,x=IV.val v:=fun cs hcs x hx=>by
 obtain ⟨s,_,rfl⟩:=List.mem_map.1 hcs
 simp [M1] at hx
 rcases hx with rfl | rfl<;>exact ⟨_,rfl⟩
attribute [local go_sem] Lk Lm Kj Ce Ap Ar
set_option maxHeartbeats 1600000 in
set_option maxRecDepth 100000 in
theorem Ay9 (l:Log) (iS:I64 l.sure):A7 Tryz.prog A9 148 [Ug l] (.tup [.any,.val (.bool (C0 l))]) []:=by
 refine A7.ofS (n:=49) (rs:=[.tmp 2,.tmp 3]) Tryz.func148 rfl (by kernel_rfl) Tryz.ntmps148 (by kernel_rfl) (by simp) (fun _ _=>A9.later) ?_
 intro hok V w0
 have hlen:l.notes.length<=1073741824:=by simpa using hok.1.2.1.1
 obtain ⟨B,hB⟩ : ∃ B,C0 l=B:=⟨_,rfl⟩
 rw [hB]
 rw [A25] at hB
 refine g ?_
 refine AW.seq ?_
 refine AW.reg rfl fun KK hKK=>?_
 refine g ?_
 repeat' (refine hKK _ (g ?_);clear hKK KK)
 refine AW.freeze 200 _ rfl ⟨trivial,trivial,iS,trivial⟩ ?_
 simp only [go_sem,reduceIte]
 refine g ?_
 repeat' refine st_ rfl (g ?_)
 refine bs1 (by omega) rfl rfl rfl ⟨trivial,trivial⟩ ?_
 refine g ?_
 refine Lo (Q8 [l.base]) (by trivial) rfl (Mw (Ag0 _)) (by exact Sbs.rfl_ _) rfl ?_
 refine g ?_
 refine AW.freeze 1000 _ rfl trivial ?_
 simp only [go_sem,reduceIte]
 refine g ?_
 repeat' refine st_ rfl (g ?_)
 refine AW.loop (fun m:{m:Nat // m<=l.notes.length/\C7 (Dq [l.base]) (l.notes.take m)=true}=>⟨[(1,.ip [stI l.base,noI l.notes,.val (.int .i64 l.sure)]),(2,.iv (stI (Db (Dq [l.base]) (l.notes.take m.1)))),(11,.iv (noI l.notes)),(12,.val (.int .i64 (l.notes.length:Nat))),(13,.val (.int .i64 m.1))],[]⟩) (fun m=>l.notes.length - m.1) ⟨0,Nat.zero_le _,rfl⟩ id (by simp [LeS,go_sem,Db,stI,noI]) fun ⟨m,hm,ht⟩=>?_
 have hsp:∀ (hlt:m < l.notes.length),l.notes=l.notes.take m++l.notes[m] :: l.notes.drop (m+1):=fun hlt=>by rw [<-List.drop_eq_getElem_cons hlt,List.take_append_drop]
 refine g ?_
 repeat' (first | refine st_ rfl (g ?_) | refine C9 (fun h=>g ?_) (fun h=>g ?_))
 ·have hlt:m < l.notes.length:=by simpa using h
  have hs2:C7 (Dq [l.base]) l.notes=((Ag l.notes[m]&&At (Db (Dq [l.base]) (l.notes.take m)) l.notes[m].start)&&C7 (Dq [Db (Dq [l.base]) (l.notes.take m),l.notes[m].end_]) (l.notes.drop (m+1))):=by
   conv=>lhs;rw [hsp hlt]
   rw [Dp,ht,Bool.true_and];rfl
  refine ⟨by omega,_,Cb (List.getElem?_eq_getElem hlt),?_⟩
  refine g ?_
  repeat' (first | refine st_ rfl (g ?_) | refine Am (g ?_))
  refine Ab (Kc l.notes[m]) rfl ?_
  cases hf:Ag l.notes[m]
  ·refine g ?_
   repeat' refine st_ rfl (g ?_)
   obtain rfl:B=false:=by rw [<-hB,hs2,hf];rfl
   first | exact ⟨.inl trivial,id,J2,List.nodup_nil⟩ | exact J2
  refine g ?_
  refine Ab (A22 l.notes[m] _) rfl ?_
  cases hc:At (Db (Dq [l.base]) (l.notes.take m)) l.notes[m].start
  ·refine g ?_
   repeat' refine st_ rfl (g ?_)
   obtain rfl:B=false:=by rw [<-hB,hs2,hf,hc];rfl
   first | exact ⟨.inl trivial,id,J2,List.nodup_nil⟩ | exact J2
  refine g ?_
  repeat' refine st_ rfl (g ?_)
  refine bs2 (by omega) rfl rfl rfl ⟨trivial,trivial⟩ rfl rfl rfl ⟨trivial,trivial⟩ ?_
  refine g ?_
  refine Lo (Q8 [Db (Dq [l.base]) (l.notes.take m),l.notes[m].end_]) (by simp [Ta,Gj,okA]) rfl (Mw (Ag0 _)) (by exact Sbs.rfl_ _) rfl ?_
  refine g ?_
  refine AW.freeze 3100 _ rfl trivial ?_
  simp only [go_sem,reduceIte]
  refine g ?_
  repeat' refine st_ rfl (g ?_)
  refine ⟨⟨m+1,hlt,?_⟩,id,?_,?_⟩
  ·rw [List.take_succ_eq_append_getElem hlt,Dp,ht,Bool.true_and]
   simp [C7,hf,hc]
  ·refine ⟨⟨rfl,?_,rfl,rfl,rfl,trivial⟩,trivial,List.nodup_nil⟩
   rw [List.take_succ_eq_append_getElem hlt,S3]
   rfl
  ·simp;omega
 ·have:m=l.notes.length:=by simp at h;omega
  subst this
  refine AW.drawn (ds:=[32,33,34,35,36,37,38,39,40,41,42,43,44,45,46,47,48,2,3]) (fin:=[]) (bs:=[0,0,0,0,0,0,0,0,0,0,0,0,0,0,0,0,0,0,0]) [⟨[],[2],[],[],0⟩,⟨[],[],[],[],0⟩,⟨[(33,1)],[],[],[],0⟩,⟨[(34,2)],[],[],[],0⟩,⟨[(35,3)],[],[],[],0⟩,⟨[],[],[],[],0⟩,⟨[(37,5)],[],[],[],0⟩,⟨[(38,6)],[],[],[],0⟩,⟨[(36,4),(39,7)],[],[],[],0⟩,⟨[(40,8)],[],[],[],0⟩,⟨[],[],[],[],0⟩,⟨[(42,10)],[],[],[],0⟩,⟨[],[],[],[],0⟩,⟨[(44,12)],[],[],[],0⟩,⟨[(45,13)],[],[],[],0⟩,⟨[(43,11),(46,14)],[],[],[],0⟩,⟨[(41,9),(47,15)],[],[],[],0⟩,⟨[(32,0)],[],[],[],0⟩,⟨[(48,16)],[],[],[],0⟩] (by kernel_rfl) rfl (by kernel_rfl) rfl rfl rfl fun KD hKD=>?_
  refine g ?_
  refine Ab (K4 l.base) rfl ?_
  cases hb:Ak l.base
  ·refine g ?_
   repeat' (first | refine st_ rfl (g ?_) | (refine hKD _ _ ⟨rfl,g ?_⟩;clear hKD KD))
   obtain rfl:B=false:=by rw [<-hB,hb,Bool.false_and,Bool.and_false]
   first | exact ⟨.inl trivial,id,J2,List.nodup_nil⟩ | exact J2
  rw [List.take_length] at ht
  rw [ht,hb,Bool.true_and,Bool.true_and] at hB
  by_cases h0:0<=l.sure
  ·have d0:decide ((0:Int)<=l.sure)=true:=decide_eq_true h0
   refine g ?_
   simp only [d0]
   refine g ?_
   repeat' (first | refine st_ rfl (g ?_) | (refine hKD _ _ ⟨rfl,g ?_⟩;clear hKD KD))
   obtain rfl:B=decide (l.sure<=(l.notes.length:Nat)):=by rw [<-hB,Y5,d0,Bool.true_and]
   first | exact ⟨.inl trivial,id,J2,List.nodup_nil⟩ | exact J2
  ·have d0:decide ((0:Int)<=l.sure)=false:=decide_eq_false h0
   refine g ?_
   simp only [d0]
   refine g ?_
   repeat' (first | refine st_ rfl (g ?_) | (refine hKD _ _ ⟨rfl,g ?_⟩;clear hKD KD))
   obtain rfl:B=false:=by rw [<-hB,Y5,d0,Bool.false_and]
   first | exact ⟨.inl trivial,id,J2,List.nodup_nil⟩ | exact J2
theorem Lf (l:List Aa):A7 Tryz.prog A9 66 [.iv (stI l)] (.iv (stI l)) []:=(Ag7 l).frz trivial
theorem Bm4 (l:List Ad):A7 Tryz.prog A9 166 [.iv (spI l)] (.iv (spI l)) []:=(Ag8 l).frz trivial
theorem Br9 (l:List Ai):A7 Tryz.prog A9 48 [.iv (wrI l)] (.iv (wrI l)) []:=(Sd l).frz trivial
end Go.Proofs.YthlgnjlpakimaaaGreatDoor
namespace Go.Proofs.YthlgnjlpakimaaaGreatDoor
open Go.ChangeShapes Go.WideShapes Go.ChangeAt Go.RowKit
attribute [local irreducible] AW AWY Cf Bf vop Bw Bh Bx qop Cg Cz Az Aw C5 A7 Bl
attribute [local go_sem] Lk Lm Kj Ce Ap Ar
theorem Qu (l:Log) (iS:I64 l.sure):A7 Tryz.prog A9 72 [Ug l] (.val (.bool (C0 l))) []:=by
 refine A7.of (n:=11) (rs:=[.tmp 2]) Tryz.func72 rfl (by kernel_rfl) Tryz.ntmps72 (by kernel_rfl) (by simp) (fun _ _=>A9.later) ?_
 intro hok V w0
 refine g ?_
 refine g ?_
 repeat' refine st_ rfl (g ?_)
 refine Ab (Ay9 l iS) rfl ?_
 refine g ?_
 repeat' refine st_ rfl (g ?_)
 first | exact trivial | exact ⟨.inl trivial,id,List.nodup_nil⟩
theorem Bi5 (x:Aq):A7 Tryz.prog A9 211 [F3 x] (F3 x) []:=by
 refine A7.of (n:=16) (rs:=[.cell 2 37]) Tryz.func211 rfl (by kernel_rfl) Tryz.ntmps211 (by kernel_rfl) (by simp) (fun _ _=>A9.later) ?_
 intro hok V w0
 refine g ?_
 refine AW.seq ?_
 refine AW.reg rfl fun KK hKK=>?_
 refine g ?_
 repeat' (refine hKK _ (g ?_);clear hKK KK)
 refine AW.freeze 200 _ rfl (by simp [okB,Gj,okA]) ?_
 simp only [go_sem,reduceIte]
 refine g ?_
 repeat' refine st_ rfl (g ?_)
 refine AW.drawn (ds:=[3,4,5,6,7,8,9,10,11,12,13,14,15]) (fin:=[1]) (bs:=[1,1,1,1,1,1,1,1,1,1,1,1,1,1]) [⟨[],[],[],[],0⟩,⟨[(3,0)],[],[0],[],0⟩,⟨[(4,1)],[],[0],[],0⟩,⟨[],[],[],[],0⟩,⟨[(6,3)],[],[0],[],0⟩,⟨[(7,4)],[],[0],[],0⟩,⟨[],[],[],[],0⟩,⟨[(9,6)],[],[0],[],0⟩,⟨[(10,7)],[],[0],[],0⟩,⟨[],[],[],[],0⟩,⟨[(12,9)],[],[0],[],0⟩,⟨[(13,10)],[],[0],[],0⟩,⟨[(5,2),(8,5),(11,8),(14,11)],[],[],[],0⟩,⟨[(15,12)],[],[],[0],1⟩] (by kernel_rfl) rfl (by kernel_rfl) rfl rfl rfl fun KD hKD=>?_
 refine g ?_
 refine Ab (Lf x.start) rfl ?_
 refine g ?_
 refine Ab (Lf x.end_) rfl ?_
 refine g ?_
 refine Ab (Bm4 x.blur) rfl ?_
 refine g ?_
 refine Ab (Br9 x.writes) rfl ?_
 refine g ?_
 repeat' (first | refine st_ rfl (g ?_) | (refine hKD _ _ ⟨rfl,g ?_⟩;clear hKD KD))
 first | exact trivial | exact ⟨.inl trivial,id,List.nodup_nil⟩
end Go.Proofs.YthlgnjlpakimaaaGreatDoor
namespace Go.Proofs.YthlgnjlpakimaaaGreatDoor
variable {α : Type}
def Jj (l:List α) (a i:Nat):List (α×Nat):=((l.take i).drop a).zipIdx a
def Si (l:List α) (a:Nat):List (α×Nat):=(l.drop a).zipIdx a
theorem Xa (l:List α) (a:Nat):Jj l a a=[]:=by
 unfold Jj
 rw [List.drop_of_length_le (by rw [List.length_take];omega)]
 rfl
theorem A11 {l:List α} {a i:Nat} (h:i<=l.length):(Jj l a i).length=i - a:=by simp [Jj];omega
theorem X9 {l:List α} {a i:Nat} (ha:a<=i) (hi:i < l.length):Jj l a (i+1)=Jj l a i++[(l[i],i)]:=by
 unfold Jj
 rw [List.take_succ_eq_append_getElem hi,List.drop_append_of_le_length (by rw [List.length_take];omega),List.zipIdx_append]
 have:a+((l.take i).drop a).length=i:=by rw [List.length_drop,List.length_take];omega
 rw [this]
 rfl
theorem Rx {l:List α} {a i:Nat} (h:l.length<=i):Jj l a i=Si l a:=by
 unfold Jj Si
 rw [List.take_of_length_le h]
theorem Z9 {l m:List α} (h:l <+: m) (a:Nat):l.zipIdx a <+: m.zipIdx a:=by
 obtain ⟨t,rfl⟩:=h
 rw [List.zipIdx_append]
 exact List.prefix_append _ _
theorem Nc (l:List α) (a i:Nat):Jj l a i <+: Si l a:=by
 refine Z9 ?_ a
 rw [List.drop_take]
 exact List.take_prefix _ _
theorem Bs4 {l:List α} {a j:Nat} {p:α×Nat} (h:(Si l a)[j]? = some p):p.2=a+j/\l[a+j]? = some p.1:=by
 unfold Si at h
 rw [List.getElem?_zipIdx,Option.map_eq_some_iff] at h
 obtain ⟨x,h1,rfl⟩:=h
 rw [List.getElem?_drop] at h1
 exact ⟨rfl,h1⟩
theorem Am4 {l:List α} {a:Nat} {pre:List (α×Nat)} {x:α×Nat} (h:pre++[x] <+: Si l a):pre=Jj l a (a+pre.length)/\x.2=a+pre.length/\l[a+pre.length]? = some x.1:=by
 have hx:(Si l a)[pre.length]? = some x:=by
  obtain ⟨t,ht⟩:=h
  rw [<-ht,List.append_assoc,List.getElem?_append_right (Nat.le_refl _),Nat.sub_self];rfl
 obtain ⟨h1,h2⟩:=Bs4 hx
 refine ⟨?_,h1,h2⟩
 have hlt:=(List.getElem?_eq_some_iff.1 h2).1
 have p1:pre <+: Si l a:=(List.prefix_append pre [x]).trans h
 have p2:=Nc l a (a+pre.length)
 rw [List.prefix_iff_eq_take] at p1 p2
 rw [A11 (by omega),Nat.add_sub_cancel_left] at p2
 exact p1.trans p2.symm
end Go.Proofs.YthlgnjlpakimaaaGreatDoor
namespace Go.Proofs.YthlgnjlpakimaaaGreatDoor
open Go.ChangeShapes Go.WideShapes Go.ChangeAt Go.RowKit
attribute [local irreducible] AW AWY Cf Bf vop Bw Bh Bx qop Cg Cz Az Aw C5 A7 Bl
attribute [local go_sem] Lk Lm Kj Ce Ap Ar
def Yu (l:Log):AV:=.ip [stI l.base,noI l.notes,.val (.int .i64 l.sure)]
theorem Vt (l:Log):Yu l=.ip [stI l.base,noI l.notes,.val (.int .i64 l.sure)]:=rfl
attribute [local go_sem] Vt
theorem Ba7 (l:Log) (n:Int) (iS:I64 l.sure) (iN:I64 n):A7 Tryz.prog A9 172 [Ug l,.val (.int .i64 n)] (.fn 210 [Yu l,.ip [.val (.int .i64 n)]]) []:=by
 have h:A7 Tryz.prog A9 172 [Ug l,.val (.int .i64 n)] (.fn 210 [.bp 0 0,.bp 1 0]) [.box 0 [.iv (stI l.base),.iv (noI l.notes),.val (.int .i64 l.sure)],.box 1 [.val (.int .i64 n)]]:=by
  refine A7.of (n:=6) (rs:=[.tmp 4]) Tryz.func172 rfl (by kernel_rfl) Tryz.ntmps172 (by kernel_rfl) (by simp) (fun _ _=>A9.later) ?_
  intro hok V w0
  refine g ?_
  refine g ?_
  repeat' refine st_ rfl (g ?_)
  first | exact ⟨.inl trivial,fun b=>300+100*b,rfl,⟨rfl,rfl⟩,by simp⟩ | exact ⟨fun b=>300+100*b,rfl,⟨rfl,rfl⟩,by simp⟩
 exact (h.frz ⟨trivial,trivial,iS,trivial⟩).frz ⟨iN,trivial⟩
def enL (p:Aq×Nat):List AV:=[.val (.int .i64 (p.2:Nat)),F3 p.1]
def Aq3 (l:Log) (a:Nat):List (Aq×Nat):=if C0 l=true then Si l.notes a else []
theorem Ba6 (l:Log) (n:Int) (iS:I64 l.sure):Bl Tryz.prog A9 210 [Yu l,.ip [.val (.int .i64 n)]] enL (fun ys=>ys=Aq3 l n.toNat) (fun pre=>pre <+: Aq3 l n.toNat):=by
 obtain ⟨a,ha⟩ : ∃ a,n.toNat=a:=⟨_,rfl⟩
 rw [ha]
 refine Bl.of (n:=27) Tryz.func210 rfl (by kernel_rfl) Tryz.ntmps210 (by kernel_rfl) (by simp) (fun _ _=>A9.later) ?_
 intro hok Y
 have hlen:l.notes.length<=1073741824:=by simpa using hok.1.2.1.1
 refine g ?_
 refine g ?_
 repeat' refine Gs rfl (g ?_)
 refine Ab (Qu l iS) rfl ?_
 cases hb:C0 l
 ·have he:Aq3 l a=[]:=by unfold Aq3;rw [hb];rfl
  refine g ?_
  repeat' refine Gs rfl (g ?_)
  exact ⟨.inl trivial,he.symm⟩
 have he:Aq3 l a=Si l.notes a:=by unfold Aq3;rw [if_pos hb]
 refine g ?_
 repeat' refine Gs rfl (g ?_)
 refine ⟨(a:Int),by omega,?_⟩
 refine g ?_
 repeat' (first | refine Gs rfl (g ?_) | refine Am (g ?_))
 refine AWY.loop (fun i:{i:Nat // a<=i/\(i<=l.notes.length\/i=a)}=>(.going (Jj l.notes a i.1),⟨[(0,.val (.func (.yield Y.l) #[] #[])),(1,Yu l),(4,.val (.int .i64 (i.1:Nat)))],[]⟩)) (fun i=>l.notes.length - i.1) ⟨a,Nat.le_refl _,.inr rfl⟩ id ⟨by rw [Xa],⟨rfl,rfl,rfl,trivial⟩,trivial,List.nodup_nil⟩ fun ⟨i,hi,hi2⟩=>?_
 refine g ?_
 repeat' (first | refine Gs rfl (g ?_) | refine C9 (fun h=>g ?_) (fun h=>g ?_))
 ·have hlt:i < l.notes.length:=by simpa using h
  refine ⟨by omega,_,Cb (List.getElem?_eq_getElem hlt),?_⟩
  refine g ?_
  repeat' refine Am (g ?_)
  refine Ab (Bi5 l.notes[i]) rfl ?_
  refine g ?_
  have hs:=X9 hi hlt
  refine Q7 (x:=(l.notes[i],i)) ?_ ?_ ?_ ?_
  ·rfl
  ·exact Sbs.rfl_ _
  ·rw [he,<-hs];exact Nc _ _ _
  simp only [go_sem]
  rw [<-hs]
  refine ⟨?_,?_⟩
  ·refine g ?_
   repeat' refine Gs rfl (g ?_)
   refine ⟨⟨i+1,by omega,.inl hlt⟩,id,rfl,⟨⟨rfl,rfl,rfl,trivial⟩,trivial,List.nodup_nil⟩,by show l.notes.length - (i+1) < l.notes.length - i;omega⟩
  ·refine g ?_
   repeat' refine Gs rfl (g ?_)
   exact .inl trivial
 ·have hle:l.notes.length<=i:=by simpa using h
  exact ⟨.inr trivial,by rw [he,Rx hle]⟩
end Go.Proofs.YthlgnjlpakimaaaGreatDoor
