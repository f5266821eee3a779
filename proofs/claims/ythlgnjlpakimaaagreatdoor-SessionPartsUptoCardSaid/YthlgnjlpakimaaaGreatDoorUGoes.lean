/- Whether a dull note goes on with another one (the program's). -/
import Derived.Test.YthlgnjlpakimaaaGreatDoorUAbsNil
import Derived.Test.YthlgnjlpakimaaaGreatDoorUEnc
import Derived.Test.YthlgnjlpakimaaaGreatDoorUStreamSpec
import Derived.Test.YthlgnjlpakimaaaGreatDoorUBridge
import Derived.Test.YthlgnjlpakimaaaGreatDoorUBridge2
set_option linter.all false
set_option linter.unnecessarySimpa false
set_option linter.unusedSimpArgs false
set_option linter.unusedVariables false
namespace Go.Proofs.YthlgnjlpakimaaaGreatDoor
open Go.ChangeShapes Go.WideShapes Go.ChangeAt Go.RowKit
def Cz6 (w:World) (B:Nat) (cs:List Value) (l:Log):Prop:=∃ v0 v1,cs=[v0,v1,.int .i64 l.sure]/\C0 w B v0 l.base/\U1 w B v1 l.notes/\I64 l.sure
theorem A25 {w:World} : Ge Tryz.prog w 62 3 (Cz6 w w.heap.size):=by
 intro H enc fuel cs x h
 obtain ⟨hl,n,hf⟩:=Dm Tryz.underlying62 h
 have hk:Tryz.prog.cellsOf 62=3:=by kernel_rfl
 have hs:Tryz.prog.cellsOf 25=1:=by kernel_rfl
 have hn:Tryz.prog.cellsOf 60=1:=by kernel_rfl
 have hi:Tryz.prog.cellsOf 3=1:=by kernel_rfl
 rw [hk] at hl
 refine ⟨hl,?_⟩
 match cs,hl with
 | [v0,v1,v2],_ =>
  obtain ⟨y0,h0⟩:=hf 0 25 0 1 rfl hs
  obtain ⟨y1,h1⟩:=hf 1 60 1 1 rfl hn
  obtain ⟨y2,h2⟩:=hf 2 3 2 1 rfl hi
  obtain ⟨_,a,_,e0,s0⟩:=Je (w:=w) H enc n _ _ h0
  obtain ⟨_,b,_,e1,s1⟩:=Ag9 (w:=w) H enc n _ _ h1
  obtain ⟨_,c,e2,i2⟩:=Ek (w:=w) Tryz.underlying3 H enc n _ _ h2
  simp at e0 e1 e2
  subst e0 e1 e2
  exact ⟨⟨a,b,c⟩,_,_,rfl,s0,s1,i2⟩
structure Ask where
 at_:Int
 most:Int
def D40 (cs:List Value) (a:Ask):Prop:=cs=[.int .i64 a.at_,.int .i64 a.most]/\I64 a.at_/\I64 a.most
def Qb (l:Log):AV:=.agg [.iv (stI l.base),.iv (noI l.notes),.val (.int .i64 l.sure)]
theorem Gy (l:Log):Qb l=.agg [.iv (stI l.base),.iv (noI l.notes),.val (.int .i64 l.sure)]:=rfl
theorem C88 {X:World} {cs:List Value} {x:B7} (h:Be7 X X.heap.size cs x):Bl X cs (enN x):=by
 obtain ⟨v0,v1,v2,v3,rfl,h⟩:=h
 exact ⟨Lm h.start (Nat.le_refl _),Lm h.end_ (Nat.le_refl _),U9 h.blur (Nat.le_refl _),X6 h.writes (Nat.le_refl _),trivial⟩
theorem B22 {X:World} {v:Value} {l:List B7} (h:U1 X X.heap.size v l):Cs X v (noI l):=Cs.of_typed (fun _ _ h=>C88 h) h (Nat.le_refl _)
theorem Aw3 {E:Env} {X:World} {v0 v1:Value} {l:Log} (h0:C0 X X.heap.size v0 l.base) (h1:U1 X X.heap.size v1 l.notes):Bb E X (.agg #[v0,v1,.int .i64 l.sure]) (Qb l) :=
 .agg rfl fun j v c a b=>by
  match j,a,b with
  | 0,a,b=>simp at a b;subst a b;exact .iv (Lm h0 (Nat.le_refl _))
  | 1,a,b=>simp at a b;subst a b;exact .iv (B22 h1)
  | 2,a,b=>simp at a b;subst a b;exact .val
  | j+3,a,b=>simp at a
theorem A7.law {P:Program} {G:World->Prop} {f:FuncId} {args:List AV} {r:Value} (h:A7 P G f args (.val r) []) {W:World} {vs:Array Value} (hG:G W) (hr:At ⟨fun _=>0,fun _=>undef⟩ W vs.toList args) :
  Calls P f vs W fun e w'=>e=.returned r/\Below W.heap.size W w' :=
 (h.2 W W _ vs (Ext.refl W) hG hr).mono fun _ _ ⟨v,E',h1,h2,_,_,_,h6⟩=>by
  cases h6
  exact ⟨h1,h2⟩
attribute [local irreducible] AW AWY Bw Bc vop Bj Az Bi qop By Ce Ar Ap Bo A7 Bd
@[go_sem] theorem Cw0 (l:List Ab):nrm (.iv (stI l))=.iv (stI l):=rfl
@[go_sem] theorem Cw1 (l:List Ad):nrm (.iv (spI l))=.iv (spI l):=rfl
@[go_sem] theorem Cv9 (l:List Aq):nrm (.iv (wrI l))=.iv (wrI l):=rfl
theorem C3 (x:B7):Et x=.agg [.iv (stI x.start),.iv (stI x.end_),.iv (spI x.blur),.iv (wrI x.writes)]:=rfl
theorem Jh (l:List B7):noI l=.sl 4 (l.map enN):=rfl
theorem Dp (l:List Aq):wrI l=.sl 4 (l.map enW):=rfl
theorem Ly {i e k:Nat} {l:List (List IV)} (h:∀ cs∈l,∀ x∈cs,∃ v,x=.val v):Aw8 [.row i e k l]:=fun b hb=>by
 rw [List.mem_singleton.1 hb]
 exact ⟨i,e,k,l,rfl,h⟩
theorem A89 (l:List Ab):∀ cs∈l.map Yn,∀ x∈cs,∃ v,x=IV.val v:=fun cs hcs x hx=>by
 obtain ⟨s,_,rfl⟩:=List.mem_map.1 hcs
 simp [Yn] at hx
 rcases hx with rfl | rfl<;>exact ⟨_,rfl⟩
theorem A90 (l:List Ad):∀ cs∈l.map L2,∀ x∈cs,∃ v,x=IV.val v:=fun cs hcs x hx=>by
 obtain ⟨s,_,rfl⟩:=List.mem_map.1 hcs
 simp [L2] at hx
 rcases hx with rfl | rfl<;>exact ⟨_,rfl⟩
attribute [local go_sem] Jh Kq Gy C3 Ai An
set_option maxHeartbeats 1600000 in
set_option maxRecDepth 100000 in
theorem Ar4 (l:Log) (iS:I64 l.sure):A7 Tryz.prog A8 148 [Qb l] (.tup [.any,.val (.bool (B4 l))]) []:=by
 refine A7.ofS (n:=49) (rs:=[.tmp 2,.tmp 3]) Tryz.func148 rfl (by kernel_rfl) Tryz.ntmps148 (by kernel_rfl) (by simp) (fun _ _=>A8.later) ?_
 intro hok V w0
 have hlen:l.notes.length<=1073741824:=by simpa using hok.1.2.1.1
 obtain ⟨B,hB⟩ : ∃ B,B4 l=B:=⟨_,rfl⟩
 rw [hB]
 rw [Ye] at hB
 refine g ?_
 refine AW.seq ?_
 refine AW.reg rfl fun KK hKK=>?_
 refine g ?_
 repeat' (refine hKK _ (g ?_);clear hKK KK)
 refine AW.freeze 200 _ rfl ⟨trivial,trivial,iS,trivial⟩ ?_
 simp only [go_sem,reduceIte]
 refine g ?_
 repeat' refine st_ rfl (g ?_)
 refine bs1 (by omega) rfl rfl rfl ⟨trivial,trivial⟩ ?_
 refine g ?_
 refine Qm (Rr [l.base]) (by trivial) rfl (Ly (A89 _)) (by exact Sbs.rfl_ _) rfl ?_
 refine g ?_
 refine AW.freeze 1000 _ rfl trivial ?_
 simp only [go_sem,reduceIte]
 refine g ?_
 repeat' refine st_ rfl (g ?_)
 refine AW.loop (fun m:{m:Nat // m<=l.notes.length/\Cp (Eb [l.base]) (l.notes.take m)=true}=>⟨[(1,.ip [stI l.base,noI l.notes,.val (.int .i64 l.sure)]),(2,.iv (stI (Db (Eb [l.base]) (l.notes.take m.1)))),(11,.iv (noI l.notes)),(12,.val (.int .i64 (l.notes.length:Nat))),(13,.val (.int .i64 m.1))],[]⟩) (fun m=>l.notes.length - m.1) ⟨0,Nat.zero_le _,rfl⟩ id (by simp [LeS,go_sem,Db,stI,noI]) fun ⟨m,hm,ht⟩=>?_
 have hsp:∀ (hlt:m < l.notes.length),l.notes=l.notes.take m++l.notes[m] :: l.notes.drop (m+1):=fun hlt=>by rw [<-List.drop_eq_getElem_cons hlt,List.take_append_drop]
 refine g ?_
 repeat' (first | refine st_ rfl (g ?_) | refine Cl (fun h=>g ?_) (fun h=>g ?_))
 ·have hlt:m < l.notes.length:=by simpa using h
  have hs2:Cp (Eb [l.base]) l.notes=((Al l.notes[m]&&Ba (Db (Eb [l.base]) (l.notes.take m)) l.notes[m].start)&&Cp (Eb [Db (Eb [l.base]) (l.notes.take m),l.notes[m].end_]) (l.notes.drop (m+1))):=by
   conv=>lhs;rw [hsp hlt]
   rw [F1,ht,Bool.true_and];rfl
  refine ⟨by omega,_,Cg (List.getElem?_eq_getElem hlt),?_⟩
  refine g ?_
  repeat' (first | refine st_ rfl (g ?_) | refine Aj (g ?_))
  refine Aa (L0 l.notes[m]) rfl ?_
  cases hf:Al l.notes[m]
  ·refine g ?_
   repeat' refine st_ rfl (g ?_)
   obtain rfl:B=false:=by rw [<-hB,hs2,hf];rfl
   first | exact ⟨.inl trivial,id,Gq,List.nodup_nil⟩ | exact Gq
  refine g ?_
  refine Aa (Aq9 l.notes[m] _) rfl ?_
  cases hc:Ba (Db (Eb [l.base]) (l.notes.take m)) l.notes[m].start
  ·refine g ?_
   repeat' refine st_ rfl (g ?_)
   obtain rfl:B=false:=by rw [<-hB,hs2,hf,hc];rfl
   first | exact ⟨.inl trivial,id,Gq,List.nodup_nil⟩ | exact Gq
  refine g ?_
  repeat' refine st_ rfl (g ?_)
  refine bs2 (by omega) rfl rfl rfl ⟨trivial,trivial⟩ rfl rfl rfl ⟨trivial,trivial⟩ ?_
  refine g ?_
  refine Qm (Rr [Db (Eb [l.base]) (l.notes.take m),l.notes[m].end_]) (by simp [Wf,Ft,okA]) rfl (Ly (A89 _)) (by exact Sbs.rfl_ _) rfl ?_
  refine g ?_
  refine AW.freeze 3100 _ rfl trivial ?_
  simp only [go_sem,reduceIte]
  refine g ?_
  repeat' refine st_ rfl (g ?_)
  refine ⟨⟨m+1,hlt,?_⟩,id,?_,?_⟩
  ·rw [List.take_succ_eq_append_getElem hlt,F1,ht,Bool.true_and]
   simp [Cp,hf,hc]
  ·refine ⟨⟨rfl,?_,rfl,rfl,rfl,trivial⟩,trivial,List.nodup_nil⟩
   rw [List.take_succ_eq_append_getElem hlt,Qc]
   rfl
  ·simp;omega
 ·have:m=l.notes.length:=by simp at h;omega
  subst this
  refine AW.drawn (ds:=[32,33,34,35,36,37,38,39,40,41,42,43,44,45,46,47,48,2,3]) (fin:=[]) (bs:=[0,0,0,0,0,0,0,0,0,0,0,0,0,0,0,0,0,0,0]) [⟨[],[2],[],[],0⟩,⟨[],[],[],[],0⟩,⟨[(33,1)],[],[],[],0⟩,⟨[(34,2)],[],[],[],0⟩,⟨[(35,3)],[],[],[],0⟩,⟨[],[],[],[],0⟩,⟨[(37,5)],[],[],[],0⟩,⟨[(38,6)],[],[],[],0⟩,⟨[(36,4),(39,7)],[],[],[],0⟩,⟨[(40,8)],[],[],[],0⟩,⟨[],[],[],[],0⟩,⟨[(42,10)],[],[],[],0⟩,⟨[],[],[],[],0⟩,⟨[(44,12)],[],[],[],0⟩,⟨[(45,13)],[],[],[],0⟩,⟨[(43,11),(46,14)],[],[],[],0⟩,⟨[(41,9),(47,15)],[],[],[],0⟩,⟨[(32,0)],[],[],[],0⟩,⟨[(48,16)],[],[],[],0⟩] (by kernel_rfl) rfl (by kernel_rfl) rfl rfl rfl fun KD hKD=>?_
  refine g ?_
  refine Aa (Kv l.base) rfl ?_
  cases hb:Av l.base
  ·refine g ?_
   repeat' (first | refine st_ rfl (g ?_) | (refine hKD _ _ ⟨rfl,g ?_⟩;clear hKD KD))
   obtain rfl:B=false:=by rw [<-hB,hb,Bool.false_and,Bool.and_false]
   first | exact ⟨.inl trivial,id,Gq,List.nodup_nil⟩ | exact Gq
  rw [List.take_length] at ht
  rw [ht,hb,Bool.true_and,Bool.true_and] at hB
  by_cases h0:0<=l.sure
  ·have d0:decide ((0:Int)<=l.sure)=true:=decide_eq_true h0
   refine g ?_
   simp only [d0]
   refine g ?_
   repeat' (first | refine st_ rfl (g ?_) | (refine hKD _ _ ⟨rfl,g ?_⟩;clear hKD KD))
   obtain rfl:B=decide (l.sure<=(l.notes.length:Nat)):=by rw [<-hB,Ra,d0,Bool.true_and]
   first | exact ⟨.inl trivial,id,Gq,List.nodup_nil⟩ | exact Gq
  ·have d0:decide ((0:Int)<=l.sure)=false:=decide_eq_false h0
   refine g ?_
   simp only [d0]
   refine g ?_
   repeat' (first | refine st_ rfl (g ?_) | (refine hKD _ _ ⟨rfl,g ?_⟩;clear hKD KD))
   obtain rfl:B=false:=by rw [<-hB,Ra,d0,Bool.false_and]
   first | exact ⟨.inl trivial,id,Gq,List.nodup_nil⟩ | exact Gq
theorem Lz (l:List Ab):A7 Tryz.prog A8 66 [.iv (stI l)] (.iv (stI l)) []:=(A99 l).frz trivial
theorem Ak8 (l:List Ad):A7 Tryz.prog A8 166 [.iv (spI l)] (.iv (spI l)) []:=(Aa0 l).frz trivial
theorem Bj5 (l:List Aq):A7 Tryz.prog A8 48 [.iv (wrI l)] (.iv (wrI l)) []:=(Ak7 l).frz trivial
end Go.Proofs.YthlgnjlpakimaaaGreatDoor
namespace Go.Proofs.YthlgnjlpakimaaaGreatDoor
open Go.ChangeShapes Go.WideShapes Go.ChangeAt Go.RowKit
attribute [local irreducible] AW AWY Bw Bc vop Bj Az Bi qop By Ce Ar Ap Bo A7 Bd
attribute [local go_sem] Dp C3 Ai An
theorem Wp (l m:List Ad):A7 Tryz.prog A8 127 [.iv (spI l),.iv (spI m)] (.iv (spI (D1 l m))) []:=(An5 l m).frz trivial
set_option maxHeartbeats 800000 in
set_option maxRecDepth 100000 in
theorem B42 (a b:B7) (it:List Ad):A7 Tryz.prog A8 106 [Et a,Et b,.iv (spI it)] (.val (.bool (Mj it a b))) []:=by
 refine A7.of (n:=32) (rs:=[.tmp 6]) Tryz.func106 rfl (by kernel_rfl) Tryz.ntmps106 (by kernel_rfl) (by simp) (fun _ _=>A8.later) ?_
 intro hok V w0
 have hla:a.writes.length<=1073741824:=by simpa using hok.1.2.2.2.1.1
 have hlb:b.writes.length<=1073741824:=by simpa using hok.2.1.2.2.2.1.1
 obtain ⟨B,hB⟩ : ∃ B,Mj it a b=B:=⟨_,rfl⟩
 rw [hB]
 unfold Mj at hB
 refine g ?_
 refine AW.seq ?_
 refine AW.reg rfl fun KK hKK=>?_
 refine g ?_
 repeat' (refine hKK _ (g ?_);clear hKK KK)
 refine AW.freeze 400 _ rfl ⟨trivial,trivial,trivial,trivial,trivial⟩ ?_
 simp only [go_sem,reduceIte,Nat.reduceEqDiff]
 refine AW.freeze 500 _ rfl ⟨trivial,trivial,trivial,trivial,trivial⟩ ?_
 simp only [go_sem,reduceIte,Nat.reduceEqDiff]
 refine g ?_
 repeat' refine st_ rfl (g ?_)
 by_cases hw:a.writes=[]/\b.writes=[]
 ·have d:decide ((0:Int) < (a.writes.length:Int)+(b.writes.length:Int))=false:=by rw [hw.1,hw.2];rfl
  rw [decide_eq_true hw.1,decide_eq_true hw.2,Bool.true_and,Bool.true_and] at hB
  simp only [d]
  refine g ?_
  refine Aa (Uz a.end_ b.start) rfl ?_
  by_cases he:a.end_=b.start
  ·rw [decide_eq_true he,Bool.true_and] at hB
   simp only [decide_eq_true he]
   refine g ?_
   repeat' refine st_ rfl (g ?_)
   refine AW.drawn (ds:=[23,24,25,26,27,28,29,30,31,6]) (fin:=[]) (bs:=[0,0,0,0,0,0,0,0,0,0]) [⟨[],[],[],[],0⟩,⟨[(23,0)],[],[],[],0⟩,⟨[],[],[],[],0⟩,⟨[(24,1),(25,2)],[],[],[],0⟩,⟨[],[],[],[],0⟩,⟨[(27,4)],[],[],[],0⟩,⟨[],[],[],[],0⟩,⟨[(28,5),(29,6)],[],[],[],0⟩,⟨[(26,3),(30,7)],[],[],[],0⟩,⟨[(31,8)],[],[],[],0⟩] (by kernel_rfl) rfl (by kernel_rfl) rfl rfl rfl fun KD hKD=>?_
   refine g ?_
   refine Aa (Wp a.blur it) rfl ?_
   refine g ?_
   refine Aa (Wp b.blur it) rfl ?_
   refine g ?_
   refine Aa (B49 (D1 a.blur it) (D1 b.blur it)) rfl ?_
   rw [hB]
   refine g ?_
   repeat' (first | refine st_ rfl (g ?_) | (refine hKD _ _ ⟨rfl,g ?_⟩;clear hKD KD))
   first | exact trivial | exact ⟨.inl trivial,id,List.nodup_nil⟩ | rfl
  ·obtain rfl:B=false:=by rw [<-hB,decide_eq_false he,Bool.false_and]
   simp only [decide_eq_false he]
   refine g ?_
   repeat' refine st_ rfl (g ?_)
   first | exact trivial | exact ⟨.inl trivial,id,List.nodup_nil⟩ | rfl
 ·have d:decide ((0:Int) < (a.writes.length:Int)+(b.writes.length:Int))=true:=by
   rw [decide_eq_true_eq]
   by_cases h1:a.writes=[]
   ·have h2:b.writes≠[]:=fun e=>hw ⟨h1,e⟩
    have:=List.length_pos_iff.2 h2
    omega
   ·have:=List.length_pos_iff.2 h1
    omega
  obtain rfl:B=false:=by
   rw [<-hB]
   by_cases h1:a.writes=[]
   ·rw [decide_eq_false fun e=>hw ⟨h1,e⟩];simp
   ·rw [decide_eq_false h1];simp
  simp only [d]
  refine g ?_
  repeat' refine st_ rfl (g ?_)
  first | exact trivial | exact ⟨.inl trivial,id,List.nodup_nil⟩ | rfl
end Go.Proofs.YthlgnjlpakimaaaGreatDoor
