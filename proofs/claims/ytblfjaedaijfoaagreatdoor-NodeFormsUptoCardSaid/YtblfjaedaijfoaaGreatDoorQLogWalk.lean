/- Logs: walked, checked. -/
import Derived.Test.YtblfjaedaijfoaaGreatDoorQNoteSmall
import Derived.Test.YtblfjaedaijfoaaGreatDoorQTidyLaw
import Derived.Test.YtblfjaedaijfoaaGreatDoorQNoteWalk
import Derived.Test.YtblfjaedaijfoaaGreatDoorQVecLaw
import Derived.Test.YtblfjaedaijfoaaGreatDoorQAbsApp
import Derived.Test.YtblfjaedaijfoaaGreatDoorQEnc
import Derived.Test.YtblfjaedaijfoaaGreatDoorQBridge
set_option linter.all false
set_option linter.unnecessarySimpa false
set_option linter.unusedSimpArgs false
set_option linter.unusedVariables false
namespace Go.Proofs.YtblfjaedaijfoaaGreatDoor
open Go.ChangeShapes Go.WideShapes Go.ChangeAt Go.RowKit
def D47 (it:List Ao) (l:List Ap):List Ap:=l.filter fun y=>Er it y.object
def Be5 (it:List Ao) (l:List Ap):List Int:=(l.filter fun y=>!Er it y.object).map (·.object)
def Ap8 (x:Bc) (it:List Ao):List Ao:=En (x.blur++En (Nn (Be5 it x.writes)))
def Ap7 (x:Bc) (it:List Ao):Bc:=⟨x.start,x.end_,Ap8 x it,D47 it x.writes⟩
def R6:Bc:=⟨[],[],[],[]⟩
def D37 (x:Bc) (it:List Ao):Bc×Int:=if Ax x=true then (Ap7 x it,0) else (R6,1)
theorem Bp0 (os:List Int) (o:Int):Bm (Nn os) o=os.any fun p=>decide (p=o):=by
 unfold Bm Nn
 rw [List.any_map]
 congr 1
 funext p
 rw [Bool.eq_iff_iff]
 simp only [Function.comp,Bool.and_eq_true,decide_eq_true_eq]
 omega
end Go.Proofs.YtblfjaedaijfoaaGreatDoor
namespace Go.Proofs.YtblfjaedaijfoaaGreatDoor
structure Log where
 base:List Ab
 notes:List Bc
 sure:Int
def Cs:List Ab->List Bc->Bool
 | _,[]=>true
 | k,n :: l=>(Ax n&&Aw k n.start)&&Cs (Di [k,n.end_]) l
def Zl (l:Log):Bool:=decide (0<=l.sure)&&decide (l.sure<=l.notes.length)
def Cf (l:Log):Bool:=Ak l.base&&Zl l&&Cs l.base l.notes
def Bk (k:List Ab) (l:List Bc):List Ab:=l.foldl (fun k n=>Di [k,n.end_]) k
theorem Ad3 {a:List Ab} (h:Ak a=true):Di [a]=a:=by
 unfold Di
 rw [Lb (d:=fun n=>Aa a n) fun n _=>Bq2 a n]
 exact Qm h
theorem E5:∀ (l m:List Bc) (k:List Ab),Cs k (l++m)=(Cs k l&&Cs (Bk k l) m)
 | [],m,k=>by simp [Cs,Bk]
 | n :: l,m,k=>by
  rw [List.cons_append,Cs,Cs,E5 l m,Bool.and_assoc,Bool.and_assoc,Bool.and_assoc]
  rfl
theorem Mo (k:List Ab) (l:List Bc) (n:Bc):Bk k (l++[n])=Di [Bk k l,n.end_]:=by simp [Bk]
theorem Ra (l:Log):Cf l=(Cs (Di [l.base]) l.notes&&(Ak l.base&&Zl l)):=by
 unfold Cf
 cases h:Ak l.base with
 | false=>simp
 | true=>rw [Ad3 h,Bool.and_comm]
-- where to begin
def Br3 (v:List Ab) (l:List Bc):Nat:=l.findIdx fun n=>!Aw v n.end_
def By5 (l:Log) (v:List Ab):Int×Int:=if Cf l=true then (if Aw v l.base=true then ((Br3 v l.notes:Nat),0) else (0,12)) else (0,1)
def E05 (l:Log) (v:List Ab):Int×Int:=if (By5 l v).2=12 then (-1,0) else By5 l v
-- a batch
def J9 (a b:List Ao):List Ao:=Fa fun o=>Bm a o&&Bm b o
def Ce4 (it:List Ao) (a b:Bc):Bool:=decide (a.writes=[])&&decide (b.writes=[])&&decide (a.end_=b.start)&&decide (J9 a.blur it=J9 b.blur it)
def Cj2 (a b:Bc):Bc:=⟨a.start,Di [a.end_,b.end_],En (a.blur++b.blur),[]⟩
def Cd6 (it:List Ao) (out:List Bc) (x:Bc):List Bc :=
 match out.getLast? with
 | some a=>if Ce4 it a x=true then out.dropLast++[Cj2 a x] else out++[x]
 | none=>out++[x]
def D40 (it:List Ao) (most:Int) (out:List Bc) (x:Bc):Bool :=
 match out.getLast? with
 | some a=>!Ce4 it a x&&decide ((out.length:Int)=most)
 | none=>decide ((out.length:Int)=most)
def Ag1 (it:List Ao) (most:Int):List Bc->Nat->List Bc->List Bc×Nat
 | out,i,[]=>(out,i)
 | out,i,x :: l=>if D40 it most out x=true then (out,i) else Ag1 it most (Cd6 it out x) (i+1) l
def D34 (l:Log) (it:List Ao):List Bc:=(l.notes.take l.sure.toNat).map fun n=>Ap7 n it
def E09 (l:Log) (at_ most:Int):Bool:=Cf l&&decide (0<=at_)&&decide (at_<=l.sure)&&decide (1<=most)
def C50 (l:Log) (at_:Int) (it:List Ao) (most:Int):List Bc×Nat:=Ag1 it most [] at_.toNat ((D34 l it).drop at_.toNat)
def E08 (l:Log) (at_:Int) (it:List Ao) (most:Int):List Bc×Int×Int :=
 if E09 l at_ most=true then ((C50 l at_ it most).1,((C50 l at_ it most).2:Nat),0) else ([],0,1)
-- what is told is formed
theorem Ec {a b:List Ab} : Aw a b=true↔∀ n:Nat,n < 64->Aa b n<=Aa a n:=by unfold Aw;exact decide_eq_true_iff
theorem Qi {x:Bc} : ∀ {l:List Ap} {e:Int},Dj x e l=true↔(∀ y∈l,e < y.object/\0<=y.object/\y.object<=255/\Er x.blur y.object=false/\E4 x.end_ y.stamp=true)/\l.Pairwise fun a b=>a.object < b.object
 | [],e=>by simp [Dj]
 | y :: l,e=>by
  simp only [Dj,Bool.and_eq_true,decide_eq_true_eq,Bool.not_eq_true',Qi (l:=l),List.mem_cons,List.pairwise_cons]
  constructor
  ·rintro ⟨⟨⟨⟨h1,h2,h3⟩,h4⟩,h5⟩,h6,h7⟩
   refine ⟨fun z hz=>?_,fun z hz=>(h6 z hz).1,h7⟩
   rcases hz with rfl | hz
   ·exact ⟨h1,h2,h3,h4,h5⟩
   ·have:=h6 z hz
    exact ⟨by omega,this.2⟩
  ·rintro ⟨h1,h2,h3⟩
   have:=h1 y (.inl rfl)
   exact ⟨⟨⟨⟨this.1,this.2.1,this.2.2.1⟩,this.2.2.2.1⟩,this.2.2.2.2⟩,fun z hz=>⟨h2 z hz,(h1 z (.inr hz)).2⟩,h3⟩
theorem R2 {x:Bc} : Ax x=true↔Ak x.start=true/\Ak x.end_=true/\Aw x.end_ x.start=true/\Br x.blur=true/\Dj x (-1) x.writes=true:=by
 simp only [Ax,Bool.and_eq_true,and_assoc]
-- batches one after the other
section
variable {it : List Ao} {most : Int}
def E41 (it:List Ao) (out:List Bc) (l:List Bc):List Bc:=l.foldl (Cd6 it) out
end
end Go.Proofs.YtblfjaedaijfoaaGreatDoor
namespace Go.Proofs.YtblfjaedaijfoaaGreatDoor
open Go.ChangeShapes Go.WideShapes Go.ChangeAt Go.RowKit
def E19 (w:World) (B:Nat) (cs:List Value) (l:Log):Prop:=∃ v0 v1,cs=[v0,v1,.int .i64 l.sure]/\C8 w B v0 l.base/\Tg w B v1 l.notes/\I64 l.sure
theorem Bn7 {w:World} : F7 Tryz.prog w 30 3 (E19 w w.heap.size):=by
 intro H enc fuel cs x h
 obtain ⟨hl,n,hf⟩:=Ce Tryz.underlying30 h
 have hk:Tryz.prog.cellsOf 30=3:=by kernel_rfl
 have hs:Tryz.prog.cellsOf 22=1:=by kernel_rfl
 have hn:Tryz.prog.cellsOf 28=1:=by kernel_rfl
 have hi:Tryz.prog.cellsOf 3=1:=by kernel_rfl
 rw [hk] at hl
 refine ⟨hl,?_⟩
 match cs,hl with
 | [v0,v1,v2],_ =>
  obtain ⟨y0,h0⟩:=hf 0 22 0 1 rfl hs
  obtain ⟨y1,h1⟩:=hf 1 28 1 1 rfl hn
  obtain ⟨y2,h2⟩:=hf 2 3 2 1 rfl hi
  obtain ⟨_,a,_,e0,s0⟩:=J1 (w:=w) H enc n _ _ h0
  obtain ⟨_,b,_,e1,s1⟩:=Y1 (w:=w) H enc n _ _ h1
  obtain ⟨_,c,e2,i2⟩:=C3 (w:=w) Tryz.underlying3 H enc n _ _ h2
  simp at e0 e1 e2
  subst e0 e1 e2
  exact ⟨⟨a,b,c⟩,_,_,rfl,s0,s1,i2⟩
structure Ask where
 at_:Int
 most:Int
def E60 (cs:List Value) (a:Ask):Prop:=cs=[.int .i64 a.at_,.int .i64 a.most]/\I64 a.at_/\I64 a.most
def Q4 (l:Log):AV:=.agg [.iv (stI l.base),.iv (noI l.notes),.val (.int .i64 l.sure)]
theorem Ef (l:Log):Q4 l=.agg [.iv (stI l.base),.iv (noI l.notes),.val (.int .i64 l.sure)]:=rfl
theorem D64 {X:World} {cs:List Value} {x:Bc} (h:B19 X X.heap.size cs x):Ay X cs (enN x):=by
 obtain ⟨v0,v1,v2,v3,rfl,h⟩:=h
 exact ⟨Ky h.start (Nat.le_refl _),Ky h.end_ (Nat.le_refl _),Ry h.blur (Nat.le_refl _),Za h.writes (Nat.le_refl _),trivial⟩
theorem Ac2 {X:World} {v:Value} {l:List Bc} (h:Tg X X.heap.size v l):Cp X v (noI l):=Cp.of_typed (fun _ _ h=>D64 h) h (Nat.le_refl _)
theorem A7.law {P:Program} {G:World->Prop} {f:FuncId} {args:List AV} {r:Value} (h:A7 P G f args (.val r) []) {W:World} {vs:Array Value} (hG:G W) (hr:Au ⟨fun _=>0,fun _=>undef⟩ W vs.toList args) :
  Calls P f vs W fun e w'=>e=.returned r/\Below W.heap.size W w' :=
 (h.2 W W _ vs (Ext.refl W) hG hr).mono fun _ _ ⟨v,E',h1,h2,_,_,_,h6⟩=>by
  cases h6
  exact ⟨h1,h2⟩
attribute [local irreducible] AW AWY Bo B4 vop Bj B7 Bf qop Bu C4 Aq Aj Bh A7 B9
@[go_sem] theorem Dx3 (l:List Ab):nrm (.iv (stI l))=.iv (stI l):=rfl
@[go_sem] theorem Dx4 (l:List Ao):nrm (.iv (spI l))=.iv (spI l):=rfl
@[go_sem] theorem Dx2 (l:List Ap):nrm (.iv (wrI l))=.iv (wrI l):=rfl
theorem C9 (x:Bc):Ft x=.agg [.iv (stI x.start),.iv (stI x.end_),.iv (spI x.blur),.iv (wrI x.writes)]:=rfl
theorem G2 (l:List Bc):noI l=.sl 4 (l.map enN):=rfl
theorem Cm (l:List Ap):wrI l=.sl 4 (l.map enW):=rfl
theorem Rg {i e k:Nat} {l:List (List IV)} (h:∀ cs∈l,∀ x∈cs,∃ v,x=.val v):Bh7 [.row i e k l]:=fun b hb=>by
 rw [List.mem_singleton.1 hb]
 exact ⟨i,e,k,l,rfl,h⟩
theorem Z4 (l:List Ab):∀ cs∈l.map Rj,∀ x∈cs,∃ v,x=IV.val v:=fun cs hcs x hx=>by
 obtain ⟨s,_,rfl⟩:=List.mem_map.1 hcs
 simp [Rj] at hx
 rcases hx with rfl | rfl<;>exact ⟨_,rfl⟩
theorem Ca8 (l:List Ao):∀ cs∈l.map Nl,∀ x∈cs,∃ v,x=IV.val v:=fun cs hcs x hx=>by
 obtain ⟨s,_,rfl⟩:=List.mem_map.1 hcs
 simp [Nl] at hx
 rcases hx with rfl | rfl<;>exact ⟨_,rfl⟩
attribute [local go_sem] G2 Ms Ef C9 Ae Af
set_option maxHeartbeats 1600000 in
set_option maxRecDepth 100000 in
theorem B96 (l:Log) (iS:I64 l.sure):A7 Tryz.prog A8 107 [Q4 l] (.tup [.any,.val (.bool (Cf l))]) []:=by
 refine A7.ofS (n:=49) (rs:=[.tmp 2,.tmp 3]) Tryz.func107 rfl (by kernel_rfl) Tryz.ntmps107 (by kernel_rfl) (by simp) (fun _ _=>A8.later) ?_
 intro hok V w0
 have hlen:l.notes.length<=1073741824:=by simpa using hok.1.2.1.1
 obtain ⟨B,hB⟩ : ∃ B,Cf l=B:=⟨_,rfl⟩
 rw [hB]
 rw [Ra] at hB
 refine g ?_
 refine AW.seq ?_
 refine AW.reg rfl fun KK hKK=>?_
 refine g ?_
 repeat' (refine hKK _ (g ?_);clear hKK KK)
 refine AW.freeze 200 _ rfl ⟨trivial,trivial,iS,trivial⟩ ?_
 simp only [go_sem,reduceIte]
 refine g ?_
 repeat' refine st_ rfl (g ?_)
 refine bs1 (by omega) rfl rfl rfl ⟨trivial,trivial⟩ ?_
 refine g ?_
 refine Np (Mb [l.base]) (by trivial) rfl (Rg (Z4 _)) (by exact Sbs.rfl_ _) rfl ?_
 refine g ?_
 refine AW.freeze 1000 _ rfl trivial ?_
 simp only [go_sem,reduceIte]
 refine g ?_
 repeat' refine st_ rfl (g ?_)
 refine AW.loop (fun m:{m:Nat // m<=l.notes.length/\Cs (Di [l.base]) (l.notes.take m)=true}=>⟨[(1,.ip [stI l.base,noI l.notes,.val (.int .i64 l.sure)]),(2,.iv (stI (Bk (Di [l.base]) (l.notes.take m.1)))),(11,.iv (noI l.notes)),(12,.val (.int .i64 (l.notes.length:Nat))),(13,.val (.int .i64 m.1))],[]⟩) (fun m=>l.notes.length - m.1) ⟨0,Nat.zero_le _,rfl⟩ id (by simp [LeS,go_sem,Bk,stI,noI]) fun ⟨m,hm,ht⟩=>?_
 have hsp:∀ (hlt:m < l.notes.length),l.notes=l.notes.take m++l.notes[m] :: l.notes.drop (m+1):=fun hlt=>by rw [<-List.drop_eq_getElem_cons hlt,List.take_append_drop]
 refine g ?_
 repeat' (first | refine st_ rfl (g ?_) | refine Cy (fun h=>g ?_) (fun h=>g ?_))
 ·have hlt:m < l.notes.length:=by simpa using h
  have hs2:Cs (Di [l.base]) l.notes=((Ax l.notes[m]&&Aw (Bk (Di [l.base]) (l.notes.take m)) l.notes[m].start)&&Cs (Di [Bk (Di [l.base]) (l.notes.take m),l.notes[m].end_]) (l.notes.drop (m+1))):=by
   conv=>lhs;rw [hsp hlt]
   rw [E5,ht,Bool.true_and];rfl
  refine ⟨by omega,_,Cx (List.getElem?_eq_getElem hlt),?_⟩
  refine g ?_
  repeat' (first | refine st_ rfl (g ?_) | refine Bi (g ?_))
  refine A9 (J4 l.notes[m]) rfl ?_
  cases hf:Ax l.notes[m]
  ·refine g ?_
   repeat' refine st_ rfl (g ?_)
   obtain rfl:B=false:=by rw [<-hB,hs2,hf];rfl
   first | exact ⟨.inl trivial,id,De,List.nodup_nil⟩ | exact De
  refine g ?_
  refine A9 (Q2 l.notes[m] _) rfl ?_
  cases hc:Aw (Bk (Di [l.base]) (l.notes.take m)) l.notes[m].start
  ·refine g ?_
   repeat' refine st_ rfl (g ?_)
   obtain rfl:B=false:=by rw [<-hB,hs2,hf,hc];rfl
   first | exact ⟨.inl trivial,id,De,List.nodup_nil⟩ | exact De
  refine g ?_
  repeat' refine st_ rfl (g ?_)
  refine bs2 (by omega) rfl rfl rfl ⟨trivial,trivial⟩ rfl rfl rfl ⟨trivial,trivial⟩ ?_
  refine g ?_
  refine Np (Mb [Bk (Di [l.base]) (l.notes.take m),l.notes[m].end_]) (by simp [Wy,J2,okA]) rfl (Rg (Z4 _)) (by exact Sbs.rfl_ _) rfl ?_
  refine g ?_
  refine AW.freeze 3100 _ rfl trivial ?_
  simp only [go_sem,reduceIte]
  refine g ?_
  repeat' refine st_ rfl (g ?_)
  refine ⟨⟨m+1,hlt,?_⟩,id,?_,?_⟩
  ·rw [List.take_succ_eq_append_getElem hlt,E5,ht,Bool.true_and]
   simp [Cs,hf,hc]
  ·refine ⟨⟨rfl,?_,rfl,rfl,rfl,trivial⟩,trivial,List.nodup_nil⟩
   rw [List.take_succ_eq_append_getElem hlt,Mo]
   rfl
  ·simp;omega
 ·have:m=l.notes.length:=by simp at h;omega
  subst this
  refine AW.drawn (ds:=[32,33,34,35,36,37,38,39,40,41,42,43,44,45,46,47,48,2,3]) (fin:=[]) (bs:=[0,0,0,0,0,0,0,0,0,0,0,0,0,0,0,0,0,0,0]) [⟨[],[2],[],[],0⟩,⟨[],[],[],[],0⟩,⟨[(33,1)],[],[],[],0⟩,⟨[(34,2)],[],[],[],0⟩,⟨[(35,3)],[],[],[],0⟩,⟨[],[],[],[],0⟩,⟨[(37,5)],[],[],[],0⟩,⟨[(38,6)],[],[],[],0⟩,⟨[(36,4),(39,7)],[],[],[],0⟩,⟨[(40,8)],[],[],[],0⟩,⟨[],[],[],[],0⟩,⟨[(42,10)],[],[],[],0⟩,⟨[],[],[],[],0⟩,⟨[(44,12)],[],[],[],0⟩,⟨[(45,13)],[],[],[],0⟩,⟨[(43,11),(46,14)],[],[],[],0⟩,⟨[(41,9),(47,15)],[],[],[],0⟩,⟨[(32,0)],[],[],[],0⟩,⟨[(48,16)],[],[],[],0⟩] (by kernel_rfl) rfl (by kernel_rfl) rfl rfl rfl fun KD hKD=>?_
  refine g ?_
  refine A9 (Fh l.base) rfl ?_
  cases hb:Ak l.base
  ·refine g ?_
   repeat' (first | refine st_ rfl (g ?_) | (refine hKD _ _ ⟨rfl,g ?_⟩;clear hKD KD))
   obtain rfl:B=false:=by rw [<-hB,hb,Bool.false_and,Bool.and_false]
   first | exact ⟨.inl trivial,id,De,List.nodup_nil⟩ | exact De
  rw [List.take_length] at ht
  rw [ht,hb,Bool.true_and,Bool.true_and] at hB
  by_cases h0:0<=l.sure
  ·have d0:decide ((0:Int)<=l.sure)=true:=decide_eq_true h0
   refine g ?_
   simp only [d0]
   refine g ?_
   repeat' (first | refine st_ rfl (g ?_) | (refine hKD _ _ ⟨rfl,g ?_⟩;clear hKD KD))
   obtain rfl:B=decide (l.sure<=(l.notes.length:Nat)):=by rw [<-hB,Zl,d0,Bool.true_and]
   first | exact ⟨.inl trivial,id,De,List.nodup_nil⟩ | exact De
  ·have d0:decide ((0:Int)<=l.sure)=false:=decide_eq_false h0
   refine g ?_
   simp only [d0]
   refine g ?_
   repeat' (first | refine st_ rfl (g ?_) | (refine hKD _ _ ⟨rfl,g ?_⟩;clear hKD KD))
   obtain rfl:B=false:=by rw [<-hB,Zl,d0,Bool.false_and]
   first | exact ⟨.inl trivial,id,De,List.nodup_nil⟩ | exact De
theorem Ko (l:List Ab):A7 Tryz.prog A8 149 [.iv (stI l)] (.iv (stI l)) []:=(Am5 l).frz trivial
theorem B00 (l:List Ao):A7 Tryz.prog A8 77 [.iv (spI l)] (.iv (spI l)) []:=(Am6 l).frz trivial
theorem Bi6 (l:List Ap):A7 Tryz.prog A8 215 [.iv (wrI l)] (.iv (wrI l)) []:=(N9 l).frz trivial
end Go.Proofs.YtblfjaedaijfoaaGreatDoor
