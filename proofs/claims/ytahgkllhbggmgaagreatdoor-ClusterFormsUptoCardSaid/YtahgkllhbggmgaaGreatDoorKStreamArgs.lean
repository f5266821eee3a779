/- The arguments of a stream's laws: logs and asks, as they are read and as data. -/
import Derived.Test.YtahgkllhbggmgaaGreatDoorKNoteSmall
import Derived.Test.YtahgkllhbggmgaaGreatDoorKSortSpan
import Derived.Test.YtahgkllhbggmgaaGreatDoorKNoteWalk
import Derived.Test.YtahgkllhbggmgaaGreatDoorKVecLaw
import Derived.Test.YtahgkllhbggmgaaGreatDoorKAbsIter
import Derived.Test.YtahgkllhbggmgaaGreatDoorKEnc
set_option linter.all false
set_option linter.unnecessarySimpa false
set_option linter.unusedSimpArgs false
set_option linter.unusedVariables false
namespace Go.Proofs.YtahgkllhbggmgaaGreatDoor
open Go.ChangeShapes Go.WideShapes Go.ChangeAt Go.RowKit
def Cj7 (it:List Ar) (l:List Aq):List Aq:=l.filter fun y=>E9 it y.object
def Ar0 (it:List Ar) (l:List Aq):List Int:=(l.filter fun y=>!E9 it y.object).map (·.object)
def A70 (x:Bv) (it:List Ar):List Ar:=Y4 (x.blur++Y4 (Cq8 (Ar0 it x.writes)))
def A69 (x:Bv) (it:List Ar):Bv:=⟨x.start,x.end_,A70 x it,Cj7 it x.writes⟩
def An1:Bv:=⟨[],[],[],[]⟩
def Ci7 (x:Bv) (it:List Ar):Bv×Int:=if Bl x=true then (A69 x it,0) else (An1,1)
end Go.Proofs.YtahgkllhbggmgaaGreatDoor
namespace Go.Proofs.YtahgkllhbggmgaaGreatDoor
structure Log where
 base:List Ad
 notes:List Bv
 sure:Int
def Bz:List Ad->List Bv->Bool
 | _,[]=>true
 | k,n :: l=>(Bl n&&Bo k n.start)&&Bz (Dl [k,n.end_]) l
def Uy (l:Log):Bool:=decide (0<=l.sure)&&decide (l.sure<=l.notes.length)
def C0 (l:Log):Bool:=B6 l.base&&Uy l&&Bz l.base l.notes
def Ax (k:List Ad) (l:List Bv):List Ad:=l.foldl (fun k n=>Dl [k,n.end_]) k
theorem Yt {a:List Ad} (h:B6 a=true):Dl [a]=a:=by
 unfold Dl
 rw [A66 (d:=fun n=>A9 a n) fun n _=>B06 a n]
 exact A65 h
theorem D6:∀ (l m:List Bv) (k:List Ad),Bz k (l++m)=(Bz k l&&Bz (Ax k l) m)
 | [],m,k=>by simp [Bz,Ax]
 | n :: l,m,k=>by
  rw [List.cons_append,Bz,Bz,D6 l m,Bool.and_assoc,Bool.and_assoc,Bool.and_assoc]
  rfl
theorem K4 (k:List Ad) (l:List Bv) (n:Bv):Ax k (l++[n])=Dl [Ax k l,n.end_]:=by simp [Ax]
theorem Ng (l:Log):C0 l=(Bz (Dl [l.base]) l.notes&&(B6 l.base&&Uy l)):=by
 unfold C0
 cases h:B6 l.base with
 | false=>simp
 | true=>rw [Yt h,Bool.and_comm]
-- where to begin
def B13 (v:List Ad) (l:List Bv):Nat:=l.findIdx fun n=>!Bo v n.end_
def B87 (l:Log) (v:List Ad):Int×Int:=if C0 l=true then (if Bo v l.base=true then ((B13 v l.notes:Nat),0) else (0,12)) else (0,1)
def Di8 (l:Log) (v:List Ad):Int×Int:=if (B87 l v).2=12 then (-1,0) else B87 l v
-- a batch
def A21 (a b:List Ar):List Ar:=Rh fun o=>Dj a o&&Dj b o
def Bq2 (it:List Ar) (a b:Bv):Bool:=decide (a.writes=[])&&decide (b.writes=[])&&decide (a.end_=b.start)&&decide (A21 a.blur it=A21 b.blur it)
def Bx1 (a b:Bv):Bv:=⟨a.start,Dl [a.end_,b.end_],Y4 (a.blur++b.blur),[]⟩
def Bo7 (it:List Ar) (out:List Bv) (x:Bv):List Bv :=
 match out.getLast? with
 | some a=>if Bq2 it a x=true then out.dropLast++[Bx1 a x] else out++[x]
 | none=>out++[x]
def Cj1 (it:List Ar) (most:Int) (out:List Bv) (x:Bv):Bool :=
 match out.getLast? with
 | some a=>!Bq2 it a x&&decide ((out.length:Int)=most)
 | none=>decide ((out.length:Int)=most)
def Z8 (it:List Ar) (most:Int):List Bv->Nat->List Bv->List Bv×Nat
 | out,i,[]=>(out,i)
 | out,i,x :: l=>if Cj1 it most out x=true then (out,i) else Z8 it most (Bo7 it out x) (i+1) l
def Ci5 (l:Log) (it:List Ar):List Bv:=(l.notes.take l.sure.toNat).map fun n=>A69 n it
def Dj0 (l:Log) (at_ most:Int):Bool:=C0 l&&decide (0<=at_)&&decide (at_<=l.sure)&&decide (1<=most)
def Bf2 (l:Log) (at_:Int) (it:List Ar) (most:Int):List Bv×Nat:=Z8 it most [] at_.toNat ((Ci5 l it).drop at_.toNat)
def Di9 (l:Log) (at_:Int) (it:List Ar) (most:Int):List Bv×Int×Int :=
 if Dj0 l at_ most=true then ((Bf2 l at_ it most).1,((Bf2 l at_ it most).2:Nat),0) else ([],0,1)
-- what is told is formed
-- batches one after the other
section
variable {it : List Ar} {most : Int}
def Dn1 (it:List Ar) (out:List Bv) (l:List Bv):List Bv:=l.foldl (Bo7 it) out
end
end Go.Proofs.YtahgkllhbggmgaaGreatDoor
namespace Go.Proofs.YtahgkllhbggmgaaGreatDoor
open Go.ChangeShapes Go.WideShapes Go.ChangeAt Go.RowKit
def Dq6 (G:World->Prop):Prop:=∀ w r (o':Obj),G w->(∃ o:Obj,w.heap[r]? = some o/\Ku o=true)->G (w.putObj r o')
section
variable {P : Program} {G : World -> Prop} {α : Type} {encs : α -> List AV} {Sp : List α -> Prop} {Y : YC P G encs Sp} {n : Nat} {K : Exit -> Ys α -> Ab -> Prop}
def Dk6 (K:Exit->Ys α->Ab->Prop) (pu:List (Nat×AV)) (I:List α->Prop):Exit->Ys α->Ab->Prop
 | .normal,.going q,_=>I q
 | .ret,.going q,_=>K .ret (.over (some q)) ⟨pu,[]⟩
 | .ret,.left,_=>K .ret (.over none) ⟨pu,[]⟩
 | .exit id,.going q,_=>K (.exit id) (.over (some q)) ⟨pu,[]⟩
 | .exit id,.left,_=>K (.exit id) (.over none) ⟨pu,[]⟩
 | _,_,_=>False
end
def Em (x y:AV):Prop:=∀ (E:Env) (X:World) (v:Value),At E X v x->At E X v y
theorem Em.rfl_ (x:AV):Em x x:=fun _ _ _ h=>h
theorem Bx (k:Nat):Em (.val (.slice none 0 0)) (.iv (.sl k [])):=Bi4
theorem Bn2 (x:AV):Em x .any:=fun _ _ _ _=>.any
theorem Pj.get {xs ys:List AV} (h:xs.length=ys.length) (hs:∀ p∈xs.zip ys,Em p.1 p.2) (j:Nat) (x y:AV) (hx:xs[j]? = some x) (hy:ys[j]? = some y):Em x y :=
 hs (x,y) (List.mem_iff_getElem?.2 ⟨j,by rw [List.getElem?_zip_eq_some];exact ⟨hx,hy⟩⟩)
theorem Lz {xs ys:List AV} (h:xs.length=ys.length) (hs:∀ p∈xs.zip ys,Em p.1 p.2):Em (.tup xs) (.tup ys):=fun E X v hv=>by
 cases hv with
 | @tup vs _ h1 h2 =>
  refine .tup (h1.trans h) fun j v c a b=>?_
  have hj:=(List.getElem?_eq_some_iff.1 b).1
  rw [<-h] at hj
  exact Pj.get h hs j _ c (List.getElem?_eq_getElem hj) b _ _ _ (h2 j v _ a (List.getElem?_eq_getElem hj))
theorem L0 {xs ys:List AV} (h:xs.length=ys.length) (hs:∀ p∈xs.zip ys,Em p.1 p.2):Em (.agg xs) (.agg ys):=fun E X v hv=>by
 cases hv with
 | @agg vs _ h1 h2 =>
  refine .agg (h1.trans h) fun j v c a b=>?_
  have hj:=(List.getElem?_eq_some_iff.1 b).1
  rw [<-h] at hj
  exact Pj.get h hs j _ c (List.getElem?_eq_getElem hj) b _ _ _ (h2 j v _ a (List.getElem?_eq_getElem hj))
theorem Cm {x:AV} {r:List AV} : Em (.tup (x :: r)) (.tup (.any :: r)):=by
 refine Lz rfl fun p hp=>?_
 rw [List.zip_cons_cons] at hp
 rcases List.mem_cons.1 hp with rfl | hp
 ·exact Bn2 x
 ·obtain ⟨a,b⟩:=p
  obtain ⟨j,hj⟩:=List.mem_iff_getElem?.1 hp
  rw [List.getElem?_zip_eq_some] at hj
  obtain rfl:a=b:=Option.some.inj (hj.1.symm.trans hj.2)
  exact Em.rfl_ a
section
variable {P : Program} {G : World -> Prop} {ro : Option Nat} {V w0 : World} {n : Nd} {σ : Ab} {K : Exit -> Ab -> Prop}
end
-- slices of none, one and two elements: rows of one's own (bs), or data (bd)
section
variable {k : Nat} {L : Operand -> AV} {K K' : List (List IV) -> Prop} {x0 x1 : Operand} {c0 c1 : List IV}
theorem bg1 (hk:0 < k/\1*k<=16777216) (h2:okC (L x0)=true) (h3:toIs (B9 (L x0))=some c0) (h1:c0.length=k) (h4:J8 (B9 (L x0))) (hK:K [c0]\/K' [c0]):bsQ L k 1 #[(0,x0)] K K' :=
 ⟨[c0],rfl,hk.1,hk.2,fun i cs h=>by
  match i,h with
  | 0,h=>simp at h;subst h;exact ⟨h1,x0,rfl,h2,.of h3 h4⟩
  | i+1,h=>simp at h,rfl,hK⟩
theorem bs1 (hk:0 < k/\1*k<=16777216) (h2:okC (L x0)=true) (h3:toIs (B9 (L x0))=some c0) (h1:c0.length=k) (h4:J8 (B9 (L x0))) (hK:K [c0]):bsQ L k 1 #[(0,x0)] K K':=bg1 hk h2 h3 h1 h4 (.inl hK)
theorem bg2 {d1:List IV} (hk:0 < k/\2*k<=16777216) (h2:okC (L x0)=true) (h3:toIs (B9 (L x0))=some c0) (h1:c0.length=k) (h4:J8 (B9 (L x0))) (g2:okC (L x1)=true) (g3:toIs (B9 (L x1))=some d1) (g1:d1.length=k) (g4:J8 (B9 (L x1))) (hK:K [c0,d1]\/K' [c0,d1]):bsQ L k 2 #[(0,x0),(1,x1)] K K' :=
 ⟨[c0,d1],rfl,hk.1,hk.2,fun i cs h=>by
  match i,h with
  | 0,h=>simp at h;subst h;exact ⟨h1,x0,rfl,h2,.of h3 h4⟩
  | 1,h=>simp at h;subst h;exact ⟨g1,x1,rfl,g2,.of g3 g4⟩
  | i+2,h=>simp at h,rfl,hK⟩
theorem bs2 {d1:List IV} (hk:0 < k/\2*k<=16777216) (h2:okC (L x0)=true) (h3:toIs (B9 (L x0))=some c0) (h1:c0.length=k) (h4:J8 (B9 (L x0))) (g2:okC (L x1)=true) (g3:toIs (B9 (L x1))=some d1) (g1:d1.length=k) (g4:J8 (B9 (L x1))) (hK:K [c0,d1]):bsQ L k 2 #[(0,x0),(1,x1)] K K':=bg2 hk h2 h3 h1 h4 g2 g3 g1 g4 (.inl hK)
end
@[go_sem] theorem Cz8 {v:Value} : toI (.val v)=some (.val v):=rfl
@[go_sem] theorem Dc1 {i:IV} : toI (.iv i)=some i:=rfl
@[go_sem] theorem Dc2 {cs:List IV} : toI (.ip cs)=some (.pt cs):=rfl
@[go_sem] theorem Ci6:toIs []=some []:=rfl
@[go_sem] theorem C49 {c:AV} {cs:List AV} : toIs (c :: cs)=(match toI c,toIs cs with
  | some i,some is=>some (i :: is)
  | _,_=>none):=rfl
-- stores, by what they are put to
theorem Ae {P:Program} {t:TypeId} {b p:Nat} {y:AV} {bk:List BA} {K:List BA->Prop} : Ai P t (.bp b p) y bk K=(match tyK P t with
  | some (_,s)=>okC y=true/\(B9 y).length=s/\match C3 b bk with
   | some (.box _ cs)=>p+s<=cs.length/\K (Ca b [.box b (Ez cs p (B9 y))] bk)
   | some (.arr _ cs)=>∃ is,toIs (B9 y)=some is/\J8 (B9 y)/\p+s<=cs.length/\Ct (K (Ca b [.arr b (Ez cs p is)] bk))
   | _=>False
  | none=>False):=by unfold Ai Ct;rfl
theorem Af {P:Program} {t:TypeId} {b k i j:Nat} {y:AV} {bk:List BA} {K:List BA->Prop} : Ai P t (.rp b k i j) y bk K=(match tyK P t with
  | some (_,s)=>okC y=true/\(B9 y).length=s/\match C3 b bk,y with
   | some (.row _ e k' l),.own c=>k'=k/\s=1/\j < k/\∃ cs,l[i]? = some cs/\Ct (K (Ca b [.rowN b e k l i j c] bk))
   | some (.row _ e k' l),y=>k'=k/\∃ is cs,toIs (B9 y)=some is/\J8 (B9 y)/\l[i]? = some cs/\j+s<=k/\Ct (K (Ca b [.row b e k (l.set i (Ez cs j is))] bk))
   | some (.rowN _ e k' l i' j' c),.own c2=>k'=k/\s=1/\j < k/\i=i'/\j=j'/\i < l.length/\Ct (K (Ca b [.rowN b e k l i j c2] bk))
   | some (.rowN _ e k' l i' j' c),y=>k'=k/\s=1/\j < k/\∃ d cs,toIs (B9 y)=some [d]/\J8 (B9 y)/\l[i]? = some cs/\((i=i'/\j=j'/\Ct (K (Ca b [.row b e k (l.set i (cs.set j d))] bk)))\/(¬ (i=i'/\j=j')/\Ct (K (Ca b [.rowN b e k (l.set i (cs.set j d)) i' j' c] bk))))
   | _,_=>False
  | none=>False):=by unfold Ai Ct;rfl
def Dk4 (w:World) (B:Nat) (cs:List Value) (l:Log):Prop:=∃ v0 v1,cs=[v0,v1,.int .i64 l.sure]/\Bq w B v0 l.base/\Ah1 w B v1 l.notes/\I64 l.sure
theorem Az2 {w:World} : Di Tryz.prog w 59 3 (Dk4 w w.heap.size):=by
 intro H enc fuel cs x h
 obtain ⟨hl,n,hf⟩:=Bb Tryz.underlying59 h
 have hk:Tryz.prog.cellsOf 59=3:=by kernel_rfl
 have hs:Tryz.prog.cellsOf 51=1:=by kernel_rfl
 have hn:Tryz.prog.cellsOf 57=1:=by kernel_rfl
 have hi:Tryz.prog.cellsOf 3=1:=by kernel_rfl
 rw [hk] at hl
 refine ⟨hl,?_⟩
 match cs,hl with
 | [v0,v1,v2],_ =>
  obtain ⟨y0,h0⟩:=hf 0 51 0 1 rfl hs
  obtain ⟨y1,h1⟩:=hf 1 57 1 1 rfl hn
  obtain ⟨y2,h2⟩:=hf 2 3 2 1 rfl hi
  obtain ⟨_,a,_,e0,s0⟩:=Fp (w:=w) H enc n _ _ h0
  obtain ⟨_,b,_,e1,s1⟩:=Ti (w:=w) H enc n _ _ h1
  obtain ⟨_,c,e2,i2⟩:=Ba (w:=w) Tryz.underlying3 H enc n _ _ h2
  simp at e0 e1 e2
  subst e0 e1 e2
  exact ⟨⟨a,b,c⟩,_,_,rfl,s0,s1,i2⟩
structure Ask where
 at_:Int
 most:Int
def Dq7 (cs:List Value) (a:Ask):Prop:=cs=[.int .i64 a.at_,.int .i64 a.most]/\I64 a.at_/\I64 a.most
def Sj (l:Log):AV:=.agg [.iv (stI l.base),.iv (noI l.notes),.val (.int .i64 l.sure)]
theorem Fs (l:Log):Sj l=.agg [.iv (stI l.base),.iv (noI l.notes),.val (.int .i64 l.sure)]:=rfl
theorem Cl6 {X:World} {cs:List Value} {x:Bv} (h:Bf8 X X.heap.size cs x):Az X cs (enN x):=by
 obtain ⟨v0,v1,v2,v3,rfl,h⟩:=h
 exact ⟨H5 h.start (Nat.le_refl _),H5 h.end_ (Nat.le_refl _),Nw h.blur (Nat.le_refl _),Up h.writes (Nat.le_refl _),trivial⟩
theorem Yl {X:World} {v:Value} {l:List Bv} (h:Ah1 X X.heap.size v l):C1 X v (noI l):=C1.of_typed (fun _ _ h=>Cl6 h) h (Nat.le_refl _)
theorem A7.law {P:Program} {G:World->Prop} {f:FuncId} {args:List AV} {r:Value} (h:A7 P G f args (.val r) []) {W:World} {vs:Array Value} (hG:G W) (hr:Ak ⟨fun _=>0,fun _=>undef⟩ W vs.toList args) :
  Calls P f vs W fun e w'=>e=.returned r/\Below W.heap.size W w' :=
 (h.2 W W _ vs (Ext.refl W) hG hr).mono fun _ _ ⟨v,E',h1,h2,_,_,_,h6⟩=>by
  cases h6
  exact ⟨h1,h2⟩
end Go.Proofs.YtahgkllhbggmgaaGreatDoor
