/- The arguments of a stream's laws: logs and asks, as they are read and as data. -/
import Derived.Test.YtahgkllhbggmgaaGreatDoorLNoteSmall
import Derived.Test.YtahgkllhbggmgaaGreatDoorLSortSpan
import Derived.Test.YtahgkllhbggmgaaGreatDoorLNoteWalk
import Derived.Test.YtahgkllhbggmgaaGreatDoorLVecLaw
import Derived.Test.YtahgkllhbggmgaaGreatDoorLAbsIter
import Derived.Test.YtahgkllhbggmgaaGreatDoorLEnc
set_option linter.all false
set_option linter.unnecessarySimpa false
set_option linter.unusedSimpArgs false
set_option linter.unusedVariables false
namespace Go.Proofs.YtahgkllhbggmgaaGreatDoor
open Go.ChangeShapes Go.WideShapes Go.ChangeAt Go.RowKit
def Cx8 (it:List Ah) (l:List Ar):List Ar:=l.filter fun y=>Eb it y.object
def B07 (it:List Ah) (l:List Ar):List Int:=(l.filter fun y=>!Eb it y.object).map (·.object)
def Ad9 (x:Bz) (it:List Ah):List Ah:=Cb (x.blur++Cb (D50 (B07 it x.writes)))
def Ad8 (x:Bz) (it:List Ah):Bz:=⟨x.start,x.end_,Ad9 x it,Cx8 it x.writes⟩
def Av9:Bz:=⟨[],[],[],[]⟩
def Cw7 (x:Bz) (it:List Ah):Bz×Int:=if Bt x=true then (Ad8 x it,0) else (Av9,1)
end Go.Proofs.YtahgkllhbggmgaaGreatDoor
namespace Go.Proofs.YtahgkllhbggmgaaGreatDoor
structure Log where
 base:List Ad
 notes:List Bz
 sure:Int
def C5:List Ad->List Bz->Bool
 | _,[]=>true
 | k,n :: l=>(Bt n&&Bi k n.start)&&C5 (Dw [k,n.end_]) l
def Ww (l:Log):Bool:=decide (0<=l.sure)&&decide (l.sure<=l.notes.length)
def C6 (l:Log):Bool:=B7 l.base&&Ww l&&C5 l.base l.notes
def B4 (k:List Ad) (l:List Bz):List Ad:=l.foldl (fun k n=>Dw [k,n.end_]) k
theorem A19 {a:List Ad} (h:B7 a=true):Dw [a]=a:=by
 unfold Dw
 rw [Ad3 (d:=fun n=>A9 a n) fun n _=>Bb0 a n]
 exact Ad2 h
theorem Dg:∀ (l m:List Bz) (k:List Ad),C5 k (l++m)=(C5 k l&&C5 (B4 k l) m)
 | [],m,k=>by simp [C5,B4]
 | n :: l,m,k=>by
  rw [List.cons_append,C5,C5,Dg l m,Bool.and_assoc,Bool.and_assoc,Bool.and_assoc]
  rfl
theorem Kx (k:List Ad) (l:List Bz) (n:Bz):B4 k (l++[n])=Dw [B4 k l,n.end_]:=by simp [B4]
theorem Ph (l:Log):C6 l=(C5 (Dw [l.base]) l.notes&&(B7 l.base&&Ww l)):=by
 unfold C6
 cases h:B7 l.base with
 | false=>simp
 | true=>rw [A19 h,Bool.and_comm]
-- where to begin
def Bc4 (v:List Ad) (l:List Bz):Nat:=l.findIdx fun n=>!Bi v n.end_
def Bk5 (l:Log) (v:List Ad):Int×Int:=if C6 l=true then (if Bi v l.base=true then ((Bc4 v l.notes:Nat),0) else (0,12)) else (0,1)
def Dx3 (l:Log) (v:List Ad):Int×Int:=if (Bk5 l v).2=12 then (-1,0) else Bk5 l v
-- a batch
def Hc (a b:List Ah):List Ah:=Gb fun o=>Ba a o&&Ba b o
def C41 (it:List Ah) (a b:Bz):Bool:=decide (a.writes=[])&&decide (b.writes=[])&&decide (a.end_=b.start)&&decide (Hc a.blur it=Hc b.blur it)
def Cb2 (a b:Bz):Bz:=⟨a.start,Dw [a.end_,b.end_],Cb (a.blur++b.blur),[]⟩
def C26 (it:List Ah) (out:List Bz) (x:Bz):List Bz :=
 match out.getLast? with
 | some a=>if C41 it a x=true then out.dropLast++[Cb2 a x] else out++[x]
 | none=>out++[x]
def Cx2 (it:List Ah) (most:Int) (out:List Bz) (x:Bz):Bool :=
 match out.getLast? with
 | some a=>!C41 it a x&&decide ((out.length:Int)=most)
 | none=>decide ((out.length:Int)=most)
def A35 (it:List Ah) (most:Int):List Bz->Nat->List Bz->List Bz×Nat
 | out,i,[]=>(out,i)
 | out,i,x :: l=>if Cx2 it most out x=true then (out,i) else A35 it most (C26 it out x) (i+1) l
def Cw4 (l:Log) (it:List Ah):List Bz:=(l.notes.take l.sure.toNat).map fun n=>Ad8 n it
def Dx5 (l:Log) (at_ most:Int):Bool:=C6 l&&decide (0<=at_)&&decide (at_<=l.sure)&&decide (1<=most)
def Br7 (l:Log) (at_:Int) (it:List Ah) (most:Int):List Bz×Nat:=A35 it most [] at_.toNat ((Cw4 l it).drop at_.toNat)
def Dx4 (l:Log) (at_:Int) (it:List Ah) (most:Int):List Bz×Int×Int :=
 if Dx5 l at_ most=true then ((Br7 l at_ it most).1,((Br7 l at_ it most).2:Nat),0) else ([],0,1)
-- what is told is formed
-- batches one after the other
section
variable {it : List Ah} {most : Int}
def E16 (it:List Ah) (out:List Bz) (l:List Bz):List Bz:=l.foldl (C26 it) out
end
end Go.Proofs.YtahgkllhbggmgaaGreatDoor
namespace Go.Proofs.YtahgkllhbggmgaaGreatDoor
open Go.ChangeShapes Go.WideShapes Go.ChangeAt Go.RowKit
def E51 (G:World->Prop):Prop:=∀ w r (o':Obj),G w->(∃ o:Obj,w.heap[r]? = some o/\Ll o=true)->G (w.putObj r o')
section
variable {P : Program} {G : World -> Prop} {α : Type} {encs : α -> List AV} {Sp : List α -> Prop} {Y : YC P G encs Sp} {n : Nat} {K : Exit -> Ys α -> Ab -> Prop}
def Dz2 (K:Exit->Ys α->Ab->Prop) (pu:List (Nat×AV)) (I:List α->Prop):Exit->Ys α->Ab->Prop
 | .normal,.going q,_=>I q
 | .ret,.going q,_=>K .ret (.over (some q)) ⟨pu,[]⟩
 | .ret,.left,_=>K .ret (.over none) ⟨pu,[]⟩
 | .exit id,.going q,_=>K (.exit id) (.over (some q)) ⟨pu,[]⟩
 | .exit id,.left,_=>K (.exit id) (.over none) ⟨pu,[]⟩
 | _,_,_=>False
end
def Hm (x y:AV):Prop:=∀ (E:Env) (X:World) (v:Value),Au E X v x->Au E X v y
theorem Hm.rfl_ (x:AV):Hm x x:=fun _ _ _ h=>h
theorem Dd (k:Nat):Hm (.val (.slice none 0 0)) (.iv (.sl k [])):=Bv6
theorem C10 (x:AV):Hm x .any:=fun _ _ _ _=>.any
theorem Qm.get {xs ys:List AV} (h:xs.length=ys.length) (hs:∀ p∈xs.zip ys,Hm p.1 p.2) (j:Nat) (x y:AV) (hx:xs[j]? = some x) (hy:ys[j]? = some y):Hm x y :=
 hs (x,y) (List.mem_iff_getElem?.2 ⟨j,by rw [List.getElem?_zip_eq_some];exact ⟨hx,hy⟩⟩)
theorem A46 {xs ys:List AV} (h:xs.length=ys.length) (hs:∀ p∈xs.zip ys,Hm p.1 p.2):Hm (.tup xs) (.tup ys):=fun E X v hv=>by
 cases hv with
 | @tup vs _ h1 h2 =>
  refine .tup (h1.trans h) fun j v c a b=>?_
  have hj:=(List.getElem?_eq_some_iff.1 b).1
  rw [<-h] at hj
  exact Qm.get h hs j _ c (List.getElem?_eq_getElem hj) b _ _ _ (h2 j v _ a (List.getElem?_eq_getElem hj))
theorem Ab6 {xs ys:List AV} (h:xs.length=ys.length) (hs:∀ p∈xs.zip ys,Hm p.1 p.2):Hm (.agg xs) (.agg ys):=fun E X v hv=>by
 cases hv with
 | @agg vs _ h1 h2 =>
  refine .agg (h1.trans h) fun j v c a b=>?_
  have hj:=(List.getElem?_eq_some_iff.1 b).1
  rw [<-h] at hj
  exact Qm.get h hs j _ c (List.getElem?_eq_getElem hj) b _ _ _ (h2 j v _ a (List.getElem?_eq_getElem hj))
theorem Cx {x:AV} {r:List AV} : Hm (.tup (x :: r)) (.tup (.any :: r)):=by
 refine A46 rfl fun p hp=>?_
 rw [List.zip_cons_cons] at hp
 rcases List.mem_cons.1 hp with rfl | hp
 ·exact C10 x
 ·obtain ⟨a,b⟩:=p
  obtain ⟨j,hj⟩:=List.mem_iff_getElem?.1 hp
  rw [List.getElem?_zip_eq_some] at hj
  obtain rfl:a=b:=Option.some.inj (hj.1.symm.trans hj.2)
  exact Hm.rfl_ a
section
variable {P : Program} {G : World -> Prop} {ro : Option Nat} {V w0 : World} {n : Nd} {σ : Ab} {K : Exit -> Ab -> Prop}
end
-- slices of none, one and two elements: rows of one's own (bs), or data (bd)
section
variable {k : Nat} {L : Operand -> AV} {K K' : List (List IV) -> Prop} {x0 x1 : Operand} {c0 c1 : List IV}
theorem bg1 (hk:0 < k/\1*k<=16777216) (h2:okC (L x0)=true) (h3:toIs (Bc (L x0))=some c0) (h1:c0.length=k) (h4:J8 (Bc (L x0))) (hK:K [c0]\/K' [c0]):bsQ L k 1 #[(0,x0)] K K' :=
 ⟨[c0],rfl,hk.1,hk.2,fun i cs h=>by
  match i,h with
  | 0,h=>simp at h;subst h;exact ⟨h1,x0,rfl,h2,.of h3 h4⟩
  | i+1,h=>simp at h,rfl,hK⟩
theorem bs1 (hk:0 < k/\1*k<=16777216) (h2:okC (L x0)=true) (h3:toIs (Bc (L x0))=some c0) (h1:c0.length=k) (h4:J8 (Bc (L x0))) (hK:K [c0]):bsQ L k 1 #[(0,x0)] K K':=bg1 hk h2 h3 h1 h4 (.inl hK)
theorem bg2 {d1:List IV} (hk:0 < k/\2*k<=16777216) (h2:okC (L x0)=true) (h3:toIs (Bc (L x0))=some c0) (h1:c0.length=k) (h4:J8 (Bc (L x0))) (g2:okC (L x1)=true) (g3:toIs (Bc (L x1))=some d1) (g1:d1.length=k) (g4:J8 (Bc (L x1))) (hK:K [c0,d1]\/K' [c0,d1]):bsQ L k 2 #[(0,x0),(1,x1)] K K' :=
 ⟨[c0,d1],rfl,hk.1,hk.2,fun i cs h=>by
  match i,h with
  | 0,h=>simp at h;subst h;exact ⟨h1,x0,rfl,h2,.of h3 h4⟩
  | 1,h=>simp at h;subst h;exact ⟨g1,x1,rfl,g2,.of g3 g4⟩
  | i+2,h=>simp at h,rfl,hK⟩
theorem bs2 {d1:List IV} (hk:0 < k/\2*k<=16777216) (h2:okC (L x0)=true) (h3:toIs (Bc (L x0))=some c0) (h1:c0.length=k) (h4:J8 (Bc (L x0))) (g2:okC (L x1)=true) (g3:toIs (Bc (L x1))=some d1) (g1:d1.length=k) (g4:J8 (Bc (L x1))) (hK:K [c0,d1]):bsQ L k 2 #[(0,x0),(1,x1)] K K':=bg2 hk h2 h3 h1 h4 g2 g3 g1 g4 (.inl hK)
end
@[go_sem] theorem De8 {v:Value} : toI (.val v)=some (.val v):=rfl
@[go_sem] theorem Dq9 {i:IV} : toI (.iv i)=some i:=rfl
@[go_sem] theorem Dr0 {cs:List IV} : toI (.ip cs)=some (.pt cs):=rfl
@[go_sem] theorem Cw5:toIs []=some []:=rfl
@[go_sem] theorem Cj1 {c:AV} {cs:List AV} : toIs (c :: cs)=(match toI c,toIs cs with
  | some i,some is=>some (i :: is)
  | _,_=>none):=rfl
-- stores, by what they are put to
theorem Ae {P:Program} {t:TypeId} {b p:Nat} {y:AV} {bk:List BA} {K:List BA->Prop} : Aj P t (.bp b p) y bk K=(match tyK P t with
  | some (_,s)=>okC y=true/\(Bc y).length=s/\match C8 b bk with
   | some (.box _ cs)=>p+s<=cs.length/\K (Cg b [.box b (Et cs p (Bc y))] bk)
   | some (.arr _ cs)=>∃ is,toIs (Bc y)=some is/\J8 (Bc y)/\p+s<=cs.length/\D0 (K (Cg b [.arr b (Et cs p is)] bk))
   | _=>False
  | none=>False):=by unfold Aj D0;rfl
theorem Af {P:Program} {t:TypeId} {b k i j:Nat} {y:AV} {bk:List BA} {K:List BA->Prop} : Aj P t (.rp b k i j) y bk K=(match tyK P t with
  | some (_,s)=>okC y=true/\(Bc y).length=s/\match C8 b bk,y with
   | some (.row _ e k' l),.own c=>k'=k/\s=1/\j < k/\∃ cs,l[i]? = some cs/\D0 (K (Cg b [.rowN b e k l i j c] bk))
   | some (.row _ e k' l),y=>k'=k/\∃ is cs,toIs (Bc y)=some is/\J8 (Bc y)/\l[i]? = some cs/\j+s<=k/\D0 (K (Cg b [.row b e k (l.set i (Et cs j is))] bk))
   | some (.rowN _ e k' l i' j' c),.own c2=>k'=k/\s=1/\j < k/\i=i'/\j=j'/\i < l.length/\D0 (K (Cg b [.rowN b e k l i j c2] bk))
   | some (.rowN _ e k' l i' j' c),y=>k'=k/\s=1/\j < k/\∃ d cs,toIs (Bc y)=some [d]/\J8 (Bc y)/\l[i]? = some cs/\((i=i'/\j=j'/\D0 (K (Cg b [.row b e k (l.set i (cs.set j d))] bk)))\/(¬ (i=i'/\j=j')/\D0 (K (Cg b [.rowN b e k (l.set i (cs.set j d)) i' j' c] bk))))
   | _,_=>False
  | none=>False):=by unfold Aj D0;rfl
def Dz0 (w:World) (B:Nat) (cs:List Value) (l:Log):Prop:=∃ v0 v1,cs=[v0,v1,.int .i64 l.sure]/\Bx w B v0 l.base/\Ao9 w B v1 l.notes/\I64 l.sure
theorem B97 {w:World} : Dt Tryz.prog w 59 3 (Dz0 w w.heap.size):=by
 intro H enc fuel cs x h
 obtain ⟨hl,n,hf⟩:=Bq Tryz.underlying59 h
 have hk:Tryz.prog.cellsOf 59=3:=by kernel_rfl
 have hs:Tryz.prog.cellsOf 51=1:=by kernel_rfl
 have hn:Tryz.prog.cellsOf 57=1:=by kernel_rfl
 have hi:Tryz.prog.cellsOf 3=1:=by kernel_rfl
 rw [hk] at hl
 refine ⟨hl,?_⟩
 match cs,hl with
 | [v0,v1,v2],_ =>
  obtain ⟨y0,h0⟩:=hf 0 51 0 1 rfl hs
  obtain ⟨y1,h1⟩:=hf 1 57 1 1 rfl hn
  obtain ⟨y2,h2⟩:=hf 2 3 2 1 rfl hi
  obtain ⟨_,a,_,e0,s0⟩:=G7 (w:=w) H enc n _ _ h0
  obtain ⟨_,b,_,e1,s1⟩:=V5 (w:=w) H enc n _ _ h1
  obtain ⟨_,c,e2,i2⟩:=Br (w:=w) Tryz.underlying3 H enc n _ _ h2
  simp at e0 e1 e2
  subst e0 e1 e2
  exact ⟨⟨a,b,c⟩,_,_,rfl,s0,s1,i2⟩
structure Ask where
 at_:Int
 most:Int
def E52 (cs:List Value) (a:Ask):Prop:=cs=[.int .i64 a.at_,.int .i64 a.most]/\I64 a.at_/\I64 a.most
def Xz (l:Log):AV:=.agg [.iv (stI l.base),.iv (noI l.notes),.val (.int .i64 l.sure)]
theorem G9 (l:Log):Xz l=.agg [.iv (stI l.base),.iv (noI l.notes),.val (.int .i64 l.sure)]:=rfl
theorem Cz6 {X:World} {cs:List Value} {x:Bz} (h:Bs5 X X.heap.size cs x):Av X cs (enN x):=by
 obtain ⟨v0,v1,v2,v3,rfl,h⟩:=h
 exact ⟨J3 h.start (Nat.le_refl _),J3 h.end_ (Nat.le_refl _),M7 h.blur (Nat.le_refl _),Wm h.writes (Nat.le_refl _),trivial⟩
theorem A12 {X:World} {v:Value} {l:List Bz} (h:Ao9 X X.heap.size v l):C7 X v (noI l):=C7.of_typed (fun _ _ h=>Cz6 h) h (Nat.le_refl _)
theorem A7.law {P:Program} {G:World->Prop} {f:FuncId} {args:List AV} {r:Value} (h:A7 P G f args (.val r) []) {W:World} {vs:Array Value} (hG:G W) (hr:An ⟨fun _=>0,fun _=>undef⟩ W vs.toList args) :
  Calls P f vs W fun e w'=>e=.returned r/\Below W.heap.size W w' :=
 (h.2 W W _ vs (Ext.refl W) hG hr).mono fun _ _ ⟨v,E',h1,h2,_,_,_,h6⟩=>by
  cases h6
  exact ⟨h1,h2⟩
end Go.Proofs.YtahgkllhbggmgaaGreatDoor
