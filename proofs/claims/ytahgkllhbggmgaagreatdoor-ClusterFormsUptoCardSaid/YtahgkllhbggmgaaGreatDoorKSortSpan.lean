/- A library function that turns a row of the caller's: the elder contract told so. No program is known here. -/
import Derived.Test.YtahgkllhbggmgaaGreatDoorKMarks
import Derived.OwnWalkIn
import Derived.Laws.CopyRow
import Derived.Laws.Externs
import Derived.Lib.Overlaps
import Derived.Lib.AppendZerosOnto
import Derived.Deep.RegionLaw
import Derived.Test.YtahgkllhbggmgaaGreatDoorKSpanSet
import Derived.Lib.AppendZeros
import Derived.Test.YtahgkllhbggmgaaGreatDoorKSpanLaw
import Derived.Shelf.SlSortCmp.WholeK
import Derived.Test.YtahgkllhbggmgaaGreatDoorRows
import Derived.Shelf.SlGeneric
import Derived.Ground.SlsfProg
import Derived.Test.YtahgkllhbggmgaaGreatDoorKVec
import Derived.Shelf.SlSortCmp.NoneTotal
import Derived.Test.YtahgkllhbggmgaaGreatDoorKAbsFrz
set_option linter.all false
set_option linter.unnecessarySimpa false
set_option linter.unusedSimpArgs false
set_option linter.unusedVariables false
namespace Go.Proofs.YtahgkllhbggmgaaGreatDoor
open Go.ChangeShapes Go.WideShapes Go.ChangeAt Go.RowKit
theorem Am.set_other {α:Type} {R:List Value->α->Prop} {k:Nat} {w:World} {base:Nat} {e:TypeId} {v:Value} {l:List α} (h:Am R k w base e v l) {p:Addr} (hp:v.ownBlock≠some p.block) (u:Value):Am R k (w.setCell p u) base e v l :=
 h.kept (row:=some p.block) ⟨rfl,rfl,rfl,by simp,fun i _ hne=>Below.heap_setCell w p u i (fun e=>hne (by rw [e]))⟩ (.inr hp)
def Bv0 (w:World) (g:Nat):Nat->List Value->World
 | _,[]=>w
 | o,u :: r=>Bv0 (w.setCell ⟨g,o,none⟩ u) g (o+1) r
def Bi0:List Value->Nat->List Value->List Value
 | xs,_,[]=>xs
 | xs,o,u :: r=>Bi0 (xs.set o u) (o+1) r
section
variable {α : Type} {R : List Value -> α -> Prop} {P : Program}
theorem Pu (w:World) {size:Nat} (h1:∀ cs x,R cs x->∀ u∈cs,u.oneCell'=true) (t ty:TypeId) (base:Nat) (e:TypeId) (bytes:Nat) (hinfo:(P.info? e).map (fun i=>(i.zero.map (·.cells.size),i.size,i.bytes))=some (some size,size,bytes)) (ht:P.underlying t=some (.slice e)) (hsz:0 < size) (hbb:bytes<=131072)
  (v:Value) (l:List α) (hown:Am R size w base e v l) (B:Nat) (v2:Value) (m:List α) (hr:Sl R size w B v2 m) (hbig:l.length+m.length<=1073741824) (hbase:base<=w.heap.size) :
  ∃ v' w',(Builtin.append_ #[t,t] ty #[v,v2]).run P w=.ok v' w'/\Am R size w' base e v' (l++m)/\w.grownBy w' v.ownBlock/\(v'.ownBlock=v.ownBlock\/v'.ownBlock=some w.heap.size):=by
 obtain ⟨i,z,hi,hz,hzs,hsize,hby⟩:=Ub hinfo
 have h63:l.length+m.length<=maxLen:=by unfold maxLen;omega
 have hbytes:(l.length+m.length)*bytes<=140737488355328:=by
  have:=Nat.mul_le_mul hbig hbb
  omega
 obtain ⟨xs,hown1,hch,_⟩:=hown
 obtain ⟨A,c,ys,rfl,hch2,hcell⟩:=hr.cells
 rcases hA:A with _ | ad
 ·have hm:m=[]:=by
   rcases m with _ | ⟨y,m⟩
   ·rfl
   ·obtain ⟨b,off,h,_⟩:=hcell (by simp)
    rw [hA] at h
    cases h
  subst hm
  exact ⟨v,w,Gk w base t ty e i size ht hi v _ xs hown1 _ c rfl,⟨xs,by simpa using hown1,by simpa using hch,by simpa using hbig⟩,World.grownBy.refl w _,.inl rfl⟩
 ·have hcells:∀ j u,ys[j]? = some u->w.cell? (ad.add j)=some u:=by
   intro j u hu
   rcases m with _ | ⟨y,m⟩
   ·cases hch2
    simp at hu
   ·obtain ⟨b,off,h,_,hc⟩:=hcell (by simp)
    rw [hA] at h
    injection h with h
    subst h
    rw [Dh]
    exact hc j u hu
  obtain ⟨v',w',hrun,h2,h3,_,h5⟩:=run_append_own_at (P:=P) w base t ty e i z size bytes ht hi hz hsize hby hzs hsz v _ xs hown1 ad _ c ys hch2.length hcells (hch2.one_cell h1) h63 hbytes hbase
  exact ⟨v',w',hrun,⟨_,by simpa using h2,hch.append hch2,by simpa using hbig⟩,h3,h5⟩
theorem Ag6 {F:Fence} {nF:Nat} {size bytes:Nat} {e t:TypeId} (hinfo:(P.info? e).map (fun i=>(i.zero.map (·.cells.size),i.size,i.bytes))=some (some size,size,bytes)) (ht:P.underlying t=some (.slice e)) (hsz:0 < size) (hbb:bytes<=131072) (h1:∀ cs x,R cs x->∀ u∈cs,u.oneCell'=true)
  {w:World} {ops:Array Oper} {rest:List Oper} {o:Oper} {a:Act} {Q:Exit->Act->World->Prop} (hgd:o.guard=none) (s x:Operand)
  (ho:o.op=.call { callee:=.builtin .append,args:=#[s,x],argTypes:=#[t,t] }) (base:Nat) (v:Value) (l:List α) (hs:a.eval s=v) (hown:Am R size w base e v l)
  (B:Nat) (v2:Value) (m:List α) (hx:a.eval x=v2) (hr:Sl R size w B v2 m) (hbig:l.length+m.length<=1073741824) (hbase:base<=w.heap.size)
  (h:∀ v' w',Am R size w' base e v' (l++m)->w.grownBy w' v.ownBlock->(v'.ownBlock=v.ownBlock\/v'.ownBlock=some w.heap.size)->wpListIn F nF P ops Q rest (a.put o.dst v') w'):wpListIn F nF P ops Q (o :: rest) a w:=by
 refine wpListIn_plain hgd fun K hK=>?_
 obtain ⟨v',w',hrun,r1,r2,r3⟩:=Pu (P:=P) w h1 t o.type base e bytes hinfo ht hsz hbb v l hown B v2 m hr hbig hbase
 unfold Oper.wpIn
 refine ⟨by simp [Oper.about,ho,resolve,Target.leads,Sem.run_pure],?_⟩
 rw [Oper.semAt_plain F _ _ (by rw [ho];intro c hc';cases hc')]
 simp [execOp,ho,resolve,invoke,builtin,hs,hx,hrun,Result.andThen]
 exact hK _ _ (h v' w' r1 r2 r3)
theorem Z9 {size bytes:Nat} {e t:TypeId} (hinfo:(P.info? e).map (fun i=>(i.zero.map (·.cells.size),i.size,i.bytes))=some (some size,size,bytes)) (ht:P.underlying t=some (.slice e)) (hsz:0 < size) (hbb:bytes<=131072) (h1:∀ cs x,R cs x->∀ u∈cs,u.oneCell'=true)
  {w:World} {ops:Array Oper} {rest:List Oper} {o:Oper} {a:Act} {Q:Exit->Act->World->Prop} (hgd:o.guard=none) (s x:Operand)
  (ho:o.op=.call { callee:=.builtin .append,args:=#[s,x],argTypes:=#[t,t] }) (base:Nat) (v:Value) (l:List α) (hs:a.eval s=v) (hown:Am R size w base e v l)
  (B:Nat) (v2:Value) (m:List α) (hx:a.eval x=v2) (hr:Sl R size w B v2 m) (hbig:l.length+m.length<=1073741824) (hbase:base<=w.heap.size)
  (h:∀ v' w',Am R size w' base e v' (l++m)->w.grownBy w' v.ownBlock->(v'.ownBlock=v.ownBlock\/v'.ownBlock=some w.heap.size)->wpList P ops Q rest (a.put o.dst v') w'):wpList P ops Q (o :: rest) a w:=by
 refine wpList_plain hgd fun K hK=>?_
 obtain ⟨v',w',hrun,r1,r2,r3⟩:=Pu (P:=P) w h1 t o.type base e bytes hinfo ht hsz hbb v l hown B v2 m hr hbig hbase
 unfold Oper.wp execOp
 simp only [ho,resolve,invoke,builtin,Sem.run_bind,Sem.run_pure,Result.andThen_ok,List.map_toArray,List.map_cons,List.map_nil,hs,hx,hrun]
 exact hK _ _ (h v' w' r1 r2 r3)
theorem B90 {size:Nat} {w:World} {cs:Array Value} {e:TypeId} {y:α} (hR:R cs.toList y) (hc:cs.size=size):Sl R size (w.alloc (.cells cs e)) (w.alloc (.cells cs e)).heap.size (.slice (some ⟨w.heap.size,0,none⟩) 1 1) [y] :=
 (Am.of_blk (l:=[y]) (Blk.new w e cs) (Bu.one (by simpa using hc) hR) (by simp)).sl
structure Lu (R:List Value->α->Prop) (size:Nat) (base:Nat) (e:TypeId) (v:Value) (l:List α) (w:World) (v':Value) (w':World):Prop where
 own:Am R size w' base e v' l
 grown:w.grownBy w' v.ownBlock
 low:∀ u:World,u.heap.size<=base->Below u.heap.size u w->Below u.heap.size u w'
 blk:∀ {g:Nat} {t':TypeId} {cs':Array Value},v.ownBlock≠some g->Blk w g t' cs'->Blk w' g t' cs'
 size:w.heap.size<=w'.heap.size
theorem Lu.mk1 {size:Nat} {w w':World} {base:Nat} {e:TypeId} {v v':Value} {l m:List α} (h0:Am R size w base e v l) (h:Am R size w' base e v' m) (hg:w.grownBy w' v.ownBlock):Lu R size base e v m w v' w' :=
 ⟨h,hg,fun u hu hb=>hb.grown hg hb.size fun k hk=>by have:=(h0.lt k hk).1;omega,fun hne hB=>hB.grown hg (fun e=>hne e.symm),hg.size⟩
theorem Ag5 {size bytes:Nat} {e t:TypeId} (hinfo:(P.info? e).map (fun i=>(i.zero.map (·.cells.size),i.size,i.bytes))=some (some size,size,bytes)) (ht:P.underlying t=some (.slice e)) (hsz:0 < size) (hbb:bytes<=131072) (h1:∀ cs x,R cs x->∀ u∈cs,u.oneCell'=true)
  {w:World} {ops:Array Oper} {rest:List Oper} {o:Oper} {a:Act} {Q:Exit->Act->World->Prop} (hgd:o.guard=none) (s x:Operand)
  (ho:o.op=.call { callee:=.builtin .append,args:=#[s,x],argTypes:=#[t,t] }) (base:Nat) (v:Value) (l:List α) (hs:a.eval s=v) (hown:Am R size w base e v l)
  (cs:Array Value) (y:α) (hx:a.eval x=.slice (some ⟨w.heap.size,0,none⟩) 1 1) (hR:R cs.toList y) (hc:cs.size=size) (hbig:l.length < 1073741824) (hbase:base<=w.heap.size)
  (h:∀ v' w',Lu R size base e v (l++[y]) (w.alloc (.cells cs e)) v' w'->wpList P ops Q rest (a.put o.dst v') w'):wpList P ops Q (o :: rest) a (w.alloc (.cells cs e)):=by
 have h2:=hown.next (An (o:=.cells cs e) (Below.refl _ w))
 refine Z9 hinfo ht hsz hbb h1 hgd s x ho base v l hs h2 _ _ [y] hx (B90 hR hc) (by simp only [List.length_singleton];omega) (by simp;omega) ?_
 intro v' w' h3 h4 _
 exact h v' w' (Lu.mk1 h2 h3 h4)
theorem Xy {F:Fence} {nF:Nat} {size bytes:Nat} {e t:TypeId} (hinfo:(P.info? e).map (fun i=>(i.zero.map (·.cells.size),i.size,i.bytes))=some (some size,size,bytes)) (ht:P.underlying t=some (.slice e)) (hsz:0 < size) (hbb:bytes<=131072) (h1:∀ cs x,R cs x->∀ u∈cs,u.oneCell'=true)
  {w:World} {ops:Array Oper} {rest:List Oper} {o:Oper} {a:Act} {Q:Exit->Act->World->Prop} (hgd:o.guard=none) (s x:Operand)
  (ho:o.op=.call { callee:=.builtin .append,args:=#[s,x],argTypes:=#[t,t] }) (base:Nat) (v:Value) (l:List α) (hs:a.eval s=v) (hown:Am R size w base e v l)
  (cs:Array Value) (y:α) (hx:a.eval x=.slice (some ⟨w.heap.size,0,none⟩) 1 1) (hR:R cs.toList y) (hc:cs.size=size) (hbig:l.length < 1073741824) (hbase:base<=w.heap.size)
  (h:∀ v' w',Lu R size base e v (l++[y]) (w.alloc (.cells cs e)) v' w'->wpListIn F nF P ops Q rest (a.put o.dst v') w'):wpListIn F nF P ops Q (o :: rest) a (w.alloc (.cells cs e)):=by
 have h2:=hown.next (An (o:=.cells cs e) (Below.refl _ w))
 refine Ag6 hinfo ht hsz hbb h1 hgd s x ho base v l hs h2 _ _ [y] hx (B90 hR hc) (by simp only [List.length_singleton];omega) (by simp;omega) ?_
 intro v' w' h3 h4 _
 exact h v' w' (Lu.mk1 h2 h3 h4)
end
section
variable {P : Program}
end
section
variable {α : Type} {R : List Value -> α -> Prop} {k : Nat}
end
def Cv3 {α:Type} (R:List Value->α->Prop) (k:Nat) (T:TypeId) (base:Nat) (v:Value) (l:List α) (w:World) (e:Ending) (w':World):Prop :=
 ∃ v',e=.returned v'/\Am R k w' base T v' l/\w.grownBy w' v.ownBlock/\(v'.ownBlock=v.ownBlock\/∃ g,v'.ownBlock=some g/\w.heap.size<=g)
def Bn5 (w:World) (B:Nat) (cs:List Value) (l:List Ar):Prop:=∃ v,cs=[v]/\Sl J4 2 w B v l
abbrev Cv0 (w:World) (B:Nat):=Sl (Bn5 w B) 1 w B
def Cz9 (ls:List (List Ar)):Nat:=(ls.map List.length).sum
end Go.Proofs.YtahgkllhbggmgaaGreatDoor
namespace Go.Proofs.YtahgkllhbggmgaaGreatDoor
def Y4 (l:List Ar):List Ar:=Rh fun o=>Dj l o
def Bz8 (s:Ar):List Ar:=if max s.lo 0<=min s.hi 255 then [⟨max s.lo 0,min s.hi 255⟩] else []
def Dp6 (l:List Ar):List Ar:=l.flatMap Bz8
def B03 (out:List Ar) (s:Ar):List Ar :=
 match out.getLast? with
 | some t=>if s.lo<=t.hi+1 then out.dropLast++[⟨t.lo,max t.hi s.hi⟩] else out++[s]
 | none=>out++[s]
def Df8 (l:List Ar):List Ar:=l.foldl B03 []
structure Cv1 (pre out:List Ar):Prop where
 formed:C9 (-2) out=true
 mem:∀ o:Int,Dj out o=Dj pre o
 low:∀ out' t,out=out'++[t]->∃ s∈pre,t.lo=s.lo
def Bp3:List Ar->List Ar->List Ar
 | [],_=>[]
 | _ :: _,[]=>[]
 | s :: x,t :: y=>(if max s.lo t.lo<=min s.hi t.hi then [⟨max s.lo t.lo,min s.hi t.hi⟩] else [])++(if s.hi < t.hi then Bp3 x (t :: y) else Bp3 (s :: x) y)
termination_by x y=>x.length+y.length
def Ck0:Int->List Ar->List Ar
 | n,[]=>if n<=255 then [⟨n,255⟩] else []
 | n,s :: l=>(if n < s.lo then [⟨n,s.lo - 1⟩] else [])++Ck0 (s.hi+1) l
def Cq8 (os:List Int):List Ar:=os.map fun o=>⟨o,o⟩
end Go.Proofs.YtahgkllhbggmgaaGreatDoor
namespace Go.Proofs.YtahgkllhbggmgaaGreatDoor
open Go.ChangeShapes Go.WideShapes Go.ChangeAt Go.RowKit Go.Sort
def Dq3 {β:Type} (enc:β->List Value) (cs:List Value) (x:β):Prop:=cs=enc x
section
variable {β : Type} {enc : β -> List Value} {k : Nat}
end
section
variable {β : Type} [Inhabited β] {enc : β -> List Value} {k : Nat}
end
end Go.Proofs.YtahgkllhbggmgaaGreatDoor
namespace Go.Proofs.YtahgkllhbggmgaaGreatDoor
open Go.Proofs Go.Shelf
def Bh8:Go.Shelf.Ren:=⟨fun | 6=>290 | 15=>101 | 14=>363 | 28=>191 | 29=>192 | 20=>424 | 21=>425 | 22=>426 | 23=>427 | 24=>428 | 25=>429 | 26=>430 | 27=>431 | 46=>472 | 47=>294 | 48=>295 | 49=>473 | 50=>474 | 57=>496 | n=>n,fun | 22=>40 | 24=>89 | 25=>327 | 3=>3 | 39=>147 | 0=>0 | 53=>228 | 55=>230 | 4=>4 | 46=>221 | 45=>220 | 50=>225 | 5=>5 | 9=>9 | 66=>328 | 70=>332 | 76=>408 | 77=>409 | n=>n,fun | n=>n⟩
end Go.Proofs.YtahgkllhbggmgaaGreatDoor
namespace Go.Proofs.YtahgkllhbggmgaaGreatDoor
open Go.ChangeShapes Go.WideShapes Go.ChangeAt Go.RowKit
def Wz (a b:Int):Int:=if a < b then -1 else if b < a then 1 else 0
theorem Ap9 (a b:Int) (w:World):Calls Tryz.prog 292 #[.int .i64 a,.int .i64 b] w fun e w'=>e=.returned (.int .i64 (Wz a b))/\w=w':=by
 go_enter Tryz.func292,Tryz.ntmps292
 go_wp2
 all_goals (go_ret;exact ⟨by unfold Wz;simp [*]<;>omega,rfl⟩)
theorem Au5 {a b:Int} : Wz a b < 0↔a < b:=by unfold Wz;split<;>(try split)<;>omega
theorem Au6 {a b:Int} : Wz a b=0↔a=b:=by unfold Wz;split<;>(try split)<;>omega
end Go.Proofs.YtahgkllhbggmgaaGreatDoor
namespace Go.Proofs.YtahgkllhbggmgaaGreatDoor
open Go.ChangeShapes Go.WideShapes Go.ChangeAt Go.RowKit Go.Sort Go.Shelf
instance:Inhabited Ar:=⟨⟨0,0⟩⟩
def D38 (s:Ar):List Value:=[.int .i64 s.lo,.int .i64 s.hi]
def Di1 (a b:Ar):Int:=Wz a.lo b.lo
end Go.Proofs.YtahgkllhbggmgaaGreatDoor
namespace Go.Proofs.YtahgkllhbggmgaaGreatDoor
open Go.ChangeShapes Go.WideShapes Go.ChangeAt Go.RowKit
section
variable {P : Program} {G : World -> Prop}
def De5:List (Nat×Nat)->List (Nat×AV)
 | []=>[]
 | (i,b) :: r=>(i,.bp b 0) :: De5 r
def Bw2 (args:List AV):List (Nat×Nat)->Prop
 | []=>True
 | (i,b) :: r=>args[i]? = some (.bp b 0)/\Bw2 args r
def pinned (b:Nat) (pins:List (Nat×Nat)):Bool:=pins.any fun p=>Nat.beq p.2 b
def Be5 (pins:List (Nat×Nat)):List (Nat×List AV)->Bool
 | []=>true
 | (b,_) :: r=>pinned b pins&&Be5 pins r
end
@[go_sem] theorem Ck5 {ρ:Nat->Nat} : Gg ρ []=[]:=rfl
@[go_sem] theorem C62 {ρ:Nat->Nat} {b:BA} {r:List BA} : Gg ρ (b :: r)=b.ren ρ :: Gg ρ r:=rfl
@[go_sem] theorem D40 {ρ:Nat->Nat} {c:Nat} : bxS ρ c []=[]:=rfl
@[go_sem] theorem Cs6 {ρ:Nat->Nat} {c b:Nat} {cs:List AV} {r:List (Nat×List AV)} : bxS ρ c ((b,cs) :: r)=.box (ρ b) (AV.sh.shs c cs) :: bxS ρ c r:=rfl
@[go_sem] theorem D41:bxB []=[]:=rfl
@[go_sem] theorem Cs7 {b:Nat} {cs:List AV} {r:List (Nat×List AV)} : bxB ((b,cs) :: r)=.box b cs :: bxB r:=rfl
attribute [go_sem] id_eq
@[go_sem] theorem Cn8 {b:Nat} {F:Far} {x:BA} {r:List BA} : Fy x (.opq b F :: r)=.opq b F :: Fy x r:=rfl
section
variable {P : Program} {G : World -> Prop}
structure Cu8 (X:World) (k:Nat) (T:TypeId) (base:Nat) (v:Value) (l':List (List IV)) (w:World) (v':Value) (w':World):Prop where
 own:Am (Az X) k w' base T v' l'
 grown:w.grownBy w' v.ownBlock
 blk:v'.ownBlock=v.ownBlock\/v'.ownBlock=none\/∃ g,v'.ownBlock=some g/\w.heap.size<=g
end
end Go.Proofs.YtahgkllhbggmgaaGreatDoor
