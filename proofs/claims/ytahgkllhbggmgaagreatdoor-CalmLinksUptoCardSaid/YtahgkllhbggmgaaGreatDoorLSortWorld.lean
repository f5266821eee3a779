/- '[]byte("..")' of a constant: the literal's row is marked, and is data from there on. No program is known here. -/
import Derived.Test.YtahgkllhbggmgaaGreatDoorLMarks
import Derived.OwnWalkIn
import Derived.Laws.CopyRow
import Derived.Laws.Externs
import Derived.Lib.Overlaps
import Derived.Lib.AppendZerosOnto
import Derived.Deep.RegionLaw
import Derived.Test.YtahgkllhbggmgaaGreatDoorLSpanSet
import Derived.Lib.AppendZeros
import Derived.Shelf.SlSortCmp.WholeK
import Derived.Test.YtahgkllhbggmgaaGreatDoorLAbsFrz
set_option linter.all false
set_option linter.unnecessarySimpa false
set_option linter.unusedSimpArgs false
set_option linter.unusedVariables false
namespace Go.Proofs.YtahgkllhbggmgaaGreatDoor
open Go.ChangeShapes Go.WideShapes Go.ChangeAt Go.RowKit
theorem Ai.set_other {α:Type} {R:List Value->α->Prop} {k:Nat} {w:World} {base:Nat} {e:TypeId} {v:Value} {l:List α} (h:Ai R k w base e v l) {p:Addr} (hp:v.ownBlock≠some p.block) (u:Value):Ai R k (w.setCell p u) base e v l :=
 h.kept (row:=some p.block) ⟨rfl,rfl,rfl,by simp,fun i _ hne=>Below.heap_setCell w p u i (fun e=>hne (by rw [e]))⟩ (.inr hp)
def C92 (w:World) (g:Nat):Nat->List Value->World
 | _,[]=>w
 | o,u :: r=>C92 (w.setCell ⟨g,o,none⟩ u) g (o+1) r
def Bv1:List Value->Nat->List Value->List Value
 | xs,_,[]=>xs
 | xs,o,u :: r=>Bv1 (xs.set o u) (o+1) r
section
variable {α : Type} {R : List Value -> α -> Prop} {P : Program}
theorem Qw (w:World) {size:Nat} (h1:∀ cs x,R cs x->∀ u∈cs,u.oneCell'=true) (t ty:TypeId) (base:Nat) (e:TypeId) (bytes:Nat) (hinfo:(P.info? e).map (fun i=>(i.zero.map (·.cells.size),i.size,i.bytes))=some (some size,size,bytes)) (ht:P.underlying t=some (.slice e)) (hsz:0 < size) (hbb:bytes<=131072)
  (v:Value) (l:List α) (hown:Ai R size w base e v l) (B:Nat) (v2:Value) (m:List α) (hr:Sl R size w B v2 m) (hbig:l.length+m.length<=1073741824) (hbase:base<=w.heap.size) :
  ∃ v' w',(Builtin.append_ #[t,t] ty #[v,v2]).run P w=.ok v' w'/\Ai R size w' base e v' (l++m)/\w.grownBy w' v.ownBlock/\(v'.ownBlock=v.ownBlock\/v'.ownBlock=some w.heap.size):=by
 obtain ⟨i,z,hi,hz,hzs,hsize,hby⟩:=W7 hinfo
 have h63:l.length+m.length<=maxLen:=by unfold maxLen;omega
 have hbytes:(l.length+m.length)*bytes<=140737488355328:=by
  have:=Nat.mul_le_mul hbig hbb
  omega
 obtain ⟨xs,hown1,hch,_⟩:=hown
 obtain ⟨A,c,ys,rfl,hch2,hcell⟩:=hr.cells
 rcases hA:A with _ | ad
 ·have hm:m=[]:=by
   rcases m with _ | ⟨y,m⟩
   ·rfl
   ·obtain ⟨b,off,h,_⟩:=hcell (by simp)
    rw [hA] at h
    cases h
  subst hm
  exact ⟨v,w,H7 w base t ty e i size ht hi v _ xs hown1 _ c rfl,⟨xs,by simpa using hown1,by simpa using hch,by simpa using hbig⟩,World.grownBy.refl w _,.inl rfl⟩
 ·have hcells:∀ j u,ys[j]? = some u->w.cell? (ad.add j)=some u:=by
   intro j u hu
   rcases m with _ | ⟨y,m⟩
   ·cases hch2
    simp at hu
   ·obtain ⟨b,off,h,_,hc⟩:=hcell (by simp)
    rw [hA] at h
    injection h with h
    subst h
    rw [Dq]
    exact hc j u hu
  obtain ⟨v',w',hrun,h2,h3,_,h5⟩:=run_append_own_at (P:=P) w base t ty e i z size bytes ht hi hz hsize hby hzs hsz v _ xs hown1 ad _ c ys hch2.length hcells (hch2.one_cell h1) h63 hbytes hbase
  exact ⟨v',w',hrun,⟨_,by simpa using h2,hch.append hch2,by simpa using hbig⟩,h3,h5⟩
theorem Ao6 {F:Fence} {nF:Nat} {size bytes:Nat} {e t:TypeId} (hinfo:(P.info? e).map (fun i=>(i.zero.map (·.cells.size),i.size,i.bytes))=some (some size,size,bytes)) (ht:P.underlying t=some (.slice e)) (hsz:0 < size) (hbb:bytes<=131072) (h1:∀ cs x,R cs x->∀ u∈cs,u.oneCell'=true)
  {w:World} {ops:Array Oper} {rest:List Oper} {o:Oper} {a:Act} {Q:Exit->Act->World->Prop} (hgd:o.guard=none) (s x:Operand)
  (ho:o.op=.call { callee:=.builtin .append,args:=#[s,x],argTypes:=#[t,t] }) (base:Nat) (v:Value) (l:List α) (hs:a.eval s=v) (hown:Ai R size w base e v l)
  (B:Nat) (v2:Value) (m:List α) (hx:a.eval x=v2) (hr:Sl R size w B v2 m) (hbig:l.length+m.length<=1073741824) (hbase:base<=w.heap.size)
  (h:∀ v' w',Ai R size w' base e v' (l++m)->w.grownBy w' v.ownBlock->(v'.ownBlock=v.ownBlock\/v'.ownBlock=some w.heap.size)->wpListIn F nF P ops Q rest (a.put o.dst v') w'):wpListIn F nF P ops Q (o :: rest) a w:=by
 refine wpListIn_plain hgd fun K hK=>?_
 obtain ⟨v',w',hrun,r1,r2,r3⟩:=Qw (P:=P) w h1 t o.type base e bytes hinfo ht hsz hbb v l hown B v2 m hr hbig hbase
 unfold Oper.wpIn
 refine ⟨by simp [Oper.about,ho,resolve,Target.leads,Sem.run_pure],?_⟩
 rw [Oper.semAt_plain F _ _ (by rw [ho];intro c hc';cases hc')]
 simp [execOp,ho,resolve,invoke,builtin,hs,hx,hrun,Result.andThen]
 exact hK _ _ (h v' w' r1 r2 r3)
theorem A36 {size bytes:Nat} {e t:TypeId} (hinfo:(P.info? e).map (fun i=>(i.zero.map (·.cells.size),i.size,i.bytes))=some (some size,size,bytes)) (ht:P.underlying t=some (.slice e)) (hsz:0 < size) (hbb:bytes<=131072) (h1:∀ cs x,R cs x->∀ u∈cs,u.oneCell'=true)
  {w:World} {ops:Array Oper} {rest:List Oper} {o:Oper} {a:Act} {Q:Exit->Act->World->Prop} (hgd:o.guard=none) (s x:Operand)
  (ho:o.op=.call { callee:=.builtin .append,args:=#[s,x],argTypes:=#[t,t] }) (base:Nat) (v:Value) (l:List α) (hs:a.eval s=v) (hown:Ai R size w base e v l)
  (B:Nat) (v2:Value) (m:List α) (hx:a.eval x=v2) (hr:Sl R size w B v2 m) (hbig:l.length+m.length<=1073741824) (hbase:base<=w.heap.size)
  (h:∀ v' w',Ai R size w' base e v' (l++m)->w.grownBy w' v.ownBlock->(v'.ownBlock=v.ownBlock\/v'.ownBlock=some w.heap.size)->wpList P ops Q rest (a.put o.dst v') w'):wpList P ops Q (o :: rest) a w:=by
 refine wpList_plain hgd fun K hK=>?_
 obtain ⟨v',w',hrun,r1,r2,r3⟩:=Qw (P:=P) w h1 t o.type base e bytes hinfo ht hsz hbb v l hown B v2 m hr hbig hbase
 unfold Oper.wp execOp
 simp only [ho,resolve,invoke,builtin,Sem.run_bind,Sem.run_pure,Result.andThen_ok,List.map_toArray,List.map_cons,List.map_nil,hs,hx,hrun]
 exact hK _ _ (h v' w' r1 r2 r3)
theorem Bk8 {size:Nat} {w:World} {cs:Array Value} {e:TypeId} {y:α} (hR:R cs.toList y) (hc:cs.size=size):Sl R size (w.alloc (.cells cs e)) (w.alloc (.cells cs e)).heap.size (.slice (some ⟨w.heap.size,0,none⟩) 1 1) [y] :=
 (Ai.of_blk (l:=[y]) (Blk.new w e cs) (Bh.one (by simpa using hc) hR) (by simp)).sl
structure Mo (R:List Value->α->Prop) (size:Nat) (base:Nat) (e:TypeId) (v:Value) (l:List α) (w:World) (v':Value) (w':World):Prop where
 own:Ai R size w' base e v' l
 grown:w.grownBy w' v.ownBlock
 low:∀ u:World,u.heap.size<=base->Below u.heap.size u w->Below u.heap.size u w'
 blk:∀ {g:Nat} {t':TypeId} {cs':Array Value},v.ownBlock≠some g->Blk w g t' cs'->Blk w' g t' cs'
 size:w.heap.size<=w'.heap.size
theorem Mo.mk1 {size:Nat} {w w':World} {base:Nat} {e:TypeId} {v v':Value} {l m:List α} (h0:Ai R size w base e v l) (h:Ai R size w' base e v' m) (hg:w.grownBy w' v.ownBlock):Mo R size base e v m w v' w' :=
 ⟨h,hg,fun u hu hb=>hb.grown hg hb.size fun k hk=>by have:=(h0.lt k hk).1;omega,fun hne hB=>hB.grown hg (fun e=>hne e.symm),hg.size⟩
theorem Lp {size bytes:Nat} {e t:TypeId} (hinfo:(P.info? e).map (fun i=>(i.zero.map (·.cells.size),i.size,i.bytes))=some (some size,size,bytes)) (ht:P.underlying t=some (.slice e)) (hsz:0 < size) (hbb:bytes<=131072) (h1:∀ cs x,R cs x->∀ u∈cs,u.oneCell'=true)
  {w:World} {ops:Array Oper} {rest:List Oper} {o:Oper} {a:Act} {Q:Exit->Act->World->Prop} (hgd:o.guard=none) (s x:Operand)
  (ho:o.op=.call { callee:=.builtin .append,args:=#[s,x],argTypes:=#[t,t] }) (base:Nat) (v:Value) (l:List α) (hs:a.eval s=v) (hown:Ai R size w base e v l)
  (cs:Array Value) (y:α) (hx:a.eval x=.slice (some ⟨w.heap.size,0,none⟩) 1 1) (hR:R cs.toList y) (hc:cs.size=size) (hbig:l.length < 1073741824) (hbase:base<=w.heap.size)
  (h:∀ v' w',Mo R size base e v (l++[y]) (w.alloc (.cells cs e)) v' w'->wpList P ops Q rest (a.put o.dst v') w'):wpList P ops Q (o :: rest) a (w.alloc (.cells cs e)):=by
 have h2:=hown.next (Ap (o:=.cells cs e) (Below.refl _ w))
 refine A36 hinfo ht hsz hbb h1 hgd s x ho base v l hs h2 _ _ [y] hx (Bk8 hR hc) (by simp only [List.length_singleton];omega) (by simp;omega) ?_
 intro v' w' h3 h4 _
 exact h v' w' (Mo.mk1 h2 h3 h4)
theorem Zl {F:Fence} {nF:Nat} {size bytes:Nat} {e t:TypeId} (hinfo:(P.info? e).map (fun i=>(i.zero.map (·.cells.size),i.size,i.bytes))=some (some size,size,bytes)) (ht:P.underlying t=some (.slice e)) (hsz:0 < size) (hbb:bytes<=131072) (h1:∀ cs x,R cs x->∀ u∈cs,u.oneCell'=true)
  {w:World} {ops:Array Oper} {rest:List Oper} {o:Oper} {a:Act} {Q:Exit->Act->World->Prop} (hgd:o.guard=none) (s x:Operand)
  (ho:o.op=.call { callee:=.builtin .append,args:=#[s,x],argTypes:=#[t,t] }) (base:Nat) (v:Value) (l:List α) (hs:a.eval s=v) (hown:Ai R size w base e v l)
  (cs:Array Value) (y:α) (hx:a.eval x=.slice (some ⟨w.heap.size,0,none⟩) 1 1) (hR:R cs.toList y) (hc:cs.size=size) (hbig:l.length < 1073741824) (hbase:base<=w.heap.size)
  (h:∀ v' w',Mo R size base e v (l++[y]) (w.alloc (.cells cs e)) v' w'->wpListIn F nF P ops Q rest (a.put o.dst v') w'):wpListIn F nF P ops Q (o :: rest) a (w.alloc (.cells cs e)):=by
 have h2:=hown.next (Ap (o:=.cells cs e) (Below.refl _ w))
 refine Ao6 hinfo ht hsz hbb h1 hgd s x ho base v l hs h2 _ _ [y] hx (Bk8 hR hc) (by simp only [List.length_singleton];omega) (by simp;omega) ?_
 intro v' w' h3 h4 _
 exact h v' w' (Mo.mk1 h2 h3 h4)
end
section
variable {P : Program}
end
section
variable {α : Type} {R : List Value -> α -> Prop} {k : Nat}
theorem Ai.open_ {w:World} {base:Nat} {e:TypeId} {g n c:Nat} {l:List α} (h:Ai R k w base e (.slice (some ⟨g,0,none⟩) n c) l) :
  ∃ cur:Array Value,n=l.length/\base<=g/\Blk w g e cur/\l.length<=c/\c<=maxLen/\cur.size=c*k/\l.length<=1073741824/\Bh R k (cur.toList.take (l.length*k)) l:=by
 obtain ⟨xs,hown,hch,hbig⟩:=h
 rcases hown.2 with ⟨h1,_⟩ | ⟨g',cap,cur,h1,hb,hg,hnc,hcm,hcs,ht⟩
 ·cases h1
 ·injection h1 with h1 h2 h3
  injection h1 with h1
  injection h1 with h1
  subst h1 h2 h3
  rw [<-ht] at hch
  exact ⟨cur,rfl,hb,hg,hnc,hcm,hcs,hbig,hch⟩
theorem Ai.shut {w:World} {base:Nat} {e:TypeId} {g n c:Nat} {cur:Array Value} {l:List α} (hb:base<=g) (hg:Blk w g e cur) (hn:n=l.length) (hnc:l.length<=c) (hcm:c<=maxLen) (hcs:cur.size=c*k) (hbig:l.length<=1073741824) (hch:Bh R k (cur.toList.take (l.length*k)) l) :
  Ai R k w base e (.slice (some ⟨g,0,none⟩) n c) l:=by
 subst hn
 exact ⟨_,⟨by rw [hch.length],.inr ⟨g,c,cur,rfl,hb,hg,hnc,hcm,hcs,rfl⟩⟩,hch,hbig⟩
end
def D94 {α:Type} (R:List Value->α->Prop) (k:Nat) (T:TypeId) (base:Nat) (v:Value) (l:List α) (w:World) (e:Ending) (w':World):Prop :=
 ∃ v',e=.returned v'/\Ai R k w' base T v' l/\w.grownBy w' v.ownBlock/\(v'.ownBlock=v.ownBlock\/∃ g,v'.ownBlock=some g/\w.heap.size<=g)
def C14 (w:World) (B:Nat) (cs:List Value) (l:List Ah):Prop:=∃ v,cs=[v]/\Sl Gc 2 w B v l
abbrev D91 (w:World) (B:Nat):=Sl (C14 w B) 1 w B
def Df0 (ls:List (List Ah)):Nat:=(ls.map List.length).sum
end Go.Proofs.YtahgkllhbggmgaaGreatDoor
namespace Go.Proofs.YtahgkllhbggmgaaGreatDoor
open Go.ChangeShapes Go.WideShapes Go.ChangeAt Go.RowKit Go.Sort
def Bs9 {β:Type} (enc:β->List Value) (cs:List Value) (x:β):Prop:=cs=enc x
section
variable {β : Type} {enc : β -> List Value} {k : Nat}
theorem Bh.of_at (hk:∀ x,(enc x).length=k):∀ (l:List β) (xs:List Value),xs.length=l.length*k->(∀ i x,l[i]? = some x->∀ j u,(enc x)[j]? = some u->xs[i*k+j]? = some u)->Bh (Bs9 enc) k xs l
 | [],xs,h,_=>by
  have:xs=[]:=List.eq_nil_of_length_eq_zero (by simpa using h)
  exact this
 | y :: l,xs,h,hall=>by
  have hlen:xs.length=k+l.length*k:=by rw [h,List.length_cons,Nat.add_mul];omega
  have h0:xs.take k=enc y:=by
   apply List.ext_getElem?
   intro j
   rw [List.getElem?_take]
   split
   ·rename_i hj
    have hj2:j < (enc y).length:=by rw [hk];exact hj
    rw [List.getElem?_eq_getElem hj2]
    have:=hall 0 y rfl j _ (List.getElem?_eq_getElem hj2)
    simpa using this
   ·rw [List.getElem?_eq_none (by rw [hk];omega)]
  refine ⟨enc y,xs.drop k,by rw [<-h0,List.take_append_drop],hk y,rfl,Bh.of_at hk l _ (by rw [List.length_drop];omega) fun i x hx j u hu=>?_⟩
  have:=hall (i+1) x (by simpa using hx) j u hu
  rw [List.getElem?_drop,show k+(i*k+j)=(i+1)*k+j by rw [Nat.add_mul];omega]
  exact this
end
section
variable {β : Type} [Inhabited β] {enc : β -> List Value} {k : Nat}
theorem B37 (hk:∀ x,(enc x).length=k) (d:Array β) {i:Nat} {x:β} (hx:d.toList[i]? = some x) {j:Nat} {u:Value} (hu:(enc x)[j]? = some u):i*k+j < (flatK enc k d).size/\(flatK enc k d)[i*k+j]! = u:=by
 have hi:i < d.size:=by simpa using (List.getElem?_eq_some_iff.1 hx).1
 have hj:j < k:=by rw [<-hk x];exact (List.getElem?_eq_some_iff.1 hu).1
 have hlt:i*k+j < d.size*k:=by
  have:(i+1)*k<=d.size*k:=Nat.mul_le_mul_right k hi
  rw [Nat.add_mul] at this
  omega
 refine ⟨by rw [size_flatK];exact hlt,?_⟩
 have e1:(i*k+j) / k=i:=by rw [Nat.add_comm,Nat.add_mul_div_right _ _ (by omega),Nat.div_eq_of_lt hj];omega
 have e2:(i*k+j) % k=j:=by rw [Nat.add_comm,Nat.add_mul_mod_self_right,Nat.mod_eq_of_lt hj]
 have hdx:d[i]! = x:=by
  rw [getElem!_pos d i hi]
  have:=(List.getElem?_eq_some_iff.1 hx).2
  simpa using this
 rw [get_flatK _ _ _ _ hlt,e1,e2,hdx]
 have hj2:=List.getElem?_eq_some_iff.1 hu
 rw [getElem!_pos _ j hj2.1]
 exact hj2.2
theorem Bb6 (hk:∀ x,(enc x).length=k) (hk0:0 < k) {w:World} {base:Nat} {T:TypeId} {g c:Nat} {l:List β} (h:Ai (Bs9 enc) k w base T (.slice (some ⟨g,0,none⟩) l.length c) l):HoldsK enc k w g 0 l.toArray:=by
 intro t ht
 rw [size_flatK] at ht
 have hi:t / k < l.length:=by
  rw [Nat.div_lt_iff_lt_mul hk0]
  simpa only [List.size_toArray] using ht
 have hx:l[t / k]? = some l[t / k]:=List.getElem?_eq_getElem hi
 obtain ⟨cs,he,hcs,hat⟩:=Ai.at_ h hx
 have hm:=Nat.mod_lt t hk0
 have hu:(enc l[t / k])[t % k]? = some (enc l[t / k])[t % k]! := by
  rw [List.getElem?_eq_getElem (by rw [hk];exact hm),getElem!_pos _ _ (by rw [hk];exact hm)]
 have hf:=B37 hk l.toArray (i:=t / k) (x:=l[t / k]) (by simpa using hx) hu
 have e:t / k*k+t % k=t:=by rw [Nat.mul_comm];exact Nat.div_add_mod t k
 rw [e] at hf
 refine ⟨?_,?_⟩
 ·rw [hf.2,Nat.zero_add]
  have:=hat (t % k) (enc l[t / k])[t % k]! (by rw [he];exact hu)
  rw [e] at this
  exact this
 ·rw [Nat.zero_add]
  exact Ai.frozen h t
theorem Ar4 (hk:∀ x,(enc x).length=k) {w:World} {base:Nat} {T:TypeId} {g c:Nat} {l:List β} (h:Ai (Bs9 enc) k w base T (.slice (some ⟨g,0,none⟩) l.length c) l) (n:Nat) (d:Array β) (os:Array Obj) (hs:d.size=l.length) :
  Ai (Bs9 enc) k (sortWorldK enc k w g 0 n d os) base T (.slice (some ⟨g,0,none⟩) l.length c) d.toList/\w.grownBy (sortWorldK enc k w g 0 n d os) (some g):=by
 obtain ⟨cur,_,hb,hB,hnc,hcm,hcs,hbig,hch⟩:=h.open_
 have hlt:=hB.lt
 have hsz:(sortWorldK enc k w g 0 n d os).heap.size=w.heap.size+os.size:=by simp [sortWorldK,putRowK,putRow,mapBlock,Sort.ahead]
 have hblk:∀ i,i < w.heap.size->(sortWorldK enc k w g 0 n d os).heap[i]? = if g=i then (w.heap[i]?).map (onCells (putCells id 0 (flatK enc k d))) else w.heap[i]? := by
  intro i hi
  simp only [sortWorldK,putRowK,putRow,mapBlock,Sort.ahead,Sort.grow,Array.getElem?_append,Array.size_modify,hi,if_true,Array.getElem?_modify]
 refine ⟨?_,⟨rfl,rfl,rfl,by rw [hsz];omega,fun i hi hne=>by rw [hblk i hi,if_neg (fun e=>hne (by rw [e]))]⟩⟩
 have hB2:Blk (sortWorldK enc k w g 0 n d os) g T (putCells id 0 (flatK enc k d) cur):=by
  unfold Blk
  rw [hblk g hlt,if_pos rfl,show w.heap[g]? = some (.cells cur T (0,0)) from hB]
  rfl
 have hps:(putCells id 0 (flatK enc k d) cur).size=c*k:=by rw [putCells,Array.size_mapIdx,hcs]
 have hdl:d.toList.length=l.length:=by simpa using hs
 refine Ai.shut hb hB2 hdl.symm (by omega) hcm hps (by omega) ?_
 have hle:l.length*k<=c*k:=Nat.mul_le_mul_right k hnc
 refine Bh.of_at hk _ _ (by simp only [List.length_take,Array.length_toList];rw [hps,hs];exact Nat.min_eq_left hle) fun i x hx j u hu=>?_
 obtain ⟨f1,f2⟩:=B37 hk d hx hu
 rw [size_flatK] at f1
 rw [List.getElem?_take,if_pos (by rw [hdl,<-hs];exact f1),Array.getElem?_toList,putCells,Array.getElem?_mapIdx]
 have hcl:i*k+j < cur.size:=by rw [hcs];rw [hs] at f1;omega
 rw [Array.getElem?_eq_getElem hcl]
 simp only [Option.map_some,Nat.zero_le,true_and,Nat.zero_add,size_flatK,Nat.sub_zero,id]
 rw [if_pos f1,f2]
theorem Au2 {d d':Array β} (h:PermIn 0 d.size d d'):d'.toList.Perm d.toList/\d'.size=d.size:=by
 obtain ⟨h1,_,h3⟩:=h
 refine ⟨?_,h1⟩
 have e1:(d'.extract 0 d.size)=d':=by rw [<-h1];simp
 have e2:(d.extract 0 d.size)=d:=by simp
 rwa [e1,e2] at h3
theorem A52 {lt:β->β->Bool} {d:Array β} (h:SortedIn lt 0 d.size d):d.toList.Pairwise fun a b=>lt b a=false:=by
 rw [List.pairwise_iff_getElem]
 intro i j hi hj hij
 have hi':i < d.size:=by simpa using hi
 have hj':j < d.size:=by simpa using hj
 have:=h i j (Nat.zero_le _) hij hj'
 rw [getElem!_pos d i hi',getElem!_pos d j hj'] at this
 simpa using this
end
end Go.Proofs.YtahgkllhbggmgaaGreatDoor
namespace Go.Proofs.YtahgkllhbggmgaaGreatDoor
open Go.ChangeShapes Go.WideShapes Go.ChangeAt Go.RowKit
theorem Bo0 {w:World} {g n:Nat} {e:TypeId} {C:Array Value} (hB:Blk w g e C):(w.freeze ⟨g,n,none⟩ 1).heap.size=w.heap.size/\(∀ k,k≠g->(w.freeze ⟨g,n,none⟩ 1).heap[k]? = w.heap[k]?)/\(∀ p:Addr,(w.freeze ⟨g,n,none⟩ 1).cell? p=w.cell? p):=by
 have hsz:(w.freeze ⟨g,n,none⟩ 1).heap.size=w.heap.size:=by simp [World.freeze]
 have hfar:∀ k,k≠g->(w.freeze ⟨g,n,none⟩ 1).heap[k]? = w.heap[k]? := fun k hk=>by
  simp [World.freeze,Array.getElem?_modify,Ne.symm hk]
 refine ⟨hsz,hfar,fun p=>?_⟩
 by_cases hp:p.block=g
 ·have h1:(w.freeze ⟨g,n,none⟩ 1).heap[g]? = some (.cells C e (n,n+1)):=by
   have:=hB
   unfold Blk at this
   simp [World.freeze,Array.getElem?_modify,this]
  have h2:w.heap[g]? = some (.cells C e (0,0)):=hB
  unfold World.cell?
  rw [hp,h1,h2]
 ·exact World.cell?_of_block (hfar _ hp)
section
variable {P : Program} {G : World -> Prop} {V w0 : World} {n : Fm} {ro : Option Nat}
end
section
variable {P : Program} {G : World -> Prop} {σ : Ab} {V w0 : World} {n : Nd} {ro : Option Nat} {K : Exit -> Ab -> Prop}
end
end Go.Proofs.YtahgkllhbggmgaaGreatDoor
