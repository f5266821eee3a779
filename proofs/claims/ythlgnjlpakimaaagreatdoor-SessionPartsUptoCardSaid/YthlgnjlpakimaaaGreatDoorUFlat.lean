/- Appends to rows of one's own, as a run, for every walk (in a round too): of a slice that reads as a list; of one element whose cells were just laid. No program is known here. -/
import Derived.Test.YthlgnjlpakimaaaGreatDoorUMarks
import Derived.OwnWalkIn
set_option linter.all false
set_option linter.unnecessarySimpa false
set_option linter.unusedSimpArgs false
set_option linter.unusedVariables false
namespace Go.Proofs.YthlgnjlpakimaaaGreatDoor
open Go.ChangeShapes Go.WideShapes Go.ChangeAt Go.RowKit
theorem Sl.piece {α:Type} {R:List Value->α->Prop} {k:Nat} {w:World} {B:Nat} {b off c:Nat} {l:List α} (h:Sl R k w B (.slice (some ⟨b,off,none⟩) l.length c) l) {i j:Nat} (hij:i<=j) (hj:j<=l.length) :
  Sl R k w B (.slice (some ⟨b,off+i*k,none⟩) ((l.drop i).take (j - i)).length (c - i)) ((l.drop i).take (j - i)):=by
 obtain ⟨A,c',hv,⟨h1,h2⟩,h3,h4⟩:=h
 injection hv with hv1 _ hv3
 subst hv1 hv3
 refine ⟨_,_,rfl,⟨by simp;omega,by simp;omega⟩,by omega,fun hne=>?_⟩
 have hl:l≠[]:=by
  rintro rfl
  simp at hne
 obtain ⟨b',off',hA,hb,h5⟩:=h4 hl
 injection hA with hA
 injection hA with h6 h7
 subst h6 h7
 refine ⟨_,_,rfl,hb,fun m x hx=>?_⟩
 rw [List.getElem?_take] at hx
 split at hx
 ·rw [List.getElem?_drop] at hx
  obtain ⟨cs,h6,h7,h8⟩:=h5 _ x hx
  refine ⟨cs,h6,h7,fun q u hu=>?_⟩
  have:=h8 q u hu
  rwa [show off+(i+m)*k+q=off+i*k+m*k+q by rw [Nat.add_mul];omega] at this
 ·cases hx
theorem Ae.set_other {α:Type} {R:List Value->α->Prop} {k:Nat} {w:World} {base:Nat} {e:TypeId} {v:Value} {l:List α} (h:Ae R k w base e v l) {p:Addr} (hp:v.ownBlock≠some p.block) (u:Value):Ae R k (w.setCell p u) base e v l :=
 h.kept (row:=some p.block) ⟨rfl,rfl,rfl,by simp,fun i _ hne=>Below.heap_setCell w p u i (fun e=>hne (by rw [e]))⟩ (.inr hp)
def Bo6 (w:World) (g:Nat):Nat->List Value->World
 | _,[]=>w
 | o,u :: r=>Bo6 (w.setCell ⟨g,o,none⟩ u) g (o+1) r
def Bg5:List Value->Nat->List Value->List Value
 | xs,_,[]=>xs
 | xs,o,u :: r=>Bg5 (xs.set o u) (o+1) r
section
variable {α : Type} {R : List Value -> α -> Prop} {P : Program}
theorem Ri (w:World) {size:Nat} (h1:∀ cs x,R cs x->∀ u∈cs,u.oneCell'=true) (t ty:TypeId) (base:Nat) (e:TypeId) (bytes:Nat) (hinfo:(P.info? e).map (fun i=>(i.zero.map (·.cells.size),i.size,i.bytes))=some (some size,size,bytes)) (ht:P.underlying t=some (.slice e)) (hsz:0 < size) (hbb:bytes<=131072)
  (v:Value) (l:List α) (hown:Ae R size w base e v l) (B:Nat) (v2:Value) (m:List α) (hr:Sl R size w B v2 m) (hbig:l.length+m.length<=1073741824) (hbase:base<=w.heap.size) :
  ∃ v' w',(Builtin.append_ #[t,t] ty #[v,v2]).run P w=.ok v' w'/\Ae R size w' base e v' (l++m)/\w.grownBy w' v.ownBlock/\(v'.ownBlock=v.ownBlock\/v'.ownBlock=some w.heap.size):=by
 obtain ⟨i,z,hi,hz,hzs,hsize,hby⟩:=P6 hinfo
 have h63:l.length+m.length<=maxLen:=by unfold maxLen;omega
 have hbytes:(l.length+m.length)*bytes<=140737488355328:=by
  have:=Nat.mul_le_mul hbig hbb
  omega
 obtain ⟨xs,hown1,hch,_⟩:=hown
 obtain ⟨A,c,ys,rfl,hch2,hcell⟩:=hr.cells
 rcases hA:A with _ | ad
 ·have hm:m=[]:=by
   rcases m with _ | ⟨y,m⟩
   ·rfl
   ·obtain ⟨b,off,h,_⟩:=hcell (by simp)
    rw [hA] at h
    cases h
  subst hm
  exact ⟨v,w,Jc w base t ty e i size ht hi v _ xs hown1 _ c rfl,⟨xs,by simpa using hown1,by simpa using hch,by simpa using hbig⟩,World.grownBy.refl w _,.inl rfl⟩
 ·have hcells:∀ j u,ys[j]? = some u->w.cell? (ad.add j)=some u:=by
   intro j u hu
   rcases m with _ | ⟨y,m⟩
   ·cases hch2
    simp at hu
   ·obtain ⟨b,off,h,_,hc⟩:=hcell (by simp)
    rw [hA] at h
    injection h with h
    subst h
    rw [Hg]
    exact hc j u hu
  obtain ⟨v',w',hrun,h2,h3,_,h5⟩:=run_append_own_at (P:=P) w base t ty e i z size bytes ht hi hz hsize hby hzs hsz v _ xs hown1 ad _ c ys hch2.length hcells (hch2.one_cell h1) h63 hbytes hbase
  exact ⟨v',w',hrun,⟨_,by simpa using h2,hch.append hch2,by simpa using hbig⟩,h3,h5⟩
theorem Al8 {F:Fence} {nF:Nat} {size bytes:Nat} {e t:TypeId} (hinfo:(P.info? e).map (fun i=>(i.zero.map (·.cells.size),i.size,i.bytes))=some (some size,size,bytes)) (ht:P.underlying t=some (.slice e)) (hsz:0 < size) (hbb:bytes<=131072) (h1:∀ cs x,R cs x->∀ u∈cs,u.oneCell'=true)
  {w:World} {ops:Array Oper} {rest:List Oper} {o:Oper} {a:Act} {Q:Exit->Act->World->Prop} (hgd:o.guard=none) (s x:Operand)
  (ho:o.op=.call { callee:=.builtin .append,args:=#[s,x],argTypes:=#[t,t] }) (base:Nat) (v:Value) (l:List α) (hs:a.eval s=v) (hown:Ae R size w base e v l)
  (B:Nat) (v2:Value) (m:List α) (hx:a.eval x=v2) (hr:Sl R size w B v2 m) (hbig:l.length+m.length<=1073741824) (hbase:base<=w.heap.size)
  (h:∀ v' w',Ae R size w' base e v' (l++m)->w.grownBy w' v.ownBlock->(v'.ownBlock=v.ownBlock\/v'.ownBlock=some w.heap.size)->wpListIn F nF P ops Q rest (a.put o.dst v') w'):wpListIn F nF P ops Q (o :: rest) a w:=by
 refine wpListIn_plain hgd fun K hK=>?_
 obtain ⟨v',w',hrun,r1,r2,r3⟩:=Ri (P:=P) w h1 t o.type base e bytes hinfo ht hsz hbb v l hown B v2 m hr hbig hbase
 unfold Oper.wpIn
 refine ⟨by simp [Oper.about,ho,resolve,Target.leads,Sem.run_pure],?_⟩
 rw [Oper.semAt_plain F _ _ (by rw [ho];intro c hc';cases hc')]
 simp [execOp,ho,resolve,invoke,builtin,hs,hx,hrun,Result.andThen]
 exact hK _ _ (h v' w' r1 r2 r3)
theorem V8 {size bytes:Nat} {e t:TypeId} (hinfo:(P.info? e).map (fun i=>(i.zero.map (·.cells.size),i.size,i.bytes))=some (some size,size,bytes)) (ht:P.underlying t=some (.slice e)) (hsz:0 < size) (hbb:bytes<=131072) (h1:∀ cs x,R cs x->∀ u∈cs,u.oneCell'=true)
  {w:World} {ops:Array Oper} {rest:List Oper} {o:Oper} {a:Act} {Q:Exit->Act->World->Prop} (hgd:o.guard=none) (s x:Operand)
  (ho:o.op=.call { callee:=.builtin .append,args:=#[s,x],argTypes:=#[t,t] }) (base:Nat) (v:Value) (l:List α) (hs:a.eval s=v) (hown:Ae R size w base e v l)
  (B:Nat) (v2:Value) (m:List α) (hx:a.eval x=v2) (hr:Sl R size w B v2 m) (hbig:l.length+m.length<=1073741824) (hbase:base<=w.heap.size)
  (h:∀ v' w',Ae R size w' base e v' (l++m)->w.grownBy w' v.ownBlock->(v'.ownBlock=v.ownBlock\/v'.ownBlock=some w.heap.size)->wpList P ops Q rest (a.put o.dst v') w'):wpList P ops Q (o :: rest) a w:=by
 refine wpList_plain hgd fun K hK=>?_
 obtain ⟨v',w',hrun,r1,r2,r3⟩:=Ri (P:=P) w h1 t o.type base e bytes hinfo ht hsz hbb v l hown B v2 m hr hbig hbase
 unfold Oper.wp execOp
 simp only [ho,resolve,invoke,builtin,Sem.run_bind,Sem.run_pure,Result.andThen_ok,List.map_toArray,List.map_cons,List.map_nil,hs,hx,hrun]
 exact hK _ _ (h v' w' r1 r2 r3)
theorem Ba6 {size:Nat} {w:World} {cs:Array Value} {e:TypeId} {y:α} (hR:R cs.toList y) (hc:cs.size=size):Sl R size (w.alloc (.cells cs e)) (w.alloc (.cells cs e)).heap.size (.slice (some ⟨w.heap.size,0,none⟩) 1 1) [y] :=
 (Ae.of_blk (l:=[y]) (Blk.new w e cs) (Bu.one (by simpa using hc) hR) (by simp)).sl
structure Nl (R:List Value->α->Prop) (size:Nat) (base:Nat) (e:TypeId) (v:Value) (l:List α) (w:World) (v':Value) (w':World):Prop where
 own:Ae R size w' base e v' l
 grown:w.grownBy w' v.ownBlock
 low:∀ u:World,u.heap.size<=base->Below u.heap.size u w->Below u.heap.size u w'
 blk:∀ {g:Nat} {t':TypeId} {cs':Array Value},v.ownBlock≠some g->Blk w g t' cs'->Blk w' g t' cs'
 size:w.heap.size<=w'.heap.size
theorem Nl.mk1 {size:Nat} {w w':World} {base:Nat} {e:TypeId} {v v':Value} {l m:List α} (h0:Ae R size w base e v l) (h:Ae R size w' base e v' m) (hg:w.grownBy w' v.ownBlock):Nl R size base e v m w v' w' :=
 ⟨h,hg,fun u hu hb=>hb.grown hg hb.size fun k hk=>by have:=(h0.lt k hk).1;omega,fun hne hB=>hB.grown hg (fun e=>hne e.symm),hg.size⟩
theorem J5 {size bytes:Nat} {e t:TypeId} (hinfo:(P.info? e).map (fun i=>(i.zero.map (·.cells.size),i.size,i.bytes))=some (some size,size,bytes)) (ht:P.underlying t=some (.slice e)) (hsz:0 < size) (hbb:bytes<=131072) (h1:∀ cs x,R cs x->∀ u∈cs,u.oneCell'=true)
  {w:World} {ops:Array Oper} {rest:List Oper} {o:Oper} {a:Act} {Q:Exit->Act->World->Prop} (hgd:o.guard=none) (s x:Operand)
  (ho:o.op=.call { callee:=.builtin .append,args:=#[s,x],argTypes:=#[t,t] }) (base:Nat) (v:Value) (l:List α) (hs:a.eval s=v) (hown:Ae R size w base e v l)
  (cs:Array Value) (y:α) (hx:a.eval x=.slice (some ⟨w.heap.size,0,none⟩) 1 1) (hR:R cs.toList y) (hc:cs.size=size) (hbig:l.length < 1073741824) (hbase:base<=w.heap.size)
  (h:∀ v' w',Nl R size base e v (l++[y]) (w.alloc (.cells cs e)) v' w'->wpList P ops Q rest (a.put o.dst v') w'):wpList P ops Q (o :: rest) a (w.alloc (.cells cs e)):=by
 have h2:=hown.next (Af (o:=.cells cs e) (Below.refl _ w))
 refine V8 hinfo ht hsz hbb h1 hgd s x ho base v l hs h2 _ _ [y] hx (Ba6 hR hc) (by simp only [List.length_singleton];omega) (by simp;omega) ?_
 intro v' w' h3 h4 _
 exact h v' w' (Nl.mk1 h2 h3 h4)
theorem Zm {F:Fence} {nF:Nat} {size bytes:Nat} {e t:TypeId} (hinfo:(P.info? e).map (fun i=>(i.zero.map (·.cells.size),i.size,i.bytes))=some (some size,size,bytes)) (ht:P.underlying t=some (.slice e)) (hsz:0 < size) (hbb:bytes<=131072) (h1:∀ cs x,R cs x->∀ u∈cs,u.oneCell'=true)
  {w:World} {ops:Array Oper} {rest:List Oper} {o:Oper} {a:Act} {Q:Exit->Act->World->Prop} (hgd:o.guard=none) (s x:Operand)
  (ho:o.op=.call { callee:=.builtin .append,args:=#[s,x],argTypes:=#[t,t] }) (base:Nat) (v:Value) (l:List α) (hs:a.eval s=v) (hown:Ae R size w base e v l)
  (cs:Array Value) (y:α) (hx:a.eval x=.slice (some ⟨w.heap.size,0,none⟩) 1 1) (hR:R cs.toList y) (hc:cs.size=size) (hbig:l.length < 1073741824) (hbase:base<=w.heap.size)
  (h:∀ v' w',Nl R size base e v (l++[y]) (w.alloc (.cells cs e)) v' w'->wpListIn F nF P ops Q rest (a.put o.dst v') w'):wpListIn F nF P ops Q (o :: rest) a (w.alloc (.cells cs e)):=by
 have h2:=hown.next (Af (o:=.cells cs e) (Below.refl _ w))
 refine Al8 hinfo ht hsz hbb h1 hgd s x ho base v l hs h2 _ _ [y] hx (Ba6 hR hc) (by simp only [List.length_singleton];omega) (by simp;omega) ?_
 intro v' w' h3 h4 _
 exact h v' w' (Nl.mk1 h2 h3 h4)
end
end Go.Proofs.YthlgnjlpakimaaaGreatDoor
