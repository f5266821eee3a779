/- Contracts of slices.Grow of nil, and slices.Concat, at []telltale/api.Span. -/
import Derived.Test.YtblfjaedaijfoaaGreatDoorQMarks
import Derived.OwnWalkIn
import Derived.Test.YtblfjaedaijfoaaGreatDoorQSpanSet
import Derived.Lib.AppendZeros
set_option linter.all false
set_option linter.unnecessarySimpa false
set_option linter.unusedSimpArgs false
set_option linter.unusedVariables false
namespace Go.Proofs.YtblfjaedaijfoaaGreatDoor
open Go.ChangeShapes Go.WideShapes Go.ChangeAt Go.RowKit
theorem Sl.piece {α:Type} {R:List Value->α->Prop} {k:Nat} {w:World} {B:Nat} {b off c:Nat} {l:List α} (h:Sl R k w B (.slice (some ⟨b,off,none⟩) l.length c) l) {i j:Nat} (hij:i<=j) (hj:j<=l.length) :
  Sl R k w B (.slice (some ⟨b,off+i*k,none⟩) ((l.drop i).take (j - i)).length (c - i)) ((l.drop i).take (j - i)):=by
 obtain ⟨A,c',hv,⟨h1,h2⟩,h3,h4⟩:=h
 injection hv with hv1 _ hv3
 subst hv1 hv3
 refine ⟨_,_,rfl,⟨by simp;omega,by simp;omega⟩,by omega,fun hne=>?_⟩
 have hl:l≠[]:=by
  rintro rfl
  simp at hne
 obtain ⟨b',off',hA,hb,h5⟩:=h4 hl
 injection hA with hA
 injection hA with h6 h7
 subst h6 h7
 refine ⟨_,_,rfl,hb,fun m x hx=>?_⟩
 rw [List.getElem?_take] at hx
 split at hx
 ·rw [List.getElem?_drop] at hx
  obtain ⟨cs,h6,h7,h8⟩:=h5 _ x hx
  refine ⟨cs,h6,h7,fun q u hu=>?_⟩
  have:=h8 q u hu
  rwa [show off+(i+m)*k+q=off+i*k+m*k+q by rw [Nat.add_mul];omega] at this
 ·cases hx
theorem Ah.set_other {α:Type} {R:List Value->α->Prop} {k:Nat} {w:World} {base:Nat} {e:TypeId} {v:Value} {l:List α} (h:Ah R k w base e v l) {p:Addr} (hp:v.ownBlock≠some p.block) (u:Value):Ah R k (w.setCell p u) base e v l :=
 h.kept (row:=some p.block) ⟨rfl,rfl,rfl,by simp,fun i _ hne=>Below.heap_setCell w p u i (fun e=>hne (by rw [e]))⟩ (.inr hp)
def Ci0 (w:World) (g:Nat):Nat->List Value->World
 | _,[]=>w
 | o,u :: r=>Ci0 (w.setCell ⟨g,o,none⟩ u) g (o+1) r
def C76:List Value->Nat->List Value->List Value
 | xs,_,[]=>xs
 | xs,o,u :: r=>C76 (xs.set o u) (o+1) r
section
variable {α : Type} {R : List Value -> α -> Prop} {P : Program}
theorem T7 (w:World) {size:Nat} (h1:∀ cs x,R cs x->∀ u∈cs,u.oneCell'=true) (t ty:TypeId) (base:Nat) (e:TypeId) (bytes:Nat) (hinfo:(P.info? e).map (fun i=>(i.zero.map (·.cells.size),i.size,i.bytes))=some (some size,size,bytes)) (ht:P.underlying t=some (.slice e)) (hsz:0 < size) (hbb:bytes<=131072)
  (v:Value) (l:List α) (hown:Ah R size w base e v l) (B:Nat) (v2:Value) (m:List α) (hr:Sl R size w B v2 m) (hbig:l.length+m.length<=1073741824) (hbase:base<=w.heap.size) :
  ∃ v' w',(Builtin.append_ #[t,t] ty #[v,v2]).run P w=.ok v' w'/\Ah R size w' base e v' (l++m)/\w.grownBy w' v.ownBlock/\(v'.ownBlock=v.ownBlock\/v'.ownBlock=some w.heap.size):=by
 obtain ⟨i,z,hi,hz,hzs,hsize,hby⟩:=H5 hinfo
 have h63:l.length+m.length<=maxLen:=by unfold maxLen;omega
 have hbytes:(l.length+m.length)*bytes<=140737488355328:=by
  have:=Nat.mul_le_mul hbig hbb
  omega
 obtain ⟨xs,hown1,hch,_⟩:=hown
 obtain ⟨A,c,ys,rfl,hch2,hcell⟩:=hr.cells
 rcases hA:A with _ | ad
 ·have hm:m=[]:=by
   rcases m with _ | ⟨y,m⟩
   ·rfl
   ·obtain ⟨b,off,h,_⟩:=hcell (by simp)
    rw [hA] at h
    cases h
  subst hm
  exact ⟨v,w,Kd w base t ty e i size ht hi v _ xs hown1 _ c rfl,⟨xs,by simpa using hown1,by simpa using hch,by simpa using hbig⟩,World.grownBy.refl w _,.inl rfl⟩
 ·have hcells:∀ j u,ys[j]? = some u->w.cell? (ad.add j)=some u:=by
   intro j u hu
   rcases m with _ | ⟨y,m⟩
   ·cases hch2
    simp at hu
   ·obtain ⟨b,off,h,_,hc⟩:=hcell (by simp)
    rw [hA] at h
    injection h with h
    subst h
    rw [Jb]
    exact hc j u hu
  obtain ⟨v',w',hrun,h2,h3,_,h5⟩:=run_append_own_at (P:=P) w base t ty e i z size bytes ht hi hz hsize hby hzs hsz v _ xs hown1 ad _ c ys hch2.length hcells (hch2.one_cell h1) h63 hbytes hbase
  exact ⟨v',w',hrun,⟨_,by simpa using h2,hch.append hch2,by simpa using hbig⟩,h3,h5⟩
theorem B12 {F:Fence} {nF:Nat} {size bytes:Nat} {e t:TypeId} (hinfo:(P.info? e).map (fun i=>(i.zero.map (·.cells.size),i.size,i.bytes))=some (some size,size,bytes)) (ht:P.underlying t=some (.slice e)) (hsz:0 < size) (hbb:bytes<=131072) (h1:∀ cs x,R cs x->∀ u∈cs,u.oneCell'=true)
  {w:World} {ops:Array Oper} {rest:List Oper} {o:Oper} {a:Act} {Q:Exit->Act->World->Prop} (hgd:o.guard=none) (s x:Operand)
  (ho:o.op=.call { callee:=.builtin .append,args:=#[s,x],argTypes:=#[t,t] }) (base:Nat) (v:Value) (l:List α) (hs:a.eval s=v) (hown:Ah R size w base e v l)
  (B:Nat) (v2:Value) (m:List α) (hx:a.eval x=v2) (hr:Sl R size w B v2 m) (hbig:l.length+m.length<=1073741824) (hbase:base<=w.heap.size)
  (h:∀ v' w',Ah R size w' base e v' (l++m)->w.grownBy w' v.ownBlock->(v'.ownBlock=v.ownBlock\/v'.ownBlock=some w.heap.size)->wpListIn F nF P ops Q rest (a.put o.dst v') w'):wpListIn F nF P ops Q (o :: rest) a w:=by
 refine wpListIn_plain hgd fun K hK=>?_
 obtain ⟨v',w',hrun,r1,r2,r3⟩:=T7 (P:=P) w h1 t o.type base e bytes hinfo ht hsz hbb v l hown B v2 m hr hbig hbase
 unfold Oper.wpIn
 refine ⟨by simp [Oper.about,ho,resolve,Target.leads,Sem.run_pure],?_⟩
 rw [Oper.semAt_plain F _ _ (by rw [ho];intro c hc';cases hc')]
 simp [execOp,ho,resolve,invoke,builtin,hs,hx,hrun,Result.andThen]
 exact hK _ _ (h v' w' r1 r2 r3)
theorem Xh {size bytes:Nat} {e t:TypeId} (hinfo:(P.info? e).map (fun i=>(i.zero.map (·.cells.size),i.size,i.bytes))=some (some size,size,bytes)) (ht:P.underlying t=some (.slice e)) (hsz:0 < size) (hbb:bytes<=131072) (h1:∀ cs x,R cs x->∀ u∈cs,u.oneCell'=true)
  {w:World} {ops:Array Oper} {rest:List Oper} {o:Oper} {a:Act} {Q:Exit->Act->World->Prop} (hgd:o.guard=none) (s x:Operand)
  (ho:o.op=.call { callee:=.builtin .append,args:=#[s,x],argTypes:=#[t,t] }) (base:Nat) (v:Value) (l:List α) (hs:a.eval s=v) (hown:Ah R size w base e v l)
  (B:Nat) (v2:Value) (m:List α) (hx:a.eval x=v2) (hr:Sl R size w B v2 m) (hbig:l.length+m.length<=1073741824) (hbase:base<=w.heap.size)
  (h:∀ v' w',Ah R size w' base e v' (l++m)->w.grownBy w' v.ownBlock->(v'.ownBlock=v.ownBlock\/v'.ownBlock=some w.heap.size)->wpList P ops Q rest (a.put o.dst v') w'):wpList P ops Q (o :: rest) a w:=by
 refine wpList_plain hgd fun K hK=>?_
 obtain ⟨v',w',hrun,r1,r2,r3⟩:=T7 (P:=P) w h1 t o.type base e bytes hinfo ht hsz hbb v l hown B v2 m hr hbig hbase
 unfold Oper.wp execOp
 simp only [ho,resolve,invoke,builtin,Sem.run_bind,Sem.run_pure,Result.andThen_ok,List.map_toArray,List.map_cons,List.map_nil,hs,hx,hrun]
 exact hK _ _ (h v' w' r1 r2 r3)
theorem B88 {size:Nat} {w:World} {cs:Array Value} {e:TypeId} {y:α} (hR:R cs.toList y) (hc:cs.size=size):Sl R size (w.alloc (.cells cs e)) (w.alloc (.cells cs e)).heap.size (.slice (some ⟨w.heap.size,0,none⟩) 1 1) [y] :=
 (Ah.of_blk (l:=[y]) (Blk.new w e cs) (Bx.one (by simpa using hc) hR) (by simp)).sl
structure Pf (R:List Value->α->Prop) (size:Nat) (base:Nat) (e:TypeId) (v:Value) (l:List α) (w:World) (v':Value) (w':World):Prop where
 own:Ah R size w' base e v' l
 grown:w.grownBy w' v.ownBlock
 low:∀ u:World,u.heap.size<=base->Below u.heap.size u w->Below u.heap.size u w'
 blk:∀ {g:Nat} {t':TypeId} {cs':Array Value},v.ownBlock≠some g->Blk w g t' cs'->Blk w' g t' cs'
 size:w.heap.size<=w'.heap.size
theorem Pf.mk1 {size:Nat} {w w':World} {base:Nat} {e:TypeId} {v v':Value} {l m:List α} (h0:Ah R size w base e v l) (h:Ah R size w' base e v' m) (hg:w.grownBy w' v.ownBlock):Pf R size base e v m w v' w' :=
 ⟨h,hg,fun u hu hb=>hb.grown hg hb.size fun k hk=>by have:=(h0.lt k hk).1;omega,fun hne hB=>hB.grown hg (fun e=>hne e.symm),hg.size⟩
theorem K5 {size bytes:Nat} {e t:TypeId} (hinfo:(P.info? e).map (fun i=>(i.zero.map (·.cells.size),i.size,i.bytes))=some (some size,size,bytes)) (ht:P.underlying t=some (.slice e)) (hsz:0 < size) (hbb:bytes<=131072) (h1:∀ cs x,R cs x->∀ u∈cs,u.oneCell'=true)
  {w:World} {ops:Array Oper} {rest:List Oper} {o:Oper} {a:Act} {Q:Exit->Act->World->Prop} (hgd:o.guard=none) (s x:Operand)
  (ho:o.op=.call { callee:=.builtin .append,args:=#[s,x],argTypes:=#[t,t] }) (base:Nat) (v:Value) (l:List α) (hs:a.eval s=v) (hown:Ah R size w base e v l)
  (cs:Array Value) (y:α) (hx:a.eval x=.slice (some ⟨w.heap.size,0,none⟩) 1 1) (hR:R cs.toList y) (hc:cs.size=size) (hbig:l.length < 1073741824) (hbase:base<=w.heap.size)
  (h:∀ v' w',Pf R size base e v (l++[y]) (w.alloc (.cells cs e)) v' w'->wpList P ops Q rest (a.put o.dst v') w'):wpList P ops Q (o :: rest) a (w.alloc (.cells cs e)):=by
 have h2:=hown.next (Ai (o:=.cells cs e) (Below.refl _ w))
 refine Xh hinfo ht hsz hbb h1 hgd s x ho base v l hs h2 _ _ [y] hx (B88 hR hc) (by simp only [List.length_singleton];omega) (by simp;omega) ?_
 intro v' w' h3 h4 _
 exact h v' w' (Pf.mk1 h2 h3 h4)
theorem A89 {F:Fence} {nF:Nat} {size bytes:Nat} {e t:TypeId} (hinfo:(P.info? e).map (fun i=>(i.zero.map (·.cells.size),i.size,i.bytes))=some (some size,size,bytes)) (ht:P.underlying t=some (.slice e)) (hsz:0 < size) (hbb:bytes<=131072) (h1:∀ cs x,R cs x->∀ u∈cs,u.oneCell'=true)
  {w:World} {ops:Array Oper} {rest:List Oper} {o:Oper} {a:Act} {Q:Exit->Act->World->Prop} (hgd:o.guard=none) (s x:Operand)
  (ho:o.op=.call { callee:=.builtin .append,args:=#[s,x],argTypes:=#[t,t] }) (base:Nat) (v:Value) (l:List α) (hs:a.eval s=v) (hown:Ah R size w base e v l)
  (cs:Array Value) (y:α) (hx:a.eval x=.slice (some ⟨w.heap.size,0,none⟩) 1 1) (hR:R cs.toList y) (hc:cs.size=size) (hbig:l.length < 1073741824) (hbase:base<=w.heap.size)
  (h:∀ v' w',Pf R size base e v (l++[y]) (w.alloc (.cells cs e)) v' w'->wpListIn F nF P ops Q rest (a.put o.dst v') w'):wpListIn F nF P ops Q (o :: rest) a (w.alloc (.cells cs e)):=by
 have h2:=hown.next (Ai (o:=.cells cs e) (Below.refl _ w))
 refine B12 hinfo ht hsz hbb h1 hgd s x ho base v l hs h2 _ _ [y] hx (B88 hR hc) (by simp only [List.length_singleton];omega) (by simp;omega) ?_
 intro v' w' h3 h4 _
 exact h v' w' (Pf.mk1 h2 h3 h4)
end
theorem Ad6:(Tryz.prog.info? 121).map (fun i=>(i.zero.map (·.cells.size),i.size,i.bytes))=some (some 2,2,16):=by kernel_rfl
theorem C22 (n:Nat) (w:World) (hn:n<=1073741824) :
  Calls Tryz.prog 329 #[.slice none 0 0,.int .i64 n] w fun e w'=>(∃ v,e=.returned v/\Ah Ei 2 w' w.heap.size 121 v [])/\Below w.heap.size w w':=by
 rcases Nat.eq_zero_or_pos n with rfl | hpos
 ·go_enter Tryz.func329,Tryz.ntmps329
  go_wp2_with fail
  go_ret
  exact ⟨⟨_,rfl,Ah.nil_ _ _ _⟩,Below.refl _ _⟩
 ·obtain ⟨i0,z0,hi0,hz0,hzs,hz1,hz2⟩:=H5 Ad6
  have hr:=fun ty=>Lib.run_append_nil_zeros (P:=Tryz.prog) w 48 3 ty 121 i0 z0 .i64 .i64 Tryz.underlying48 Tryz.underlying3 hi0 hz0 n hpos (by omega) (by omega) (by rw [hz2];omega)
  have hG1:=grownCap_ge w n 0 121
  have hG2:=grownCap_le_maxLen w n 0 121 (by unfold maxLen;omega)
  generalize grownCap w n 0 121=G at *
  have hsz:(Builtin.zeroCells z0.cells n++Builtin.zeroCells z0.cells (G - n)).size=G*2:=by
   simp only [Array.size_append,Builtin.zeroCells,Array.size_map,Array.size_range,hzs]
   omega
  have hB:Blk (w.drew.alloc (.cells (Builtin.zeroCells z0.cells n++Builtin.zeroCells z0.cells (G - n)) 121)) w.heap.size 121 (Builtin.zeroCells z0.cells n++Builtin.zeroCells z0.cells (G - n)):=Blk.new w.drew _ _
  have hb:Below w.heap.size w (w.drew.alloc (.cells (Builtin.zeroCells z0.cells n++Builtin.zeroCells z0.cells (G - n)) 121)):=Ai (Below.refl _ w).drew
  have hown:Ah Ei 2 (w.drew.alloc (.cells (Builtin.zeroCells z0.cells n++Builtin.zeroCells z0.cells (G - n)) 121)) w.heap.size 121 (.slice (some ⟨w.heap.size,0,none⟩) 0 G) [] :=
   Ah.shut (Nat.le_refl _) hB rfl (Nat.zero_le _) hG2 hsz (by simp) (by simp only [List.length_nil,Nat.zero_mul,List.take_zero];exact rfl)
  generalize w.drew.alloc _=W at *
  have HR:=Lib.hid hr
  have HO:=Lib.hid hown
  have hp2:(0:Int) < (n:Int):=by omega
  unfold maxLen at hG2
  have hG3:(n:Int)<=(G:Int):=by omega
  have hG4:(0:Int)<=(G:Int):=by omega
  clear hr hB hown hsz hi0 hz0 hzs hz1 hz2
  go_enter Tryz.func329,Tryz.ntmps329
  go_wp2_with (at_builtin;refine Lib.wpList_append_run _ rfl (.tmp 20) (.tmp 21) 48 3 rfl _ _ rfl rfl _ _ (HR.out _) ?_)
  go_ret
  exact ⟨⟨_,rfl,HO.out⟩,hb⟩
def Bj1 (w:World) (B:Nat) (cs:List Value) (l:List Ao):Prop:=∃ v,cs=[v]/\Sl Ei 2 w B v l
abbrev Mv (w:World) (B:Nat):=Sl (Bj1 w B) 1 w B
theorem Mv.next {w w':World} {v:Value} {ls:List (List Ao)} (h:Mv w w.heap.size v ls) (hb:Below w.heap.size w w'):Mv w' w'.heap.size v ls :=
 h.ext (fun _ _ ⟨v,e,h⟩=>⟨v,e,h.ext (fun _ _ h=>h) (Ext.of_below hb)⟩) (Ext.of_below hb)
theorem A04 {w:World} {B:Nat} {v:Value} {ls:List (List Ao)} (h:Mv w B v ls) {m:Nat} {x:List Ao} (hx:ls[m]? = some x) :
  ∃ b off c vi,v=.slice (some ⟨b,off,none⟩) ls.length c/\b < B/\w.cell? ⟨b,off+m,none⟩=some vi/\Sl Ei 2 w B vi x:=by
 obtain ⟨A,c,rfl,_,_,h3⟩:=h
 obtain ⟨b,off,rfl,hb,h4⟩:=h3 (by rintro rfl;simp at hx)
 obtain ⟨cs,⟨vi,rfl,hs⟩,_,h5⟩:=h4 m x hx
 have:=h5 0 vi rfl
 rw [Nat.mul_one,Nat.add_zero] at this
 exact ⟨b,off,c,vi,rfl,hb,this,hs⟩
def F9 (ls:List (List Ao)):Nat:=(ls.map List.length).sum
theorem Uq {ls:List (List Ao)} {m:Nat} {x:List Ao} (h:ls[m]? = some x):F9 (ls.take (m+1))=F9 (ls.take m)+x.length:=by
 rw [Du h];simp [F9]
theorem Zm (ls:List (List Ao)) (m:Nat):F9 (ls.take m)<=F9 ls:=by
  have h:((ls.take m++ls.drop m).map List.length).sum=((ls.take m).map List.length).sum+((ls.drop m).map List.length).sum:=by rw [List.map_append,List.sum_append]
  rw [List.take_append_drop] at h
  unfold F9
  omega
theorem Al9 (ls:List (List Ao)):ls.flatten.length=F9 ls:=by simp [F9,List.length_flatten]
set_option maxRecDepth 100000 in
set_option maxHeartbeats 1600000 in
theorem Bd2 (ls:List (List Ao)) (v:Value) (w:World) (h:Mv w w.heap.size v ls) (hsum:F9 ls<=1073741824) :
  Calls Tryz.prog 307 #[v] w fun e w'=>(∃ v',e=.returned v'/\Ah Ei 2 w' w.heap.size 121 v' ls.flatten)/\Below w.heap.size w w':=by
 have hle:=h.len_le
 have HH:=Lib.hid h
 obtain ⟨A,c,rfl,-⟩:=id h
 clear h
 go_enter Tryz.func307,Tryz.ntmps307
 go_wp2_with fail
 go_loopw [3,11] (fun q k wr=>∃ m:Nat,m<=ls.length/\k=.int .i64 m/\q=.int .i64 (F9 (ls.take m))/\wr=w) (fun _ k _=>ls.length - (intOf k).toNat)
 case atStart=>exact ⟨0,Nat.zero_le _,rfl,rfl,rfl⟩
 case round =>
  rename_i q0 k0
  obtain ⟨m,hm,rfl,rfl,rfl⟩:=hrel
  obtain ⟨W0,rfl⟩ : ∃ W0:World,W0=wr:=⟨_,rfl⟩
  by_cases hlt:m < ls.length
  ·obtain ⟨x,hx⟩ : ∃ x,ls[m]? = some x:=⟨ls[m],List.getElem?_eq_getElem hlt⟩
   obtain ⟨b,off,_,vi,hv',hbb,e0,hs⟩:=A04 HH.out hx
   injection hv' with hv1 hv2 hv3
   subst hv1
   obtain ⟨A1,c1,rfl,-⟩:=id hs
   have HT:=Lib.hid (Uq hx)
   have hb1:=Zm ls (m+1)
   rw [HT.out] at hb1
   generalize F9 (ls.take m)=S at *
   have i1:(m:Int) < (ls.length:Int):=by omega
   have i2:(0:Int)<=(m:Int):=by omega
   have hw1:IntKind.i64.wrap ((S:Int)+(x.length:Int))=(S:Int)+(x.length:Int):=IntWalk.i64_in _ (by omega)
   have hn1:¬ ((S:Int)+(x.length:Int) < 0):=by omega
   clear hv2 hv3 hx hs
   go_wp2_with fail
   exact ⟨⟨m+1,by omega,by go_num,by rw [HT.out];simp,trivial⟩,by simp [intOf];omega⟩
  ·obtain rfl:m=ls.length:=by omega
   rw [List.take_length]
   have HG:=Lib.hid (C22 (F9 ls) W0 hsum)
   generalize hS:F9 ls=S at *
   have HS:=Lib.hid hS
   clear hS
   go_wp2_with fail
   refine HG.out.mono ?_
   rintro e w1 ⟨⟨v1,rfl,hown⟩,hb1⟩
   have HO:=Lib.hid hown
   clear hown HG
   go_wp2_with fail
   go_loopw [6,27] (fun o k w2=>∃ m:Nat,m<=ls.length/\k=.int .i64 m/\Ah Ei 2 w2 W0.heap.size 121 o (ls.take m).flatten/\Below W0.heap.size W0 w2) (fun _ k _=>ls.length - (intOf k).toNat)
   case atStart=>exact ⟨0,Nat.zero_le _,rfl,HO.out,hb1⟩
   case round =>
    rename_i o0 k0
    obtain ⟨n,hn,rfl,hown,hb⟩:=hrel
    by_cases hlt2:n < ls.length
    ·obtain ⟨x,hx⟩ : ∃ x,ls[n]? = some x:=⟨ls[n],List.getElem?_eq_getElem hlt2⟩
     obtain ⟨b,off,_,vi,hv',hbb,e0,hs⟩:=A04 (HH.out.next hb) hx
     injection hv' with hv1 hv2 hv3
     subst hv1
     have HT:=Lib.hid (show (ls.take (n+1)).flatten=(ls.take n).flatten++x by rw [Du hx];simp)
     have hl1:=Al9 (ls.take n)
     have hl2:=Uq hx
     have hl3:=Zm ls (n+1)
     rw [HS.out] at hl3
     have hbound:(ls.take n).flatten.length+x.length<=1073741824:=by omega
     have HSX:=Lib.hid hs
     have HO2:=Lib.hid hown
     have Hb:=Lib.hid hb
     have hlt0:=hown.lt
     have hbs:=hb.size
     have i1:(n:Int) < (ls.length:Int):=by omega
     have i2:(0:Int)<=(n:Int):=by omega
     clear hv2 hv3 hx hs hown hb hl1 hl2 hl3
     go_wp2_with (at_builtin;refine Xh Ad6 Tryz.underlying48 (by omega) (by omega) Jy rfl (.tmp 31) (.tmp 32) rfl W0.heap.size _ _ rfl HO2.out _ _ x rfl HSX.out hbound (by omega) ?_;intro v' w' h1 h2 h3)
     have HO3:=Lib.hid h1
     have hb3:Below W0.heap.size W0 w':=Hb.out.grown h2 hbs (fun k hk=>(hlt0 k hk).1)
     clear h1 h2 h3
     go_wp2_with fail
     exact ⟨⟨n+1,by omega,by go_num,by rw [HT.out];exact HO3.out,hb3⟩,by simp [intOf];omega⟩
    ·obtain rfl:n=ls.length:=by omega
     rw [List.take_length] at hown
     have HO3:=Lib.hid hown
     clear hown
     go_wp2_with fail
     go_ret
     exact ⟨⟨_,rfl,HO3.out⟩,hb⟩
end Go.Proofs.YtblfjaedaijfoaaGreatDoor
