/- Regions, branches, loops and whole functions over abstract states. No program is known here. -/
import Derived.Test.YthlgnjlpakimaaaGreatDoorUAbsSnd4
set_option linter.all false
set_option linter.unnecessarySimpa false
set_option linter.unusedSimpArgs false
set_option linter.unusedVariables false
namespace Go.Proofs.YthlgnjlpakimaaaGreatDoor
open Go.ChangeShapes Go.WideShapes Go.ChangeAt Go.RowKit
def Ud (cells:Array Value) (off:Nat):List Value->Array Value
 | []=>cells
 | v :: vs=>Ud (cells.setIfInBounds off v) (off+1) vs
theorem A06 (off:Nat):∀ (vs:List Value) (cells:Array Value),(Ud cells off vs).size=cells.size:=by
 intro vs
 induction vs generalizing off with
 | nil=>exact fun _=>rfl
 | cons v vs ih=>intro cells;simp [Ud,ih]
theorem Ad9 (i:Nat):∀ (vs:List Value) (off:Nat) (cells:Array Value),(Ud cells off vs)[i]? = if off<=i/\i < off+vs.length/\i < cells.size then vs[i - off]? else cells[i]? := by
 intro vs
 induction vs with
 | nil=>intro off cells;simp [Ud];omega
 | cons v vs ih =>
  intro off cells
  simp only [Ud,ih,Array.size_setIfInBounds,Array.getElem?_setIfInBounds,List.length_cons]
  by_cases h1:off=i
  ·subst h1
   by_cases h2:off < cells.size
   ·rw [if_neg (by omega),if_pos (by omega)];simp [h2]
   ·rw [if_neg (by omega)];simp [h2]
  ·by_cases h2:off<=i/\i < off+(vs.length+1)/\i < cells.size
   ·rw [if_pos (by omega),if_pos h2,show i - off=(i - (off+1))+1 by omega,List.getElem?_cons_succ]
   ·rw [if_neg (by omega),if_neg h2,if_neg h1]
theorem B45 (off:Nat):∀ (l:List Value) (j:Nat) (cells:Array Value),(l.zipIdx j).foldl (fun cs (x:Value×Nat)=>cs.setIfInBounds (off+x.2) x.1) cells=Ud cells (off+j) l:=by
 intro l
 induction l with
 | nil=>exact fun _ _=>rfl
 | cons v l ih=>intro j cells;simp only [List.zipIdx_cons,List.foldl_cons,ih,Ud];rfl
theorem A39 {place:Nat->Option (Nat×Nat)} {cells:Array Value} {i off size:Nat} {v:Value} {rest:List (Nat×Value)} (h:place i=some (off,size)) (h1:v.cells.size=size) (h2:off+size<=cells.size) :
  Instr.fill place cells ((i,v) :: rest)=Instr.fill place (Ud cells off v.cells.toList) rest:=by
 have e:v.cells.zipIdx.foldl (fun cs (x:Value×Nat)=>cs.setIfInBounds (off+x.2) x.1) cells=Ud cells off v.cells.toList:=by
  rw [<-Array.foldl_toList,Array.toList_zipIdx]
  exact B45 off _ 0 cells
 conv=>lhs;unfold Instr.fill
 simp only [h]
 rw [if_neg (by simp only [Bool.or_eq_true,decide_eq_true_eq];omega)]
 exact congrArg (fun c=>Instr.fill place c rest) e
theorem Bc8 (k:Nat):∀ (xs:List Value) (s:Nat) (cells:Array Value),(∀ v∈xs,v.cells.size=k)->cells.size=(s+xs.length)*k ->
  ∃ out:Array Value,Instr.fill (fun i=>some (i*k,k)) cells (xs.zipIdx s |>.map fun x=>(x.2,x.1))=some out/\out.size=cells.size /\
   (∀ j,j < s*k->out[j]? = cells[j]?)/\∀ (i:Nat) v,xs[i]? = some v->∀ j u,v.cells[j]? = some u->out[(s+i)*k+j]? = some u:=by
 intro xs
 induction xs with
 | nil=>exact fun s cells _ _=>⟨cells,rfl,rfl,fun _ _=>rfl,fun i v h=>by simp at h⟩
 | cons v xs ih =>
  intro s cells hk hs
  have hvk:=hk v (by simp)
  have hsz:s*k+k<=cells.size:=by
   rw [hs,List.length_cons,Nat.add_mul]
   have:k<=(xs.length+1)*k:=by rw [Nat.add_mul];omega
   omega
  simp only [List.zipIdx_cons,List.map_cons]
  rw [A39 (off:=s*k) (size:=k) rfl hvk hsz]
  obtain ⟨out,o1,o2,o3,o4⟩:=ih (s+1) (Ud cells (s*k) v.cells.toList) (fun u hu=>hk u (List.mem_cons_of_mem _ hu)) (by rw [A06,hs,List.length_cons];congr 1;omega)
  refine ⟨out,o1,by rw [o2,A06],fun j hj=>?_,fun i u hu j c hc=>?_⟩
  ·rw [o3 j (by rw [Nat.add_mul];omega),Ad9,if_neg (by omega)]
  ·cases i with
   | zero =>
    simp at hu
    subst hu
    have hj:j < k:=by rw [<-hvk];exact (Array.getElem?_eq_some_iff.1 hc).1
    rw [Nat.add_zero,o3 _ (by rw [Nat.add_mul];omega),Ad9,if_pos (by simp [hvk];omega),Nat.add_sub_cancel_left]
    simpa using hc
   | succ i =>
    have:=o4 i u (by simpa using hu) j c hc
    rwa [show s+1+i=s+(i+1) by omega] at this
section
variable {P : Program} {G : World -> Prop} {c : Nat} {L : Operand -> AV} {B : Nat -> Option BA} {K : AV -> List BA -> Prop}
variable {dst : Option Tmp} {ty : TypeId} {pos : String} {after : Array Edge} {gd : Option (Nat × Bool)}
theorem B59 {α:Type} {R:List Value->α->Prop} {k:Nat} : ∀ (l:List α) (s:Nat) (xs:List Value),xs.length=(s+l.length)*k->(∀ i x,l[i]? = some x->∃ cs,R cs x/\cs.length=k/\∀ j u,cs[j]? = some u->xs[(s+i)*k+j]? = some u)->Bu R k (xs.drop (s*k)) l:=by
 intro l
 induction l with
 | nil=>intro s xs hl _;simp only [Bu];exact List.drop_eq_nil_of_le (by rw [hl];simp)
 | cons x l ih =>
  intro s xs hl h
  obtain ⟨cs,h1,h2,h3⟩:=h 0 x rfl
  refine ⟨cs,xs.drop ((s+1)*k),?_,h2,h1,ih (s+1) xs (by rw [hl,List.length_cons];congr 1;omega) fun i y hy=>?_⟩
  ·apply List.ext_getElem?
   intro j
   rw [List.getElem?_drop]
   by_cases hj:j < k
   ·have h5:=h3 j _ (List.getElem?_eq_getElem (by omega))
    rw [Nat.add_zero] at h5
    rw [List.getElem?_append_left (by omega),h5,List.getElem?_eq_getElem (by omega)]
   ·rw [List.getElem?_append_right (by omega),List.getElem?_drop,h2]
    congr 1
    rw [Nat.add_mul];omega
  ·have:=h (i+1) y (by simpa using hy)
   rwa [show s+(i+1)=s+1+i by omega] at this
theorem A42 {t:TypeId} {len e k y:Nat} {parts:Array (Nat×Operand)} {l:List (List IV)} (ht:Ep P t=some (e,k,y)) (hz:(tyZ P e).isSome=true) (hlen:l.length=len) (hk:0 < k) (hbig:len*k<=16777216)
  (hparts:∀ (i:Nat) (cs:List IV),l[i]? = some cs->cs.length=k/\∃ x,parts[i]? = some (i,x)/\okC (L x)=true/\AsI (Bh (L x)) cs) (hps:parts.size=len)
  {V w0:World} {n:Fm} {E:Env} {σ:Ah} {a:Act} {w:World} (hL:∀ x,Bb E (vis V w0 w (Ac E σ.bk)) (a.eval x) (L x)) :
  ∃ out:Array Value,out.size=len*k/\(∀ (i:Nat) (cs:List IV),l[i]? = some cs->∃ vs:List Value,Bl (vis V w0 w (Ac E σ.bk)) vs cs/\vs.length=k/\∀ (j:Nat) u,vs[j]? = some u->out.toList[i*k+j]? = some u) /\
   (execOp a.eval ⟨dst,.buildSlice t len parts,ty,pos,after,gd⟩).run P w=.ok (.value (.slice (some ⟨w.heap.size,0,none⟩) len len)) (w.alloc (.cells out e)):=by
  obtain ⟨hu,inf,hi2,hi3,_⟩:=Li ht
  obtain ⟨⟨zq,zs⟩,hz⟩:=Option.isSome_iff_exists.1 hz
  obtain ⟨z,z1,z2,_⟩:=Au3 (w:=w) hz
  -- the parts' values
  have hval:∀ i,i < len->∃ x cs,parts[i]? = some (i,x)/\l[i]? = some cs/\Bl (vis V w0 w (Ac E σ.bk)) (a.eval x).cells.toList cs/\(a.eval x).cells.size=k:=fun i hi=>by
   have hi':i < l.length:=by omega
   obtain ⟨p0,x,p1,p2,p3⟩:=hparts i _ (List.getElem?_eq_getElem hi')
   have hr:=p3 _ _ _ ((hL x).cells p2).1
   refine ⟨x,_,p1,List.getElem?_eq_getElem hi',hr,?_⟩
   have:=hr.len
   rw [p0] at this
   simpa using this
  have hvs:(parts.map fun (i,x)=>(i,a.eval x)).toList=((parts.toList.map fun p=>a.eval p.2).zipIdx 0).map fun x=>(x.2,x.1):=by
   apply List.ext_getElem?
   intro i
   rw [Array.toList_map,List.getElem?_map,List.getElem?_map,List.getElem?_zipIdx,List.getElem?_map,Array.getElem?_toList]
   by_cases hi:i < len
   ·obtain ⟨x,cs,p1,_⟩:=hval i hi
    rw [p1];simp
   ·rw [Array.getElem?_eq_none (by omega)];rfl
  obtain ⟨out,o1,o2,_,o4⟩:=Bc8 k (parts.toList.map fun p=>a.eval p.2) 0 ((Array.range (len*k)).map (z.cells[· % z.cells.size]!)) (fun v hv=>by
   obtain ⟨p,hp,rfl⟩:=List.mem_map.1 hv
   obtain ⟨i,hi⟩:=List.mem_iff_getElem?.1 hp
   have hi2:i < len:=by have:=(List.getElem?_eq_some_iff.1 hi).1;simp at this;omega
   obtain ⟨x,cs,p1,_,_,p4⟩:=hval i hi2
   rw [Array.getElem?_toList,p1] at hi
   obtain rfl:=Option.some.inj hi
   exact p4) (by simp [hps])
  simp only [Array.size_map,Array.size_range] at o2
  have hexec:(execOp a.eval ⟨dst,.buildSlice t len parts,ty,pos,after,gd⟩).run P w=.ok (.value (.slice (some ⟨w.heap.size,0,none⟩) len len)) (w.alloc (.cells out e)):=by
   simp only [execOp]
   refine G5 ?_
   have hb:¬ (len*k > 2 ^ 24):=by omega
   simp only [Instr.buildSlice,hvs]
   by_cases h0:len*k=0
   ·have hl0:len=0:=by
     rcases Nat.mul_eq_zero.1 h0 with h | h
     ·exact h
     ·omega
    subst hl0
    have hp0:parts=#[]:=Array.eq_empty_of_size_eq_zero hps
    subst hp0
    simp only [Nat.zero_mul] at o1 o2
    have hout:out=#[]:=Array.eq_empty_of_size_eq_zero o2
    subst hout
    simp only [Sem.run_bind,run_underlying hu,Result.andThen_ok,sizeOf,run_typeInfo w hi2,Sem.run_pure,newRow,newObj,hi3,if_neg hb,if_pos h0]
    simp [Instr.fill,Sem.run]
    have e0:Array.map (fun _=>(default:Value)) (Array.range 0)=#[]:=Array.eq_empty_of_size_eq_zero (by simp)
    rw [e0]
   ·simp only [Sem.run_bind,run_underlying hu,Result.andThen_ok,sizeOf,run_typeInfo w hi2,Sem.run_pure,newRow,newObj,hi3,if_neg hb,if_neg h0,z1,o1]
    rfl
  refine ⟨out,o2,fun i cs hi=>?_,hexec⟩
  have hil:i < len:=by rw [<-hlen];exact (List.getElem?_eq_some_iff.1 hi).1
  obtain ⟨x,cs',p1,p2,p3,p4⟩:=hval i hil
  rw [p2] at hi
  obtain rfl:=Option.some.inj hi
  refine ⟨_,p3,by simpa using p4,fun j u hj=>?_⟩
  have:=o4 i (a.eval x) (by rw [List.getElem?_map,Array.getElem?_toList,p1];rfl) j u (by simpa using hj)
  simpa using this
theorem Bi9 {t:TypeId} {len:Nat} {parts:Array (Nat×Operand)} (h:match Ep P t with
  | some (e,k,_)=>(tyZ P e).isSome=true/\∃ l:List (List IV),l.length=len/\0 < k/\len*k<=16777216/\(∀ (i:Nat) (cs:List IV),l[i]? = some cs->cs.length=k/\∃ x,parts[i]? = some (i,x)/\okC (L x)=true/\AsI (Bh (L x)) cs)/\parts.size=len/\(K (.own c) [.row c e k l]\/K (.iv (.sl k l)) [])
  | none=>False):D9 P G ⟨dst,.buildSlice t len parts,ty,pos,after,gd⟩ c L B K:=by
 split at h
 ·rename_i e k y ht
  obtain ⟨hz,l,hlen,hk,hbig,hparts,hps,hK⟩:=h
  have hle:len<=len*k:=Nat.le_mul_of_pos_right _ hk
  rcases hK with hK | hK
  ·refine ⟨_,_,hK,fun V w0 n E σ a w hs hG hL _ N Q hN=>?_⟩
   obtain ⟨out,o2,o4,hexec⟩:=A42 (dst:=dst) (ty:=ty) (pos:=pos) (after:=after) (gd:=gd) ht hz hlen hk hbig hparts hps (n:=n) hL
   unfold Oper.wp
   rw [hexec,Oper.upon_value]
   have hE:Env.same c (c+100) E ⟨fun b=>if b=c then w.heap.size else E.blk b,fun b=>if b=c then .slice (some ⟨w.heap.size,0,none⟩) len len else E.row b⟩:=fun b hb=>by
    have:¬ b=c:=by omega
    simp [this]
   have hbel:=Af (o:=.cells out e) (Below.refl _ w)
   have ho:Ac ⟨fun b=>if b=c then w.heap.size else E.blk b,fun b=>if b=c then .slice (some ⟨w.heap.size,0,none⟩) len len else E.row b⟩ [.row c e k l]=[w.heap.size]:=by
    simp [Ac,BA.owned,Value.ownBlock]
   have hx:Ext (vis V w0 w (Ac E σ.bk)) (vis V w0 (w.alloc (.cells out e)) ([w.heap.size]++Ac E σ.bk)):=Dl hbel.size fun p u _ h4 h5 h6=>⟨fun hm=>by
    rcases List.mem_append.1 hm with hm | hm
    ·simp at hm;omega
    ·exact h5 hm,Am hbel h6⟩
   have hch:Bu (Bl (vis V w0 (w.alloc (.cells out e)) ([w.heap.size]++Ac E σ.bk))) k out.toList l:=by
    have:=B59 (R:=Bl (vis V w0 (w.alloc (.cells out e)) ([w.heap.size]++Ac E σ.bk))) (k:=k) l 0 out.toList (by simp [o2,hlen]) fun i cs hi=>by
     obtain ⟨vs,p3,p4,p5⟩:=o4 i cs hi
     exact ⟨vs,p3.ext hx,p4,fun j u hj=>by simpa using p5 j u hj⟩
    simpa using this
   refine hN _ _ ⟨fun b=>if b=c then w.heap.size else E.blk b,fun b=>if b=c then .slice (some ⟨w.heap.size,0,none⟩) len len else E.row b⟩ ⟨hbel,⟨hE,.inr rfl⟩,by rw [ho];simp,fun g hg=>by rw [ho] at hg;simp at hg;omega,fun b' hb'=>?_,?_⟩
   ·rw [ho]
    simp only [List.mem_singleton] at hb'
    subst hb'
    refine ⟨?_,fun g hg=>by simp [Value.ownBlock] at hg;simp [hg]⟩
    simp only [if_true]
    have hbl:=Ae.of_blk (w:=w.alloc (.cells out e)) (g:=w.heap.size) (e:=e) (cs:=out) (l:=l) (Blk.new _ _ _) hch (by omega)
    rw [hlen] at hbl
    exact hbl.base hs.low.size
   ·refine .own (E:=⟨fun b=>if b=c then w.heap.size else E.blk b,fun b=>if b=c then .slice (some ⟨w.heap.size,0,none⟩) len len else E.row b⟩) ?_
    simp
  ·refine ⟨_,_,hK,fun V w0 n E σ a w hs hG hL _ N Q hN=>?_⟩
   obtain ⟨out,o2,o4,hexec⟩:=A42 (dst:=dst) (ty:=ty) (pos:=pos) (after:=after) (gd:=gd) ht hz hlen hk hbig hparts hps (n:=n) hL
   unfold Oper.wp
   rw [hexec,Oper.upon_value]
   have hbel:=Af (o:=.cells out e) (Below.refl _ w)
   have hx:Ext (vis V w0 w (Ac E σ.bk)) (vis V w0 (w.alloc (.cells out e)) (Ac E σ.bk)):=Dl hbel.size fun p u _ _ h5 h6=>⟨h5,Am hbel h6⟩
   have hnot:w.heap.size∉Ac E σ.bk:=fun hm=>absurd (hs.lt _ hm) (Nat.lt_irrefl _)
   refine hN _ _ E ⟨hbel,⟨Env.same_refl _ _ E,.inl rfl⟩,List.nodup_nil,(fun g hg=>by cases hg),(fun b' hb'=>by cases hb'),?_⟩
   refine .iv (Cs.of_sl ⟨some ⟨w.heap.size,0,none⟩,len,by rw [hlen],⟨by omega,by omega⟩,by unfold maxLen;omega,fun _=>⟨w.heap.size,0,rfl,?_,fun i cs hi=>?_⟩⟩)
   ·show w.heap.size < (vis V w0 (w.alloc (.cells out e)) _).heap.size
    rw [E9];simp
   ·obtain ⟨vs,p3,p4,p5⟩:=o4 i cs hi
    refine ⟨vs,p3.ext hx,p4,fun j u hj=>?_⟩
    show (vis V w0 (w.alloc (.cells out e)) (Ac E σ.bk)).cell? _=some u
    rw [Gx hs.low.size,if_neg hnot,(Blk.new w e out).cell]
    simpa using p5 j u hj
 ·exact h.elim
theorem Ad8 {E:Env} {X:World} : ∀ (vs:List Value) (ds:List AV) (off:Nat) (cells:Array Value) (cs:List AV),At E X cells.toList cs->At E X vs ds->At E X (Ud cells off vs).toList (Es cs off ds)
 | [],[],off,cells,cs,h,_=>h
 | v :: vs,d :: ds,off,cells,cs,h,hr=>by
  obtain ⟨v',vs',e,h1,h2⟩:=At.cons_iff.1 hr
  injection e with e1 e2
  subst e1 e2
  refine Ad8 vs ds (off+1) _ _ ?_ h2
  rw [Array.toList_setIfInBounds]
  exact h.set_ h1 off
 | [],_ :: _,_,_,_,_,hr=>absurd hr.1 (by simp)
 | _ :: _,[],_,_,_,_,hr=>absurd hr.1 (by simp)
theorem Uy {E:Env} {X:World} {L:Operand->AV} {a:Act} (hL:∀ x,Bb E X (a.eval x) (L x)) {places:List (Nat×Nat)} : ∀ (parts:List (Nat×Operand)) (cells:Array Value) (cs out:List AV),At E X cells.toList cs ->
  Rm places cs (parts.map fun p=>(p.1,L p.2))=some out->∃ C,Instr.fill (places.toArray[·]?) cells (parts.map fun p=>(p.1,a.eval p.2))=some C/\At E X C.toList out
 | [],cells,cs,out,h,hf=>by
  simp only [List.map_nil,Rm,Option.some.injEq] at hf
  subst hf
  exact ⟨cells,rfl,h⟩
 | p :: parts,cells,cs,out,h,hf=>by
  simp only [List.map_cons,Rm] at hf
  split at hf
  ·cases hf
  ·rename_i off size hp
   split at hf
   ·rename_i hc
    obtain ⟨c1,c2,c3⟩:=hc
    obtain ⟨hv,_⟩:=(hL p.2).cells c2
    have hsz:(a.eval p.2).cells.size=size:=by
     have:=hv.1
     rw [c1] at this
     simpa using this
    have hcs:off+size<=cells.size:=by
     have:=h.1
     simp at this;omega
    obtain ⟨C,h1,h2⟩:=Uy hL parts (Ud cells off (a.eval p.2).cells.toList) _ out (Ad8 _ _ off cells cs h hv) hf
    refine ⟨C,?_,h2⟩
    rw [List.map_cons,A39 (off:=off) (size:=size) (by simpa using hp) hsz hcs]
    exact h1
   ·cases hf
theorem Ai2 {P:Program} {w:World} : ∀ {fs:List Field} {l:List (Nat×Nat)},(fs.mapM fun f=>(P.info? f.type).map fun i=>(f.offset,i.size))=some l->(fs.mapM fun f=>(do return (f.offset,<-sizeOf f.type):Sem (Nat×Nat))).run P w=.ok l w
 | [],l,h=>by simp at h;subst h;rfl
 | f :: fs,l,h=>by
  simp only [List.mapM_cons,Option.bind_eq_bind,Option.bind_eq_some_iff,Option.map_eq_some_iff,Option.pure_def,Option.some.injEq] at h
  obtain ⟨x,⟨i,hi,rfl⟩,l',h1,rfl⟩:=h
  have h2:=Ai2 h1 (w:=w)
  rw [List.mapM_cons]
  simp only [Sem.run_bind,sizeOf,run_typeInfo w hi,Result.andThen_ok,Sem.run_pure] at h2 ⊢
  rw [h2]
  rfl
theorem A40 {pl pl':Nat->Option (Nat×Nat)} (h:∀ i q,pl i=some q->pl' i=some q):∀ (parts:List (Nat×Value)) (cells C:Array Value),Instr.fill pl cells parts=some C->Instr.fill pl' cells parts=some C
 | [],cells,C,hf=>hf
 | (i,v) :: rest,cells,C,hf=>by
  unfold Instr.fill at hf ⊢
  cases hp:pl i with
  | none=>rw [hp] at hf;cases hf
  | some q =>
   rw [hp] at hf
   rw [h i q hp]
   simp only at hf ⊢
   split at hf
   ·cases hf
   ·rename_i hc
    rw [if_neg hc]
    exact A40 h rest _ C hf
theorem Bd2 {t:TypeId} {parts:Array (Nat×Operand)} (h:match Mx P t with
  | some (zs,places)=>match Rm places (zs.map AV.val) (parts.toList.map fun p=>(p.1,L p.2)) with
   | some cs=>K (.agg cs) []
   | none=>False
  | none=>False):D9 P G ⟨dst,.build t parts,ty,pos,after,gd⟩ c L B K:=by
 split at h
 ·rename_i zs places hb
  split at h
  ·rename_i cs hf
   refine ⟨_,_,h,Dv.pure_ fun V w0 n E σ a w hs hL _=>?_⟩
   unfold Mx at hb
   split at hb
   ·rename_i fs z hu hz
    simp only [Option.map_eq_some_iff,Prod.mk.injEq] at hb
    obtain ⟨l,hl,rfl,rfl⟩:=hb
    obtain ⟨i,hi,hz⟩:=Option.bind_eq_some_iff.1 hz
    obtain ⟨C,h1,h2⟩:=Uy hL parts.toList z.cells _ cs (At.ofVals z.cells.toList) hf
    refine ⟨.agg C,?_,.agg (by simpa using h2.1) fun j v d a b=>h2.2 j v d (by rw [Array.getElem?_toList];exact a) b⟩
    simp only [execOp]
    refine G5 ?_
    have hzr:(zeroValue t).run P w=.ok z w:=by simp [zeroValue,run_typeInfo w hi,hz]
    have hm:(fs.mapM fun f=>(do return (f.offset,<-sizeOf f.type):Sem (Nat×Nat))).run P w=.ok l.toArray w:=by
     have h3:=Ai2 hl (w:=w)
     rw [Array.mapM_eq_mapM_toList]
     simp only [Sem.run_bind,Sem.run_map,h3,Result.andThen_ok,Sem.run_pure]
    have hp:(parts.map fun (i,x)=>(i,a.eval x)).toList=parts.toList.map fun p=>(p.1,a.eval p.2):=by simp
    simp only [Instr.build,Sem.run_bind,hzr,Result.andThen_ok,run_underlying hu,Sem.run_pure,hm,hp,h1]
   ·rename_i n0 e0 z hu hz
    simp only [Option.map_eq_some_iff,Prod.mk.injEq] at hb
    obtain ⟨ie,hie,rfl,rfl⟩:=hb
    obtain ⟨i,hi,hz⟩:=Option.bind_eq_some_iff.1 hz
    obtain ⟨C,h1,h2⟩:=Uy hL parts.toList z.cells _ cs (At.ofVals z.cells.toList) hf
    refine ⟨.agg C,?_,.agg (by simpa using h2.1) fun j v d a b=>h2.2 j v d (by rw [Array.getElem?_toList];exact a) b⟩
    simp only [execOp]
    refine G5 ?_
    have hzr:(zeroValue t).run P w=.ok z w:=by simp [zeroValue,run_typeInfo w hi,hz]
    have hs:(sizeOf e0).run P w=.ok ie.size w:=by simp [sizeOf,run_typeInfo w hie]
    have hp:(parts.map fun (i,x)=>(i,a.eval x)).toList=parts.toList.map fun p=>(p.1,a.eval p.2):=by simp
    have h1':=A40 (pl':=fun i=>some (i*ie.size,ie.size)) (fun k q hq=>by
     simp only [List.getElem?_toArray,List.getElem?_map,Option.map_eq_some_iff] at hq
     obtain ⟨m,hm,rfl⟩:=hq
     obtain ⟨hlt,rfl⟩:=List.getElem?_eq_some_iff.1 hm
     simp) _ _ _ h1
    simp only [Instr.build,Sem.run_bind,hzr,Result.andThen_ok,run_underlying hu,hs,Sem.run_pure,hp,h1']
   ·cases hb
  ·exact h.elim
 ·exact h.elim
theorem B52 {t:TypeId} {r:Option Operand} (h:match U5 P t with
  | some (k,_)=>(match r with | none=>True | some x=>∃ q m,nrm (L x)=.val (.int q m))/\K (.mv c) [.mp c k []]
  | none=>False):D9 P G ⟨dst,.makeMap t r,ty,pos,after,gd⟩ c L B K:=by
 split at h
 case h_2=>exact h.elim
 rename_i k z ht
 obtain ⟨hr,hK⟩:=h
 refine ⟨_,_,hK,fun V w0 n E σ a w hs hG hL _ N Q hN=>?_⟩
 obtain ⟨kt,et,hu,_,_⟩:=Xb (w:=w) ht
 have hrun:(execOp a.eval ⟨dst,.makeMap t r,ty,pos,after,gd⟩).run P w=.ok (.value (.map (some w.heap.size))) (w.alloc (.map #[] 0)):=by
  cases r with
  | none=>simp [execOp,Instr.makeMap]
  | some x =>
   obtain ⟨q,m,hx⟩:=hr
   simp [execOp,Instr.makeMap,Cy hL hx,run_underlying hu,asInt,asIntOf]
 unfold Oper.wp
 rw [hrun]
 have hE:Env.same c (c+100) E ⟨fun b=>if b=c then w.heap.size else E.blk b,E.row⟩:=fun b hb=>by
  have:¬ b=c:=by omega
  simp [this]
 have hbel:=Af (o:=.map #[] 0) (Below.refl _ w)
 have ho:Ac ⟨fun b=>if b=c then w.heap.size else E.blk b,E.row⟩ [.mp c k []]=[w.heap.size]:=by simp [Ac,BA.owned]
 refine hN _ _ ⟨fun b=>if b=c then w.heap.size else E.blk b,E.row⟩ ⟨hbel,⟨hE,.inr rfl⟩,by rw [ho];simp,fun g hg=>by rw [ho] at hg;simp at hg;omega,fun b' hb'=>?_,?_⟩
 ·simp only [List.mem_singleton] at hb'
  subst hb'
  exact ⟨#[],0,by simp only [if_true];exact World.alloc_heap_new _ _,rfl⟩
 ·have:=Bb.mv (E:=⟨fun b=>if b=c then w.heap.size else E.blk b,E.row⟩) (X:=vis V w0 (w.alloc (.map #[] 0)) (Ac ⟨fun b=>if b=c then w.heap.size else E.blk b,E.row⟩ [.mp c k []]++Ac E σ.bk)) (b:=c)
  simpa using this
theorem Bd3 {t:TypeId} {x i:Operand} {ok:Bool} (h:match U5 P t,L x,nrm (L i) with
  | some (k,z),.mv b,.val (.int k' m)=>match B b with
   | some (.mp _ k'' kv)=>ok=false/\k'=k/\k''=k/\∃ u,(Lv kv m).getD z=u/\K (.val u) []
   | _=>False
  | _,_,_=>False):D9 P G ⟨dst,.lookup t x i ok,ty,pos,after,gd⟩ c L B K:=by
 split at h
 case h_2=>exact h.elim
 rename_i k z b k' m ht hx hi
 split at h
 case h_2=>exact h.elim
 rename_i b' k'' kv hB
 obtain ⟨rfl,rfl,rfl,u,hu,hK⟩:=h
 refine ⟨_,_,hK,Dv.pure_ fun V w0 n E σ a w hs hL hBm=>⟨u,?_,.val⟩⟩
 obtain ⟨kt,et,h1,h2,z1⟩:=Xb (w:=w) ht
 obtain ⟨q1,q2⟩:=hBm b _ hB
 obtain rfl:b'=b:=q2
 obtain ⟨es,cl,p1,p2⟩:=hs.holds _ q1
 have hxv:=Nk hL hx
 generalize hxe:a.eval x=xv at hxv
 cases hxv
 have hkey:=MapKept.run_checkKey (P:=P) (w:=w) h2 (k:=.int k'' m) (by simp [MapKept.IsKey]) es.isEmpty 9999
 rcases A92 (k:=k'') (m:=m) 0 p2 with ⟨f1,f2,_⟩ | ⟨j,v,f1,f2,_⟩
 ·rw [f2] at hu
  have hf:=MapKept.run_findKey (P:=P) (w:=w) h2 f1
  simp only [execOp,hxe,Cy hL hi]
  refine G5 ?_
  simp [Instr.lookup,run_underlying h1,MapKept.run_getObj_map p1,hkey,hf,z1,<-hu]
 ·rw [f2] at hu
  have hf:=MapKept.run_findKey (P:=P) (w:=w) h2 f1
  simp only [execOp,hxe,Cy hL hi]
  refine G5 ?_
  simp [Instr.lookup,run_underlying h1,MapKept.run_getObj_map p1,hkey,hf,<-hu]
theorem Ap4 {o:Oper} (hf:Hz o=true->∀ x,(L x).off c (c+100)=true) (h:qop P G L B o c K):D9 P G o c L B K:=by
 obtain ⟨dst,op,ty,pos,after,gd⟩:=o
 unfold qop at h
 cases op with
 | move x=>exact Br1 h
 | assign x=>exact Bd4 h
 | pick b x y=>exact Br0 h
 | alloc e =>
  simp only at h
  split at h
  ·rename_i zs hz
   exact Ax0 hz (.inl ⟨rfl,h⟩)
  ·rename_i q zs _ hz
   exact Ax0 hz (.inr h)
  ·exact h.elim
 | box e x=>exact Cc9 (hf rfl x) h
 | load t x =>
  simp only at h
  split at h
  ·rename_i q s ht
   exact Br2 ht h
  ·exact h.elim
 | nilCheck x=>exact Cc3 h
 | binOp op t x y tz=>exact Cd0 h
 | unOp op t x=>exact Cy6 h
 | convert s d x=>exact Br4 h
 | makeFunc fn first caps=>cases fn<;>first | exact Br3 h | exact h.elim
 | slice t x lo hi mx=>exact Bi6 h
 | fieldAddr t x f=>exact Aj7 h
 | field t x f=>exact Bi8 h
 | indexAddr t x i=>exact Aj6 h
 | index t x i=>exact Bi7 h
 | extract x i=>exact B53 h
 | makeMap t r=>exact B52 h
 | lookup t x i ok=>exact Bd3 h
 | build t parts=>exact Bd2 h
 | buildSlice t len parts=>exact Bi9 h
 | call cl =>
  obtain ⟨callee,args,at_⟩:=cl
  cases callee with
  | value fo =>
   simp only at h
   split at h
   ·rename_i f caps hfo
    have h':=h
    obtain ⟨r,nb,args',hc,_⟩:=h'
    refine Br5 hfo (fun vs w=>?_) h
    rcases hc with ⟨_,hc⟩ | ⟨_,_,_,_,hc⟩<;>exact hc.1 vs w
   ·exact h.elim
  | invoke r m=>exact h.elim
  | builtin b =>
   cases b<;>simp only at h<;>first | exact h.elim | skip
   case len =>
    split at h
    ·rename_i x t h1 h2
     obtain rfl:args=#[x]:=by rw [<-Array.toArray_toList (xs:=args),h1]
     obtain rfl:at_=#[t]:=by rw [<-Array.toArray_toList (xs:=at_),h2]
     exact Cc7 h
    ·exact h.elim
   case cap =>
    split at h
    ·rename_i x t h1 h2
     obtain rfl:args=#[x]:=by rw [<-Array.toArray_toList (xs:=args),h1]
     obtain rfl:at_=#[t]:=by rw [<-Array.toArray_toList (xs:=at_),h2]
     exact Cc8 h
    ·exact h.elim
   case max =>
    split at h
    ·rename_i x y h1
     obtain rfl:args=#[x,y]:=by rw [<-Array.toArray_toList (xs:=args),h1]
     exact Cc6 h
    ·exact h.elim
   case min =>
    split at h
    ·rename_i x y h1
     obtain rfl:args=#[x,y]:=by rw [<-Array.toArray_toList (xs:=args),h1]
     exact Cc5 h
    ·exact h.elim
 | _=>exact h.elim
end
section
variable {V w0 : World} {n : Fm} {E : Env} {fr : List (Nat × AV)} {pre mid post : List BA} {a : Act} {w w' : World}
theorem Ac8 {E':Env} {nb:List BA} (hlt:∀ g∈Ac E (pre++(mid++post)),g < w.heap.size) (hg:∀ g,g∉Ac E mid->g < w.heap.size->w'.heap[g]? = w.heap[g]?) (hs:w.heap.size<=w'.heap.size) (hnew:∀ g∈Ac E' nb,g∈Ac E mid\/w.heap.size<=g) :
  Ext (vis V w0 w (Ac E (pre++(mid++post)))) (vis V w0 w' (Ac E' nb++Ac E (pre++post))) :=
 Dl hs fun p u _ h2 h3 h4=>by
  simp only [Au,List.mem_append,not_or] at h3
  refine ⟨fun hm=>?_,by rw [World.cell?_of_block (hg p.block h3.2.1 h2)];exact h4⟩
  simp only [Au,List.mem_append] at hm
  rcases hm with hm | hm | hm
  ·rcases hnew _ hm with hm | hm
   ·exact h3.2.1 hm
   ·omega
  ·exact h3.1 hm
  ·exact h3.2.2 hm
theorem St.swap {lo hi:Nat} {E':Env} {nb:List BA} (h:St V w0 n E ⟨fr,pre++(mid++post)⟩ a w) (hg:∀ g,g∉Ac E mid->g < w.heap.size->w'.heap[g]? = w.heap[g]?) (hs:w.heap.size<=w'.heap.size) (hlow:Below w0.heap.size w0 w')
  (hE:Env.same lo hi E E') (h1:Ky lo hi fr=true) (h2:Jf lo hi (pre++post)=true) (hnd:(Ac E' nb).Nodup) (hnew:∀ g∈Ac E' nb,g∈Ac E mid\/w.heap.size<=g)
  (hh:∀ b∈nb,b.holds E' (vis V w0 w' (Ac E' nb++Ac E (pre++post))) w' w0.heap.size):St V w0 n E' ⟨fr,nb++(pre++post)⟩ a w':=by
 have hlt:=h.lt
 have hap:=h.apart
 have hx:=Ac8 (V:=V) (w0:=w0) (E':=E') (nb:=nb) hlt hg hs hnew
 have ho:Ac E' (nb++(pre++post))=Ac E' nb++Ac E (pre++post):=by rw [Au,N6 hE h2]
 have hdis:∀ g∈Ac E mid,g∉Ac E (pre++post):=by
  intro g hm hp
  simp only [Au] at hap hp
  obtain ⟨_,a2,a3⟩:=List.nodup_append.1 hap
  obtain ⟨_,_,a4⟩:=List.nodup_append.1 a2
  rcases List.mem_append.1 hp with hp | hp
  ·exact a3 g hp g (List.mem_append_left _ hm) rfl
  ·exact a4 g hm g hp rfl
 have hsub:∀ g∈Ac E (pre++post),g∈Ac E (pre++(mid++post)):=by
  intro g hp
  simp only [Au,List.mem_append] at hp ⊢
  rcases hp with hp | hp
  ·exact .inl hp
  ·exact .inr (.inr hp)
 refine ⟨h.ext,hlow,?_,?_,?_,?_,h.size,h.defers,Nat.le_trans h.hold.1 hs,fun g o hg1=>?hold⟩
 case hold =>
  obtain ⟨q1,q2⟩:=h.hold.2 g o hg1
  have hl:=(Array.getElem?_eq_some_iff.1 q1).1
  refine ⟨(hg g (fun hm=>q2 (by simp only [Au,List.mem_append];exact .inr (.inl hm))) hl).trans q1,fun hm=>?_⟩
  rw [ho] at hm
  rcases List.mem_append.1 hm with hm | hm
  ·rcases hnew _ hm with hm | hm
   ·exact q2 (by simp only [Au,List.mem_append];exact .inr (.inl hm))
   ·omega
  ·exact q2 (hsub _ hm)
 ·rw [ho]
  refine List.nodup_append.2 ⟨hnd,?_,fun g hg1 g' hg2 e=>?_⟩
  ·simp only [Au] at hap ⊢
   exact hap.sublist ((List.Sublist.refl _).append (List.sublist_append_right _ _))
  ·subst e
   rcases hnew _ hg1 with hm | hm
   ·exact hdis _ hm hg2
   ·have:=hlt _ (hsub _ hg2);omega
 ·intro g hg1
  rw [ho] at hg1
  rcases List.mem_append.1 hg1 with hm | hm
  ·rcases hnew _ hm with hm | hm
   ·exact h.base _ (by simp only [Au,List.mem_append];exact .inr (.inl hm))
   ·have:=h.low.size;omega
  ·exact h.base _ (hsub _ hm)
 ·intro b hb
  simp only [ho]
  rcases List.mem_append.1 hb with hb | hb
  ·exact hh b hb
  ·have hb2:b∈pre++(mid++post):=by
    simp only [List.mem_append] at hb ⊢
    rcases hb with hb | hb
    ·exact .inl hb
    ·exact .inr (.inr hb)
   exact BA.holds_ext hE hx (fun g hg1=>hg g (fun hm=>hdis g hm (Bx.2 ⟨b,hb,hg1⟩)) (hlt g (Bx.2 ⟨b,hb2,hg1⟩))) (Ki h2 b hb) (h.holds b hb2)
 ·intro i
  simp only [ho]
  exact (h.slots i).ext hE hx (Qz h1 i)
theorem Ps {gs:List Nat} {p:Addr} {u:Value} (hp:p.block∈gs):Ext (vis V w0 w gs) (vis V w0 (w.setCell p u) gs) :=
 Dl (by simp) fun q v _ _ h3 h4=>⟨h3,by
  rw [World.cell?_of_block (Below.heap_setCell w p u q.block (fun e=>h3 (e ▸ hp)))]
  exact h4⟩
theorem St.sets_box {b:Nat} : ∀ (vs:List Value) (ds:List AV) (cs:List AV) (o:Nat) (w:World),St V w0 n E ⟨fr,pre++.box b cs :: post⟩ a w->At E (vis V w0 w (Ac E (pre++.box b cs :: post))) vs ds ->
  St V w0 n E ⟨fr,pre++.box b (Es cs o ds) :: post⟩ a (w.setCells (E.blk b) o vs)
 | [],ds,cs,o,w,h,hr=>by
  cases ds with
  | nil=>exact h
  | cons d ds=>exact absurd hr.1 (by simp)
 | v :: vs,[],cs,o,w,h,hr=>absurd hr.1 (by simp)
 | v :: vs,d :: ds,cs,o,w,h,hr=>by
  obtain ⟨v',vs',e,h1,h2⟩:=At.cons_iff.1 hr
  injection e with e1 e2
  subst e1 e2
  refine St.sets_box vs ds (cs.set o d) (o+1) _ (h.set_box o h1) ?_
  have e:Ac E (pre++.box b (cs.set o d) :: post)=Ac E (pre++.box b cs :: post):=by simp [Au,Ac,BA.owned]
  rw [e]
  exact h2.mono (Ps (by simp [Au,Ac,BA.owned]))
theorem St.sets_arr {b:Nat} : ∀ (vs:List Value) (ds:List IV) (cs:List IV) (o:Nat) (w:World),St V w0 n E ⟨fr,pre++.arr b cs :: post⟩ a w->Bl (vis V w0 w (Ac E (pre++.arr b cs :: post))) vs ds ->
  St V w0 n E ⟨fr,pre++.arr b (Es cs o ds) :: post⟩ a (w.setCells (E.blk b) o vs)
 | [],[],cs,o,w,h,hr=>h
 | v :: vs,d :: ds,cs,o,w,h,hr=>by
  refine St.sets_arr vs ds (cs.set o d) (o+1) _ (h.set_arr o hr.1) ?_
  have e:Ac E (pre++.arr b (cs.set o d) :: post)=Ac E (pre++.arr b cs :: post):=by simp [Au,Ac,BA.owned]
  rw [e]
  exact Bl.ext (Ps (by simp [Au,Ac,BA.owned])) hr.2
 | [],_ :: _,_,_,_,_,hr=>hr.elim
 | _ :: _,[],_,_,_,_,hr=>hr.elim
theorem St.sets_row {b e k i:Nat} : ∀ (vs:List Value) (ds:List IV) (l:List (List IV)) (x:List IV) (j:Nat) (w:World),St V w0 n E ⟨fr,pre++.row b e k l :: post⟩ a w->Bl (vis V w0 w (Ac E (pre++.row b e k l :: post))) vs ds->l[i]? = some x->j+vs.length<=k ->
  St V w0 n E ⟨fr,pre++.row b e k (l.set i (Es x j ds)) :: post⟩ a (w.setCells (E.blk b) (i*k+j) vs)
 | [],[],l,x,j,w,h,hr,hi,hj=>by
  have:l.set i x=l:=by
   obtain ⟨h1,h2⟩:=List.getElem?_eq_some_iff.1 hi
   subst h2;exact List.set_getElem_self h1
  simp only [Es,this]
  exact h
 | v :: vs,d :: ds,l,x,j,w,h,hr,hi,hj=>by
  simp only [List.length_cons] at hj
  have hil:=(List.getElem?_eq_some_iff.1 hi).1
  have h1:=h.set_row hi (j:=j) (by omega) hr.1
  have eo:Ac E (pre++.row b e k (l.set i (x.set j d)) :: post)=Ac E (pre++.row b e k l :: post):=by simp [Au,Ac,BA.owned]
  have hm:E.blk b∈Ac E (pre++.row b e k l :: post):=by
   obtain ⟨hO,hB⟩:=h.holds (.row b e k l) (by simp)
   rcases hO.forms with ⟨_,hl⟩ | ⟨g,cc,hg,_⟩
   ·rw [hl] at hi;simp at hi
   ·refine Bx.2 ⟨.row b e k l,by simp,?_⟩
    have:=hB g (by rw [hg];rfl)
    subst this
    simp [BA.owned,hg,Value.ownBlock]
  have h2:=St.sets_row (i:=i) vs ds (l.set i (x.set j d)) (x.set j d) (j+1) _ h1 (by rw [eo];exact Bl.ext (Ps hm) hr.2) (by simp [hil]) (by omega)
  rw [List.set_set] at h2
  exact h2
 | [],_ :: _,_,_,_,_,_,hr,_,_=>hr.elim
 | _ :: _,[],_,_,_,_,_,hr,_,_=>hr.elim
def Ar (P:Program) (t:TypeId) (x y:AV) (bk:List BA) (K:List BA->Prop):Prop :=
 match tyK P t with
 | some (_,s)=>okC y=true/\(Bh y).length=s/\match x with
  | .bp b p=>match Cd b bk with
   | some (.box _ cs)=>p+s<=cs.length/\K (D2 b [.box b (Es cs p (Bh y))] bk)
   | some (.arr _ cs)=>∃ is,toIs (Bh y)=some is/\Ft (Bh y)/\p+s<=cs.length/\K (D2 b [.arr b (Es cs p is)] bk)
   | _=>False
  | .rp b k i j=>match Cd b bk with
   | some (.row _ e k' l)=>k'=k/\∃ is cs,toIs (Bh y)=some is/\Ft (Bh y)/\l[i]? = some cs/\j+s<=k/\K (D2 b [.row b e k (l.set i (Es cs j is))] bk)
   | _=>False
  | _=>False
 | none=>False
def Ah8 (P:Program) (t:TypeId) (x i y:AV) (bk:List BA) (K:List BA->Prop):Prop :=
 match U5 P t,x,nrm i,nrm y with
 | some (k,_),.mv b,.val (.int k' m),.val u=>match Cd b bk with
  | some (.mp _ k'' kv)=>k'=k/\k''=k/\K (D2 b [.mp b k (Mh kv m u)] bk)
  | _=>False
 | _,_,_,_=>False
def Bs4 (P:Program) (G:World->Prop) (o:Oper) (L:Operand->AV) (bk:List BA) (r:AV) (bk':List BA):Prop :=
 ∀ (V w0:World) (n:Fm) (E:Env) (a:Act) (w:World) (fr:List (Nat×AV)) (F:List BA),St V w0 n E ⟨fr,bk++F⟩ a w->(∀ x,Bb E (vis V w0 w (Ac E (bk++F))) (a.eval x) (L x)) ->
  (Hz o=true->Ky (cid o.dst) (cid o.dst+100) fr=true/\Jf (cid o.dst) (cid o.dst+100) (bk++F)=true)->(∀ w',Below w0.heap.size w0 w'->G w')->∀ (N:Act->World->Prop) (Q:Exit->Act->World->Prop),
  (∀ v w' E',St V w0 n E' ⟨fr,bk'++F⟩ a w'->Bb E' (vis V w0 w' (Ac E' (bk'++F))) v r->N (a.put o.dst v) w')->∀ ro,o.wpIn (FW ro) 0 P a w N Q
def Upd (P:Program) (G:World->Prop) (o:Oper) (L:Operand->AV) (bk:List BA) (K:AV->List BA->Prop):Prop:=∃ r bk',K r bk'/\Bs4 P G o L bk r bk'
end
section
variable {P : Program} {G : World -> Prop} {L : Operand -> AV} {bk : List BA} {K : AV -> List BA -> Prop}
variable {dst : Option Tmp} {ty : TypeId} {pos : String} {after : Array Edge} {gd : Option (Nat × Bool)}
theorem Cc4 {t:TypeId} {x i y:Operand} (h:Ah8 P t (L x) (L i) (L y) bk fun bk'=>K .any bk'):Upd P G ⟨dst,.mapUpdate t x i y,ty,pos,after,gd⟩ L bk K:=by
 unfold Ah8 at h
 split at h
 case h_2=>exact h.elim
 rename_i k z b k' m u ht hx hi hy
 split at h
 case h_2=>exact h.elim
 rename_i b' k'' kv hb
 obtain ⟨rfl,rfl,hK⟩:=h
 refine ⟨_,_,hK,fun V w0 n E a w fr F hs hL _ _ N Q hN ro=>M5 (fun _ h=>by cases h) ?_⟩
 obtain ⟨kt,et,h1,h2,_⟩:=Xb (w:=w) ht
 obtain ⟨pre,post,e1,e2,e3⟩:=De hb
 obtain rfl:b'=b:=e2
 subst e1
 simp only [List.append_assoc,List.cons_append] at hs hL hN
 obtain ⟨es,cl,p1,p2⟩:=hs.holds (.mp b' k'' kv) (by simp)
 have hxv:=hL x
 rw [hx] at hxv
 generalize hxe:a.eval x=xv at hxv
 cases hxv
 have hkey:=MapKept.run_checkKey (P:=P) (w:=w) h2 (k:=.int k'' m) (by simp [MapKept.IsKey]) false 9999
 have hbase:=hs.base (E.blk b') (Bx.2 ⟨.mp b' k'' kv,by simp,by simp [BA.owned]⟩)
 have fin:∀ (es':Array MapEntry) (cl':Nat),es'.toList.map (fun e=>(e.key,e.val))=(Mh kv m u).map (fun x=>(Value.int k'' x.1,x.2))->(execOp a.eval ⟨dst,.mapUpdate t x i y,ty,pos,after,gd⟩).run P w=.ok .skip (w.putObj (E.blk b') (.map es' cl'))->Oper.wp P ⟨dst,.mapUpdate t x i y,ty,pos,after,gd⟩ a w N Q:=fun es' cl' q1 q2=>by
  unfold Oper.wp
  rw [q2,Oper.upon_skip]
  refine hN _ _ E ?_ .any
  rw [e3]
  have hlt:=(Array.getElem?_eq_some_iff.1 p1).1
  have hg:=grownBy_putObj' w (E.blk b') (.map es' cl')
  have:=hs.turn (y:=.mp b' k'' (Mh kv m u)) rfl (hs.low.grown hg hs.low.size fun g e=>by cases e;exact hbase) hg.size (fun g hg' _=>World.putObj_heap_other (by simpa [BA.owned] using hg')) ⟨es',cl',World.putObj_heap_same hlt,q1⟩
  simpa using this
 have hyv:=Cy hL hy
 have hiv:=Cy hL hi
 rcases A92 (k:=k'') (m:=m) 0 p2 with ⟨f1,f2,f3⟩ | ⟨j,v,f1,f2,⟨e,f4,f5⟩,f6⟩
 ·have hf:=MapKept.run_findKey (P:=P) (w:=w) h2 f1
  refine fin (es.push { key:=.int k'' m,val:=u,born:=cl }) (cl+1) (by rw [f3];simp [p2]) ?_
  simp only [execOp,hxe,hiv,hyv]
  simp [Instr.mapUpdate,run_underlying h1,MapKept.run_getObj_map p1,hkey,hf,MapKept.run_setObj_map _ p1,World.putObj]
 ·have hf:=MapKept.run_findKey (P:=P) (w:=w) h2 f1
  simp only [Nat.zero_add] at hf
  have hst:=MapKept.run_keyThatStays (P:=P) (w:=w) (d:=.int k'') (k:=.int k'' m) (by simp [MapKept.IsKey])
  have hk:((es[j]?).map (·.key)).getD (Value.int k'' m)=.int k'' m:=by rw [<-Array.getElem?_toList,f4];exact f5
  refine fin (es.modify j fun e=>{ e with key:=.int k'' m,val:=u }) cl (by rw [Array.toList_modify];exact f6 _ _ rfl) ?_
  simp only [execOp,hxe,hiv,hyv]
  simp [Instr.mapUpdate,run_underlying h1,MapKept.run_getObj_map p1,hkey,hf,hk,hst,MapKept.run_setObj_map _ p1,World.putObj]
theorem Bi5 {t:TypeId} {x y:Operand} (h:Ar P t (L x) (L y) bk fun bk'=>K .any bk'):Upd P G ⟨dst,.store t x y,ty,pos,after,gd⟩ L bk K:=by
 unfold Ar at h
 split at h
 case h_2=>exact h.elim
 rename_i q s ht
 obtain ⟨hok,hlen,h⟩:=h
 -- the run, from the cells that lie there
 have run:∀ {a:Act} {w:World} {v:Value} {g p:Nat} {e:TypeId} {C:Array Value},a.eval x=.pointer (some ⟨g,p,none⟩)->a.eval y=v->v.cells.toList.length=s->(∀ u∈v.cells.toList,u.oneCell'=true)->Blk w g e C->p+s<=C.size ->
   (execOp a.eval ⟨dst,.store t x y,ty,pos,after,gd⟩).run P w=.ok .skip (w.setCells g p v.cells.toList):=fun {a w v g p e C} h1 h2 h3 h4 h5 h6=>by
  obtain ⟨_,hz⟩:=Fv (w:=w) ht
  have hst:=run_storeCells_cells (P:=P) g p v.cells.toList 0 w (fun j hj=>by
   rw [h5.cell,Array.getElem?_eq_getElem (by omega)];rfl) (fun j _=>h5.frozen _) h4
  have h3':v.cells.size=s:=by simpa using h3
  simp only [Nat.add_zero] at hst
  simp only [execOp,h1,h2,Instr.storeAt,Instr.sureAddr,storeVar]
  simp [hz,h3',hst]
 split at h
 ·rename_i b p hx
  split at h
  ·rename_i b' cs hb
   obtain ⟨hp,hK⟩:=h
   refine ⟨_,_,hK,fun V w0 n E a w fr F hs hL _ _ N Q hN ro=>M5 (fun _ h=>by cases h) ?_⟩
   obtain ⟨pre,post,e1,e2,e3⟩:=De hb
   obtain rfl:b'=b:=e2
   subst e1
   simp only [List.append_assoc,List.cons_append] at hs hL hN
   obtain ⟨C,et,hB,hC⟩:=hs.holds (.box b' cs) (by simp)
   have hxv:=hL x
   rw [hx] at hxv
   obtain ⟨hyc,hy1⟩:=(hL y).cells hok
   generalize hxe:a.eval x=u at hxv
   cases hxv
   have hl2:(a.eval y).cells.toList.length=s:=by rw [hyc.1];exact hlen
   unfold Oper.wp
   rw [run hxe rfl hl2 hy1 hB (by have:=hC.1;simp at this;omega),Oper.upon_skip]
   have:=St.sets_box (a.eval y).cells.toList (Bh (L y)) cs p w hs hyc
   exact hN _ _ E (by rw [e3];simpa using this) .any
  ·rename_i b' cs hb
   obtain ⟨is,hi,ho,hp,hK⟩:=h
   refine ⟨_,_,hK,fun V w0 n E a w fr F hs hL _ _ N Q hN ro=>M5 (fun _ h=>by cases h) ?_⟩
   obtain ⟨pre,post,e1,e2,e3⟩:=De hb
   obtain rfl:b'=b:=e2
   subst e1
   simp only [List.append_assoc,List.cons_append] at hs hL hN
   obtain ⟨C,et,hB,hC⟩:=hs.holds (.arr b' cs) (by simp)
   have hxv:=hL x
   rw [hx] at hxv
   obtain ⟨hyc,hy1⟩:=(hL y).cells hok
   have hyi:=At.toIs hyc hi ho
   generalize hxe:a.eval x=u at hxv
   cases hxv
   have hl2:(a.eval y).cells.toList.length=s:=by rw [hyc.1];exact hlen
   unfold Oper.wp
   rw [run hxe rfl hl2 hy1 hB (by have:=hC.len;simp at this;omega),Oper.upon_skip]
   have:=St.sets_arr (a.eval y).cells.toList is cs p w hs hyi
   exact hN _ _ E (by rw [e3];simpa using this) .any
  ·exact h.elim
 ·rename_i b k i j hx
  split at h
  ·rename_i b' e k' l hb
   obtain ⟨rfl,is,cs,hi,ho,hcs,hj,hK⟩:=h
   refine ⟨_,_,hK,fun V w0 n E a w fr F hs hL _ _ N Q hN ro=>M5 (fun _ h=>by cases h) ?_⟩
   obtain ⟨pre,post,e1,e2,e3⟩:=De hb
   obtain rfl:b'=b:=e2
   subst e1
   simp only [List.append_assoc,List.cons_append] at hs hL hN
   obtain ⟨hO,hBk⟩:=hs.holds (.row b' e k' l) (by simp)
   have hxv:=hL x
   rw [hx] at hxv
   obtain ⟨hyc,hy1⟩:=(hL y).cells hok
   have hyi:=At.toIs hyc hi ho
   generalize hxe:a.eval x=u at hxv
   cases hxv
   have hl2:(a.eval y).cells.toList.length=s:=by rw [hyc.1];exact hlen
   obtain ⟨xs,⟨h3,h4⟩,h5,h6⟩:=hO
   have hil:=(List.getElem?_eq_some_iff.1 hcs).1
   rcases h4 with ⟨_,e0⟩ | ⟨g,cap,cur,hg,hg1,hg2,hg3,hg4,hg5,hg6⟩
   ·rw [List.length_eq_zero_iff] at e0;rw [e0] at hcs;simp at hcs
   ·have hgb:g=E.blk b':=hBk g (by rw [hg];rfl)
    subst hgb
    have hB:Blk w (E.blk b') e cur:=hg2
    have hik:i*k'+j+s<=cur.size:=by
     rw [hg5]
     have:(i+1)*k'<=cap*k':=Nat.mul_le_mul_right k' (by omega)
     rw [Nat.add_mul] at this
     omega
    unfold Oper.wp
    rw [run hxe rfl hl2 hy1 hB hik,Oper.upon_skip]
    have:=St.sets_row (i:=i) (a.eval y).cells.toList is l cs j w hs hyi hcs (by rw [hl2];exact hj)
    exact hN _ _ E (by rw [e3];simpa using this) .any
  ·exact h.elim
 ·exact h.elim
end
section
variable {P : Program} {w : World}
theorem Px {α:Type} {R:List Value->α->Prop} {size:Nat} (h1:∀ cs x,R cs x->∀ u∈cs,u.oneCell'=true) (ty t:TypeId)
  (base:Nat) (e:TypeId) (i:TypeInfo) (z:Value) (bytes:Nat) (ht:P.underlying t=some (.slice e)) (hi:P.info? e=some i) (hz:i.zero=some z)
  (hsize:i.size=size) (hby:i.bytes=bytes) (hzs:z.cells.size=size) (hsz:0 < size)
  (v:Value) (l:List α) (hown:Ae R size w base e v l) (B:Nat) (v2:Value) (m:List α) (hr:Sl R size w B v2 m)
  (hbig:l.length+m.length<=1073741824) (hbb:bytes<=131072) (hbase:base<=w.heap.size) :
  ∃ v' w',(Builtin.append_ #[t,t] ty #[v,v2]).run P w=.ok v' w'/\Ae R size w' base e v' (l++m)/\w.grownBy w' v.ownBlock/\(v'.ownBlock=v.ownBlock\/v'.ownBlock=some w.heap.size):=by
 have h63:l.length+m.length<=maxLen:=by unfold maxLen;omega
 have hbytes:(l.length+m.length)*bytes<=140737488355328:=by
  have:=Nat.mul_le_mul hbig hbb
  omega
 obtain ⟨xs,hown1,hch,_⟩:=hown
 obtain ⟨A,c,ys,rfl,hch2,hcell⟩:=hr.cells
 rcases hA:A with _ | ad
 ·have hm:m=[]:=by
   rcases m with _ | ⟨y,m⟩
   ·rfl
   ·obtain ⟨b,off,h,_⟩:=hcell (by simp)
    rw [hA] at h
    cases h
  subst hm
  exact ⟨v,w,Jc w base t ty e i size ht hi v _ xs hown1 _ c rfl,⟨xs,by simpa using hown1,by simpa using hch,by simpa using hbig⟩,World.grownBy.refl w _,.inl rfl⟩
 ·have hcells:∀ j u,ys[j]? = some u->w.cell? (ad.add j)=some u:=by
   intro j u hu
   rcases m with _ | ⟨y,m⟩
   ·cases hch2
    simp at hu
   ·obtain ⟨b,off,h,_,hc⟩:=hcell (by simp)
    rw [hA] at h
    injection h with h
    subst h
    rw [Hg]
    exact hc j u hu
  obtain ⟨v',w',hrun,h2,h3,_,h5⟩:=run_append_own_at (P:=P) w base t ty e i z size bytes ht hi hz hsize hby hzs hsz v _ xs hown1 ad _ c ys hch2.length hcells (hch2.one_cell h1) h63 hbytes hbase
  exact ⟨v',w',hrun,⟨_,by simpa using h2,hch.append hch2,by simpa using hbig⟩,h3,h5⟩
end
def B84 (bk:List BA) (k:Nat):AV->Option (List (List IV))
 | .iv (.sl k' m)=>if k'=k then some m else none
 | .own b=>match Cd b bk with
  | some (.row _ _ k' m)=>if k'=k then some m else none
  | _=>none
 | .val (.slice none 0 0)=>some []
 | _=>none
def Ap (P:Program) (t:TypeId) (x y:AV) (c:Nat) (bk:List BA) (K:AV->List BA->Prop):Prop :=
 match Ep P t with
 | some (e,k,yb)=>0 < k/\yb<=131072/\(tyZ P e).map (fun z=>z.2.length)=some k/\match nrm x,B84 bk k (nrm y) with
  | .own b,some m=>match Cd b bk with
   | some (.row _ e' k' l)=>e'=e/\k'=k/\l.length+m.length<=1073741824/\K (.own c) (.row c e k (l++m) :: D2 b [] bk)
   | _=>False
  | .val (.slice none 0 0),some m=>m.length<=1073741824/\K (.own c) (.row c e k m :: bk)
  | _,_=>False
 | none=>False
section
variable {P : Program} {G : World -> Prop} {L : Operand -> AV} {bk : List BA} {K : AV -> List BA -> Prop}
variable {dst : Option Tmp} {ty : TypeId} {pos : String} {after : Array Edge} {gd : Option (Nat × Bool)}
theorem Ay0 {t k:TypeId} {e y:Nat} (h:Ep P t=some (e,k,y)) (hz:(tyZ P e).map (fun z=>z.2.length)=some k):∃ i z,P.info? e=some i/\i.zero=some z/\i.size=k/\i.bytes=y/\z.cells.size=k:=by
 obtain ⟨_,i,h1,h2,h3⟩:=Li h
 obtain ⟨⟨q,zs⟩,hq,hl⟩:=Option.map_eq_some_iff.1 hz
 unfold tyZ at hq
 split at hq
 ·rename_i k' s' z hk hz'
  simp only [Option.some.injEq,Prod.mk.injEq] at hq
  obtain ⟨rfl,rfl⟩:=hq
  obtain ⟨i',hi',hz'⟩:=Option.bind_eq_some_iff.1 hz'
  rw [h1] at hi'
  obtain rfl:=Option.some.inj hi'
  exact ⟨i,z,h1,hz',h2,h3,by simpa using hl⟩
 ·cases hq
theorem Au6 {V w0:World} {n:Fm} {E:Env} {a:Act} {w:World} {fr:List (Nat×AV)} {F:List BA} (hs:St V w0 n E ⟨fr,bk++F⟩ a w) {k:Nat} {y:AV} {m:List (List IV)} {v:Value} (h:B84 bk k y=some m) (hv:Bb E (vis V w0 w (Ac E (bk++F))) v y):Sl (Bl (vis V w0 w (Ac E (bk++F)))) k w w.heap.size v m:=by
 unfold B84 at h
 split at h
 ·rename_i k' m'
  split at h
  ·rename_i e
   obtain rfl:=Option.some.inj h
   subst e
   cases hv with
   | iv hr=>exact (hr.to_sl).ext (fun _ _ h=>h) hs.in_
  ·cases h
 ·rename_i b
  split at h
  ·rename_i b' e k' m' hb
   split at h
   ·rename_i ek
    obtain rfl:=Option.some.inj h
    subst ek
    obtain ⟨q1,q2⟩:=J1 hb
    obtain rfl:b'=b:=q2
    obtain ⟨q3,_⟩:=hs.holds _ (List.mem_append_left _ q1)
    cases hv with
    | own he=>rw [he] at q3;exact q3.sl
   ·cases h
  ·cases h
 ·obtain rfl:=Option.some.inj h
  cases hv
  exact Sl.nil_ (by unfold maxLen;omega) _
 ·cases h
theorem Aj8 {t:TypeId} {x y:Operand} (h:Ap P t (L x) (L y) (cid dst) bk K):Upd P G ⟨dst,.call { callee:=.builtin .append,args:=#[x,y],argTypes:=#[t,t] },ty,pos,after,gd⟩ L bk K:=by
 unfold Ap at h
 split at h
 case h_2=>exact h.elim
 rename_i e k yb ht
 obtain ⟨hk,hyb,hzs,h⟩:=h
 obtain ⟨inf,z,i1,i2,i3,i4,i5⟩:=Ay0 ht hzs
 obtain ⟨hu,_⟩:=Li ht
 have exec:∀ {a:Act} {w:World} {v v2 v':Value} {w':World},a.eval x=v->a.eval y=v2->(Builtin.append_ #[t,t] ty #[v,v2]).run P w=.ok v' w'->(execOp a.eval ⟨dst,.call { callee:=.builtin .append,args:=#[x,y],argTypes:=#[t,t] },ty,pos,after,gd⟩).run P w=.ok (.value v') w':=fun {a w v v2 v' w'} h1 h2 h3=>by
  simp [execOp,resolve,invoke,builtin,h1,h2,h3]
 -- behind the append
 have fin:∀ {V w0:World} {n:Fm} {E:Env} {fr:List (Nat×AV)} {pre mid post:List BA} {a:Act} {w w':World} {v v':Value} {l m:List (List IV)},St V w0 n E ⟨fr,pre++(mid++post)⟩ a w->Ky (cid dst) (cid dst+100) fr=true->Jf (cid dst) (cid dst+100) (pre++post)=true ->
   Ac E mid=v.ownBlock.toList->Ae (Bl (vis V w0 w (Ac E (pre++(mid++post))))) k w' w0.heap.size e v' (l++m)->w.grownBy w' v.ownBlock->(v'.ownBlock=v.ownBlock\/v'.ownBlock=some w.heap.size) ->
   ∃ E',St V w0 n E' ⟨fr,[.row (cid dst) e k (l++m)]++(pre++post)⟩ a w'/\Bb E' (vis V w0 w' (Ac E' ([.row (cid dst) e k (l++m)]++(pre++post)))) v' (.own (cid dst)):=fun {V w0 n E fr pre mid post a w w' v v' l m} hs h1 h2 ho hO hg hv'=>by
  obtain ⟨A,cc,hform⟩:=hO.form
  let E':Env:=⟨fun b=>if b=cid dst then (v'.ownBlock).getD 0 else E.blk b,fun b=>if b=cid dst then v' else E.row b⟩
  have hE:Env.same (cid dst) (cid dst+100) E E':=fun b hb=>by
   have:¬ b=cid dst:=by omega
   simp [E',this]
  have hrow:E'.row (cid dst)=v':=by simp [E']
  have hown:Ac E' [.row (cid dst) e k (l++m)]=v'.ownBlock.toList:=by simp [Ac,BA.owned,hrow]
  have hgs:∀ g,g∉Ac E mid->g < w.heap.size->w'.heap[g]? = w.heap[g]? := fun g hm hlt=>hg.block g hlt fun e=>hm (by rw [ho];simp [<-e])
  have hnew:∀ g∈Ac E' [.row (cid dst) e k (l++m)],g∈Ac E mid\/w.heap.size<=g:=fun g hg'=>by
   rw [hown,Option.mem_toList] at hg'
   rcases hv' with h | h
   ·left;rw [ho,Option.mem_toList,<-h];exact hg'
   ·right;rw [h] at hg';have:=Option.some.inj hg';omega
  have hx:=Ac8 (V:=V) (w0:=w0) (E':=E') (nb:=[.row (cid dst) e k (l++m)]) hs.lt hgs hg.size hnew
  have hst:=hs.swap (E':=E') (nb:=[.row (cid dst) e k (l++m)]) hgs hg.size (hs.low.grown hg hs.low.size fun g hg'=>hs.base g (by simp only [Au,List.mem_append];exact .inr (.inl (by rw [ho,hg'];simp)))) hE h1 h2
   (by rw [hown];cases v'.ownBlock<;>simp) hnew (fun b hb=>by
    simp only [List.mem_singleton] at hb
    subst hb
    refine ⟨?_,fun g hg'=>?_⟩
    ·rw [hrow]
     exact hO.mono fun _ _ h=>h.ext hx
    ·rw [hrow] at hg'
     simp [E',hg'])
  refine ⟨E',hst,?_⟩
  rw [hform]
  exact .own (by rw [hrow];exact hform)
 split at h
 ·rename_i b m hx hy
  split at h
  ·rename_i b' e' k' l hb
   obtain ⟨rfl,rfl,hlm,hK⟩:=h
   refine ⟨_,_,hK,fun V w0 n E a w fr F hs hL hfr _ N Q hN ro=>M5 (fun _ h=>by cases h) ?_⟩
   obtain ⟨hf,hf2⟩:=hfr rfl
   obtain ⟨pre,post,p1,p2,p3⟩:=De hb
   obtain rfl:b'=b:=p2
   have hyv:=Au6 hs hy (hL y).nrm_
   subst p1
   simp only [List.append_assoc,List.cons_append] at hs hL hN hf hf2 hyv
   obtain ⟨hO,hB⟩:=hs.holds (.row b' e' k' l) (by simp)
   have hxv:=(hL x).nrm_
   rw [hx] at hxv
   generalize hxe:a.eval x=u at hxv
   cases hxv with
   | @own _ A mm cc he =>
    obtain ⟨v',w',r1,r2,r3,r4⟩:=Px (P:=P) (fun cs x h=>h.one) ty t w0.heap.size e' inf z yb hu i1 i2 i3 i4 i5 hk _ l hO w.heap.size _ m hyv hlm hyb hs.low.size
    have hs':St V w0 n E ⟨fr,pre++([.row b' e' k' l]++(post++F))⟩ a w:=by simpa using hs
    have e0:Ac E (pre++BA.row b' e' k' l :: (post++F))=Ac E (pre++([.row b' e' k' l]++(post++F))):=by simp
    simp only [e0] at r2
    have hoff:Jf (cid dst) (cid dst+100) (pre++(post++F))=true:=by
     have key:∀ (p q:List BA),Jf (cid dst) (cid dst+100) (p++BA.row b' e' k' l :: q)=true->Jf (cid dst) (cid dst+100) (p++q)=true:=by
      intro p q
      induction p with
      | nil=>intro h;simp only [List.nil_append,Jf,Bool.and_eq_true] at h ⊢;exact h.2
      | cons y p ih=>intro h;simp only [List.cons_append,Jf,Bool.and_eq_true] at h ⊢;exact ⟨h.1,ih h.2⟩
     exact key pre (post++F) hf2
    obtain ⟨E',f1,f2⟩:=fin (v:=E.row b') hs' hf hoff (by simp [Ac,BA.owned]) r2 r3 r4
    unfold Oper.wp
    rw [exec (hxe.trans he.symm) rfl r1,Oper.upon_value]
    have e1:D2 b' [] (pre++BA.row b' e' k' l :: post)=pre++post:=by rw [p3];rfl
    exact hN _ _ E' (by rw [e1];simpa using f1) (by rw [e1];simpa using f2)
  ·exact h.elim
 ·rename_i m hx hy
  obtain ⟨hlm,hK⟩:=h
  refine ⟨_,_,hK,fun V w0 n E a w fr F hs hL hfr _ N Q hN ro=>M5 (fun _ h=>by cases h) ?_⟩
  obtain ⟨hf,hf2⟩:=hfr rfl
  have hyv:=Au6 hs hy (hL y).nrm_
  have hxv:=(hL x).nrm_
  rw [hx] at hxv
  generalize hxe:a.eval x=u at hxv
  cases hxv
  obtain ⟨v',w',r1,r2,r3,r4⟩:=Px (P:=P) (fun cs x h=>h.one) ty t w0.heap.size e inf z yb hu i1 i2 i3 i4 i5 hk _ [] (Ae.nil_ _ _ _) w.heap.size _ m hyv (by simpa using hlm) hyb hs.low.size
  obtain ⟨E',f1,f2⟩:=fin (pre:=[]) (mid:=[]) (post:=bk++F) (fr:=fr) (v:=.slice none 0 0) (l:=[]) hs hf hf2 rfl r2 r3 r4
  unfold Oper.wp
  rw [exec hxe rfl r1,Oper.upon_value]
  exact hN _ _ E' (by simpa using f1) (by simpa using f2)
 ·exact h.elim
end
-- other names for the blocks
def AV.ren (ρ:Nat->Nat):AV->AV
 | .bp b o=>.bp (ρ b) o
 | .rp b k i j=>.rp (ρ b) k i j
 | .own b=>.own (ρ b)
 | .mv b=>.mv (ρ b)
 | .agg cs=>.agg (rens ρ cs)
 | .tup cs=>.tup (rens ρ cs)
 | .fn f cs=>.fn f (rens ρ cs)
 | a=>a
where rens (ρ:Nat->Nat):List AV->List AV
 | []=>[]
 | a :: l=>AV.ren ρ a :: rens ρ l
def BA.ren (ρ:Nat->Nat):BA->BA
 | .box b cs=>.box (ρ b) (AV.ren.rens ρ cs)
 | .arr b cs=>.arr (ρ b) cs
 | .row b e k l=>.row (ρ b) e k l
 | .mp b k kv=>.mp (ρ b) k kv
 | .opq b F=>.opq (ρ b) F
def Env.ren (E:Env) (ρ:Nat->Nat):Env:=⟨fun b=>E.blk (ρ b),fun b=>E.row (ρ b)⟩
theorem Td {ρ:Nat->Nat} : ∀ {cs:List AV} {j:Nat},(AV.ren.rens ρ cs)[j]? = (cs[j]?).map (AV.ren ρ)
 | [],j=>by simp [AV.ren.rens]
 | _ :: _,0=>by simp [AV.ren.rens]
 | _ :: cs,j+1=>by simp only [AV.ren.rens,List.getElem?_cons_succ];exact Td
theorem N2 {ρ:Nat->Nat} : ∀ {cs:List AV},(AV.ren.rens ρ cs).length=cs.length
 | []=>rfl
 | _ :: cs=>congrArg Nat.succ (N2 (cs:=cs))
theorem Bb.ren {E:Env} {X:World} {ρ:Nat->Nat} : ∀ (m:Nat) (c:AV),SizeOf.sizeOf c<=m->∀ {v:Value},Bb E X v (c.ren ρ)->Bb (E.ren ρ) X v c:=by
 intro m
 induction m with
 | zero=>intro c h;cases c<;>simp at h
 | succ m ih =>
  have list:∀ (cs:List AV),SizeOf.sizeOf cs<=m->∀ {vs:Array Value},(∀ (j:Nat) v d,vs[j]? = some v->(AV.ren.rens ρ cs)[j]? = some d->Bb E X v d)->∀ (j:Nat) v c,vs[j]? = some v->cs[j]? = some c->Bb (E.ren ρ) X v c:=by
   intro cs hcs vs h j v c a b
   refine ih c ?_ (h j v _ a (by rw [Td,b];rfl))
   have:=List.sizeOf_lt_of_mem (List.mem_of_getElem? b)
   omega
  intro c hc v h
  cases c with
  | any=>exact .any
  | val u=>cases h;exact .val
  | iv i=>cases h with | iv h=>exact .iv h
  | ip cs=>cases h with | ip f h1 h2=>exact .ip f h1 h2
  | bp b o=>cases h;exact .bp (E:=E.ren ρ)
  | rp b k i j=>cases h;exact .rp (E:=E.ren ρ)
  | own b=>cases h with | own h=>exact .own (E:=E.ren ρ) h
  | mv b=>cases h;exact .mv (E:=E.ren ρ)
  | aggI cs=>cases h with | aggI h=>exact .aggI h
  | agg cs =>
   simp only [AV.agg.sizeOf_spec] at hc
   cases h with
   | agg h1 h2=>exact .agg (by rw [h1,N2]) (list cs (by omega) h2)
  | tup cs =>
   simp only [AV.tup.sizeOf_spec] at hc
   cases h with
   | tup h1 h2=>exact .tup (by rw [h1,N2]) (list cs (by omega) h2)
  | fn f cs =>
   simp only [AV.fn.sizeOf_spec] at hc
   cases h with
   | fn h1 h2=>exact .fn (by rw [h1,N2]) (list cs (by omega) h2)
theorem Bb.ren_ {E:Env} {X:World} {ρ:Nat->Nat} {c:AV} {v:Value} (h:Bb E X v (c.ren ρ)):Bb (E.ren ρ) X v c:=Bb.ren _ c (Nat.le_refl _) h
theorem BA.ren_owned {E:Env} {ρ:Nat->Nat} (b:BA):b.owned (E.ren ρ)=(b.ren ρ).owned E:=by cases b<;>rfl
theorem BA.ren_holds {E:Env} {X w:World} {base:Nat} {ρ:Nat->Nat} {b:BA} (h:(b.ren ρ).holds E X w base):b.holds (E.ren ρ) X w base:=by
 cases b with
 | box b cs =>
  obtain ⟨C,t,h1,h2,h3⟩:=h
  exact ⟨C,t,h1,by rw [h2,N2],fun j v c a b=>(h3 j v _ a (by rw [Td,b];rfl)).ren_⟩
 | arr b cs=>exact h
 | row b e k l=>exact h
 | mp b k kv=>exact h
 | opq b F=>exact h
theorem BA.owned_cells {E:Env} {X w:World} {base:Nat} {b:BA} (h:b.holds E X w base):∀ g∈b.owned E,∃ o:Obj,w.heap[g]? = some o/\Kk o=false:=by
 intro g hg
 cases b with
 | box b cs =>
  obtain ⟨C,t,h1,h2⟩:=h
  simp only [BA.owned,List.mem_singleton] at hg
  subst hg;exact ⟨_,h1,rfl⟩
 | arr b cs =>
  obtain ⟨C,t,h1,h2⟩:=h
  simp only [BA.owned,List.mem_singleton] at hg
  subst hg;exact ⟨_,h1,rfl⟩
 | row b e k l =>
  simp only [BA.owned,Option.mem_toList] at hg
  obtain ⟨⟨xs,⟨h3,h4⟩,_⟩,_⟩:=h
  rcases h4 with ⟨e1,_⟩ | ⟨g',cap,cur,e1,e2,e3,_⟩
  ·rw [e1] at hg;cases hg
  ·rw [e1] at hg
   obtain rfl:g'=g:=Option.some.inj hg
   exact ⟨_,e3,rfl⟩
 | mp b k kv =>
  obtain ⟨es,c,h1,h2⟩:=h
  simp only [BA.owned,List.mem_singleton] at hg
  subst hg;exact ⟨_,h1,rfl⟩
 | opq b F =>
  obtain ⟨p,hp,rfl⟩:=List.mem_map.1 hg
  exact ⟨_,h p hp,F.act p hp⟩
structure StB (V w0:World) (E:Env) (bk:List BA) (w:World):Prop where
 ext:Ext V w0
 low:Below w0.heap.size w0 w
 apart:(Ac E bk).Nodup
 base:∀ g∈Ac E bk,w0.heap.size<=g
 holds:∀ b∈bk,b.holds E (vis V w0 w (Ac E bk)) w w0.heap.size
def bxB:List (Nat×List AV)->List BA
 | []=>[]
 | (b,cs) :: r=>.box b cs :: bxB r
def bxS (ρ:Nat->Nat) (c:Nat):List (Nat×List AV)->List BA
 | []=>[]
 | (b,cs) :: r=>.box (ρ b) (AV.sh.shs c cs) :: bxS ρ c r
def J7 (ρ:Nat->Nat):List BA->List BA
 | []=>[]
 | b :: r=>b.ren ρ :: J7 ρ r
def A57:List (Nat×List AV)->Bool
 | []=>true
 | (_,cs) :: r=>AV.small.smalls cs&&A57 r
def Be0 (B:List BA) (b:Nat):Bool:=B.any fun x=>Nat.beq x.id b&&(match x with | .box _ _=>true | _=>false)
def Wx (B:List BA):List (Nat×List AV)->Bool
 | []=>true
 | (b,_) :: r=>Be0 B b&&Wx B r
def B95 (B:List BA) (b:Nat):Bool:=B.any fun x=>Nat.beq x.id b&&(match x with | .row _ _ _ _=>true | _=>false)
def A62 (B:List BA):List BA->Bool
 | []=>true
 | .row b _ _ _ :: r=>B95 B b&&A62 B r
 | _ :: _=>false
def Bs6 (P:Program) (G:World->Prop) (f:FuncId) (args:List AV) (r:AV) (B nb:List BA) (bx:List (Nat×List AV)) (kr:List BA):Prop :=
 (∀ (vs:Array Value) (w:World),(callFunc f vs).run P w=.ok (.enter f vs) w) /\
 ∀ (V w0 w:World) (E:Env) (vs:Array Value) (F:Far),StB V w0 E (B++[.opq 99 F]) w->(∀ w',Below w0.heap.size w0 w'->G w')->At E (vis V w0 w (Ac E (B++[.opq 99 F]))) vs.toList args ->
  Calls P f vs w fun e w'=>∃ v E',e=.returned v/\StB V w0 E' ((nb++(bxB bx++kr))++[.opq 99 F]) w'/\(∀ x∈bx,E'.blk x.1=E.blk x.1)/\(∀ x∈kr,E'.row x.id=E.row x.id)/\Bb E' (vis V w0 w' (Ac E' ((nb++(bxB bx++kr))++[.opq 99 F]))) v r/\w.heap.size<=w'.heap.size /\
   (∀ g,g∉Ac E B->g < w.heap.size->w'.heap[g]? = w.heap[g]?)/\(∀ g∈Ac E' (nb++(bxB bx++kr)),g∈Ac E B\/w.heap.size<=g)
def B77 (P:Program) (G:World->Prop) (f:FuncId) (args:List AV) (c:Nat) (bk:List BA) (K:AV->List BA->Prop):Prop :=
 ∃ args' r B nb bx kr ρ pre post,Bs6 P G f args' r B nb bx kr/\AV.ren.rens ρ args'=args/\bk=pre++(J7 ρ B++post)/\(r.small&&Mp nb&&A57 bx&&Wx B bx&&A62 B kr)=true/\K (r.sh c) ((shB c nb++(bxS ρ c bx++J7 ρ kr))++(pre++post))
theorem A14 {E:Env} {ρ:Nat->Nat} : ∀ {B:List BA},Ac E (J7 ρ B)=Ac (E.ren ρ) B
 | []=>rfl
 | b :: r=>by simp only [J7,Ac,A14 (B:=r),BA.ren_owned]
theorem N3 {ρ:Nat->Nat} : ∀ {B:List BA} {b:BA},b∈B->b.ren ρ∈J7 ρ B
 | c :: r,b,h=>by
  rcases List.mem_cons.1 h with rfl | h
  ·simp [J7]
  ·exact List.mem_cons_of_mem _ (N3 h)
theorem B61 {B:List BA} {b:Nat} (h:Be0 B b=true):∃ cs,BA.box b cs∈B:=by
 unfold Be0 at h
 rw [List.any_eq_true] at h
 obtain ⟨x,hx,h⟩:=h
 rw [Bool.and_eq_true] at h
 obtain ⟨h1,h2⟩:=h
 cases x with
 | box b' cs =>
  have:b'=b:=Nat.eq_of_beq_eq_true h1
  subst this
  exact ⟨cs,hx⟩
 | _=>cases h2
theorem B04 {B:List BA} {b:Nat} (h:B95 B b=true):∃ e k l,BA.row b e k l∈B:=by
 unfold B95 at h
 rw [List.any_eq_true] at h
 obtain ⟨x,hx,h⟩:=h
 rw [Bool.and_eq_true] at h
 obtain ⟨h1,h2⟩:=h
 cases x with
 | row b' e k l =>
  have:b'=b:=Nat.eq_of_beq_eq_true h1
  subst this
  exact ⟨e,k,l,hx⟩
 | _=>cases h2
theorem S4 {B:List BA} : ∀ {kr:List BA},A62 B kr=true->∀ x∈kr,∃ b e k l e' k' l',x=.row b e k l/\BA.row b e' k' l'∈B
 | .row b e k l :: r,h,x,hx=>by
  simp only [A62,Bool.and_eq_true] at h
  rcases List.mem_cons.1 hx with rfl | hx
  ·obtain ⟨e',k',l',hm⟩:=B04 h.1
   exact ⟨b,e,k,l,e',k',l',rfl,hm⟩
  ·exact S4 h.2 x hx
 | .box _ _ :: _,h,_,_=>by cases h
 | .arr _ _ :: _,h,_,_=>by cases h
 | .mp _ _ _ :: _,h,_,_=>by cases h
 | .opq _ _ :: _,h,_,_=>by cases h
theorem A15 {ρ:Nat->Nat} : ∀ {B:List BA} {y:BA},y∈J7 ρ B->∃ b∈B,y=b.ren ρ
 | c :: r,y,h=>by
  simp only [J7] at h
  rcases List.mem_cons.1 h with rfl | h
  ·exact ⟨c,by simp,rfl⟩
  ·obtain ⟨b,h1,h2⟩:=A15 h
   exact ⟨b,List.mem_cons_of_mem _ h1,h2⟩
theorem A16 {E E':Env} {ρ:Nat->Nat} : ∀ {kr:List BA},(∀ x∈kr,∃ b e k l,x=.row b e k l/\E'.row (ρ b)=E.row b)->Ac E' (J7 ρ kr)=Ac E kr
 | [],_=>rfl
 | x :: r,h=>by
  obtain ⟨b,e,k,l,rfl,h1⟩:=h x (by simp)
  simp only [J7,Ac,BA.ren,BA.owned,h1,A16 (kr:=r) fun x hx=>h x (List.mem_cons_of_mem _ hx)]
section
variable {P : Program} {G : World -> Prop} {L : Operand -> AV} {bk : List BA} {K : AV -> List BA -> Prop}
variable {V w0 : World} {n : Fm} {E : Env} {fr : List (Nat × AV)} {a : Act} {w : World}
theorem Bq4 (h:St V w0 n E ⟨fr,bk⟩ a w) {R:List BA} (hs:List.Sublist (Ac E R) (Ac E bk)) (hR:∀ b∈R,b∈bk):∃ F:Far,F.l.map (·.1)=Ac E R/\∀ p∈F.l,w.heap[p.1]? = some p.2:=by
 have hc:∀ g∈Ac E R,∃ o:Obj,w.heap[g]? = some o/\Kk o=false:=fun g hg=>by
  obtain ⟨b,hb,hg⟩:=Bx.1 hg
  exact BA.owned_cells (h.holds b (hR b hb)) g hg
 refine ⟨⟨(Ac E R).map fun g=>(g,(w.heap[g]?).getD (.cells #[] 0)),?_,fun p hp=>?_⟩,?_,fun p hp=>?_⟩
 ·rw [List.map_map]
  have:((fun p:Nat×Obj=>p.1) ∘ fun g=>(g,(w.heap[g]?).getD (.cells #[] 0)))=id:=rfl
  rw [this,List.map_id]
  exact h.apart.sublist hs
 ·obtain ⟨g,hg,rfl⟩:=List.mem_map.1 hp
  obtain ⟨o,h1,h2⟩:=hc g hg
  simp only [h1,Option.getD_some]
  exact h2
 ·rw [List.map_map]
  exact List.map_id _
 ·obtain ⟨g,hg,rfl⟩:=List.mem_map.1 hp
  obtain ⟨o,h1,h2⟩:=hc g hg
  simp only [h1,Option.getD_some]
theorem Al4 {E E':Env} {ρ:Nat->Nat} {c:Nat} : ∀ {bx:List (Nat×List AV)},(∀ x∈bx,E'.blk (ρ x.1)=E.blk x.1)->Ac E' (bxS ρ c bx)=Ac E (bxB bx)
 | [],_=>rfl
 | (b,cs) :: r,h=>by
  simp only [bxS,bxB,Ac,BA.owned,h (b,cs) (by simp),Al4 (bx:=r) fun x hx=>h x (List.mem_cons_of_mem _ hx)]
theorem Ax3 {ρ:Nat->Nat} {c:Nat} : ∀ {bx:List (Nat×List AV)} {y:BA},y∈bxS ρ c bx->∃ x∈bx,y=.box (ρ x.1) (AV.sh.shs c x.2)/\BA.box x.1 x.2∈bxB bx
 | (b,cs) :: r,y,h=>by
  simp only [bxS] at h
  rcases List.mem_cons.1 h with rfl | h
  ·exact ⟨(b,cs),by simp,rfl,by simp [bxB]⟩
  ·obtain ⟨x,h1,h2,h3⟩:=Ax3 h
   exact ⟨x,List.mem_cons_of_mem _ h1,h2,List.mem_cons_of_mem _ h3⟩
theorem Xk:∀ {bx:List (Nat×List AV)},A57 bx=true->∀ x∈bx,AV.small.smalls x.2=true
 | (b,cs) :: r,h,x,hx=>by
  simp only [A57,Bool.and_eq_true] at h
  rcases List.mem_cons.1 hx with rfl | hx
  ·exact h.1
  ·exact Xk h.2 x hx
theorem W9 {B:List BA} : ∀ {bx:List (Nat×List AV)},Wx B bx=true->∀ x∈bx,∃ cs,BA.box x.1 cs∈B
 | (b,cs) :: r,h,x,hx=>by
  simp only [Wx,Bool.and_eq_true] at h
  rcases List.mem_cons.1 hx with rfl | hx
  ·exact B61 h.1
  ·exact W9 h.2 x hx
variable {dst : Option Tmp} {ty : TypeId} {pos : String} {after : Array Edge} {gd : Option (Nat × Bool)}
theorem Bq9 {f:FuncId} {fo:Operand} {args:Array Operand} {at_:Array TypeId} {caps:List AV} (hfo:L fo=.fn f caps) (h:B77 P G f (args.toList.map L++caps) (cid dst) bk K) :
  Upd P G ⟨dst,.call { callee:=.value fo,args,argTypes:=at_ },ty,pos,after,gd⟩ L bk K:=by
 obtain ⟨args',r,B,nb,bx,kr,ρ,pre,post,⟨hen,hcall⟩,hargs',rfl,hsm,hK⟩:=h
 simp only [Bool.and_eq_true] at hsm
 obtain ⟨⟨⟨⟨hs1,hs2⟩,hs3⟩,hs4⟩,hs5⟩:=hsm
 refine ⟨_,_,hK,fun V w0 n E a w fr F0 hs hL hfr hG N Q hN ro=>M5 (fun _ h=>by cases h) ?_⟩
 obtain ⟨hf1,hf2⟩:=hfr rfl
 have hfv:=hL fo
 rw [hfo] at hfv
 generalize hfe:a.eval fo=u at hfv
 cases hfv with
 | @fn _ vs _ p1 p2 =>
  have hexec:(execOp a.eval ⟨dst,.call { callee:=.value fo,args,argTypes:=at_ },ty,pos,after,gd⟩).run P w=.ok (.enter f (args.map a.eval++vs)) w:=by
   simp [execOp,resolve,hfe,Deferred.ofValue,invoke,hen]
  have e0:(pre++(J7 ρ B++post))++F0=pre++(J7 ρ B++(post++F0)):=by simp only [List.append_assoc]
  rw [e0] at hs hL hf2
  have hargs:At E (vis V w0 w (Ac E (pre++(J7 ρ B++(post++F0))))) (args.map a.eval++vs).toList (args.toList.map L++caps):=by
   refine ⟨by simp [p1],fun j v d e1 e2=>?_⟩
   by_cases hj:j < args.size
   ·rw [List.getElem?_append_left (by simpa using hj),List.getElem?_map,Option.map_eq_some_iff] at e2
    obtain ⟨y,e3,rfl⟩:=e2
    rw [Array.getElem?_toList,Array.getElem?_append_left (by simpa using hj),Array.getElem?_map,Option.map_eq_some_iff] at e1
    obtain ⟨y',e4,rfl⟩:=e1
    rw [Array.getElem?_toList,e4] at e3
    obtain rfl:=Option.some.inj e3
    exact hL _
   ·rw [List.getElem?_append_right (by simp;omega)] at e2
    rw [Array.getElem?_toList,Array.getElem?_append_right (by simp;omega)] at e1
    simp only [List.length_map,Array.length_toList] at e2
    simp only [Array.size_map] at e1
    have h3:=p2 _ v d e1 e2
    rwa [e0] at h3
  unfold Oper.wp
  rw [hexec,Oper.upon_enter]
  -- what is somebody else's
  have hsubl:List.Sublist (Ac E (pre++(post++F0))) (Ac E (pre++(J7 ρ B++(post++F0)))):=by
   simp only [Au]
   exact (List.Sublist.refl _).append (List.sublist_append_right _ _)
  obtain ⟨F,hF1,hF2⟩:=Bq4 hs (R:=pre++(post++F0)) hsubl fun b hb=>by
   simp only [List.mem_append] at hb ⊢
   rcases hb with hb | hb
   ·exact .inl hb
   ·exact .inr (.inr hb)
  have hoE:∀ (E1:Env),Ac E1 [.opq 99 F]=Ac E (pre++(post++F0)):=fun E1=>by simp [Ac,BA.owned,hF1]
  have hoB:Ac (E.ren ρ) B=Ac E (J7 ρ B):=A14.symm
  have ho1:Ac (E.ren ρ) (B++[.opq 99 F])=Ac E (J7 ρ B)++Ac E (pre++(post++F0)):=by rw [Au,hoE,hoB]
  have hmem:∀ g,g∈Ac E (J7 ρ B)++Ac E (pre++(post++F0))↔g∈Ac E (pre++(J7 ρ B++(post++F0))):=fun g=>by
   simp only [Au,List.mem_append]
   constructor
   ·rintro (h | h | h)
    ·exact .inr (.inl h)
    ·exact .inl h
    ·exact .inr (.inr h)
   ·rintro (h | h | h)
    ·exact .inr (.inl h)
    ·exact .inl h
    ·exact .inr (.inr h)
  have hx:Ext (vis V w0 w (Ac E (pre++(J7 ρ B++(post++F0))))) (vis V w0 w (Ac (E.ren ρ) (B++[.opq 99 F]))):=Dl (Nat.le_refl _) fun p u _ _ h3 h4=>⟨fun hm=>h3 ((hmem _).1 (ho1 ▸ hm)),h4⟩
  have hst:StB V w0 (E.ren ρ) (B++[.opq 99 F]) w:=by
   refine ⟨hs.ext,hs.low,?_,fun g hg=>hs.base g ((hmem g).1 (ho1 ▸ hg)),fun b hb=>?_⟩
   ·rw [ho1]
    have:=hs.apart
    simp only [Au] at this ⊢
    exact (List.perm_append_comm_assoc _ _ _).nodup_iff.1 this
   ·rcases List.mem_append.1 hb with hb | hb
    ·exact BA.holds_ext (Env.same_refl 0 0 _) hx (fun _ _=>rfl) b.off_none (BA.ren_holds (hs.holds (b.ren ρ) (List.mem_append_right _ (List.mem_append_left _ (N3 hb)))))
    ·rw [List.mem_singleton.1 hb]
     exact hF2
  have hav:At (E.ren ρ) (vis V w0 w (Ac (E.ren ρ) (B++[.opq 99 F]))) (args.map a.eval++vs).toList args':=by
   rw [<-hargs'] at hargs
   exact ⟨by rw [hargs.1,N2],fun j v d e1 e2=>((hargs.2 j v _ e1 (by rw [Td,e2];rfl)).ren_).mono hx⟩
  refine (hcall V w0 w (E.ren ρ) _ F hst hG hav).mono ?_
  rintro e w' ⟨v,E',rfl,hst',hpin,hpin2,hv,hsz,hkeep,hnew⟩
  obtain ⟨c,hc⟩ : ∃ c,cid dst=c:=⟨_,rfl⟩
  simp only [hc] at hf1 hf2 hN
  have hblk:∀ x∈bx,(Env.join E E' c).blk (ρ x.1)=E'.blk x.1:=fun x hx=>by
   obtain ⟨cs,hm⟩:=W9 hs4 x hx
   have h1:=Ki hf2 _ (List.mem_append_right _ (List.mem_append_left _ (N3 (ρ:=ρ) hm)))
   simp only [BA.ren,BA.off,Bool.and_eq_true,Bool.or_eq_true,decide_eq_true_eq] at h1
   rw [((Env.join_same E E' c) _ h1.1).1,hpin x hx]
   rfl
  have hrow:∀ x∈kr,∃ b e k l,x=.row b e k l/\(Env.join E E' c).row (ρ b)=E'.row b:=fun x hx=>by
   obtain ⟨b,e,k,l,e',k',l',rfl,hm⟩:=S4 hs5 x hx
   have h1:=Ki hf2 _ (List.mem_append_right _ (List.mem_append_left _ (N3 (ρ:=ρ) hm)))
   simp only [BA.ren,BA.off,Bool.or_eq_true,decide_eq_true_eq] at h1
   refine ⟨b,e,k,l,rfl,?_⟩
   have h2:E'.row b=E.row (ρ b):=hpin2 _ hx
   rw [((Env.join_same E E' c) _ h1).2,h2]
  have hon:Ac (Env.join E E' c) (shB c nb++(bxS ρ c bx++J7 ρ kr))=Ac E' (nb++(bxB bx++kr)):=by rw [Au,Au,Au,Au,Xo hs2,Al4 hblk,A16 hrow]
  have hof:Ac E' ((nb++(bxB bx++kr))++[.opq 99 F])=Ac (Env.join E E' c) (shB c nb++(bxS ρ c bx++J7 ρ kr))++Ac E (pre++(post++F0)):=by rw [Au,hon,hoE]
  have hst2:=hst'.holds
  have hap2:=hst'.apart
  rw [hof] at hst2 hap2 hv
  have hsw:=St.swap (nb:=shB c nb++(bxS ρ c bx++J7 ρ kr)) hs (w':=w') (E':=Env.join E E' c) (lo:=c) (hi:=c+100) (fun g hg=>hkeep g (hoB ▸ hg)) hsz hst'.low (Env.join_same E E' c) hf1 (by
   have:∀ {l:List BA},(∀ b∈l,b.off c (c+100)=true)->Jf c (c+100) l=true:=fun {l}=>by
    induction l with
    | nil=>exact fun _=>rfl
    | cons b l ih=>exact fun h=>by simp only [Jf,Bool.and_eq_true];exact ⟨h b (by simp),ih fun x hx=>h x (List.mem_cons_of_mem _ hx)⟩
   exact this fun b hb=>Ki hf2 b (by
    simp only [List.mem_append] at hb ⊢
    rcases hb with hb | hb
    ·exact .inl hb
    ·exact .inr (.inr hb))) (List.nodup_append.1 hap2).1 (fun g hg=>hoB ▸ hnew g (hon ▸ hg)) (fun b hb=>?_)
  ·refine hN v w' (Env.join E E' c) ?_ ?_
   ·have e1:((shB c nb++(bxS ρ c bx++J7 ρ kr))++(pre++post))++F0=(shB c nb++(bxS ρ c bx++J7 ρ kr))++(pre++(post++F0)):=by simp only [List.append_assoc]
    rw [e1]
    exact hsw
   ·have e1:((shB c nb++(bxS ρ c bx++J7 ρ kr))++(pre++post))++F0=(shB c nb++(bxS ρ c bx++J7 ρ kr))++(pre++(post++F0)):=by simp only [List.append_assoc]
    have e2:Ac (Env.join E E' c) (pre++(post++F0))=Ac E (pre++(post++F0)):=N6 (Env.join_same E E' c) (by
     have:∀ {l:List BA},(∀ b∈l,b.off c (c+100)=true)->Jf c (c+100) l=true:=fun {l}=>by
      induction l with
      | nil=>exact fun _=>rfl
      | cons b l ih=>exact fun h=>by simp only [Jf,Bool.and_eq_true];exact ⟨h b (by simp),ih fun x hx=>h x (List.mem_cons_of_mem _ hx)⟩
     exact this fun b hb=>Ki hf2 b (by
      simp only [List.mem_append] at hb ⊢
      rcases hb with hb | hb
      ·exact .inl hb
      ·exact .inr (.inr hb)))
    rw [e1,Au,e2]
    exact hv.sh hs1
  ·rcases List.mem_append.1 hb with hb | hb
   ·obtain ⟨b0,hb0,rfl⟩:=A58 hb
    exact BA.sh_holds (hst2 b0 (List.mem_append_left _ (List.mem_append_left _ hb0))) (Rz hs2 b0 hb0)
   ·rcases List.mem_append.1 hb with hb | hb
    ·obtain ⟨x,hx,rfl,hxm⟩:=Ax3 hb
     obtain ⟨C,t,h1,h2⟩:=hst2 (.box x.1 x.2) (List.mem_append_left _ (List.mem_append_right _ (List.mem_append_left _ hxm)))
     exact ⟨C,t,by rw [hblk x hx];exact h1,h2.sh (Xk hs3 x hx)⟩
    ·obtain ⟨x,hx,rfl⟩:=A15 hb
     obtain ⟨b,e,k,l,e',k',l',rfl,hm⟩:=S4 hs5 x hx
     obtain ⟨b',_,_,_,e1,hr1⟩:=hrow _ hx
     injection e1 with e1
     subst e1
     obtain ⟨h1,h2⟩:=hst2 (.row b e k l) (List.mem_append_left _ (List.mem_append_right _ (List.mem_append_right _ hx)))
     have h3:=Ki hf2 _ (List.mem_append_right _ (List.mem_append_left _ (N3 (ρ:=ρ) hm)))
     simp only [BA.ren,BA.off,Bool.or_eq_true,decide_eq_true_eq] at h3
     have h4:=(hs.holds ((BA.row b e' k' l').ren ρ) (List.mem_append_right _ (List.mem_append_left _ (N3 hm)))).2
     refine ⟨by rw [hr1];exact h1,fun g hg=>?_⟩
     rw [((Env.join_same E E' c) _ h3).2] at hg
     rw [((Env.join_same E E' c) _ h3).1]
     exact h4 g hg
end
def Bj (P:Program) (G:World->Prop) (L:Operand->AV) (bk:List BA) (o:Oper) (K:AV->List BA->Prop):Prop :=
 match o.op with
 | .store t x y=>Ar P t (L x) (L y) bk fun bk'=>K .any bk'
 | .mapUpdate t x i y=>Ah8 P t (L x) (L i) (L y) bk fun bk'=>K .any bk'
 | .call { callee:=.builtin .append,args,argTypes }=>match args.toList,argTypes.toList with
  | [x,y],[t,t']=>t'=t/\Ap P t (L x) (L y) (cid o.dst) bk K
  | _,_=>False
 | .call { callee:=.value fo,args,.. }=>match L fo with
  | .fn f caps=>Bo P G (fun b=>Cd b bk) f (args.toList.map L++caps) (cid o.dst) (fun r nb=>K r (nb++bk))\/B77 P G f (args.toList.map L++caps) (cid o.dst) bk K
  | _=>False
 | _=>qop P G L (fun b=>Cd b bk) o (cid o.dst) fun r nb=>K r (nb++bk)
def Ck (o:Oper) (σ:Ah):Prop:=Hz o=true->(Ky (cid o.dst) (cid o.dst+100) σ.fr&&Jf (cid o.dst) (cid o.dst+100) σ.bk)=true
def vop (P:Program) (G:World->Prop) (σ:Ah) (o:Oper) (K:AV->List BA->Prop):Prop:=Ck o σ/\Bj P G (ev σ.fr) σ.bk o K
section
variable {P : Program} {G : World -> Prop} {σ : Ah}
theorem Ba9 {lo hi:Nat} {fr:List (Nat×AV)} (h:Ky lo hi fr=true) (x:Operand):(ev fr x).off lo hi=true:=by
 cases x with
 | tmp t=>exact Qz h t
 | const v =>
  cases v<;>first | rfl | skip
  rename_i cs
  show AV.off.offs lo hi _=true
  generalize cs.toList=l
  induction l with
  | nil=>rfl
  | cons z zs ih=>simp only [List.map_cons,AV.off.offs,AV.off,Bool.true_and];exact ih
 | global g=>rfl
 | func f=>rfl
variable {L : Operand -> AV} {bk : List BA}
theorem Ag2 {o:Oper} {B:Nat->Option BA} {c:Nat} {K:AV->List BA->Prop} (h:qop P G L B o c K):∀ d,o.op≠.defer d:=fun d e=>by
 obtain ⟨dst,op,ty,pos,after,gd⟩:=o
 simp only at e
 subst e
 exact h
theorem R7 {o:Oper} {K:AV->List BA->Prop} (hf:Hz o=true->∀ x,(L x).off (cid o.dst) (cid o.dst+100)=true) (h:qop P G L (fun b=>Cd b bk) o (cid o.dst) fun r nb=>K r (nb++bk)):Upd P G o L bk K:=by
 obtain ⟨r,nb,hK,hq⟩:=Ap4 hf h
 have hnd0:=Ag2 h
 refine ⟨r,nb++bk,hK,fun V w0 n E a w fr F hs hL hfr hG N Q hN ro=>M5 hnd0 <| hq V w0 n E ⟨fr,bk++F⟩ a w hs (hG w hs.low) hL (fun b x hb=>⟨List.mem_append_left _ (J1 hb).1,(J1 hb).2⟩) N Q fun v w' E' ⟨hb,⟨hE,hm⟩,hnd,hnew,hh,hv⟩=>?_⟩
 have hst:St V w0 n E' ⟨fr,nb++(bk++F)⟩ a w'/\Ac E' (bk++F)=Ac E (bk++F):=by
  rcases hm with rfl | hm
  ·exact ⟨hs.add (lo:=0) (hi:=0) hb (Env.same_refl 0 0 E') (Uo _) (Up _) hnd hnew hh,rfl⟩
  ·have:=hfr hm
   exact ⟨hs.add hb hE this.1 this.2 hnd hnew hh,N6 hE this.2⟩
 exact hN v w' E' (by rw [List.append_assoc];exact hst.1) (by rw [List.append_assoc,Au,hst.2];exact hv)
theorem Ac0 {o:Oper} {K:AV->List BA->Prop} (hf:Hz o=true->∀ x,(L x).off (cid o.dst) (cid o.dst+100)=true) (h:Bj P G L bk o K):Upd P G o L bk K:=by
 unfold Bj at h
 split at h
 ·rename_i t x y ho
  obtain ⟨dst,op,ty,pos,after,gd⟩:=o
  simp only at ho
  subst ho
  exact Bi5 h
 ·rename_i t x i y ho
  obtain ⟨dst,op,ty,pos,after,gd⟩:=o
  simp only at ho
  subst ho
  exact Cc4 h
 ·rename_i args at_ ho
  obtain ⟨dst,op,ty,pos,after,gd⟩:=o
  simp only at ho
  subst ho
  split at h
  ·rename_i x y t t' h1 h2
   obtain ⟨rfl,h⟩:=h
   obtain rfl:args=#[x,y]:=by rw [<-Array.toArray_toList (xs:=args),h1]
   obtain rfl:at_=#[t',t']:=by rw [<-Array.toArray_toList (xs:=at_),h2]
   exact Aj8 h
  ·exact h.elim
 ·rename_i fo args at_ ho
  obtain ⟨dst,op,ty,pos,after,gd⟩:=o
  simp only at ho
  subst ho
  split at h
  ·rename_i f caps hfo
   rcases h with h | h
   ·refine R7 hf ?_
    show match L fo with
     | .fn f caps=>_
     | _=>False
    rw [hfo]
    exact h
   ·exact Bq9 hfo h
  ·exact h.elim
 ·exact R7 hf h
theorem Bp3 {c:Nat} {B:Nat->Option BA} {o:Oper} {K:AV->List BA->Prop} (hm:Hz o=true) (h:qop P G L B o c K):∃ r nb,K r nb:=by
 obtain ⟨dst,op,ty,pos,after,gd⟩:=o
 unfold qop at h
 cases op with
 | alloc e =>
  simp only at h
  split at h
  ·exact ⟨_,_,h.2⟩
  ·exact ⟨_,_,h⟩
  ·exact h.elim
 | box e x =>
  simp only at h
  split at h
  ·exact ⟨_,_,h⟩
  ·exact ⟨_,_,h.2⟩
 | makeMap t r =>
  simp only at h
  split at h
  ·exact ⟨_,_,h.2⟩
  ·exact h.elim
 | buildSlice t len parts =>
  simp only at h
  split at h
  ·obtain ⟨_,l,_,_,_,_,_,h | h⟩:=h
   ·exact ⟨_,_,h⟩
   ·exact ⟨_,_,h⟩
  ·exact h.elim
 | call cl =>
  obtain ⟨callee,args,at_⟩:=cl
  cases callee with
  | value fo =>
   simp only at h
   split at h
   ·obtain ⟨r,nb,_,_,_,h⟩:=h
    exact ⟨_,_,h⟩
   ·exact h.elim
  | invoke r m=>cases hm
  | builtin b =>
   simp only at h
   cases b<;>first | exact h.elim | cases hm
 | _=>cases hm
theorem Ay4 {o:Oper} {K:AV->List BA->Prop} (h:Bj P G L bk o K):∃ r bk',K r bk'/\((Hz o=true->∀ x,(L x).off (cid o.dst) (cid o.dst+100)=true)->Bs4 P G o L bk r bk'):=by
 by_cases hf:Hz o=true->∀ x,(L x).off (cid o.dst) (cid o.dst+100)=true
 ·obtain ⟨r,bk',h1,h2⟩:=Ac0 hf h
  exact ⟨r,bk',h1,fun _=>h2⟩
 ·have hm:Hz o=true:=by
   cases hm:Hz o with
   | true=>rfl
   | false=>exact absurd (fun e=>by rw [hm] at e;cases e) hf
  unfold Bj at h
  split at h
  ·rename_i t x y ho
   obtain ⟨dst,op,ty,pos,after,gd⟩:=o
   simp only at ho
   subst ho
   cases hm
  ·rename_i t x i y ho
   obtain ⟨dst,op,ty,pos,after,gd⟩:=o
   simp only at ho
   subst ho
   cases hm
  ·rename_i args at_ ho
   obtain ⟨dst,op,ty,pos,after,gd⟩:=o
   simp only at ho
   subst ho
   split at h
   ·rename_i x y t t' h1 h2
    obtain ⟨rfl,h⟩:=h
    obtain rfl:args=#[x,y]:=by rw [<-Array.toArray_toList (xs:=args),h1]
    obtain rfl:at_=#[t',t']:=by rw [<-Array.toArray_toList (xs:=at_),h2]
    obtain ⟨r,bk',h3,h4⟩:=Aj8 h
    exact ⟨r,bk',h3,fun _=>h4⟩
   ·exact h.elim
  ·split at h
   ·rename_i f caps hfo
    rcases h with ⟨r,nb,_,_,_,h⟩ | ⟨args',r,B,nb,bx,kr,ρ,pre,post,_,_,_,_,h⟩
    ·exact ⟨_,_,h,fun h=>absurd h hf⟩
    ·exact ⟨_,_,h,fun h=>absurd h hf⟩
   ·exact h.elim
  ·obtain ⟨r,nb,hK⟩:=Bp3 hm h
   exact ⟨_,_,hK,fun h=>absurd h hf⟩
theorem Au2 {o:Oper} {K:AV->List BA->Prop} (h:vop P G σ o K):∃ r bk',K r bk'/\∀ (V w0:World) (n:Fm) (E:Env) (a:Act) (w:World),St V w0 n E σ a w->(∀ w',Below w0.heap.size w0 w'->G w')->∀ (N:Act->World->Prop) (Q:Exit->Act->World->Prop),
  (∀ v w' E',St V w0 n E' ⟨σ.fr,bk'⟩ a w'->Bb E' (vis V w0 w' (Ac E' bk')) v r->N (a.put o.dst v) w')->∀ ro,o.wpIn (FW ro) 0 P a w N Q:=by
 obtain ⟨hf,h⟩:=h
 obtain ⟨r,bk',hK,hu⟩:=Ac0 (fun hm x=>Ba9 (Bool.and_eq_true _ _ ▸ hf hm).1 x) h
 refine ⟨r,bk',hK,fun V w0 n E a w hs hG N Q hN=>hu V w0 n E a w σ.fr [] (by simpa using hs) (fun x=>by simpa using hs.ev x) (fun hm=>by simpa using hf hm) hG N Q fun v w' E' h1 h2=>hN v w' E' (by simpa using h1) (by simpa using h2)⟩
def Mn (ops:List Oper) (fr:List (Nat×AV)) (j:Nat):AV :=
 match ops[j]? with
 | some o=>match o.dst with
  | some d=>nrm (Ct fr d)
  | none=>.any
 | none=>.any
def A86 (ops:List Oper) (fr:List (Nat×AV)) (g:Option (Nat×Bool)) (run skip:Prop):Prop :=
 match g with
 | none=>run
 | some (j,b)=>match Mn ops fr j with
  | .val (.bool x)=>(x=b->run)/\(x=!b->skip)
  | .val (.tuple _)=>skip
  | _=>False
def Bw (P:Program) (G:World->Prop) (ops:List Oper):List Oper->Ah->(Ah->Prop)->Prop
 | [],σ,K=>K σ
 | o :: rest,σ,K=>A86 ops σ.fr o.guard (vop P G σ o fun r bk=>Bw P G ops rest ⟨J8 o.dst r σ.fr,bk⟩ K) (Bw P G ops rest ⟨J8 o.dst (.val undef) σ.fr,σ.bk⟩ K)
def Bb8 (d:Nat):List Nat->Bool
 | []=>false
 | i :: r=>Nat.beq i d || Bb8 d r
theorem Qa {d:Nat} : ∀ {l:List Nat},Bb8 d l=false->d∉l
 | [],_,h=>by cases h
 | i :: r,h,hm=>by
  simp only [Bb8,Bool.or_eq_false_iff] at h
  rcases List.mem_cons.1 hm with e | hm
  ·subst e;simp at h
  ·exact Qa h.2 hm
def Hc (n:Nd):List Oper->Bool
 | []=>true
 | o :: r=>(match o.dst with
  | some d=>Nat.blt d n.n&&!Bb8 d n.fx
  | none=>true)&&Hc n r
variable {V w0 : World} {n : Fm} {ro : Option Nat}
theorem A36 {ops:List Oper} {E:Env} {a:Act} {w:World} (hs:St V w0 n E σ a w) {o:Oper} {A B:Prop} (h:A86 ops σ.fr o.guard A B):(Region.wanted o (yielded ops.toArray a.tmps)=true/\A)\/(Region.wanted o (yielded ops.toArray a.tmps)=false/\B):=by
 unfold A86 at h
 unfold Region.wanted
 split at h
 ·rename_i hg
  rw [hg];exact .inl ⟨rfl,h⟩
 ·rename_i j b hg
  rw [hg]
  simp only
  split at h
  ·rename_i x hy
   have hyv:yielded ops.toArray a.tmps j=some x:=by
    unfold Mn at hy
    split at hy
    ·rename_i o' ho'
     split at hy
     ·rename_i d hd
      have hv:=(hs.slots d).nrm_
      rw [hy] at hv
      generalize hu:a.tmps.getD d undef=u at hv
      cases hv
      have:a.tmps[d]? = some (.bool x):=by
       rw [Array.getD_eq_getD_getElem?] at hu
       cases hdd:a.tmps[d]? with
       | none=>rw [hdd] at hu;simp [undef] at hu
       | some y=>rw [hdd] at hu;simp at hu;rw [hu]
      simp [yielded,ho',hd,this]
     ·cases hy
    ·cases hy
   rw [hyv]
   by_cases e:x=b
   ·subst e;exact .inl ⟨by simp,h.1 rfl⟩
   ·refine .inr ⟨by simpa using e,h.2 (by cases x<;>cases b<;>simp_all)⟩
  ·rename_i tt hy
   have hyv:yielded ops.toArray a.tmps j=none:=by
    unfold Mn at hy
    split at hy
    ·rename_i o' ho'
     split at hy
     ·rename_i d hd
      have hv:=(hs.slots d).nrm_
      rw [hy] at hv
      generalize hu:a.tmps.getD d undef=u at hv
      cases hv
      rw [Array.getD_eq_getD_getElem?] at hu
      cases hdd:a.tmps[d]? with
      | none=>simp [yielded,ho',hd,hdd]
      | some y =>
       rw [hdd] at hu
       simp at hu
       simp [yielded,ho',hd,hdd,hu]
     ·cases hy
    ·cases hy
   rw [hyv]
   exact .inr ⟨rfl,h⟩
  ·exact h.elim
theorem B68 {ops:List Oper} {Q:Exit->Act->World->Prop} (hG:∀ w',Below w0.heap.size w0 w'->G w'):∀ (l:List Oper) (σ:Ah) (K:Ah->Prop) (E:Env) (a:Act) (w:World),Hc n.nd l=true->Bw P G ops l σ K->St V w0 n E σ a w ->
  (∀ (E':Env) (σ':Ah) (a':Act) (w':World),K σ'->St V w0 n E' σ' a' w'->Q .normal a' w')->wpListIn (FW ro) 0 P ops.toArray Q l a w:=by
 intro l
 induction l with
 | nil=>exact fun σ K E a w _ h hs hQ=>hQ E σ a w h hs
 | cons o rest ih =>
  intro σ K E a w hd h hs hQ
  simp only [Hc,Bool.and_eq_true] at hd
  have hdst:∀ d,o.dst=some d->d < n.nd.n/\d∉n.nd.fx:=fun d e=>by
   have:=hd.1
   rw [e] at this
   simp only [Bool.and_eq_true,Bool.not_eq_true'] at this
   exact ⟨Ex.1 this.1,Qa this.2⟩
  refine wpListIn_step fun K' hK'=>?_
  rcases A36 hs h with ⟨hw,hr⟩ | ⟨hw,hr⟩
  ·rw [if_pos hw]
   obtain ⟨r,bk',hK,hu⟩:=Au2 hr
   refine hu V w0 n E a w hs hG K' Q (fun v w' E' hs' hv=>hK' _ _ (ih ⟨J8 o.dst r σ.fr,bk'⟩ K E' (a.put o.dst v) w' hd.2 hK (hs'.put hdst hv) hQ)) ro
  ·rw [if_neg (by rw [hw];simp)]
   refine ⟨fun _ _=>trivial,hK' _ _ (ih ⟨J8 o.dst (.val undef) σ.fr,σ.bk⟩ K E (a.put o.dst undef) w hd.2 hr (hs.put hdst .val) hQ)⟩
-- code
def Arr (V w0:World) (m:Fm) (K:Exit->Ah->Prop) (e:Exit) (a:Act) (w:World):Prop:=∃ m' E σ,Fm.le m m'/\K e σ/\St V w0 m' E σ a w
theorem Arr.more {V w0:World} {m m':Fm} {K:Exit->Ah->Prop} {e:Exit} {a:Act} {w:World} (h:Arr V w0 m' K e a w) (hl:Fm.le m m'):Arr V w0 m K e a w:=by
 obtain ⟨m2,E,σ,h1,h2⟩:=h
 exact ⟨m2,E,σ,hl.trans h1,h2⟩
def AW (P:Program) (G:World->Prop) (ro:Option Nat) (V w0:World) (n:Nd) (c:Code) (σ:Ah) (K:Exit->Ah->Prop):Prop :=
 (∀ w',Below w0.heap.size w0 w'->G w')->∀ m E a w,m.nd=n->St V w0 m E σ a w->c.wpIn (FW ro) 0 P (Arr V w0 m K) a w
end
section
variable {P : Program} {G : World -> Prop} {σ : Ah} {V w0 : World} {n : Nd} {ro : Option Nat} {K : Exit -> Ah -> Prop}
theorem AW.region {id:Nat} {l:List Oper} (hd:Hc n l=true) (h:Bw P G l l σ fun σ'=>K .normal σ'):AW P G ro V w0 n (.region id l.toArray false) σ K :=
 fun hG m E a w hn hs=>wpIn_region_lit (B68 hG l σ _ E a w (by rw [hn];exact hd) h hs fun E' σ' a' w' hK hs'=>⟨m,E',σ',Fm.le.refl m,hK,hs'⟩)
theorem AW.seq {x y:Code} (h:AW P G ro V w0 n x σ fun e σ'=>match e with
  | .normal=>AW P G ro V w0 n y σ' K
  | e=>K e σ'):AW P G ro V w0 n (.seq x y) σ K:=fun hG m E a w hn hs=>by
 refine wpIn_seq (wpIn_mono (h hG m E a w hn hs) ?_)
 rintro e a' w' ⟨m',E',σ',hm,hK,hs'⟩
 cases e with
 | normal=>exact wpIn_mono (hK hG m' E' a' w' (hm.nd.trans hn) hs') fun _ _ _ h=>h.more hm
 | _=>exact ⟨m',E',σ',hm,hK,hs'⟩
theorem AW.block {id:Nat} {c:Code} (h:AW P G ro V w0 n c σ fun e σ'=>match e with
  | .exit j=>if j=id then K .normal σ' else K (.exit j) σ'
  | e=>K e σ'):AW P G ro V w0 n (.block id c) σ K:=fun hG m E a w hn hs=>by
 refine wpIn_block (wpIn_mono (h hG m E a w hn hs) ?_)
 rintro e a' w' ⟨m',E',σ',hm,hK,hs'⟩
 cases e with
 | exit j =>
  simp only [Exit.inBlock]
  simp only at hK
  by_cases e:j=id
  ·rw [if_pos e];rw [if_pos e] at hK;exact ⟨m',E',σ',hm,hK,hs'⟩
  ·rw [if_neg e];rw [if_neg e] at hK;exact ⟨m',E',σ',hm,hK,hs'⟩
 | _=>exact ⟨m',E',σ',hm,hK,hs'⟩
theorem AW.exit {id:Nat} (h:K (.exit id) σ):AW P G ro V w0 n (.exit id) σ K:=fun _ m E _ _ _ hs=>wpIn_exit ⟨m,E,σ,Fm.le.refl m,h,hs⟩
theorem AW.ret (h:K .ret σ):AW P G ro V w0 n .ret σ K:=fun _ m E _ _ _ hs=>wpIn_ret ⟨m,E,σ,Fm.le.refl m,h,hs⟩
theorem AW.skip (h:K .normal σ):AW P G ro V w0 n .skip σ K:=fun _ m E _ _ _ hs=>wpIn_skip ⟨m,E,σ,Fm.le.refl m,h,hs⟩
theorem AW.label {l:Nat} (h:K .normal σ):AW P G ro V w0 n (.label l) σ K:=fun _ m E _ _ _ hs=>wpIn_label ⟨m,E,σ,Fm.le.refl m,h,hs⟩
theorem AW.cond {c:Operand} {x y:Code} {t:Bool} (hc:nrm (ev σ.fr c)=.val (.bool t)) (h1:t=true->AW P G ro V w0 n x σ K) (h2:t=false->AW P G ro V w0 n y σ K):AW P G ro V w0 n (.cond c x y) σ K:=fun hG m E a w hn hs=>by
 have hv:=(hs.ev c).nrm_
 rw [hc] at hv
 generalize hu:a.eval c=u at hv
 cases hv
 exact wpIn_cond_split hu (fun e=>h1 e hG m E a w hn hs) (fun e=>h2 e hG m E a w hn hs)
end
end Go.Proofs.YthlgnjlpakimaaaGreatDoor
