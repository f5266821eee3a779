/- Contracts of the reference's vectors: the same one, a copy, the vector of counts, the join. -/
import Derived.Test.YthlgnjlpakimaaaGreatDoorQClone
import Derived.OwnWalkIn
import Derived.Test.YthlgnjlpakimaaaGreatDoorQVecLaw
set_option linter.all false
set_option linter.unnecessarySimpa false
set_option linter.unusedSimpArgs false
set_option linter.unusedVariables false
namespace Go.Proofs.YthlgnjlpakimaaaGreatDoor
open Go.ChangeShapes Go.WideShapes Go.ChangeAt Go.RowKit
theorem Sl.piece {α:Type} {R:List Value->α->Prop} {k:Nat} {w:World} {B:Nat} {b off c:Nat} {l:List α} (h:Sl R k w B (.slice (some ⟨b,off,none⟩) l.length c) l) {i j:Nat} (hij:i<=j) (hj:j<=l.length) :
  Sl R k w B (.slice (some ⟨b,off+i*k,none⟩) ((l.drop i).take (j - i)).length (c - i)) ((l.drop i).take (j - i)):=by
 obtain ⟨A,c',hv,⟨h1,h2⟩,h3,h4⟩:=h
 injection hv with hv1 _ hv3
 subst hv1 hv3
 refine ⟨_,_,rfl,⟨by simp;omega,by simp;omega⟩,by omega,fun hne=>?_⟩
 have hl:l≠[]:=by
  rintro rfl
  simp at hne
 obtain ⟨b',off',hA,hb,h5⟩:=h4 hl
 injection hA with hA
 injection hA with h6 h7
 subst h6 h7
 refine ⟨_,_,rfl,hb,fun m x hx=>?_⟩
 rw [List.getElem?_take] at hx
 split at hx
 ·rw [List.getElem?_drop] at hx
  obtain ⟨cs,h6,h7,h8⟩:=h5 _ x hx
  refine ⟨cs,h6,h7,fun q u hu=>?_⟩
  have:=h8 q u hu
  rwa [show off+(i+m)*k+q=off+i*k+m*k+q by rw [Nat.add_mul];omega] at this
 ·cases hx
theorem Ah.set_other {α:Type} {R:List Value->α->Prop} {k:Nat} {w:World} {base:Nat} {e:TypeId} {v:Value} {l:List α} (h:Ah R k w base e v l) {p:Addr} (hp:v.ownBlock≠some p.block) (u:Value):Ah R k (w.setCell p u) base e v l :=
 h.kept (row:=some p.block) ⟨rfl,rfl,rfl,by simp,fun i _ hne=>Below.heap_setCell w p u i (fun e=>hne (by rw [e]))⟩ (.inr hp)
def Cr3 (w:World) (g:Nat):Nat->List Value->World
 | _,[]=>w
 | o,u :: r=>Cr3 (w.setCell ⟨g,o,none⟩ u) g (o+1) r
def Ci5:List Value->Nat->List Value->List Value
 | xs,_,[]=>xs
 | xs,o,u :: r=>Ci5 (xs.set o u) (o+1) r
section
variable {α : Type} {R : List Value -> α -> Prop} {P : Program}
theorem X8 (w:World) {size:Nat} (h1:∀ cs x,R cs x->∀ u∈cs,u.oneCell'=true) (t ty:TypeId) (base:Nat) (e:TypeId) (bytes:Nat) (hinfo:(P.info? e).map (fun i=>(i.zero.map (·.cells.size),i.size,i.bytes))=some (some size,size,bytes)) (ht:P.underlying t=some (.slice e)) (hsz:0 < size) (hbb:bytes<=131072)
  (v:Value) (l:List α) (hown:Ah R size w base e v l) (B:Nat) (v2:Value) (m:List α) (hr:Sl R size w B v2 m) (hbig:l.length+m.length<=1073741824) (hbase:base<=w.heap.size) :
  ∃ v' w',(Builtin.append_ #[t,t] ty #[v,v2]).run P w=.ok v' w'/\Ah R size w' base e v' (l++m)/\w.grownBy w' v.ownBlock/\(v'.ownBlock=v.ownBlock\/v'.ownBlock=some w.heap.size):=by
 obtain ⟨i,z,hi,hz,hzs,hsize,hby⟩:=Lc hinfo
 have h63:l.length+m.length<=maxLen:=by unfold maxLen;omega
 have hbytes:(l.length+m.length)*bytes<=140737488355328:=by
  have:=Nat.mul_le_mul hbig hbb
  omega
 obtain ⟨xs,hown1,hch,_⟩:=hown
 obtain ⟨A,c,ys,rfl,hch2,hcell⟩:=hr.cells
 rcases hA:A with _ | ad
 ·have hm:m=[]:=by
   rcases m with _ | ⟨y,m⟩
   ·rfl
   ·obtain ⟨b,off,h,_⟩:=hcell (by simp)
    rw [hA] at h
    cases h
  subst hm
  exact ⟨v,w,M7 w base t ty e i size ht hi v _ xs hown1 _ c rfl,⟨xs,by simpa using hown1,by simpa using hch,by simpa using hbig⟩,World.grownBy.refl w _,.inl rfl⟩
 ·have hcells:∀ j u,ys[j]? = some u->w.cell? (ad.add j)=some u:=by
   intro j u hu
   rcases m with _ | ⟨y,m⟩
   ·cases hch2
    simp at hu
   ·obtain ⟨b,off,h,_,hc⟩:=hcell (by simp)
    rw [hA] at h
    injection h with h
    subst h
    rw [Gr]
    exact hc j u hu
  obtain ⟨v',w',hrun,h2,h3,_,h5⟩:=run_append_own_at (P:=P) w base t ty e i z size bytes ht hi hz hsize hby hzs hsz v _ xs hown1 ad _ c ys hch2.length hcells (hch2.one_cell h1) h63 hbytes hbase
  exact ⟨v',w',hrun,⟨_,by simpa using h2,hch.append hch2,by simpa using hbig⟩,h3,h5⟩
theorem Bf6 {F:Fence} {nF:Nat} {size bytes:Nat} {e t:TypeId} (hinfo:(P.info? e).map (fun i=>(i.zero.map (·.cells.size),i.size,i.bytes))=some (some size,size,bytes)) (ht:P.underlying t=some (.slice e)) (hsz:0 < size) (hbb:bytes<=131072) (h1:∀ cs x,R cs x->∀ u∈cs,u.oneCell'=true)
  {w:World} {ops:Array Oper} {rest:List Oper} {o:Oper} {a:Act} {Q:Exit->Act->World->Prop} (hgd:o.guard=none) (s x:Operand)
  (ho:o.op=.call { callee:=.builtin .append,args:=#[s,x],argTypes:=#[t,t] }) (base:Nat) (v:Value) (l:List α) (hs:a.eval s=v) (hown:Ah R size w base e v l)
  (B:Nat) (v2:Value) (m:List α) (hx:a.eval x=v2) (hr:Sl R size w B v2 m) (hbig:l.length+m.length<=1073741824) (hbase:base<=w.heap.size)
  (h:∀ v' w',Ah R size w' base e v' (l++m)->w.grownBy w' v.ownBlock->(v'.ownBlock=v.ownBlock\/v'.ownBlock=some w.heap.size)->wpListIn F nF P ops Q rest (a.put o.dst v') w'):wpListIn F nF P ops Q (o :: rest) a w:=by
 refine wpListIn_plain hgd fun K hK=>?_
 obtain ⟨v',w',hrun,r1,r2,r3⟩:=X8 (P:=P) w h1 t o.type base e bytes hinfo ht hsz hbb v l hown B v2 m hr hbig hbase
 unfold Oper.wpIn
 refine ⟨by simp [Oper.about,ho,resolve,Target.leads,Sem.run_pure],?_⟩
 rw [Oper.semAt_plain F _ _ (by rw [ho];intro c hc';cases hc')]
 simp [execOp,ho,resolve,invoke,builtin,hs,hx,hrun,Result.andThen]
 exact hK _ _ (h v' w' r1 r2 r3)
theorem A67 {size bytes:Nat} {e t:TypeId} (hinfo:(P.info? e).map (fun i=>(i.zero.map (·.cells.size),i.size,i.bytes))=some (some size,size,bytes)) (ht:P.underlying t=some (.slice e)) (hsz:0 < size) (hbb:bytes<=131072) (h1:∀ cs x,R cs x->∀ u∈cs,u.oneCell'=true)
  {w:World} {ops:Array Oper} {rest:List Oper} {o:Oper} {a:Act} {Q:Exit->Act->World->Prop} (hgd:o.guard=none) (s x:Operand)
  (ho:o.op=.call { callee:=.builtin .append,args:=#[s,x],argTypes:=#[t,t] }) (base:Nat) (v:Value) (l:List α) (hs:a.eval s=v) (hown:Ah R size w base e v l)
  (B:Nat) (v2:Value) (m:List α) (hx:a.eval x=v2) (hr:Sl R size w B v2 m) (hbig:l.length+m.length<=1073741824) (hbase:base<=w.heap.size)
  (h:∀ v' w',Ah R size w' base e v' (l++m)->w.grownBy w' v.ownBlock->(v'.ownBlock=v.ownBlock\/v'.ownBlock=some w.heap.size)->wpList P ops Q rest (a.put o.dst v') w'):wpList P ops Q (o :: rest) a w:=by
 refine wpList_plain hgd fun K hK=>?_
 obtain ⟨v',w',hrun,r1,r2,r3⟩:=X8 (P:=P) w h1 t o.type base e bytes hinfo ht hsz hbb v l hown B v2 m hr hbig hbase
 unfold Oper.wp execOp
 simp only [ho,resolve,invoke,builtin,Sem.run_bind,Sem.run_pure,Result.andThen_ok,List.map_toArray,List.map_cons,List.map_nil,hs,hx,hrun]
 exact hK _ _ (h v' w' r1 r2 r3)
theorem Bm0 {size:Nat} {w:World} {cs:Array Value} {e:TypeId} {y:α} (hR:R cs.toList y) (hc:cs.size=size):Sl R size (w.alloc (.cells cs e)) (w.alloc (.cells cs e)).heap.size (.slice (some ⟨w.heap.size,0,none⟩) 1 1) [y] :=
 (Ah.of_blk (l:=[y]) (Blk.new w e cs) (Bw.one (by simpa using hc) hR) (by simp)).sl
structure Sr (R:List Value->α->Prop) (size:Nat) (base:Nat) (e:TypeId) (v:Value) (l:List α) (w:World) (v':Value) (w':World):Prop where
 own:Ah R size w' base e v' l
 grown:w.grownBy w' v.ownBlock
 low:∀ u:World,u.heap.size<=base->Below u.heap.size u w->Below u.heap.size u w'
 blk:∀ {g:Nat} {t':TypeId} {cs':Array Value},v.ownBlock≠some g->Blk w g t' cs'->Blk w' g t' cs'
 size:w.heap.size<=w'.heap.size
theorem Sr.mk1 {size:Nat} {w w':World} {base:Nat} {e:TypeId} {v v':Value} {l m:List α} (h0:Ah R size w base e v l) (h:Ah R size w' base e v' m) (hg:w.grownBy w' v.ownBlock):Sr R size base e v m w v' w' :=
 ⟨h,hg,fun u hu hb=>hb.grown hg hb.size fun k hk=>by have:=(h0.lt k hk).1;omega,fun hne hB=>hB.grown hg (fun e=>hne e.symm),hg.size⟩
theorem M1 {size bytes:Nat} {e t:TypeId} (hinfo:(P.info? e).map (fun i=>(i.zero.map (·.cells.size),i.size,i.bytes))=some (some size,size,bytes)) (ht:P.underlying t=some (.slice e)) (hsz:0 < size) (hbb:bytes<=131072) (h1:∀ cs x,R cs x->∀ u∈cs,u.oneCell'=true)
  {w:World} {ops:Array Oper} {rest:List Oper} {o:Oper} {a:Act} {Q:Exit->Act->World->Prop} (hgd:o.guard=none) (s x:Operand)
  (ho:o.op=.call { callee:=.builtin .append,args:=#[s,x],argTypes:=#[t,t] }) (base:Nat) (v:Value) (l:List α) (hs:a.eval s=v) (hown:Ah R size w base e v l)
  (cs:Array Value) (y:α) (hx:a.eval x=.slice (some ⟨w.heap.size,0,none⟩) 1 1) (hR:R cs.toList y) (hc:cs.size=size) (hbig:l.length < 1073741824) (hbase:base<=w.heap.size)
  (h:∀ v' w',Sr R size base e v (l++[y]) (w.alloc (.cells cs e)) v' w'->wpList P ops Q rest (a.put o.dst v') w'):wpList P ops Q (o :: rest) a (w.alloc (.cells cs e)):=by
 have h2:=hown.next (Aj (o:=.cells cs e) (Below.refl _ w))
 refine A67 hinfo ht hsz hbb h1 hgd s x ho base v l hs h2 _ _ [y] hx (Bm0 hR hc) (by simp only [List.length_singleton];omega) (by simp;omega) ?_
 intro v' w' h3 h4 _
 exact h v' w' (Sr.mk1 h2 h3 h4)
theorem Ao2 {F:Fence} {nF:Nat} {size bytes:Nat} {e t:TypeId} (hinfo:(P.info? e).map (fun i=>(i.zero.map (·.cells.size),i.size,i.bytes))=some (some size,size,bytes)) (ht:P.underlying t=some (.slice e)) (hsz:0 < size) (hbb:bytes<=131072) (h1:∀ cs x,R cs x->∀ u∈cs,u.oneCell'=true)
  {w:World} {ops:Array Oper} {rest:List Oper} {o:Oper} {a:Act} {Q:Exit->Act->World->Prop} (hgd:o.guard=none) (s x:Operand)
  (ho:o.op=.call { callee:=.builtin .append,args:=#[s,x],argTypes:=#[t,t] }) (base:Nat) (v:Value) (l:List α) (hs:a.eval s=v) (hown:Ah R size w base e v l)
  (cs:Array Value) (y:α) (hx:a.eval x=.slice (some ⟨w.heap.size,0,none⟩) 1 1) (hR:R cs.toList y) (hc:cs.size=size) (hbig:l.length < 1073741824) (hbase:base<=w.heap.size)
  (h:∀ v' w',Sr R size base e v (l++[y]) (w.alloc (.cells cs e)) v' w'->wpListIn F nF P ops Q rest (a.put o.dst v') w'):wpListIn F nF P ops Q (o :: rest) a (w.alloc (.cells cs e)):=by
 have h2:=hown.next (Aj (o:=.cells cs e) (Below.refl _ w))
 refine Bf6 hinfo ht hsz hbb h1 hgd s x ho base v l hs h2 _ _ [y] hx (Bm0 hR hc) (by simp only [List.length_singleton];omega) (by simp;omega) ?_
 intro v' w' h3 h4 _
 exact h v' w' (Sr.mk1 h2 h3 h4)
end
theorem Ag7 (l m:List Ab) (v u:Value) (w:World) (h:Co w w.heap.size v l) (h':Co w w.heap.size u m) :
  Calls Tryz.prog 27 #[v,u] w fun e w'=>e=.returned (.bool (decide (l=m)))/\Below w.heap.size w w':=by
 have hle:=h.len_le
 have hle':=h'.len_le
 obtain ⟨A,c,rfl,_⟩:=id h
 obtain ⟨A',c',rfl,_⟩:=id h'
 by_cases hlen:l.length=m.length
 ·have Hlen:=Lib.hid hlen
  have ht:((l.length:Int) != (m.length:Int))=false:=by rw [hlen];simp
  clear hlen
  go_enter Tryz.func27,Tryz.ntmps27
  go_wp2_with fail
  go_loopw [5] (fun k wr=>∃ n:Nat,n<=l.length/\k=.int .i64 n/\l.take n=m.take n/\Below w.heap.size w wr) (fun k _=>l.length - (intOf k).toNat)
  case atStart=>exact ⟨0,Nat.zero_le _,rfl,rfl,Below.refl _ _⟩
  case round =>
   obtain ⟨n,hn,rfl,ht2,hb⟩:=hrel
   have Ht:=Lib.hid ht2
   clear ht2 ht
   by_cases hlt:n < l.length
   ·obtain ⟨x,hx⟩ : ∃ x,l[n]? = some x:=⟨l[n],List.getElem?_eq_getElem hlt⟩
    obtain ⟨y,hy⟩ : ∃ y,m[n]? = some y:=⟨m[n]'(by have:=Hlen.out;omega),List.getElem?_eq_getElem (by have:=Hlen.out;omega)⟩
    obtain ⟨b,off,_,hv,hbb,e0,e1,_,_⟩:=Gx h hx
    obtain ⟨b',off',_,hv',hbb',e0',e1',_,_⟩:=Gx h' hy
    injection hv with hv1 hv2 hv3
    injection hv' with hv1' hv2' hv3'
    subst hv1 hv1'
    have f0:=(hb.cell (p:=⟨b,off+n*2,none⟩) hbb).trans e0
    have f1:=(hb.cell (p:=⟨b,off+n*2+1,none⟩) hbb).trans e1
    have f0':=(hb.cell (p:=⟨b',off'+n*2,none⟩) hbb').trans e0'
    have f1':=(hb.cell (p:=⟨b',off'+n*2+1,none⟩) hbb').trans e1'
    have Hx:=Lib.hid hx
    have Hy:=Lib.hid hy
    have i1:(n:Int) < (l.length:Int):=by omega
    have i2:(n:Int) < (m.length:Int):=by have:=Hlen.out;omega
    clear hv2 hv3 hv2' hv3' e0 e1 e0' e1' hx hy
    obtain ⟨xl,xh⟩:=x
    obtain ⟨yl,yh⟩:=y
    simp only at f0 f1 f0' f1'
    by_cases p1:xl=yl
    ·subst p1
     by_cases p2:xh=yh
     ·subst p2
      go_wp2_with fail
      go_quiet (fail)
      go_wp2_with fail
      refine ⟨⟨n+1,by omega,by go_num,?_,Kv hb _⟩,by simp [intOf];omega⟩
      rw [Dv Hx.out,Dv Hy.out,Ht.out]
     ·have Hres:Hid (decide (l=m)=false):=by
       refine decide_eq_false fun e=>?_
       have:=Hx.out
       rw [e,Hy.out] at this
       simp at this
       exact p2 this.symm
      go_wp2_with fail
      go_quiet (fail)
      go_wp2_with fail
      go_ret
      exact ⟨Ap Hres.out.symm,Kv hb _⟩
    ·have Hres:Hid (decide (l=m)=false):=by
      refine decide_eq_false fun e=>?_
      have:=Hx.out
      rw [e,Hy.out] at this
      simp at this
      exact p1 this.1.symm
     go_wp2_with fail
     go_quiet (fail)
     go_wp2_with fail
     go_ret
     exact ⟨Ap Hres.out.symm,Kv hb _⟩
   ·obtain rfl:n=l.length:=by omega
    have Hres:Hid (decide (l=m)=true):=by
     refine decide_eq_true ?_
     have:=Ht.out
     rwa [List.take_length,Hlen.out,List.take_length] at this
    go_wp2_with fail
    go_ret
    exact ⟨Ap Hres.out.symm,hb⟩
 ·have ht:((l.length:Int) != (m.length:Int))=true:=by simp;omega
  have Hres:Hid (decide (l=m)=false):=decide_eq_false fun e=>hlen (by rw [e])
  clear hlen
  go_enter Tryz.func27,Tryz.ntmps27
  go_wp2_with fail
  go_ret
  exact ⟨Ap Hres.out.symm,Below.refl _ _⟩
theorem Af0:∀ cs x,H9 cs x->∀ u∈cs,u.oneCell'=true:=by
 rintro cs x ⟨rfl,_⟩ u hu;simp at hu;rcases hu with rfl | rfl<;>rfl
theorem Yc:(Tryz.prog.info? 42).map (fun i=>(i.zero.map (·.cells.size),i.size,i.bytes))=some (some 2,2,16):=by kernel_rfl
theorem Av5 (w:World):Ah H9 2 (w.alloc (.cells #[] 42)) w.heap.size 42 (.slice (some ⟨w.heap.size,0,none⟩) 0 0) [] :=
 ⟨[],⟨rfl,.inr ⟨_,0,#[],rfl,Nat.le_refl _,heap_alloc_new w _,Nat.le_refl _,Nat.zero_le _,rfl,rfl⟩⟩,rfl,Nat.zero_le _⟩
theorem Bk2 (l:List Ab) (v:Value) (w:World) (h:Co w w.heap.size v l) :
  Calls Tryz.prog 40 #[v] w fun e w'=>(∃ v',e=.returned v'/\Ah H9 2 w' w.heap.size 42 v' l)/\Below w.heap.size w w':=by
 have hle:=h.len_le
 obtain ⟨A,c,rfl,_⟩:=id h
 go_enter Tryz.func40,Tryz.ntmps40
 go_wp2_with (at_builtin;refine A67 Yc Tryz.underlying25 (by omega) (by omega) Af0 rfl (.tmp 3) (.tmp 4) rfl w.heap.size _ [] rfl (Av5 w) w.heap.size _ l rfl (h.keep (fun _ _ h=>h) (Nat.le_refl _) (fun p hp=>World.cell?_alloc_lt _ _ _ hp)) (by simp only [List.length_nil];omega) (by simp) ?_;intro v1 w1 hown hgr hat)
 simp only [List.nil_append] at hown
 have hb1:Below w.heap.size w w1:=(Aj (Below.refl _ _)).grown hgr (by simp) (fun k hk=>Nat.le_of_eq (Option.some.inj hk))
 have H1:=Lib.hid hown
 clear hown hgr hat
 go_wp2_with fail
 go_ret
 exact ⟨⟨_,rfl,H1.out⟩,hb1⟩
set_option maxRecDepth 100000 in
theorem B74 (c:Nat->Int) (hc:∀ n,n < 64->I64 (c n)) (w:World) :
  Calls Tryz.prog 158 #[.agg (Em c)] w fun e w'=>(∃ v',e=.returned v'/\Ah H9 2 w' w.heap.size 42 v' (F6 c))/\Below w.heap.size w w':=by
 have HC:=Lib.hid hc
 clear hc
 go_enter Tryz.func158,Tryz.ntmps158
 go_wp2_with fail
 go_loopw [3,4] (fun v k wr=>∃ n:Nat,n<=64/\k=.int .i64 n/\Ah H9 2 wr (w.heap.size+1) 42 v (Ek c n)/\Blk wr w.heap.size 191 (Em c)/\Below w.heap.size w wr) (fun _ k _=>64 - (intOf k).toNat)
 case atStart=>exact ⟨0,by omega,rfl,Ah.nil_ _ _ _,Blk.new _ _ _,Aj (Below.refl _ _)⟩
 case round =>
  rename_i v0 k0
  obtain ⟨n,hn,rfl,hown,hB,hb⟩:=hrel
  by_cases hlt:n < 64
  ·have c0:=(hB.cell n).trans (Dz hlt)
   have hi:=HC.out n hlt
   have HS:=Lib.hid (show Ek c (n+1)=if 0 < c n then Ek c n++[⟨c n,n⟩] else Ek c n from rfl)
   have HL:=Lib.hid (A73 c n)
   generalize c n=q at *
   have i1:(n:Int) < 64:=by omega
   have HO:=Lib.hid hown
   have hs:=hb.size
   have hB1:=hB.lt
   have hlt0:=hown.lt
   by_cases h0:0 < q
   ·have HS2:=Lib.hid (HS.out.trans (if_pos h0))
    have hf0:(decide (0 < q))=true:=decide_eq_true h0
    clear hown HS
    go_wp2_with (at_builtin;refine M1 Yc Tryz.underlying25 (by omega) (by omega) Af0 rfl (.tmp 13) (.tmp 19) rfl (w.heap.size+1) _ _ rfl HO.out #[.int .i64 q,.int .i64 n] ⟨q,n⟩ rfl ⟨rfl,hi,I64.of (by simp only;omega) (by simp only;omega)⟩ rfl (by have:=HL.out;omega) (by omega) ?_;intro v1 w1 ha)
    have HA:=Lib.hid ha
    clear ha HO
    go_wp2_with fail
    refine ⟨⟨n+1,by omega,by go_num,by rw [HS2.out];exact HA.out.own,HA.out.blk (fun e=>?_) hB.alloc,HA.out.low w (by omega) (Aj hb)⟩,by simp [intOf];omega⟩
    have:=(hlt0 _ e).1
    omega
   ·have HS2:=Lib.hid (HS.out.trans (if_neg h0))
    have hf0:(decide (0 < q))=false:=decide_eq_false h0
    clear hown HS
    go_wp2_with fail
    refine ⟨⟨n+1,by omega,by go_num,by rw [HS2.out];exact HO.out,hB,hb⟩,by simp [intOf];omega⟩
  ·obtain rfl:n=64:=by omega
   obtain ⟨A0,c0,rfl⟩:=hown.form
   have HO:=Lib.hid hown
   clear hown
   go_wp2_with fail
   go_ret
   exact ⟨⟨_,rfl,HO.out.base (by omega)⟩,hb⟩
def A16 (w:World) (B:Nat) (cs:List Value) (l:List Ab):Prop:=∃ v,cs=[v]/\Co w B v l
abbrev Kk (w:World) (B:Nat):=Sl (A16 w B) 1 w B
theorem C27:C50 (fun w=>A16 w w.heap.size):=fun _ _ _ _ he ⟨v,e,h⟩=>⟨v,e,h.ext (fun _ _ h=>h) he⟩
theorem Kk.next {w w':World} {v:Value} {ls:List (List Ab)} (h:Kk w w.heap.size v ls) (hb:Below w.heap.size w w'):Kk w' w'.heap.size v ls :=
 h.ext (fun cs x hx=>C27 _ _ cs x (Ext.of_below hb) hx) (Ext.of_below hb)
theorem Ab9 {w:World} {B:Nat} {v:Value} {ls:List (List Ab)} (h:Kk w B v ls) {m:Nat} {x:List Ab} (hx:ls[m]? = some x) :
  ∃ b off c vi,v=.slice (some ⟨b,off,none⟩) ls.length c/\b < B/\w.cell? ⟨b,off+m,none⟩=some vi/\Co w B vi x:=by
 obtain ⟨A,c,rfl,_,_,h3⟩:=h
 obtain ⟨b,off,rfl,hb,h4⟩:=h3 (by rintro rfl;simp at hx)
 obtain ⟨cs,⟨vi,rfl,hs⟩,_,h5⟩:=h4 m x hx
 have:=h5 0 vi rfl
 rw [Nat.mul_one,Nat.add_zero] at this
 exact ⟨b,off,c,vi,rfl,hb,this,hs⟩
def Mh (f d:Nat->Int) (k n:Nat):Int:=if n < k then max (f n) (d n) else f n
theorem Bx5 (f d:Nat->Int) {k:Nat} (_hk:k < 64):(Em (Mh f d k)).setIfInBounds k (.int .i64 (max (f k) (d k)))=Em (Mh f d (k+1)):=by
 rw [Em,Em,S1]
 refine Hj fun i _=>?_
 by_cases hi:i=k
 ·subst hi;simp [Mh]
 ·have e:(i < k+1)=(i < k):=by simp;omega
  simp [Mh,hi,e]
theorem Cp5:∀ w,(zeroValue 191).run Tryz.prog w=.ok (.agg (Em fun _=>0)) w:=(zero_of_info (n:=64) (by kernel_rfl)).1
theorem Ay5 (f d:Nat->Int):Mh f d 0=f:=by funext n;simp [Mh]
theorem Cj5 {a b:Int} (h1:I64 a) (h2:I64 b):I64 (max a b):=by
 rcases Int.le_total a b with h | h
 ·rw [Int.max_eq_right h];exact h2
 ·rw [Int.max_eq_left h];exact h1
def A18 (l:List Ab):Prop:=∀ n:Nat,n < 64->I64 (Aa l n)
theorem Tw {w:World} {B:Nat} {v:Value} {l:List Ab} (h:Co w B v l):A18 l:=by
 intro n _
 have key:∀ m:List Ab,(∀ s∈m,I64 s.count)->I64 (Aa m n):=by
  intro m
  induction m with
  | nil=>exact fun _=>I64.of (by simp [Aa]) (by simp [Aa])
  | cons s m ih =>
   intro hm
   rw [Aa]
   split
   ·exact hm s (List.mem_cons_self ..)
   ·exact ih fun t ht=>hm t (List.mem_cons_of_mem _ ht)
 refine key l fun s hs=>?_
 obtain ⟨i,hi⟩:=List.mem_iff_getElem?.1 hs
 obtain ⟨b,off,c,_,_,_,_,h1,_⟩:=Gx h hi
 exact h1
theorem At1 {ls:List (List Ab)} (h:∀ l∈ls,A18 l) (n:Nat) (hn:n < 64):I64 (G8 ls n):=by
 have key:∀ (ls:List (List Ab)) (a:Int),I64 a->(∀ l∈ls,A18 l)->I64 (ls.foldl (fun a l=>max a (Aa l n)) a):=by
  intro ls
  induction ls with
  | nil=>exact fun a h _=>h
  | cons l ls ih=>exact fun a ha hl=>ih _ (Cj5 ha (hl l (List.mem_cons_self ..) n hn)) fun m hm=>hl m (List.mem_cons_of_mem _ hm)
 exact key ls 0 (I64.of (by omega) (by omega)) h
set_option maxRecDepth 100000 in
theorem Bk1 (ls:List (List Ab)) (v:Value) (w:World) (h:Kk w w.heap.size v ls) :
  Calls Tryz.prog 84 #[v] w fun e w'=>(∃ v',e=.returned v'/\Ah H9 2 w' w.heap.size 42 v' (E4 ls))/\Below w.heap.size w w':=by
 have hle:=h.len_le
 have HH:=Lib.hid h
 have hI:∀ l∈ls,A18 l:=fun l hl=>by
  obtain ⟨i,hi⟩:=List.mem_iff_getElem?.1 hl
  obtain ⟨_,_,_,vi,_,_,_,hs⟩:=Ab9 h hi
  exact Tw hs
 have HI:=Lib.hid hI
 obtain ⟨A,c,rfl,-⟩:=id h
 have hz:=Cp5
 clear h hI
 go_enter Tryz.func84,Tryz.ntmps84
 go_wp2_with fail
 go_loopw [4] (fun k wr=>∃ m:Nat,m<=ls.length/\k=.int .i64 m/\Below w.heap.size w wr/\Blk wr w.heap.size 191 (Em (G8 (ls.take m)))) (fun k _=>ls.length - (intOf k).toNat)
 case atStart=>exact ⟨0,Nat.zero_le _,rfl,Aj (Below.refl _ _),Blk.new _ _ _⟩
 case round =>
  obtain ⟨m,hm,rfl,hb,hB⟩:=hrel
  by_cases hlt:m < ls.length
  ·obtain ⟨x,hx⟩ : ∃ x,ls[m]? = some x:=⟨ls[m],List.getElem?_eq_getElem hlt⟩
   obtain ⟨b,off,_,vi,hv',hbb,e0,hs⟩:=Ab9 (HH.out.next hb) hx
   injection hv' with hv1 hv2 hv3
   subst hv1
   have HT:=Lib.hid (Dv hx)
   have HBB:=Lib.hid hB
   have HSS:=Lib.hid hs
   obtain ⟨A1,c1,rfl,-⟩:=id hs
   have hws:=hb.size
   clear hv2 hv3 hs hB hx
   go_wp2_with fail
   refine (S6 x _ _ HSS.out).mono ?_
   rintro e w1 ⟨rfl,hb1⟩
   have hB1:=HBB.out.next hb1
   have hb1s:=hb1.size
   have hBlt:=HBB.out.lt
   have Hb1:=Lib.hid (B9 hb hb1)
   clear hb hb1 HBB e0
   generalize hf:G8 (ls.take m)=f at *
   have HF:=Lib.hid hf
   clear hf
   go_wp2_with (refine wpList_store_row rfl 191 (.tmp 5) (.tmp 17) rfl w1.heap.size _ rfl rfl 191 _ (Blk.new w1 191 _).raw (Yd _) (Lk _).symm (Vx _) ?_)
   have hD:Blk ((w1.alloc (.cells (Em fun _=>0) 191)).setRow w1.heap.size (Em fun n=>Aa x n)) w1.heap.size 191 (Em fun n=>Aa x n):=(Blk.new w1 191 (Em fun _=>0)).setRow
   have hB2:Blk ((w1.alloc (.cells (Em fun _=>0) 191)).setRow w1.heap.size (Em fun n=>Aa x n)) w.heap.size 191 (Em f):=hB1.alloc.farRow (by omega)
   have hb2:Below w.heap.size w ((w1.alloc (.cells (Em fun _=>0) 191)).setRow w1.heap.size (Em fun n=>Aa x n)):=Pw (Aj Hb1.out) (by omega)
   generalize (w1.alloc _).setRow _ _=W at *
   generalize hg:w1.heap.size=g at *
   have HN:=Lib.hid (show ∀ n,G8 (ls.take (m+1)) n=max (f n) (Aa x n) from fun n=>by rw [HT.out,Yb];rw [HF.out])
   generalize hd:(fun n:Nat=>Aa x n)=d at *
   have HD:=Lib.hid hd
   have hne:w.heap.size≠g:=by omega
   clear hd hg hb1s hws
   go_loopw [6] (fun j w2=>∃ n:Nat,n<=64/\j=.int .i64 n/\Below w.heap.size w w2/\Blk w2 w.heap.size 191 (Em (Mh f d n))/\Blk w2 g 191 (Em d)) (fun j _=>64 - (intOf j).toNat)
   case atStart=>exact ⟨0,by omega,rfl,hb2,by rw [Ay5];exact hB2,hD⟩
   case round =>
    obtain ⟨n,hn,rfl,hb3,hB3,hD3⟩:=hrel
    by_cases hn64:n < 64
    ·have c0:=(hB3.cell n).trans (Dz hn64)
     have d0:=(hD3.cell n).trans (Dz hn64)
     have z0:=hB3.frozen n
     have hq:Mh f d n n=f n:=by simp [Mh]
     rw [hq] at c0
     have HMX:=Lib.hid (hB3.set_ n (.int .i64 (max (f n) (d n))))
     rw [Bx5 f d hn64] at HMX
     have i1:(n:Int) < 64:=by omega
     clear hq
     generalize hp:f n=p at *
     generalize hq2:d n=q at *
     clear hp hq2
     go_wp2_with fail
     go_still_tail 9,(by kernel_rfl)
     go_wp2_with fail
     have hmx:(if p < q then q else p)=max p q:=by split<;>omega
     rw [hmx]
     exact ⟨⟨n+1,by omega,by go_num,(Ym hb3 (p:=⟨w.heap.size,n,none⟩) (Nat.le_refl _)).drew,HMX.out.drew,(hD3.far (by simpa using hne.symm) _).drew⟩,by simp [intOf];omega⟩
    ·obtain rfl:n=64:=by omega
     have hB4:Blk wr w.heap.size 191 (Em (G8 (ls.take (m+1)))):=by
      rw [show Em (G8 (ls.take (m+1)))=Em (Mh f d 64) from Hj fun i hi=>by rw [HN.out i,Mh,if_pos hi,<-HD.out]]
      exact hB3
     have HB4:=Lib.hid hB4
     clear hB3 hB4 hD3
     go_wp2_with fail
     exact ⟨⟨m+1,by omega,by go_num,hb3,HB4.out⟩,by simp [intOf];omega⟩
  ·obtain rfl:m=ls.length:=by omega
   rw [List.take_length] at hB
   have HC:=Lib.hid (fun z=>B74 (G8 ls) (At1 HI.out) z)
   have HB:=Lib.hid hB
   clear hB
   go_wp2_with (with_reducible refine wpList_load_row rfl 191 (.tmp 3) rfl w.heap.size rfl 191 _ (0,0) _ HB.out.raw Tryz.underlying191 rfl (Yd _) ?_)
   refine (HC.out _).mono ?_
   rintro e w1 ⟨⟨v',rfl,hown⟩,hb1⟩
   have hbs:=hb.size
   obtain ⟨A0,c0,rfl⟩:=hown.form
   have HO:=Lib.hid hown
   clear hown
   go_wp2_with fail
   go_ret
   exact ⟨⟨_,rfl,HO.out.base hbs⟩,B9 hb hb1⟩
theorem Bx8 (a b:List Ab) (v u:Value) (w:World) (h:Co w w.heap.size v a) (h':Co w w.heap.size u b) :
  Calls Tryz.prog 28 #[v,u] w fun e w'=>(∃ v',e=.returned v'/\Ah H9 2 w' w.heap.size 42 v' (E4 [a,b]))/\Below w.heap.size w w':=by
 obtain ⟨A,c,rfl,-⟩:=id h
 obtain ⟨A',c',rfl,-⟩:=id h'
 have ha:=Aj (o:=.cells #[.slice A a.length c,.slice A' b.length c'] 25) (Below.refl _ w)
 have hB:=Blk.new w 25 #[.slice A a.length c,.slice A' b.length c']
 have hsl:Kk (w.alloc (.cells #[.slice A a.length c,.slice A' b.length c'] 25)) (w.alloc (.cells #[.slice A a.length c,.slice A' b.length c'] 25)).heap.size (.slice (some ⟨w.heap.size,0,none⟩) 2 2) [a,b] :=
  (Ah.of_blk (R:=A16 _ _) (k:=1) (l:=[a,b]) hB ⟨_,_,rfl,rfl,⟨_,rfl,h.next ha⟩,_,[],rfl,rfl,⟨_,rfl,h'.next ha⟩,rfl⟩ (by simp)).sl
 have HC:=Lib.hid (Bk1 [a,b] _ _ hsl)
 clear h h' hB hsl
 go_enter Tryz.func28,Tryz.ntmps28
 go_wp2_with fail
 refine HC.out.mono ?_
 rintro e w1 ⟨⟨v',rfl,hown⟩,hb1⟩
 have has:=ha.size
 obtain ⟨A0,c0,rfl⟩:=hown.form
 have HO:=Lib.hid hown
 clear hown HC
 go_wp2_with fail
 go_ret
 exact ⟨⟨_,rfl,HO.out.base has⟩,B9 ha hb1⟩
end Go.Proofs.YthlgnjlpakimaaaGreatDoor
