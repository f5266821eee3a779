/- Appends to rows of one's own. No program is known here. -/
import Derived.Test.YtahgkllhbggmgaaGreatDoorLAbsUp
set_option linter.all false
set_option linter.unnecessarySimpa false
set_option linter.unusedSimpArgs false
set_option linter.unusedVariables false
namespace Go.Proofs.YtahgkllhbggmgaaGreatDoor
open Go.ChangeShapes Go.WideShapes Go.ChangeAt Go.RowKit
section
variable {P : Program} {w : World}
theorem Nx {α:Type} {R:List Value->α->Prop} {size:Nat} (h1:∀ cs x,R cs x->∀ u∈cs,u.oneCell'=true) (ty t:TypeId)
  (base:Nat) (e:TypeId) (i:TypeInfo) (z:Value) (bytes:Nat) (ht:P.underlying t=some (.slice e)) (hi:P.info? e=some i) (hz:i.zero=some z)
  (hsize:i.size=size) (hby:i.bytes=bytes) (hzs:z.cells.size=size) (hsz:0 < size)
  (v:Value) (l:List α) (hown:Ai R size w base e v l) (B:Nat) (v2:Value) (m:List α) (hr:Sl R size w B v2 m)
  (hbig:l.length+m.length<=1073741824) (hbb:bytes<=131072) (hbase:base<=w.heap.size) :
  ∃ v' w',(Builtin.append_ #[t,t] ty #[v,v2]).run P w=.ok v' w'/\Ai R size w' base e v' (l++m)/\w.grownBy w' v.ownBlock/\(v'.ownBlock=v.ownBlock\/v'.ownBlock=some w.heap.size):=by
 have h63:l.length+m.length<=maxLen:=by unfold maxLen;omega
 have hbytes:(l.length+m.length)*bytes<=140737488355328:=by
  have:=Nat.mul_le_mul hbig hbb
  omega
 obtain ⟨xs,hown1,hch,_⟩:=hown
 obtain ⟨A,c,ys,rfl,hch2,hcell⟩:=hr.cells
 rcases hA:A with _ | ad
 ·have hm:m=[]:=by
   rcases m with _ | ⟨y,m⟩
   ·rfl
   ·obtain ⟨b,off,h,_⟩:=hcell (by simp)
    rw [hA] at h
    cases h
  subst hm
  exact ⟨v,w,H7 w base t ty e i size ht hi v _ xs hown1 _ c rfl,⟨xs,by simpa using hown1,by simpa using hch,by simpa using hbig⟩,World.grownBy.refl w _,.inl rfl⟩
 ·have hcells:∀ j u,ys[j]? = some u->w.cell? (ad.add j)=some u:=by
   intro j u hu
   rcases m with _ | ⟨y,m⟩
   ·cases hch2
    simp at hu
   ·obtain ⟨b,off,h,_,hc⟩:=hcell (by simp)
    rw [hA] at h
    injection h with h
    subst h
    rw [Dq]
    exact hc j u hu
  obtain ⟨v',w',hrun,h2,h3,_,h5⟩:=run_append_own_at (P:=P) w base t ty e i z size bytes ht hi hz hsize hby hzs hsz v _ xs hown1 ad _ c ys hch2.length hcells (hch2.one_cell h1) h63 hbytes hbase
  exact ⟨v',w',hrun,⟨_,by simpa using h2,hch.append hch2,by simpa using hbig⟩,h3,h5⟩
end
def Bh8 (bk:List BA) (k:Nat):AV->Option (List (List IV))
 | .iv (.sl k' m)=>if k'=k then some m else none
 | .own b=>match C8 b bk with
  | some (.row _ _ k' m)=>if k'=k then some m else none
  | _=>none
 | .val (.slice none 0 0)=>some []
 | _=>none
def Ag (P:Program) (t:TypeId) (x y:AV) (c:Nat) (bk:List BA) (K:AV->List BA->Prop):Prop :=
 match Cq P t with
 | some (e,k,yb)=>0 < k/\yb<=131072/\(tyZ P e).map (fun z=>z.2.length)=some k/\match nrm x,Bh8 bk k (nrm y) with
  | .own b,some m=>match C8 b bk with
   | some (.row _ e' k' l)=>e'=e/\k'=k/\l.length+m.length<=1073741824/\K (.own c) (.row c e k (l++m) :: Cg b [] bk)
   | _=>False
  | .val (.slice none 0 0),some m=>m.length<=1073741824/\K (.own c) (.row c e k m :: bk)
  | _,_=>False
 | none=>False
section
variable {P : Program} {G : World -> Prop} {L : Operand -> AV} {bk : List BA} {K : AV -> List BA -> Prop}
variable {dst : Option Tmp} {ty : TypeId} {pos : String} {after : Array Edge} {gd : Option (Nat × Bool)}
theorem Zn {t k:TypeId} {e y:Nat} (h:Cq P t=some (e,k,y)) (hz:(tyZ P e).map (fun z=>z.2.length)=some k):∃ i z,P.info? e=some i/\i.zero=some z/\i.size=k/\i.bytes=y/\z.cells.size=k:=by
 obtain ⟨_,i,h1,h2,h3⟩:=C3 h
 obtain ⟨⟨q,zs⟩,hq,hl⟩:=Option.map_eq_some_iff.1 hz
 unfold tyZ at hq
 split at hq
 ·rename_i k' s' z hk hz'
  simp only [Option.some.injEq,Prod.mk.injEq] at hq
  obtain ⟨rfl,rfl⟩:=hq
  obtain ⟨i',hi',hz'⟩:=Option.bind_eq_some_iff.1 hz'
  rw [h1] at hi'
  obtain rfl:=Option.some.inj hi'
  exact ⟨i,z,h1,hz',h2,h3,by simpa using hl⟩
 ·cases hq
theorem B14 {V w0:World} {n:Fm} {E:Env} {a:Act} {w:World} {fr:List (Nat×AV)} {F:List BA} (hs:St V w0 n E ⟨fr,bk++F⟩ a w) {k:Nat} {y:AV} {m:List (List IV)} {v:Value} (h:Bh8 bk k y=some m) (hv:Au E (vis V w0 w (Ac E (bk++F))) v y):Sl (Av (vis V w0 w (Ac E (bk++F)))) k w w.heap.size v m:=by
 unfold Bh8 at h
 split at h
 ·rename_i k' m'
  split at h
  ·rename_i e
   obtain rfl:=Option.some.inj h
   subst e
   cases hv with
   | iv hr=>exact (hr.to_sl).ext (fun _ _ h=>h) hs.in_
  ·cases h
 ·rename_i b
  split at h
  ·rename_i b' e k' m' hb
   split at h
   ·rename_i ek
    obtain rfl:=Option.some.inj h
    subst ek
    obtain ⟨q1,q2⟩:=Ga hb
    obtain rfl:b'=b:=q2
    obtain ⟨q3,_⟩:=hs.holds _ (List.mem_append_left _ q1)
    cases hv with
    | own he=>rw [he] at q3;exact q3.sl
   ·cases h
  ·cases h
 ·obtain rfl:=Option.some.inj h
  cases hv
  exact Sl.nil_ (by unfold maxLen;omega) _
 ·cases h
theorem An0 {t:TypeId} {x y:Operand} (h:Ag P t (L x) (L y) (cid dst) bk K):Upd P G ⟨dst,.call { callee:=.builtin .append,args:=#[x,y],argTypes:=#[t,t] },ty,pos,after,gd⟩ L bk K:=by
 unfold Ag at h
 split at h
 case h_2=>exact h.elim
 rename_i e k yb ht
 obtain ⟨hk,hyb,hzs,h⟩:=h
 obtain ⟨inf,z,i1,i2,i3,i4,i5⟩:=Zn ht hzs
 obtain ⟨hu,_⟩:=C3 ht
 have exec:∀ {a:Act} {w:World} {v v2 v':Value} {w':World},a.eval x=v->a.eval y=v2->(Builtin.append_ #[t,t] ty #[v,v2]).run P w=.ok v' w'->(execOp a.eval ⟨dst,.call { callee:=.builtin .append,args:=#[x,y],argTypes:=#[t,t] },ty,pos,after,gd⟩).run P w=.ok (.value v') w':=fun {a w v v2 v' w'} h1 h2 h3=>by
  simp [execOp,resolve,invoke,builtin,h1,h2,h3]
 -- behind the append
 have fin:∀ {V w0:World} {n:Fm} {E:Env} {fr:List (Nat×AV)} {pre mid post:List BA} {a:Act} {w w':World} {v v':Value} {l m:List (List IV)},St V w0 n E ⟨fr,pre++(mid++post)⟩ a w->Lc (cid dst) (cid dst+100) fr=true->J9 (cid dst) (cid dst+100) (pre++post)=true ->
   Ac E mid=v.ownBlock.toList->Ai (Av (vis V w0 w (Ac E (pre++(mid++post))))) k w' w0.heap.size e v' (l++m)->w.grownBy w' v.ownBlock->(v'.ownBlock=v.ownBlock\/v'.ownBlock=some w.heap.size) ->
   ∃ E',St V w0 n E' ⟨fr,[.row (cid dst) e k (l++m)]++(pre++post)⟩ a w'/\Au E' (vis V w0 w' (Ac E' ([.row (cid dst) e k (l++m)]++(pre++post)))) v' (.own (cid dst)):=fun {V w0 n E fr pre mid post a w w' v v' l m} hs h1 h2 ho hO hg hv'=>by
  obtain ⟨A,cc,hform⟩:=hO.form
  let E':Env:=⟨fun b=>if b=cid dst then (v'.ownBlock).getD 0 else E.blk b,fun b=>if b=cid dst then v' else E.row b⟩
  have hE:Env.same (cid dst) (cid dst+100) E E':=fun b hb=>by
   have:¬ b=cid dst:=by omega
   simp [E',this]
  have hrow:E'.row (cid dst)=v':=by simp [E']
  have hown:Ac E' [.row (cid dst) e k (l++m)]=v'.ownBlock.toList:=by simp [Ac,BA.owned,hrow]
  have hgs:∀ g,g∉Ac E mid->g < w.heap.size->w'.heap[g]? = w.heap[g]? := fun g hm hlt=>hg.block g hlt fun e=>hm (by rw [ho];simp [<-e])
  have hnew:∀ g∈Ac E' [.row (cid dst) e k (l++m)],g∈Ac E mid\/w.heap.size<=g:=fun g hg'=>by
   rw [hown,Option.mem_toList] at hg'
   rcases hv' with h | h
   ·left;rw [ho,Option.mem_toList,<-h];exact hg'
   ·right;rw [h] at hg';have:=Option.some.inj hg';omega
  have hx:=Ae2 (V:=V) (w0:=w0) (E':=E') (nb:=[.row (cid dst) e k (l++m)]) hs.lt hgs hg.size hnew
  have hst:=hs.swap (E':=E') (nb:=[.row (cid dst) e k (l++m)]) hgs hg.size (hs.low.grown hg hs.low.size fun g hg'=>hs.base g (by simp only [Am,List.mem_append];exact .inr (.inl (by rw [ho,hg'];simp)))) hE h1 h2
   (by rw [hown];cases v'.ownBlock<;>simp) hnew (fun b hb=>by
    simp only [List.mem_singleton] at hb
    subst hb
    refine ⟨?_,fun g hg'=>?_⟩
    ·rw [hrow]
     exact hO.mono fun _ _ h=>h.ext hx
    ·rw [hrow] at hg'
     simp [E',hg'])
  refine ⟨E',hst,?_⟩
  rw [hform]
  exact .own (by rw [hrow];exact hform)
 split at h
 ·rename_i b m hx hy
  split at h
  ·rename_i b' e' k' l hb
   obtain ⟨rfl,rfl,hlm,hK⟩:=h
   refine ⟨_,_,hK,fun V w0 n E a w fr F hs hL hfr _ N Q hN ro=>Ft (fun _ h=>by cases h) ?_⟩
   obtain ⟨hf,hf2⟩:=hfr rfl
   obtain ⟨pre,post,p1,p2,p3⟩:=Do hb
   obtain rfl:b'=b:=p2
   have hyv:=B14 hs hy (hL y).nrm_
   subst p1
   simp only [List.append_assoc,List.cons_append] at hs hL hN hf hf2 hyv
   obtain ⟨hO,hB⟩:=hs.holds (.row b' e' k' l) (by simp)
   have hxv:=(hL x).nrm_
   rw [hx] at hxv
   generalize hxe:a.eval x=u at hxv
   cases hxv with
   | @own _ A mm cc he =>
    obtain ⟨v',w',r1,r2,r3,r4⟩:=Nx (P:=P) (fun cs x h=>h.one) ty t w0.heap.size e' inf z yb hu i1 i2 i3 i4 i5 hk _ l hO w.heap.size _ m hyv hlm hyb hs.low.size
    have hs':St V w0 n E ⟨fr,pre++([.row b' e' k' l]++(post++F))⟩ a w:=by simpa using hs
    have e0:Ac E (pre++BA.row b' e' k' l :: (post++F))=Ac E (pre++([.row b' e' k' l]++(post++F))):=by simp
    simp only [e0] at r2
    have hoff:J9 (cid dst) (cid dst+100) (pre++(post++F))=true:=by
     have key:∀ (p q:List BA),J9 (cid dst) (cid dst+100) (p++BA.row b' e' k' l :: q)=true->J9 (cid dst) (cid dst+100) (p++q)=true:=by
      intro p q
      induction p with
      | nil=>intro h;simp only [List.nil_append,J9,Bool.and_eq_true] at h ⊢;exact h.2
      | cons y p ih=>intro h;simp only [List.cons_append,J9,Bool.and_eq_true] at h ⊢;exact ⟨h.1,ih h.2⟩
     exact key pre (post++F) hf2
    obtain ⟨E',f1,f2⟩:=fin (v:=E.row b') hs' hf hoff (by simp [Ac,BA.owned]) r2 r3 r4
    unfold Oper.wp
    rw [exec (hxe.trans he.symm) rfl r1,Oper.upon_value]
    have e1:Cg b' [] (pre++BA.row b' e' k' l :: post)=pre++post:=by rw [p3];rfl
    exact hN _ _ E' (by rw [e1];simpa using f1) (by rw [e1];simpa using f2)
  ·exact h.elim
 ·rename_i m hx hy
  obtain ⟨hlm,hK⟩:=h
  refine ⟨_,_,hK,fun V w0 n E a w fr F hs hL hfr _ N Q hN ro=>Ft (fun _ h=>by cases h) ?_⟩
  obtain ⟨hf,hf2⟩:=hfr rfl
  have hyv:=B14 hs hy (hL y).nrm_
  have hxv:=(hL x).nrm_
  rw [hx] at hxv
  generalize hxe:a.eval x=u at hxv
  cases hxv
  obtain ⟨v',w',r1,r2,r3,r4⟩:=Nx (P:=P) (fun cs x h=>h.one) ty t w0.heap.size e inf z yb hu i1 i2 i3 i4 i5 hk _ [] (Ai.nil_ _ _ _) w.heap.size _ m hyv (by simpa using hlm) hyb hs.low.size
  obtain ⟨E',f1,f2⟩:=fin (pre:=[]) (mid:=[]) (post:=bk++F) (fr:=fr) (v:=.slice none 0 0) (l:=[]) hs hf hf2 rfl r2 r3 r4
  unfold Oper.wp
  rw [exec hxe rfl r1,Oper.upon_value]
  exact hN _ _ E' (by simpa using f1) (by simpa using f2)
 ·exact h.elim
end
end Go.Proofs.YtahgkllhbggmgaaGreatDoor
