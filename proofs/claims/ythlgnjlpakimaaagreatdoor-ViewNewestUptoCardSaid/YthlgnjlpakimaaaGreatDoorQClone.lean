/- Contracts of slices.Clone, one for each element type. -/
import Derived.Test.YthlgnjlpakimaaaGreatDoorQOwn
import Derived.Test.YthlgnjlpakimaaaGreatDoorQVec
import Derived.Orders
import Derived.RangeFuncNested
import Derived.RangeFuncBound
import Derived.RangeFuncCalls
import Derived.RangeFuncLeaves
import Derived.Test.YthlgnjlpakimaaaGreatDoorQNoteWalk
set_option linter.all false
set_option linter.unnecessarySimpa false
set_option linter.unusedSimpArgs false
set_option linter.unusedVariables false
namespace Go.Proofs.YthlgnjlpakimaaaGreatDoor
open Go.ChangeShapes Go.WideShapes Go.ChangeAt Go.RowKit
structure Ext (w w':World):Prop where
 size:w.heap.size<=w'.heap.size
 cell:∀ p u,w.cell? p=some u->w'.cell? p=some u
theorem Ext.refl (w:World):Ext w w:=⟨Nat.le_refl _,fun _ _ h=>h⟩
theorem Ext.trans {a b c:World} (h:Ext a b) (k:Ext b c):Ext a c:=⟨Nat.le_trans h.size k.size,fun p u hp=>k.cell p u (h.cell p u hp)⟩
theorem Ext.of_below {w w':World} (h:Below w.heap.size w w'):Ext w w':=⟨h.size,fun _ _ hp=>Ax h hp⟩
theorem BW.ext {w:World} (z:BW w):Ext w z.val:=Ext.of_below z.below
section
variable {α : Type} {R R' : List Value -> α -> Prop} {k : Nat} {w w' : World} {v : Value} {l : List α}
theorem Sl.ext (h:Sl R k w w.heap.size v l) (hR:∀ cs x,R cs x->R' cs x) (he:Ext w w'):Sl R' k w' w'.heap.size v l:=by
 obtain ⟨A,c,hv,h1,h2,h3⟩:=h
 refine ⟨A,c,hv,h1,h2,fun hne=>?_⟩
 obtain ⟨b,off,hA,hb,h4⟩:=h3 hne
 refine ⟨b,off,hA,Nat.lt_of_lt_of_le hb he.size,fun i x hx=>?_⟩
 obtain ⟨cs,h5,h6,h7⟩:=h4 i x hx
 exact ⟨cs,hR _ _ h5,h6,fun j u hu=>he.cell _ _ (h7 j u hu)⟩
end
def R8 (w:World) (g:Nat):World:={ w with heap:=w.heap.setIfInBounds g (.cells #[] 0) }
theorem N0 (w:World) (g:Nat):(R8 w g).heap.size=w.heap.size:=by simp [R8]
theorem Wf (w:World) {g:Nat} {p:Addr} (h:p.block≠g):(R8 w g).cell? p=w.cell? p:=by
 refine World.cell?_of_block ?_
 simp [R8,Ne.symm h]
theorem Ai5 (w:World) {g:Nat} {p:Addr} {u:Value} (h:(R8 w g).cell? p=some u):p.block≠g:=by
 intro e
 have hlt:=World.block_lt_of_cell? _ p h
 rw [N0] at hlt
 unfold World.cell? R8 at h
 subst e
 simp only [Array.getElem?_setIfInBounds,if_pos,if_pos hlt] at h
 split at h<;>simp_all
theorem C05 (w:World) (g:Nat):Ext (R8 w g) w:=⟨by rw [N0];exact Nat.le_refl _,fun p u h=>by rw [<-Wf w (Ai5 w h)];exact h⟩
theorem C04 {w w':World} {g':Nat} (h:Ext w w') (hg:w.heap.size<=g'):Ext w (R8 w' g') :=
 ⟨by rw [N0];exact h.size,fun p u hp=>by
  have hlt:=World.block_lt_of_cell? _ p hp
  rw [Wf w' (by omega)]
  exact h.cell p u hp⟩
def Ku (w:World) (v:Value):World:=match v.ownBlock with
 | none=>w
 | some g=>R8 w g
theorem Ba3 (w:World) (v:Value):(Ku w v).heap.size=w.heap.size:=by
 unfold Ku;split
 ·rfl
 ·exact N0 _ _
theorem Ai7 (w:World) (v:Value):Ext (Ku w v) w:=by
 unfold Ku;split
 ·exact Ext.refl _
 ·exact C05 _ _
theorem Ba4 {W w:World} {v:Value} (h:Ext W w) (hg:∀ g,v.ownBlock=some g->W.heap.size<=g):Ext W (Ku w v):=by
 unfold Ku;split
 ·exact h
 ·exact C04 h (hg _ ‹_›)
def Ln (V w0 w:World):World:={ w with heap:=Array.ofFn (n:=w.heap.size) fun i=>if i.val < w0.heap.size then (V.heap[i.val]?).getD (.cells #[] 0) else w.heap[i.val] }
theorem L4 (V w0 w:World):(Ln V w0 w).heap.size=w.heap.size:=by simp [Ln]
theorem Zt {V w0 w:World} {p:Addr} (h:p.block < w0.heap.size) (h':p.block < w.heap.size):(Ln V w0 w).cell? p=V.cell? p:=by
 unfold World.cell? Ln
 simp only [Array.getElem?_ofFn,dif_pos h',if_pos h]
 cases V.heap[p.block]? with
 | none=>simp
 | some o=>rfl
theorem We {V w0 w:World} {p:Addr} (h:w0.heap.size<=p.block):(Ln V w0 w).cell? p=w.cell? p:=by
 unfold World.cell? Ln
 by_cases h':p.block < w.heap.size
 ·simp only [Array.getElem?_ofFn,dif_pos h',if_neg (Nat.not_lt.2 h)]
  rw [Array.getElem?_eq_getElem h']
 ·rw [Array.getElem?_eq_none (by simpa using h'),Array.getElem?_eq_none (by simpa using h')]
theorem Ai4 {V w0 w:World} {p:Addr} {u:Value} (h:(Ln V w0 w).cell? p=some u):p.block < w.heap.size/\(p.block < w0.heap.size/\V.cell? p=some u\/w0.heap.size<=p.block/\w.cell? p=some u):=by
 have hlt:=World.block_lt_of_cell? _ p h
 rw [L4] at hlt
 refine ⟨hlt,?_⟩
 by_cases hp:p.block < w0.heap.size
 ·exact .inl ⟨hp,by rw [<-h,Zt hp hlt]⟩
 ·exact .inr ⟨Nat.not_lt.1 hp,by rw [<-h,We (Nat.not_lt.1 hp)]⟩
theorem C02 {V w0 w:World} (h:Ext V w0) (hw:w0.heap.size<=w.heap.size):Ext V (Ln V w0 w) :=
 ⟨by rw [L4];exact Nat.le_trans h.size hw,fun p u hp=>by
  have hlt:=Nat.lt_of_lt_of_le (World.block_lt_of_cell? V p hp) h.size
  rw [Zt hlt (Nat.lt_of_lt_of_le hlt hw)];exact hp⟩
theorem As5 {V w0 w:World} (h:Ext V w0) (hb:Below w0.heap.size w0 w):Ext (Ln V w0 w) w :=
 ⟨by rw [L4];exact Nat.le_refl _,fun p u hp=>by
  rcases (Ai4 hp).2 with ⟨_,h2⟩ | ⟨_,h2⟩
  ·exact Ax hb (h.cell p u h2)
  ·exact h2⟩
theorem As6 {V w0 w w':World} (hb:Below w.heap.size w w'):Ext (Ln V w0 w) (Ln V w0 w') :=
 ⟨by rw [L4,L4];exact hb.size,fun p u hp=>by
  obtain ⟨h1,h2⟩:=Ai4 hp
  have h3:p.block < w'.heap.size:=Nat.lt_of_lt_of_le h1 hb.size
  rcases h2 with ⟨h2,h4⟩ | ⟨h2,h4⟩
  ·rw [Zt h2 h3];exact h4
  ·rw [We h2];exact Ax hb h4⟩
theorem C01 {V W z w':World} (h:Ext V W) (hz:W.heap.size<=z.heap.size):Ext (Ln V z w') (Ln V W w') :=
 ⟨by rw [L4,L4];exact Nat.le_refl _,fun p u hp=>by
  obtain ⟨h1,h2⟩:=Ai4 hp
  rcases h2 with ⟨_,h4⟩ | ⟨h2,h4⟩
  ·have hlt:=Nat.lt_of_lt_of_le (World.block_lt_of_cell? V p h4) h.size
   rw [Zt hlt h1];exact h4
  ·rw [We (Nat.le_trans hz h2)];exact h4⟩
theorem A53 {V w0 w w':World} (v:Value) (hb:Below w.heap.size w w'):Ext (Ku (Ln V w0 w) v) (Ku (Ln V w0 w') v):=by
 have h:=As6 (V:=V) (w0:=w0) hb
 unfold Ku;split
 ·exact h
 ·refine ⟨by rw [N0,N0];exact h.size,fun p u hp=>?_⟩
  have hne:=Ai5 _ hp
  rw [Wf _ hne] at hp ⊢
  exact h.cell p u hp
theorem Ai6 (V w0 w:World) (g i A n c:Nat) (u:Value):Ku (Ln V w0 (w.setCell ⟨g,i,none⟩ u)) (.slice (some ⟨g,A,none⟩) n c)=Ku (Ln V w0 w) (.slice (some ⟨g,A,none⟩) n c):=by
 simp only [Ku,Value.ownBlock,R8,Ln,World.setCell]
 congr 1
 apply Array.ext_getElem?
 intro j
 by_cases e:g=j
 ·subst e;simp [Array.getElem?_setIfInBounds]
 ·simp only [Array.getElem?_setIfInBounds,if_neg e,Array.getElem?_ofFn,Array.size_modify]
  split
  ·split
   ·rfl
   ·simp [Array.getElem_modify,e]
  ·rfl
def C50 {α:Type} (R:World->List Value->α->Prop):Prop:=∀ w w' cs x,Ext w w'->R w cs x->R w' cs x
def Uc {α:Type} (R:World->List Value->α->Prop) (k:Nat) (V w0 w:World) (base:Nat) (e:TypeId) (v:Value) (l:List α):Prop:=Ah (R (Ku (Ln V w0 w) v)) k w base e v l
section
variable {α : Type} {R : World -> List Value -> α -> Prop} {k : Nat} {V w0 w w' : World} {base : Nat} {e : TypeId} {v : Value} {l : List α}
theorem Uc.next (h:Uc R k V w0 w base e v l) (hR:C50 R) (hb:Below w.heap.size w w'):Uc R k V w0 w' base e v l :=
 (Ah.next h hb).mono fun cs x hx=>hR _ _ cs x (A53 v hb) hx
theorem Uc.lt (h:Uc R k V w0 w base e v l):∀ g,v.ownBlock=some g->base<=g/\g < w.heap.size:=Ah.lt h
theorem Uc.sl (h:Uc R k V w0 w base e v l) (hR:C50 R) (hb:w0.heap.size<=base):Sl (R (Ln V w0 w)) k (Ln V w0 w) (Ln V w0 w).heap.size v l:=by
 have hlt:=h.lt
 obtain ⟨A,c,hv,h1,h2,h3⟩:=Ah.sl h
 refine ⟨A,c,hv,h1,h2,fun hne=>?_⟩
 obtain ⟨b,off,hA,hbb,h4⟩:=h3 hne
 subst hv hA
 have hbl:=(hlt b rfl).1
 refine ⟨b,off,rfl,by rw [L4];exact hbb,fun i x hx=>?_⟩
 obtain ⟨cs,h5,h6,h7⟩:=h4 i x hx
 exact ⟨cs,hR _ _ cs x (Ai7 _ _) h5,h6,fun j u hu=>by rw [We (Nat.le_trans hb hbl)];exact h7 j u hu⟩
theorem Uc.of_sl (h:Ah (R V) k w base e v l) (hR:C50 R) (hV:Ext V w0) (hw:w0.heap.size<=w.heap.size) (hb:w0.heap.size<=base):Uc R k V w0 w base e v l :=
 h.mono fun cs x hx=>hR _ _ cs x (Ba4 (C02 hV hw) fun g hg=>Nat.le_trans hV.size (Nat.le_trans hb (h.lt g hg).1)) hx
theorem Uc.set_ {g c i j:Nat} {u:Value} {x x':α} (h:Uc R k V w0 w base e (.slice (some ⟨g,0,none⟩) l.length c) l) (hi:l[i]? = some x) (hj:j < k)
  (hR:∀ cs,R (R8 (Ln V w0 w) g) cs x->cs.length=k->R (R8 (Ln V w0 w) g) (cs.set j u) x'):Uc R k V w0 (w.setCell ⟨g,i*k+j,none⟩ u) base e (.slice (some ⟨g,0,none⟩) (l.set i x').length c) (l.set i x'):=by
 unfold Uc
 rw [Ai6]
 have h2:=Ah.set_ (x':=x') h hi hj hR
 rw [List.length_set]
 exact h2
theorem Ah.apart {β:Type} {S:List Value->β->Prop} {k':Nat} {base':Nat} {e':TypeId} {v':Value} {m:List β} (h:Ah S k' w base' e' v' m) (hw:w0.heap.size<=base') (hv:∀ g,v.ownBlock=some g->g < base'):Sl S k' (Ku (Ln V w0 w) v) (Ku (Ln V w0 w) v).heap.size v' m:=by
 obtain ⟨A,c,hv',h1,h2,h3⟩:=h.sl
 refine ⟨A,c,hv',h1,h2,fun hne=>?_⟩
 obtain ⟨b,off,hA,hb,h4⟩:=h3 hne
 subst hv' hA
 have hlt:=(h.lt b rfl).1
 refine ⟨b,off,rfl,by rw [Ba3,L4];exact hb,fun i x hx=>?_⟩
 obtain ⟨cs,h5,h6,h7⟩:=h4 i x hx
 refine ⟨cs,h5,h6,fun j u hu=>?_⟩
 rw [<-h7 j u hu,<-We (V:=V) (w0:=w0) (w:=w) (p:=⟨b,off+i*k'+j,none⟩) (Nat.le_trans hw hlt)]
 unfold Ku
 split
 ·rfl
 ·refine Wf _ ?_
  have:=hv _ ‹_›
  show b≠_
  omega
end
section
variable {P : Program}
theorem Lc {e:TypeId} {size bytes:Nat} (h:(P.info? e).map (fun i=>(i.zero.map (·.cells.size),i.size,i.bytes))=some (some size,size,bytes)) :
  ∃ i z,P.info? e=some i/\i.zero=some z/\z.cells.size=size/\i.size=size/\i.bytes=bytes:=by
 obtain ⟨i,hi,hzz⟩:=Option.map_eq_some_iff.1 h
 simp only [Prod.mk.injEq] at hzz
 obtain ⟨z,hz,hc⟩:=Option.map_eq_some_iff.1 hzz.1
 exact ⟨i,z,hi,hz,hc,hzz.2.1,hzz.2.2⟩
end
section
variable {P : Program}
def Bl9 (K:Act->World->Prop) (Q:Exit->Act->World->Prop):Exit->Act->World->Prop
 | .normal=>K
 | e=>Q e
def Ub (f:Nat->Bool):Nat->Nat
 | 0=>0
 | n+1=>Ub f n+if f n then 1 else 0
theorem Be3 {f g:Nat->Bool} (h:∀ i,f i=true->g i=true):∀ n,Ub f n<=Ub g n
 | 0=>Nat.le_refl _
 | n+1=>by
  have:=Be3 h n
  unfold Ub
  by_cases hf:f n=true
  ·rw [if_pos hf,if_pos (h n hf)];omega
  ·rw [if_neg hf];split<;>omega
theorem Be2 {f g:Nat->Bool} (h:∀ i,f i=true->g i=true) {k:Nat} (h1:f k=false) (h2:g k=true):∀ n,k < n->Ub f n < Ub g n
 | 0,hk=>by omega
 | n+1,hk=>by
  unfold Ub
  by_cases e:k=n
  ·subst e
   have:=Be3 h k
   rw [h1,h2]
   simp
   omega
  ·have:=Be2 h h1 h2 n (by omega)
   by_cases hf:f n=true
   ·rw [if_pos hf,if_pos (h n hf)];omega
   ·rw [if_neg hf];split<;>omega
theorem Al0 {f:Nat->Bool} : ∀ {n:Nat},Ub f n=0->∀ i,i < n->f i=false
 | 0,_,_,hi=>by omega
 | n+1,h,i,hi=>by
  unfold Ub at h
  by_cases e:i=n
  ·subst e
   cases hf:f i with
   | false=>rfl
   | true=>rw [hf] at h;simp at h
  ·exact Al0 (n:=n) (by omega) i (by omega)
theorem Au4 {f:Nat->Bool} : ∀ {n:Nat},(∃ i,i < n/\f i=true)->∃ i,i < n/\f i=true/\∀ j,j < i->f j=false
 | 0,⟨i,hi,_⟩=>by omega
 | n+1,⟨i,hi,hf⟩=>by
  by_cases h:∃ j,j < n/\f j=true
  ·obtain ⟨k,h1,h2,h3⟩:=Au4 (n:=n) h
   exact ⟨k,by omega,h2,h3⟩
  ·have:i=n:=by
    rcases Nat.lt_or_ge i n with c | c
    ·exact absurd ⟨i,c,hf⟩ h
    ·omega
   subst this
   refine ⟨i,by omega,hf,fun j hj=>?_⟩
   cases hfj:f j with
   | false=>rfl
   | true=>exact absurd ⟨j,hj,hfj⟩ h
def Ba8 (ops:Array Oper):Bool:=(List.range ops.size).all fun i=>((ops[i]?).map fun o=>o.after.all fun e=>!Region.binds .any e || decide (e.on < i)).getD false
end
def Dj1 {α:Type} (F:Fence) (n:Nat) (P:Program) (g:Nat) (lb:Array Value) (encs:α->Array Value) (Rd:α->World->Prop) (Kp:World->World->Prop) (S Sp:List α->Prop) (N:Nat) (w:World):Prop :=
 ∀ (l:Nat) (J Jx:List α->World->Prop) (W:World),Below w.heap.size w W->AbidesFrom W.heap.size J->AbidesFrom W.heap.size Jx ->
  (∀ pre x W1,J pre W1->Rd x W1->pre.length < N->YieldAt F (n - 1) P l (encs x) W1 fun e W' =>
   (e=.returned (.bool true)/\J (pre++[x]) W'/\Kp W1 W')\/(e=.returned (.bool false)/\Jx (pre++[x]) W')) ->
  J [] W ->
  CallsIn F n P g (#[.func (.yield l) #[] #[]]++lb) W fun e W'=>(∃ v,e=.returned v)/\((∃ xs,S xs/\J xs W')\/(∃ pre,Sp pre/\Jx pre W'))
structure G4 (l K:Nat) (mk:LoopState->Option Code->Loop) (st:LoopState) (pe:Option Code) (W:World):Prop where
 rec_:W.heap[l]? = some (.loop (mk st pe))
 dfr:W.heap[K]? = some (.deferred (some []))
variable {F : Fence} {n : Nat} {P : Program}
end Go.Proofs.YthlgnjlpakimaaaGreatDoor
namespace Go.Proofs.YthlgnjlpakimaaaGreatDoor
open Go.ChangeShapes Go.WideShapes Go.ChangeAt Go.RowKit
structure G9 (B:Nat) (Ds:List Nat) (W:World):Prop where
 nodup:Ds.Nodup
 at_:∀ D∈Ds,B<=D/\W.heap[D]? = some (.deferred (some []))
def Ra (Ds:List Nat):List Deferred:=Ds.map fun D=>{ target:=.collected D,args:=#[] }
def shut:List Nat->World->World
 | [],W=>W
 | D :: Ds,W=>shut Ds (W.putObj D (.deferred none))
theorem G9.nil (B:Nat) (W:World):G9 B [] W:=⟨List.nodup_nil,fun _ h=>by cases h⟩
theorem G9.tail {B:Nat} {D:Nat} {Ds:List Nat} {W:World} (h:G9 B (D :: Ds) W):G9 B Ds (W.putObj D (.deferred none)) :=
 ⟨(List.nodup_cons.1 h.nodup).2,fun E hE=>⟨(h.at_ E (List.mem_cons_of_mem _ hE)).1,(World.putObj_heap_other (fun e=>(List.nodup_cons.1 h.nodup).1 (by rw [<-e];exact hE))).trans (h.at_ E (List.mem_cons_of_mem _ hE)).2⟩⟩
theorem G9.more {B D:Nat} {Ds:List Nat} {W:World} (h:G9 B Ds W) (hlt:∀ E∈Ds,E < D) (hB:B<=D) (hD:W.heap[D]? = some (.deferred (some []))):G9 B (D :: Ds) W :=
 ⟨List.nodup_cons.2 ⟨fun hm=>by have:=hlt D hm;omega,h.nodup⟩,fun E hE=>by
  rcases List.mem_cons.1 hE with rfl | hE
  ·exact ⟨hB,hD⟩
  ·exact h.at_ E hE⟩
theorem G9.lt {B:Nat} {Ds:List Nat} {W:World} (h:G9 B Ds W):∀ E∈Ds,E < W.heap.size:=fun E hE=>(Array.getElem?_eq_some_iff.1 (h.at_ E hE).2).1
theorem C07 {B B':Nat} {β:Type} (Ds:List Nat) (hlt:∀ E∈Ds,E < B'):OwnFrom B' (fun (_:β) W=>G9 B Ds W):=fun _ X Y row hs hg hr =>
 ⟨hs.nodup,fun D hD=>⟨(hs.at_ D hD).1,by
  have h:=(hs.at_ D hD).2
  refine (hg.block D (Array.getElem?_eq_some_iff.1 h).1 fun e=>?_).trans h
  have:=(hr D e.symm).1
  have:=hlt D hD
  omega⟩⟩
theorem G9.next {B:Nat} {Ds:List Nat} {W W':World} (h:G9 B Ds W) (hb:Below W.heap.size W W'):G9 B Ds W':=⟨h.nodup,fun D hD=>⟨(h.at_ D hD).1,(hb.block D (h.lt D hD)).trans (h.at_ D hD).2⟩⟩
theorem G9.keeps {B:Nat} {Ds:List Nat} {W W':World} (h:G9 B Ds W) (hk:KeepsOthers W W'):G9 B Ds W':=⟨h.nodup,fun D hD=>⟨(h.at_ D hD).1,hk.same D _ (h.at_ D hD).2 rfl⟩⟩
theorem G9.own {B B':Nat} {β:Type} {I:β->World->Prop} (hI:OwnFrom B' I) (hB:B'<=B) {s:β} : ∀ (Ds:List Nat) (W:World),G9 B Ds W->I s W->I s (shut Ds W):=by
 intro Ds
 induction Ds with
 | nil=>exact fun _ _ h=>h
 | cons D Ds ih =>
  intro W h hs
  exact ih _ h.tail (hI.putObj _ hs (by have:=(h.at_ D (List.mem_cons_self ..)).1;omega) (h.at_ D (List.mem_cons_self ..)).2 rfl)
theorem Ps {F:Fence} {n:Nat} {P:Program} {fn:Func} {tmps:Array Value} {R:Ending->World->Prop} {B:Nat} : ∀ (Ds:List Nat) (W:World),G9 B Ds W ->
  (∃ v,(results fn tmps).run P (shut Ds W)=.ok v (shut Ds W)/\R (.returned v) (shut Ds W))->LeavesInM F n P fn tmps R (Ra Ds) .returning W:=by
 intro Ds
 induction Ds with
 | nil=>exact fun _ _ h=>h
 | cons D Ds ih=>exact fun W hm h=>⟨by simp,.inl ⟨D,_,rfl,run_takeDeferred (hm.at_ D (List.mem_cons_self ..)).2,ih _ hm.tail h⟩⟩
theorem Ca3:∀ cs x,Es cs x->∀ u∈cs,u.oneCell'=true:=by
 rintro cs x ⟨rfl,_⟩ u hu;simp at hu;rcases hu with rfl | rfl<;>rfl
theorem Bz2:∀ cs x,H9 cs x->∀ u∈cs,u.oneCell'=true:=by
 rintro cs x ⟨rfl,_⟩ u hu;simp at hu;rcases hu with rfl | rfl<;>rfl
theorem Bz1:∀ cs x,Yq cs x->∀ u∈cs,u.oneCell'=true:=by
 rintro cs x ⟨rfl,_⟩ u hu;simp at hu;rcases hu with rfl | rfl | rfl | rfl<;>rfl
theorem Sl.one {α:Type} {R:List Value->α->Prop} {k:Nat} {w:World} {B:Nat} {v:Value} {l:List α} (h:Sl R k w B v l):v.oneCell'=true:=by
 obtain ⟨A,c,rfl,_⟩:=h;rfl
theorem Cj1:∀ w cs x,B15 w w.heap.size cs x->∀ u∈cs,u.oneCell'=true:=by
 rintro w cs x ⟨v,rfl,_,_,_,hv⟩ u hu;simp at hu;rcases hu with rfl | rfl | rfl | rfl | rfl | rfl | rfl<;>first | rfl | exact hv.one
theorem Cj2:∀ w cs x,B17 w w.heap.size cs x->∀ u∈cs,u.oneCell'=true:=by
 rintro w cs x ⟨v,rfl,_,_,_,_,hv⟩ u hu;simp at hu;rcases hu with rfl | rfl | rfl | rfl | rfl<;>first | rfl | exact hv.one
theorem Cs9:C50 (fun w=>B17 w w.heap.size):=fun _ _ _ _ he ⟨v,e,h1,h2,h3,h4,hv⟩=>⟨v,e,h1,h2,h3,h4,hv.ext (fun _ _ h=>h) he⟩
theorem Ax8 {w:World} {B:Nat} {v:Value} {l:List Out} (h:Ab2 w B v l) {m:Nat} {x:Out} (hx:l[m]? = some x) :
  ∃ b off c vi,v=.slice (some ⟨b,off,none⟩) l.length c/\b < B/\w.cell? ⟨b,off+m*5,none⟩=some (.int .i64 x.to_)/\w.cell? ⟨b,off+m*5+1,none⟩=some (.int .i64 x.session) /\
   w.cell? ⟨b,off+m*5+2,none⟩=some vi/\w.cell? ⟨b,off+m*5+3,none⟩=some (.int .i64 x.at_)/\w.cell? ⟨b,off+m*5+4,none⟩=some (.int .i64 x.seq)/\Dl w B vi x.interest/\I64 x.to_/\I64 x.session/\I64 x.at_/\I64 x.seq:=by
 obtain ⟨A,c,rfl,_,_,h3⟩:=h
 obtain ⟨b,off,rfl,hb,h4⟩:=h3 (by rintro rfl;simp at hx)
 obtain ⟨cs,⟨vi,rfl,i1,i2,i3,i4,hv⟩,_,h5⟩:=h4 m x hx
 exact ⟨b,off,c,vi,rfl,hb,h5 0 _ rfl,h5 1 _ rfl,h5 2 _ rfl,h5 3 _ rfl,h5 4 _ rfl,hv,i1,i2,i3,i4⟩
theorem B01:C50 (fun w=>B15 w w.heap.size):=fun _ _ _ _ he ⟨v,e,h1,h2,h3,hv⟩=>⟨v,e,h1,h2,h3,hv.ext (fun _ _ h=>h) he⟩
theorem K6 {α:Type} {R:List Value->α->Prop} {k:Nat} (w:World) (e:TypeId):Ah R k (w.alloc (.cells #[] e)) w.heap.size e (.slice (some ⟨w.heap.size,0,none⟩) 0 0) [] :=
 ⟨[],⟨by simp,.inr ⟨_,0,#[],rfl,Nat.le_refl _,heap_alloc_new w _,Nat.le_refl _,Nat.zero_le _,by simp,by simp⟩⟩,rfl,Nat.zero_le _⟩
theorem Bb5:(Tryz.prog.info? 66).map (fun i=>(i.zero.map (·.cells.size),i.size,i.bytes))=some (some 2,2,16):=by kernel_rfl
theorem Al2 (l:List Ad) (v:Value) (w:World) (h:Dl w w.heap.size v l) :
  Calls Tryz.prog 166 #[v] w fun e w'=>(∃ v',e=.returned v'/\Ah Es 2 w' w.heap.size 66 v' l)/\Below w.heap.size w w':=by
 have hle:=h.len_le
 obtain ⟨i0,z0,hi,hz0,hzs,hz1,hz2⟩:=Lc Bb5
 obtain ⟨A,c,rfl,-,-,hne⟩:=id h
 have he:=fun (w:World) (a:Option Addr) (n c:Nat)=>Lib.run_eql_slice_nil (P:=Tryz.prog) w 35 66 a n c 0 0 Tryz.underlying35
 cases A with
 | none =>
  obtain rfl:l=[]:=by
   rcases l with _ | ⟨y,l⟩
   ·rfl
   ·obtain ⟨b,off,h1,_⟩:=hne (by simp)
    cases h1
  clear hne h
  go_enter Tryz.func166,Tryz.ntmps166
  go_wp2_with fail
  go_ret
  exact ⟨⟨_,rfl,Ah.nil_ _ _ _⟩,Below.refl _ _⟩
 | some A =>
  have HH:=Lib.hid h
  clear hne h
  go_enter Tryz.func166,Tryz.ntmps166
  go_wp2_with (at_builtin;refine D0 _ (Ca3) rfl (.tmp 5) (.tmp 6) 35 rfl w.heap.size 66 i0 _ 16 Tryz.underlying35 hi hz0 hz1 hz2 hzs (by omega) _ [] rfl (K6 (R:=Es) (k:=2) w 66) w.heap.size _ l rfl (HH.out.keep (fun _ _ h=>h) (Nat.le_refl _) (fun p hp=>World.cell?_alloc_lt _ _ _ hp)) (by simp only [List.length_nil];omega) (by omega) (by simp) ?_;intro v1 w1 hown hgr hat)
  simp only [List.nil_append] at hown
  have hb1:Below w.heap.size w w1:=(Aj (Below.refl _ _)).grown hgr (by simp) (fun k hk=>Nat.le_of_eq (Option.some.inj hk))
  have H1:=Lib.hid hown
  clear hown hgr hat hi hz0 hz1 hz2 hzs
  go_wp2_with fail
  go_ret
  exact ⟨⟨_,rfl,H1.out⟩,hb1⟩
theorem Bn6:(Tryz.prog.info? 149).map (fun i=>(i.zero.map (·.cells.size),i.size,i.bytes))=some (some 7,7,56):=by kernel_rfl
theorem C38 (l:List Sub) (v:Value) (V:World) (w:World) (hV:Ext V w) (h:Qv V V.heap.size v l) :
  Calls Tryz.prog 207 #[v] w fun e w'=>(∃ v',e=.returned v'/\Ah (B15 V V.heap.size) 7 w' w.heap.size 149 v' l)/\Below w.heap.size w w':=by
 have hle:=h.len_le
 obtain ⟨i0,z0,hi,hz0,hzs,hz1,hz2⟩:=Lc Bn6
 obtain ⟨A,c,rfl,-,-,hne⟩:=id h
 have he:=fun (w:World) (a:Option Addr) (n c:Nat)=>Lib.run_eql_slice_nil (P:=Tryz.prog) w 150 149 a n c 0 0 Tryz.underlying150
 cases A with
 | none =>
  obtain rfl:l=[]:=by
   rcases l with _ | ⟨y,l⟩
   ·rfl
   ·obtain ⟨b,off,h1,_⟩:=hne (by simp)
    cases h1
  clear hne h
  go_enter Tryz.func207,Tryz.ntmps207
  go_wp2_with fail
  go_ret
  exact ⟨⟨_,rfl,Ah.nil_ _ _ _⟩,Below.refl _ _⟩
 | some A =>
  have HH:=Lib.hid (Sl.ext h (fun _ _ h=>h) hV)
  clear hne h
  go_enter Tryz.func207,Tryz.ntmps207
  go_wp2_with (at_builtin;refine D0 _ (fun cs x h=>Cj1 _ cs x h) rfl (.tmp 5) (.tmp 6) 150 rfl w.heap.size 149 i0 _ 56 Tryz.underlying150 hi hz0 hz1 hz2 hzs (by omega) _ [] rfl (K6 (R:=(B15 V V.heap.size)) (k:=7) w 149) w.heap.size _ l rfl (HH.out.keep (fun _ _ h=>h) (Nat.le_refl _) (fun p hp=>World.cell?_alloc_lt _ _ _ hp)) (by simp only [List.length_nil];omega) (by omega) (by simp) ?_;intro v1 w1 hown hgr hat)
  simp only [List.nil_append] at hown
  have hb1:Below w.heap.size w w1:=(Aj (Below.refl _ _)).grown hgr (by simp) (fun k hk=>Nat.le_of_eq (Option.some.inj hk))
  have H1:=Lib.hid hown
  clear hown hgr hat hi hz0 hz1 hz2 hzs
  go_wp2_with fail
  go_ret
  exact ⟨⟨_,rfl,H1.out⟩,hb1⟩
theorem Bn7:(Tryz.prog.info? 94).map (fun i=>(i.zero.map (·.cells.size),i.size,i.bytes))=some (some 5,5,56):=by kernel_rfl
theorem C39 (l:List Out) (v:Value) (V:World) (w:World) (hV:Ext V w) (h:Ab2 V V.heap.size v l) :
  Calls Tryz.prog 165 #[v] w fun e w'=>(∃ v',e=.returned v'/\Ah (B17 V V.heap.size) 5 w' w.heap.size 94 v' l)/\Below w.heap.size w w':=by
 have hle:=h.len_le
 obtain ⟨i0,z0,hi,hz0,hzs,hz1,hz2⟩:=Lc Bn7
 obtain ⟨A,c,rfl,-,-,hne⟩:=id h
 have he:=fun (w:World) (a:Option Addr) (n c:Nat)=>Lib.run_eql_slice_nil (P:=Tryz.prog) w 80 94 a n c 0 0 Tryz.underlying80
 cases A with
 | none =>
  obtain rfl:l=[]:=by
   rcases l with _ | ⟨y,l⟩
   ·rfl
   ·obtain ⟨b,off,h1,_⟩:=hne (by simp)
    cases h1
  clear hne h
  go_enter Tryz.func165,Tryz.ntmps165
  go_wp2_with fail
  go_ret
  exact ⟨⟨_,rfl,Ah.nil_ _ _ _⟩,Below.refl _ _⟩
 | some A =>
  have HH:=Lib.hid (Sl.ext h (fun _ _ h=>h) hV)
  clear hne h
  go_enter Tryz.func165,Tryz.ntmps165
  go_wp2_with (at_builtin;refine D0 _ (fun cs x h=>Cj2 _ cs x h) rfl (.tmp 5) (.tmp 6) 80 rfl w.heap.size 94 i0 _ 56 Tryz.underlying80 hi hz0 hz1 hz2 hzs (by omega) _ [] rfl (K6 (R:=(B17 V V.heap.size)) (k:=5) w 94) w.heap.size _ l rfl (HH.out.keep (fun _ _ h=>h) (Nat.le_refl _) (fun p hp=>World.cell?_alloc_lt _ _ _ hp)) (by simp only [List.length_nil];omega) (by omega) (by simp) ?_;intro v1 w1 hown hgr hat)
  simp only [List.nil_append] at hown
  have hb1:Below w.heap.size w w1:=(Aj (Below.refl _ _)).grown hgr (by simp) (fun k hk=>Nat.le_of_eq (Option.some.inj hk))
  have H1:=Lib.hid hown
  clear hown hgr hat hi hz0 hz1 hz2 hzs
  go_wp2_with fail
  go_ret
  exact ⟨⟨_,rfl,H1.out⟩,hb1⟩
theorem Tq:(Tryz.prog.info? 49).map (fun i=>(i.zero.map (·.cells.size),i.size,i.bytes))=some (some 4,4,32):=by kernel_rfl
theorem Be6 (l:List Ai) (v:Value) (w:World) (h:Qu w w.heap.size v l) :
  Calls Tryz.prog 48 #[v] w fun e w'=>(∃ v',e=.returned v'/\Ah Yq 4 w' w.heap.size 49 v' l)/\Below w.heap.size w w':=by
 have hle:=h.len_le
 obtain ⟨i0,z0,hi,hz0,hzs,hz1,hz2⟩:=Lc Tq
 obtain ⟨A,c,rfl,-,-,hne⟩:=id h
 have he:=fun (w:World) (a:Option Addr) (n c:Nat)=>Lib.run_eql_slice_nil (P:=Tryz.prog) w 27 49 a n c 0 0 Tryz.underlying27
 cases A with
 | none =>
  obtain rfl:l=[]:=by
   rcases l with _ | ⟨y,l⟩
   ·rfl
   ·obtain ⟨b,off,h1,_⟩:=hne (by simp)
    cases h1
  clear hne h
  go_enter Tryz.func48,Tryz.ntmps48
  go_wp2_with fail
  go_ret
  exact ⟨⟨_,rfl,Ah.nil_ _ _ _⟩,Below.refl _ _⟩
 | some A =>
  have HH:=Lib.hid h
  clear hne h
  go_enter Tryz.func48,Tryz.ntmps48
  go_wp2_with (at_builtin;refine D0 _ (Bz1) rfl (.tmp 5) (.tmp 6) 27 rfl w.heap.size 49 i0 _ 32 Tryz.underlying27 hi hz0 hz1 hz2 hzs (by omega) _ [] rfl (K6 (R:=Yq) (k:=4) w 49) w.heap.size _ l rfl (HH.out.keep (fun _ _ h=>h) (Nat.le_refl _) (fun p hp=>World.cell?_alloc_lt _ _ _ hp)) (by simp only [List.length_nil];omega) (by omega) (by simp) ?_;intro v1 w1 hown hgr hat)
  simp only [List.nil_append] at hown
  have hb1:Below w.heap.size w w1:=(Aj (Below.refl _ _)).grown hgr (by simp) (fun k hk=>Nat.le_of_eq (Option.some.inj hk))
  have H1:=Lib.hid hown
  clear hown hgr hat hi hz0 hz1 hz2 hzs
  go_wp2_with fail
  go_ret
  exact ⟨⟨_,rfl,H1.out⟩,hb1⟩
theorem Az0:(Tryz.prog.info? 42).map (fun i=>(i.zero.map (·.cells.size),i.size,i.bytes))=some (some 2,2,16):=by kernel_rfl
theorem Be8 (l:List Ab) (v:Value) (w:World) (h:Co w w.heap.size v l) :
  Calls Tryz.prog 66 #[v] w fun e w'=>(∃ v',e=.returned v'/\Ah H9 2 w' w.heap.size 42 v' l)/\Below w.heap.size w w':=by
 have hle:=h.len_le
 obtain ⟨i0,z0,hi,hz0,hzs,hz1,hz2⟩:=Lc Az0
 obtain ⟨A,c,rfl,-,-,hne⟩:=id h
 have he:=fun (w:World) (a:Option Addr) (n c:Nat)=>Lib.run_eql_slice_nil (P:=Tryz.prog) w 25 42 a n c 0 0 Tryz.underlying25
 cases A with
 | none =>
  obtain rfl:l=[]:=by
   rcases l with _ | ⟨y,l⟩
   ·rfl
   ·obtain ⟨b,off,h1,_⟩:=hne (by simp)
    cases h1
  clear hne h
  go_enter Tryz.func66,Tryz.ntmps66
  go_wp2_with fail
  go_ret
  exact ⟨⟨_,rfl,Ah.nil_ _ _ _⟩,Below.refl _ _⟩
 | some A =>
  have HH:=Lib.hid h
  clear hne h
  go_enter Tryz.func66,Tryz.ntmps66
  go_wp2_with (at_builtin;refine D0 _ (Bz2) rfl (.tmp 5) (.tmp 6) 25 rfl w.heap.size 42 i0 _ 16 Tryz.underlying25 hi hz0 hz1 hz2 hzs (by omega) _ [] rfl (K6 (R:=H9) (k:=2) w 42) w.heap.size _ l rfl (HH.out.keep (fun _ _ h=>h) (Nat.le_refl _) (fun p hp=>World.cell?_alloc_lt _ _ _ hp)) (by simp only [List.length_nil];omega) (by omega) (by simp) ?_;intro v1 w1 hown hgr hat)
  simp only [List.nil_append] at hown
  have hb1:Below w.heap.size w w1:=(Aj (Below.refl _ _)).grown hgr (by simp) (fun k hk=>Nat.le_of_eq (Option.some.inj hk))
  have H1:=Lib.hid hown
  clear hown hgr hat hi hz0 hz1 hz2 hzs
  go_wp2_with fail
  go_ret
  exact ⟨⟨_,rfl,H1.out⟩,hb1⟩
end Go.Proofs.YthlgnjlpakimaaaGreatDoor
