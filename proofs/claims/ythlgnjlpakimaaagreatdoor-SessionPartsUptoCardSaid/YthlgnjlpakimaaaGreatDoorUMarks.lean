/- A function that enters a range over a function round by round of a plain loop leaves with as many marks among its deferred calls: they are taken one by one. No program is known here. -/
import Derived.Test.YthlgnjlpakimaaaGreatDoorUOwn
import Derived.Test.YthlgnjlpakimaaaGreatDoorUArr
import Derived.Orders
import Derived.RangeFuncNested
import Derived.RangeFuncBound
import Derived.RangeFuncCalls
import Derived.RangeFuncLeaves
set_option linter.all false
set_option linter.unnecessarySimpa false
set_option linter.unusedSimpArgs false
set_option linter.unusedVariables false
namespace Go.Proofs.YthlgnjlpakimaaaGreatDoor
open Go.ChangeShapes Go.WideShapes Go.ChangeAt Go.RowKit
structure Ext (w w':World):Prop where
 size:w.heap.size<=w'.heap.size
 cell:∀ p u,w.cell? p=some u->w'.cell? p=some u
theorem Ext.refl (w:World):Ext w w:=⟨Nat.le_refl _,fun _ _ h=>h⟩
theorem Ext.trans {a b c:World} (h:Ext a b) (k:Ext b c):Ext a c:=⟨Nat.le_trans h.size k.size,fun p u hp=>k.cell p u (h.cell p u hp)⟩
theorem Ext.of_below {w w':World} (h:Below w.heap.size w w'):Ext w w':=⟨h.size,fun _ _ hp=>Am h hp⟩
theorem BW.ext {w:World} (z:BW w):Ext w z.val:=Ext.of_below z.below
section
variable {α : Type} {R R' : List Value -> α -> Prop} {k : Nat} {w w' : World} {v : Value} {l : List α}
theorem Sl.ext (h:Sl R k w w.heap.size v l) (hR:∀ cs x,R cs x->R' cs x) (he:Ext w w'):Sl R' k w' w'.heap.size v l:=by
 obtain ⟨A,c,hv,h1,h2,h3⟩:=h
 refine ⟨A,c,hv,h1,h2,fun hne=>?_⟩
 obtain ⟨b,off,hA,hb,h4⟩:=h3 hne
 refine ⟨b,off,hA,Nat.lt_of_lt_of_le hb he.size,fun i x hx=>?_⟩
 obtain ⟨cs,h5,h6,h7⟩:=h4 i x hx
 exact ⟨cs,hR _ _ h5,h6,fun j u hu=>he.cell _ _ (h7 j u hu)⟩
end
def Mf (w:World) (g:Nat):World:={ w with heap:=w.heap.setIfInBounds g (.cells #[] 0) }
theorem Jw (w:World) (g:Nat):(Mf w g).heap.size=w.heap.size:=by simp [Mf]
theorem R1 (w:World) {g:Nat} {p:Addr} (h:p.block≠g):(Mf w g).cell? p=w.cell? p:=by
 refine World.cell?_of_block ?_
 simp [Mf,Ne.symm h]
theorem Y9 (w:World) {g:Nat} {p:Addr} {u:Value} (h:(Mf w g).cell? p=some u):p.block≠g:=by
 intro e
 have hlt:=World.block_lt_of_cell? _ p h
 rw [Jw] at hlt
 unfold World.cell? Mf at h
 subst e
 simp only [Array.getElem?_setIfInBounds,if_pos,if_pos hlt] at h
 split at h<;>simp_all
theorem B29 (w:World) (g:Nat):Ext (Mf w g) w:=⟨by rw [Jw];exact Nat.le_refl _,fun p u h=>by rw [<-R1 w (Y9 w h)];exact h⟩
theorem B28 {w w':World} {g':Nat} (h:Ext w w') (hg:w.heap.size<=g'):Ext w (Mf w' g') :=
 ⟨by rw [Jw];exact h.size,fun p u hp=>by
  have hlt:=World.block_lt_of_cell? _ p hp
  rw [R1 w' (by omega)]
  exact h.cell p u hp⟩
def Gk (w:World) (v:Value):World:=match v.ownBlock with
 | none=>w
 | some g=>Mf w g
theorem Ai0 (w:World) (v:Value):(Gk w v).heap.size=w.heap.size:=by
 unfold Gk;split
 ·rfl
 ·exact Jw _ _
theorem Yb (w:World) (v:Value):Ext (Gk w v) w:=by
 unfold Gk;split
 ·exact Ext.refl _
 ·exact B29 _ _
theorem Ai1 {W w:World} {v:Value} (h:Ext W w) (hg:∀ g,v.ownBlock=some g->W.heap.size<=g):Ext W (Gk w v):=by
 unfold Gk;split
 ·exact h
 ·exact B28 h (hg _ ‹_›)
def H8 (V w0 w:World):World:={ w with heap:=Array.ofFn (n:=w.heap.size) fun i=>if i.val < w0.heap.size then (V.heap[i.val]?).getD (.cells #[] 0) else w.heap[i.val] }
theorem Gu (V w0 w:World):(H8 V w0 w).heap.size=w.heap.size:=by simp [H8]
theorem Tl {V w0 w:World} {p:Addr} (h:p.block < w0.heap.size) (h':p.block < w.heap.size):(H8 V w0 w).cell? p=V.cell? p:=by
 unfold World.cell? H8
 simp only [Array.getElem?_ofFn,dif_pos h',if_pos h]
 cases V.heap[p.block]? with
 | none=>simp
 | some o=>rfl
theorem R0 {V w0 w:World} {p:Addr} (h:w0.heap.size<=p.block):(H8 V w0 w).cell? p=w.cell? p:=by
 unfold World.cell? H8
 by_cases h':p.block < w.heap.size
 ·simp only [Array.getElem?_ofFn,dif_pos h',if_neg (Nat.not_lt.2 h)]
  rw [Array.getElem?_eq_getElem h']
 ·rw [Array.getElem?_eq_none (by simpa using h'),Array.getElem?_eq_none (by simpa using h')]
theorem Y8 {V w0 w:World} {p:Addr} {u:Value} (h:(H8 V w0 w).cell? p=some u):p.block < w.heap.size/\(p.block < w0.heap.size/\V.cell? p=some u\/w0.heap.size<=p.block/\w.cell? p=some u):=by
 have hlt:=World.block_lt_of_cell? _ p h
 rw [Gu] at hlt
 refine ⟨hlt,?_⟩
 by_cases hp:p.block < w0.heap.size
 ·exact .inl ⟨hp,by rw [<-h,Tl hp hlt]⟩
 ·exact .inr ⟨Nat.not_lt.1 hp,by rw [<-h,R0 (Nat.not_lt.1 hp)]⟩
theorem B26 {V w0 w:World} (h:Ext V w0) (hw:w0.heap.size<=w.heap.size):Ext V (H8 V w0 w) :=
 ⟨by rw [Gu];exact Nat.le_trans h.size hw,fun p u hp=>by
  have hlt:=Nat.lt_of_lt_of_le (World.block_lt_of_cell? V p hp) h.size
  rw [Tl hlt (Nat.lt_of_lt_of_le hlt hw)];exact hp⟩
theorem A26 {V w0 w:World} (h:Ext V w0) (hb:Below w0.heap.size w0 w):Ext (H8 V w0 w) w :=
 ⟨by rw [Gu];exact Nat.le_refl _,fun p u hp=>by
  rcases (Y8 hp).2 with ⟨_,h2⟩ | ⟨_,h2⟩
  ·exact Am hb (h.cell p u h2)
  ·exact h2⟩
theorem A27 {V w0 w w':World} (hb:Below w.heap.size w w'):Ext (H8 V w0 w) (H8 V w0 w') :=
 ⟨by rw [Gu,Gu];exact hb.size,fun p u hp=>by
  obtain ⟨h1,h2⟩:=Y8 hp
  have h3:p.block < w'.heap.size:=Nat.lt_of_lt_of_le h1 hb.size
  rcases h2 with ⟨h2,h4⟩ | ⟨h2,h4⟩
  ·rw [Tl h2 h3];exact h4
  ·rw [R0 h2];exact Am hb h4⟩
theorem B25 {V W z w':World} (h:Ext V W) (hz:W.heap.size<=z.heap.size):Ext (H8 V z w') (H8 V W w') :=
 ⟨by rw [Gu,Gu];exact Nat.le_refl _,fun p u hp=>by
  obtain ⟨h1,h2⟩:=Y8 hp
  rcases h2 with ⟨_,h4⟩ | ⟨h2,h4⟩
  ·have hlt:=Nat.lt_of_lt_of_le (World.block_lt_of_cell? V p h4) h.size
   rw [Tl hlt h1];exact h4
  ·rw [R0 (Nat.le_trans hz h2)];exact h4⟩
theorem Ur {V w0 w w':World} (v:Value) (hb:Below w.heap.size w w'):Ext (Gk (H8 V w0 w) v) (Gk (H8 V w0 w') v):=by
 have h:=A27 (V:=V) (w0:=w0) hb
 unfold Gk;split
 ·exact h
 ·refine ⟨by rw [Jw,Jw];exact h.size,fun p u hp=>?_⟩
  have hne:=Y9 _ hp
  rw [R1 _ hne] at hp ⊢
  exact h.cell p u hp
theorem Ya (V w0 w:World) (g i A n c:Nat) (u:Value):Gk (H8 V w0 (w.setCell ⟨g,i,none⟩ u)) (.slice (some ⟨g,A,none⟩) n c)=Gk (H8 V w0 w) (.slice (some ⟨g,A,none⟩) n c):=by
 simp only [Gk,Value.ownBlock,Mf,H8,World.setCell]
 congr 1
 apply Array.ext_getElem?
 intro j
 by_cases e:g=j
 ·subst e;simp [Array.getElem?_setIfInBounds]
 ·simp only [Array.getElem?_setIfInBounds,if_neg e,Array.getElem?_ofFn,Array.size_modify]
  split
  ·split
   ·rfl
   ·simp [Array.getElem_modify,e]
  ·rfl
def B66 {α:Type} (R:World->List Value->α->Prop):Prop:=∀ w w' cs x,Ext w w'->R w cs x->R w' cs x
def Po {α:Type} (R:World->List Value->α->Prop) (k:Nat) (V w0 w:World) (base:Nat) (e:TypeId) (v:Value) (l:List α):Prop:=Ae (R (Gk (H8 V w0 w) v)) k w base e v l
section
variable {α : Type} {R : World -> List Value -> α -> Prop} {k : Nat} {V w0 w w' : World} {base : Nat} {e : TypeId} {v : Value} {l : List α}
theorem Po.next (h:Po R k V w0 w base e v l) (hR:B66 R) (hb:Below w.heap.size w w'):Po R k V w0 w' base e v l :=
 (Ae.next h hb).mono fun cs x hx=>hR _ _ cs x (Ur v hb) hx
theorem Po.lt (h:Po R k V w0 w base e v l):∀ g,v.ownBlock=some g->base<=g/\g < w.heap.size:=Ae.lt h
theorem Po.sl (h:Po R k V w0 w base e v l) (hR:B66 R) (hb:w0.heap.size<=base):Sl (R (H8 V w0 w)) k (H8 V w0 w) (H8 V w0 w).heap.size v l:=by
 have hlt:=h.lt
 obtain ⟨A,c,hv,h1,h2,h3⟩:=Ae.sl h
 refine ⟨A,c,hv,h1,h2,fun hne=>?_⟩
 obtain ⟨b,off,hA,hbb,h4⟩:=h3 hne
 subst hv hA
 have hbl:=(hlt b rfl).1
 refine ⟨b,off,rfl,by rw [Gu];exact hbb,fun i x hx=>?_⟩
 obtain ⟨cs,h5,h6,h7⟩:=h4 i x hx
 exact ⟨cs,hR _ _ cs x (Yb _ _) h5,h6,fun j u hu=>by rw [R0 (Nat.le_trans hb hbl)];exact h7 j u hu⟩
theorem Po.of_sl (h:Ae (R V) k w base e v l) (hR:B66 R) (hV:Ext V w0) (hw:w0.heap.size<=w.heap.size) (hb:w0.heap.size<=base):Po R k V w0 w base e v l :=
 h.mono fun cs x hx=>hR _ _ cs x (Ai1 (B26 hV hw) fun g hg=>Nat.le_trans hV.size (Nat.le_trans hb (h.lt g hg).1)) hx
theorem Po.set_ {g c i j:Nat} {u:Value} {x x':α} (h:Po R k V w0 w base e (.slice (some ⟨g,0,none⟩) l.length c) l) (hi:l[i]? = some x) (hj:j < k)
  (hR:∀ cs,R (Mf (H8 V w0 w) g) cs x->cs.length=k->R (Mf (H8 V w0 w) g) (cs.set j u) x'):Po R k V w0 (w.setCell ⟨g,i*k+j,none⟩ u) base e (.slice (some ⟨g,0,none⟩) (l.set i x').length c) (l.set i x'):=by
 unfold Po
 rw [Ya]
 have h2:=Ae.set_ (x':=x') h hi hj hR
 rw [List.length_set]
 exact h2
theorem Ae.apart {β:Type} {S:List Value->β->Prop} {k':Nat} {base':Nat} {e':TypeId} {v':Value} {m:List β} (h:Ae S k' w base' e' v' m) (hw:w0.heap.size<=base') (hv:∀ g,v.ownBlock=some g->g < base'):Sl S k' (Gk (H8 V w0 w) v) (Gk (H8 V w0 w) v).heap.size v' m:=by
 obtain ⟨A,c,hv',h1,h2,h3⟩:=h.sl
 refine ⟨A,c,hv',h1,h2,fun hne=>?_⟩
 obtain ⟨b,off,hA,hb,h4⟩:=h3 hne
 subst hv' hA
 have hlt:=(h.lt b rfl).1
 refine ⟨b,off,rfl,by rw [Ai0,Gu];exact hb,fun i x hx=>?_⟩
 obtain ⟨cs,h5,h6,h7⟩:=h4 i x hx
 refine ⟨cs,h5,h6,fun j u hu=>?_⟩
 rw [<-h7 j u hu,<-R0 (V:=V) (w0:=w0) (w:=w) (p:=⟨b,off+i*k'+j,none⟩) (Nat.le_trans hw hlt)]
 unfold Gk
 split
 ·rfl
 ·refine R1 _ ?_
  have:=hv _ ‹_›
  show b≠_
  omega
end
section
variable {P : Program}
theorem P6 {e:TypeId} {size bytes:Nat} (h:(P.info? e).map (fun i=>(i.zero.map (·.cells.size),i.size,i.bytes))=some (some size,size,bytes)) :
  ∃ i z,P.info? e=some i/\i.zero=some z/\z.cells.size=size/\i.size=size/\i.bytes=bytes:=by
 obtain ⟨i,hi,hzz⟩:=Option.map_eq_some_iff.1 h
 simp only [Prod.mk.injEq] at hzz
 obtain ⟨z,hz,hc⟩:=Option.map_eq_some_iff.1 hzz.1
 exact ⟨i,z,hi,hz,hc,hzz.2.1,hzz.2.2⟩
end
section
variable {P : Program}
def Aq5 (K:Act->World->Prop) (Q:Exit->Act->World->Prop):Exit->Act->World->Prop
 | .normal=>K
 | e=>Q e
def Pk (f:Nat->Bool):Nat->Nat
 | 0=>0
 | n+1=>Pk f n+if f n then 1 else 0
theorem Ak6 {f g:Nat->Bool} (h:∀ i,f i=true->g i=true):∀ n,Pk f n<=Pk g n
 | 0=>Nat.le_refl _
 | n+1=>by
  have:=Ak6 h n
  unfold Pk
  by_cases hf:f n=true
  ·rw [if_pos hf,if_pos (h n hf)];omega
  ·rw [if_neg hf];split<;>omega
theorem Ak5 {f g:Nat->Bool} (h:∀ i,f i=true->g i=true) {k:Nat} (h1:f k=false) (h2:g k=true):∀ n,k < n->Pk f n < Pk g n
 | 0,hk=>by omega
 | n+1,hk=>by
  unfold Pk
  by_cases e:k=n
  ·subst e
   have:=Ak6 h k
   rw [h1,h2]
   simp
   omega
  ·have:=Ak5 h h1 h2 n (by omega)
   by_cases hf:f n=true
   ·rw [if_pos hf,if_pos (h n hf)];omega
   ·rw [if_neg hf];split<;>omega
theorem Yv {f:Nat->Bool} : ∀ {n:Nat},Pk f n=0->∀ i,i < n->f i=false
 | 0,_,_,hi=>by omega
 | n+1,h,i,hi=>by
  unfold Pk at h
  by_cases e:i=n
  ·subst e
   cases hf:f i with
   | false=>rfl
   | true=>rw [hf] at h;simp at h
  ·exact Yv (n:=n) (by omega) i (by omega)
theorem A41 {f:Nat->Bool} : ∀ {n:Nat},(∃ i,i < n/\f i=true)->∃ i,i < n/\f i=true/\∀ j,j < i->f j=false
 | 0,⟨i,hi,_⟩=>by omega
 | n+1,⟨i,hi,hf⟩=>by
  by_cases h:∃ j,j < n/\f j=true
  ·obtain ⟨k,h1,h2,h3⟩:=A41 (n:=n) h
   exact ⟨k,by omega,h2,h3⟩
  ·have:i=n:=by
    rcases Nat.lt_or_ge i n with c | c
    ·exact absurd ⟨i,c,hf⟩ h
    ·omega
   subst this
   refine ⟨i,by omega,hf,fun j hj=>?_⟩
   cases hfj:f j with
   | false=>rfl
   | true=>exact absurd ⟨j,hj,hfj⟩ h
def Ai4 (ops:Array Oper):Bool:=(List.range ops.size).all fun i=>((ops[i]?).map fun o=>o.after.all fun e=>!Region.binds .any e || decide (e.on < i)).getD false
end
def Cf4 {α:Type} (F:Fence) (n:Nat) (P:Program) (g:Nat) (lb:Array Value) (encs:α->Array Value) (Rd:α->World->Prop) (Kp:World->World->Prop) (S Sp:List α->Prop) (N:Nat) (w:World):Prop :=
 ∀ (l:Nat) (J Jx:List α->World->Prop) (W:World),Below w.heap.size w W->AbidesFrom W.heap.size J->AbidesFrom W.heap.size Jx ->
  (∀ pre x W1,J pre W1->Rd x W1->pre.length < N->YieldAt F (n - 1) P l (encs x) W1 fun e W' =>
   (e=.returned (.bool true)/\J (pre++[x]) W'/\Kp W1 W')\/(e=.returned (.bool false)/\Jx (pre++[x]) W')) ->
  J [] W ->
  CallsIn F n P g (#[.func (.yield l) #[] #[]]++lb) W fun e W'=>(∃ v,e=.returned v)/\((∃ xs,S xs/\J xs W')\/(∃ pre,Sp pre/\Jx pre W'))
structure Ed (l K:Nat) (mk:LoopState->Option Code->Loop) (st:LoopState) (pe:Option Code) (W:World):Prop where
 rec_:W.heap[l]? = some (.loop (mk st pe))
 dfr:W.heap[K]? = some (.deferred (some []))
variable {F : Fence} {n : Nat} {P : Program}
end Go.Proofs.YthlgnjlpakimaaaGreatDoor
namespace Go.Proofs.YthlgnjlpakimaaaGreatDoor
open Go.ChangeShapes Go.WideShapes Go.ChangeAt Go.RowKit
structure Eg (B:Nat) (Ds:List Nat) (W:World):Prop where
 nodup:Ds.Nodup
 at_:∀ D∈Ds,B<=D/\W.heap[D]? = some (.deferred (some []))
def Mg (Ds:List Nat):List Deferred:=Ds.map fun D=>{ target:=.collected D,args:=#[] }
def shut:List Nat->World->World
 | [],W=>W
 | D :: Ds,W=>shut Ds (W.putObj D (.deferred none))
theorem Eg.nil (B:Nat) (W:World):Eg B [] W:=⟨List.nodup_nil,fun _ h=>by cases h⟩
theorem Eg.tail {B:Nat} {D:Nat} {Ds:List Nat} {W:World} (h:Eg B (D :: Ds) W):Eg B Ds (W.putObj D (.deferred none)) :=
 ⟨(List.nodup_cons.1 h.nodup).2,fun E hE=>⟨(h.at_ E (List.mem_cons_of_mem _ hE)).1,(World.putObj_heap_other (fun e=>(List.nodup_cons.1 h.nodup).1 (by rw [<-e];exact hE))).trans (h.at_ E (List.mem_cons_of_mem _ hE)).2⟩⟩
theorem Eg.more {B D:Nat} {Ds:List Nat} {W:World} (h:Eg B Ds W) (hlt:∀ E∈Ds,E < D) (hB:B<=D) (hD:W.heap[D]? = some (.deferred (some []))):Eg B (D :: Ds) W :=
 ⟨List.nodup_cons.2 ⟨fun hm=>by have:=hlt D hm;omega,h.nodup⟩,fun E hE=>by
  rcases List.mem_cons.1 hE with rfl | hE
  ·exact ⟨hB,hD⟩
  ·exact h.at_ E hE⟩
theorem Eg.lt {B:Nat} {Ds:List Nat} {W:World} (h:Eg B Ds W):∀ E∈Ds,E < W.heap.size:=fun E hE=>(Array.getElem?_eq_some_iff.1 (h.at_ E hE).2).1
theorem B32 {B B':Nat} {β:Type} (Ds:List Nat) (hlt:∀ E∈Ds,E < B'):OwnFrom B' (fun (_:β) W=>Eg B Ds W):=fun _ X Y row hs hg hr =>
 ⟨hs.nodup,fun D hD=>⟨(hs.at_ D hD).1,by
  have h:=(hs.at_ D hD).2
  refine (hg.block D (Array.getElem?_eq_some_iff.1 h).1 fun e=>?_).trans h
  have:=(hr D e.symm).1
  have:=hlt D hD
  omega⟩⟩
theorem Eg.next {B:Nat} {Ds:List Nat} {W W':World} (h:Eg B Ds W) (hb:Below W.heap.size W W'):Eg B Ds W':=⟨h.nodup,fun D hD=>⟨(h.at_ D hD).1,(hb.block D (h.lt D hD)).trans (h.at_ D hD).2⟩⟩
theorem Eg.keeps {B:Nat} {Ds:List Nat} {W W':World} (h:Eg B Ds W) (hk:KeepsOthers W W'):Eg B Ds W':=⟨h.nodup,fun D hD=>⟨(h.at_ D hD).1,hk.same D _ (h.at_ D hD).2 rfl⟩⟩
theorem Eg.own {B B':Nat} {β:Type} {I:β->World->Prop} (hI:OwnFrom B' I) (hB:B'<=B) {s:β} : ∀ (Ds:List Nat) (W:World),Eg B Ds W->I s W->I s (shut Ds W):=by
 intro Ds
 induction Ds with
 | nil=>exact fun _ _ h=>h
 | cons D Ds ih =>
  intro W h hs
  exact ih _ h.tail (hI.putObj _ hs (by have:=(h.at_ D (List.mem_cons_self ..)).1;omega) (h.at_ D (List.mem_cons_self ..)).2 rfl)
theorem P5 {F:Fence} {n:Nat} {P:Program} {fn:Func} {tmps:Array Value} {R:Ending->World->Prop} {B:Nat} : ∀ (Ds:List Nat) (W:World),Eg B Ds W ->
  (∃ v,(results fn tmps).run P (shut Ds W)=.ok v (shut Ds W)/\R (.returned v) (shut Ds W))->LeavesInM F n P fn tmps R (Mg Ds) .returning W:=by
 intro Ds
 induction Ds with
 | nil=>exact fun _ _ h=>h
 | cons D Ds ih=>exact fun W hm h=>⟨by simp,.inl ⟨D,_,rfl,run_takeDeferred (hm.at_ D (List.mem_cons_self ..)).2,ih _ hm.tail h⟩⟩
end Go.Proofs.YthlgnjlpakimaaaGreatDoor
