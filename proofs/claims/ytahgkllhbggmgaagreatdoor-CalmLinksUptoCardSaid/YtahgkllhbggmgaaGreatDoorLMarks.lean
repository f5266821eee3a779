/- A function that enters a range over a function round by round of a plain loop leaves with as many marks among its deferred calls: they are taken one by one. No program is known here. -/
import Derived.Test.YtahgkllhbggmgaaGreatDoorLOwn
import Derived.Test.YtahgkllhbggmgaaGreatDoorLVec
import Derived.Orders
import Derived.RangeFuncNested
import Derived.RangeFuncBound
import Derived.RangeFuncCalls
import Derived.RangeFuncLeaves
set_option linter.all false
set_option linter.unnecessarySimpa false
set_option linter.unusedSimpArgs false
set_option linter.unusedVariables false
namespace Go.Proofs.YtahgkllhbggmgaaGreatDoor
open Go.ChangeShapes Go.WideShapes Go.ChangeAt Go.RowKit
structure Ext (w w':World):Prop where
 size:w.heap.size<=w'.heap.size
 cell:∀ p u,w.cell? p=some u->w'.cell? p=some u
theorem Ext.refl (w:World):Ext w w:=⟨Nat.le_refl _,fun _ _ h=>h⟩
theorem Ext.trans {a b c:World} (h:Ext a b) (k:Ext b c):Ext a c:=⟨Nat.le_trans h.size k.size,fun p u hp=>k.cell p u (h.cell p u hp)⟩
theorem Ext.of_below {w w':World} (h:Below w.heap.size w w'):Ext w w':=⟨h.size,fun _ _ hp=>Ao h hp⟩
section
variable {α : Type} {R R' : List Value -> α -> Prop} {k : Nat} {w w' : World} {v : Value} {l : List α}
theorem Sl.ext (h:Sl R k w w.heap.size v l) (hR:∀ cs x,R cs x->R' cs x) (he:Ext w w'):Sl R' k w' w'.heap.size v l:=by
 obtain ⟨A,c,hv,h1,h2,h3⟩:=h
 refine ⟨A,c,hv,h1,h2,fun hne=>?_⟩
 obtain ⟨b,off,hA,hb,h4⟩:=h3 hne
 refine ⟨b,off,hA,Nat.lt_of_lt_of_le hb he.size,fun i x hx=>?_⟩
 obtain ⟨cs,h5,h6,h7⟩:=h4 i x hx
 exact ⟨cs,hR _ _ h5,h6,fun j u hu=>he.cell _ _ (h7 j u hu)⟩
end
def Cz9 (w:World) (g:Nat):World:={ w with heap:=w.heap.setIfInBounds g (.cells #[] 0) }
def Cb1 (w:World) (v:Value):World:=match v.ownBlock with
 | none=>w
 | some g=>Cz9 w g
def Ak6 (V w0 w:World):World:={ w with heap:=Array.ofFn (n:=w.heap.size) fun i=>if i.val < w0.heap.size then (V.heap[i.val]?).getD (.cells #[] 0) else w.heap[i.val] }
theorem Bm4 (V w0 w:World):(Ak6 V w0 w).heap.size=w.heap.size:=by simp [Ak6]
theorem Bx0 {V w0 w:World} {p:Addr} (h:p.block < w0.heap.size) (h':p.block < w.heap.size):(Ak6 V w0 w).cell? p=V.cell? p:=by
 unfold World.cell? Ak6
 simp only [Array.getElem?_ofFn,dif_pos h',if_pos h]
 cases V.heap[p.block]? with
 | none=>simp
 | some o=>rfl
theorem Bx1 {V w0 w:World} {p:Addr} (h:w0.heap.size<=p.block):(Ak6 V w0 w).cell? p=w.cell? p:=by
 unfold World.cell? Ak6
 by_cases h':p.block < w.heap.size
 ·simp only [Array.getElem?_ofFn,dif_pos h',if_neg (Nat.not_lt.2 h)]
  rw [Array.getElem?_eq_getElem h']
 ·rw [Array.getElem?_eq_none (by simpa using h'),Array.getElem?_eq_none (by simpa using h')]
def Cg2 {α:Type} (R:World->List Value->α->Prop):Prop:=∀ w w' cs x,Ext w w'->R w cs x->R w' cs x
def Dy6 {α:Type} (R:World->List Value->α->Prop) (k:Nat) (V w0 w:World) (base:Nat) (e:TypeId) (v:Value) (l:List α):Prop:=Ai (R (Cb1 (Ak6 V w0 w) v)) k w base e v l
section
variable {α : Type} {R : World -> List Value -> α -> Prop} {k : Nat} {V w0 w w' : World} {base : Nat} {e : TypeId} {v : Value} {l : List α}
end
section
variable {P : Program}
theorem W7 {e:TypeId} {size bytes:Nat} (h:(P.info? e).map (fun i=>(i.zero.map (·.cells.size),i.size,i.bytes))=some (some size,size,bytes)) :
  ∃ i z,P.info? e=some i/\i.zero=some z/\z.cells.size=size/\i.size=size/\i.bytes=bytes:=by
 obtain ⟨i,hi,hzz⟩:=Option.map_eq_some_iff.1 h
 simp only [Prod.mk.injEq] at hzz
 obtain ⟨z,hz,hc⟩:=Option.map_eq_some_iff.1 hzz.1
 exact ⟨i,z,hi,hz,hc,hzz.2.1,hzz.2.2⟩
end
section
variable {P : Program}
def Av6 (K:Act->World->Prop) (Q:Exit->Act->World->Prop):Exit->Act->World->Prop
 | .normal=>K
 | e=>Q e
def Nl (f:Nat->Bool):Nat->Nat
 | 0=>0
 | n+1=>Nl f n+if f n then 1 else 0
theorem An7 {f g:Nat->Bool} (h:∀ i,f i=true->g i=true):∀ n,Nl f n<=Nl g n
 | 0=>Nat.le_refl _
 | n+1=>by
  have:=An7 h n
  unfold Nl
  by_cases hf:f n=true
  ·rw [if_pos hf,if_pos (h n hf)];omega
  ·rw [if_neg hf];split<;>omega
theorem An6 {f g:Nat->Bool} (h:∀ i,f i=true->g i=true) {k:Nat} (h1:f k=false) (h2:g k=true):∀ n,k < n->Nl f n < Nl g n
 | 0,hk=>by omega
 | n+1,hk=>by
  unfold Nl
  by_cases e:k=n
  ·subst e
   have:=An7 h k
   rw [h1,h2]
   simp
   omega
  ·have:=An6 h h1 h2 n (by omega)
   by_cases hf:f n=true
   ·rw [if_pos hf,if_pos (h n hf)];omega
   ·rw [if_neg hf];split<;>omega
theorem Yn {f:Nat->Bool} : ∀ {n:Nat},Nl f n=0->∀ i,i < n->f i=false
 | 0,_,_,hi=>by omega
 | n+1,h,i,hi=>by
  unfold Nl at h
  by_cases e:i=n
  ·subst e
   cases hf:f i with
   | false=>rfl
   | true=>rw [hf] at h;simp at h
  ·exact Yn (n:=n) (by omega) i (by omega)
theorem A33 {f:Nat->Bool} : ∀ {n:Nat},(∃ i,i < n/\f i=true)->∃ i,i < n/\f i=true/\∀ j,j < i->f j=false
 | 0,⟨i,hi,_⟩=>by omega
 | n+1,⟨i,hi,hf⟩=>by
  by_cases h:∃ j,j < n/\f j=true
  ·obtain ⟨k,h1,h2,h3⟩:=A33 (n:=n) h
   exact ⟨k,by omega,h2,h3⟩
  ·have:i=n:=by
    rcases Nat.lt_or_ge i n with c | c
    ·exact absurd ⟨i,c,hf⟩ h
    ·omega
   subst this
   refine ⟨i,by omega,hf,fun j hj=>?_⟩
   cases hfj:f j with
   | false=>rfl
   | true=>exact absurd ⟨j,hj,hfj⟩ h
def Ss (ops:Array Oper):Bool:=(List.range ops.size).all fun i=>((ops[i]?).map fun o=>o.after.all fun e=>!Region.binds .any e || decide (e.on < i)).getD false
end
def D90 {α:Type} (F:Fence) (n:Nat) (P:Program) (g:Nat) (lb:Array Value) (encs:α->Array Value) (Rd:α->World->Prop) (Kp:World->World->Prop) (S Sp:List α->Prop) (N:Nat) (w:World):Prop :=
 ∀ (l:Nat) (J Jx:List α->World->Prop) (W:World),Below w.heap.size w W->AbidesFrom W.heap.size J->AbidesFrom W.heap.size Jx ->
  (∀ pre x W1,J pre W1->Rd x W1->pre.length < N->YieldAt F (n - 1) P l (encs x) W1 fun e W' =>
   (e=.returned (.bool true)/\J (pre++[x]) W'/\Kp W1 W')\/(e=.returned (.bool false)/\Jx (pre++[x]) W')) ->
  J [] W ->
  CallsIn F n P g (#[.func (.yield l) #[] #[]]++lb) W fun e W'=>(∃ v,e=.returned v)/\((∃ xs,S xs/\J xs W')\/(∃ pre,Sp pre/\Jx pre W'))
structure K4 (l K:Nat) (mk:LoopState->Option Code->Loop) (st:LoopState) (pe:Option Code) (W:World):Prop where
 rec_:W.heap[l]? = some (.loop (mk st pe))
 dfr:W.heap[K]? = some (.deferred (some []))
variable {F : Fence} {n : Nat} {P : Program}
end Go.Proofs.YtahgkllhbggmgaaGreatDoor
namespace Go.Proofs.YtahgkllhbggmgaaGreatDoor
open Go.ChangeShapes Go.WideShapes Go.ChangeAt Go.RowKit
structure Ec (B:Nat) (Ds:List Nat) (W:World):Prop where
 nodup:Ds.Nodup
 at_:∀ D∈Ds,B<=D/\W.heap[D]? = some (.deferred (some []))
def G8 (Ds:List Nat):List Deferred:=Ds.map fun D=>{ target:=.collected D,args:=#[] }
def shut:List Nat->World->World
 | [],W=>W
 | D :: Ds,W=>shut Ds (W.putObj D (.deferred none))
theorem Ec.nil (B:Nat) (W:World):Ec B [] W:=⟨List.nodup_nil,fun _ h=>by cases h⟩
theorem Ec.tail {B:Nat} {D:Nat} {Ds:List Nat} {W:World} (h:Ec B (D :: Ds) W):Ec B Ds (W.putObj D (.deferred none)) :=
 ⟨(List.nodup_cons.1 h.nodup).2,fun E hE=>⟨(h.at_ E (List.mem_cons_of_mem _ hE)).1,(World.putObj_heap_other (fun e=>(List.nodup_cons.1 h.nodup).1 (by rw [<-e];exact hE))).trans (h.at_ E (List.mem_cons_of_mem _ hE)).2⟩⟩
theorem Ec.more {B D:Nat} {Ds:List Nat} {W:World} (h:Ec B Ds W) (hlt:∀ E∈Ds,E < D) (hB:B<=D) (hD:W.heap[D]? = some (.deferred (some []))):Ec B (D :: Ds) W :=
 ⟨List.nodup_cons.2 ⟨fun hm=>by have:=hlt D hm;omega,h.nodup⟩,fun E hE=>by
  rcases List.mem_cons.1 hE with rfl | hE
  ·exact ⟨hB,hD⟩
  ·exact h.at_ E hE⟩
theorem Ec.lt {B:Nat} {Ds:List Nat} {W:World} (h:Ec B Ds W):∀ E∈Ds,E < W.heap.size:=fun E hE=>(Array.getElem?_eq_some_iff.1 (h.at_ E hE).2).1
theorem Ba9 {B B':Nat} {β:Type} (Ds:List Nat) (hlt:∀ E∈Ds,E < B'):OwnFrom B' (fun (_:β) W=>Ec B Ds W):=fun _ X Y row hs hg hr =>
 ⟨hs.nodup,fun D hD=>⟨(hs.at_ D hD).1,by
  have h:=(hs.at_ D hD).2
  refine (hg.block D (Array.getElem?_eq_some_iff.1 h).1 fun e=>?_).trans h
  have:=(hr D e.symm).1
  have:=hlt D hD
  omega⟩⟩
theorem Ec.next {B:Nat} {Ds:List Nat} {W W':World} (h:Ec B Ds W) (hb:Below W.heap.size W W'):Ec B Ds W':=⟨h.nodup,fun D hD=>⟨(h.at_ D hD).1,(hb.block D (h.lt D hD)).trans (h.at_ D hD).2⟩⟩
theorem Ec.keeps {B:Nat} {Ds:List Nat} {W W':World} (h:Ec B Ds W) (hk:KeepsOthers W W'):Ec B Ds W':=⟨h.nodup,fun D hD=>⟨(h.at_ D hD).1,hk.same D _ (h.at_ D hD).2 rfl⟩⟩
theorem Ec.own {B B':Nat} {β:Type} {I:β->World->Prop} (hI:OwnFrom B' I) (hB:B'<=B) {s:β} : ∀ (Ds:List Nat) (W:World),Ec B Ds W->I s W->I s (shut Ds W):=by
 intro Ds
 induction Ds with
 | nil=>exact fun _ _ h=>h
 | cons D Ds ih =>
  intro W h hs
  exact ih _ h.tail (hI.putObj _ hs (by have:=(h.at_ D (List.mem_cons_self ..)).1;omega) (h.at_ D (List.mem_cons_self ..)).2 rfl)
theorem N3 {F:Fence} {n:Nat} {P:Program} {fn:Func} {tmps:Array Value} {R:Ending->World->Prop} {B:Nat} : ∀ (Ds:List Nat) (W:World),Ec B Ds W ->
  (∃ v,(results fn tmps).run P (shut Ds W)=.ok v (shut Ds W)/\R (.returned v) (shut Ds W))->LeavesInM F n P fn tmps R (G8 Ds) .returning W:=by
 intro Ds
 induction Ds with
 | nil=>exact fun _ _ h=>h
 | cons D Ds ih=>exact fun W hm h=>⟨by simp,.inl ⟨D,_,rfl,run_takeDeferred (hm.at_ D (List.mem_cons_self ..)).2,ih _ hm.tail h⟩⟩
end Go.Proofs.YtahgkllhbggmgaaGreatDoor
