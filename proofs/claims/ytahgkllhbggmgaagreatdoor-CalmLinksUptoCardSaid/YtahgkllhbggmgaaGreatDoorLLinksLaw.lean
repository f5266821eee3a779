/- The law CalmLinks, but for telltalelaw23.alive. -/
import Derived.Test.YtahgkllhbggmgaaGreatDoorLRep
import Derived.Test.YtahgkllhbggmgaaGreatDoorLWire
import Derived.Test.YtahgkllhbggmgaaGreatDoorLSpanLess
import Derived.Test.YtahgkllhbggmgaaGreatDoorLReached
import Derived.Test.YtahgkllhbggmgaaGreatDoorLPlace
import Derived.Test.YtahgkllhbggmgaaGreatDoorLRefThr
import Derived.Test.YtahgkllhbggmgaaGreatDoorLTouch
import Derived.Test.YtahgkllhbggmgaaGreatDoorLDisk
import Derived.Test.YtahgkllhbggmgaaGreatDoorLMsgFormE
import Derived.Test.YtahgkllhbggmgaaGreatDoorLNodeForm
import Derived.Test.YtahgkllhbggmgaaGreatDoorLSubsForm
import Derived.Test.YtahgkllhbggmgaaGreatDoorLOuts
import Derived.Test.YtahgkllhbggmgaaGreatDoorLZones
import Derived.Test.YtahgkllhbggmgaaGreatDoorLSubsCmp
import Derived.Shelf.Sort.Plain
import Derived.Test.YtahgkllhbggmgaaGreatDoorRows
import Derived.Test.YtahgkllhbggmgaaGreatDoorLTurnRow
import Derived.Sort.OwnSortedInts
import Derived.Test.YtahgkllhbggmgaaGreatDoorLSortWorld
import Derived.Laws.MakeOwn
import Derived.Test.YtahgkllhbggmgaaGreatDoorLNdLaid
set_option linter.all false
set_option linter.unnecessarySimpa false
set_option linter.unusedSimpArgs false
set_option linter.unusedVariables false
namespace Go.Proofs.YtahgkllhbggmgaaGreatDoor
section
variable (succ : Nat -> List Nat)
def Gm (f l:List Nat):List Nat:=l.foldl (fun f j=>if f.contains j then f else f++[j]) f
def Um:Nat->Nat->List Nat->List Nat
 | 0,_,f=>f
 | k+1,i,f=>match f[i]? with
  | none=>f
  | some x=>Um k (i+1) (Gm f (succ x))
def B76 (m:Nat->Bool) (j:Nat):Nat->Bool:=fun i=>if i=j then true else m i
def Nw (m:Nat->Bool) (l:List Nat):Nat->Bool:=l.foldl B76 m
def Kk (l:List Nat) (m:Nat->Bool):Nat->Bool:=l.foldl (fun m i=>if m i then Nw m (succ i) else m) m
inductive Rch (n:Nat):Nat->Prop
 | self:Rch n n
 | step {i j:Nat} : Rch n i->j∈succ i->Rch n j
end
section
variable {succ : Nat -> List Nat}
theorem Jr:∀ (l f:List Nat) (x:Nat),x∈Gm f l↔x∈f\/x∈l
 | [],f,x=>by simp [Gm]
 | j :: l,f,x=>by
  have ih:=Jr l (if f.contains j then f else f++[j]) x
  show x∈Gm (if f.contains j then f else f++[j]) l↔_
  rw [ih]
  by_cases h:j∈f
  ·rw [if_pos (by simpa using h)]
   constructor
   ·rintro (a | a)
    ·exact .inl a
    ·exact .inr (by simp [a])
   ·rintro (a | a)
    ·exact .inl a
    ·rcases List.mem_cons.1 a with rfl | a
     ·exact .inl h
     ·exact .inr a
  ·rw [if_neg (by simpa using h)]
   simp only [List.mem_append,List.mem_cons,List.not_mem_nil,or_false,or_assoc]
theorem Rx:∀ (l f:List Nat),f.Nodup->(Gm f l).Nodup
 | [],f,h=>h
 | j :: l,f,h=>by
  show (Gm (if f.contains j then f else f++[j]) l).Nodup
  refine Rx l _ ?_
  by_cases hj:j∈f
  ·rw [if_pos (by simpa using hj)];exact h
  ·rw [if_neg (by simpa using hj)]
   refine List.nodup_append.2 ⟨h,by simp,fun a ha b hb e=>hj ?_⟩
   rw [List.mem_singleton] at hb
   subst hb
   rwa [<-e]
theorem Te:∀ (l f:List Nat) (i:Nat) (x:Nat),f[i]? = some x->(Gm f l)[i]? = some x
 | [],f,i,x,h=>h
 | j :: l,f,i,x,h=>by
  show (Gm (if f.contains j then f else f++[j]) l)[i]? = some x
  refine Te l _ i x ?_
  split
  ·exact h
  ·rw [List.getElem?_append_left (List.getElem?_eq_some_iff.1 h).1];exact h
theorem len_le:∀ (l l':List Nat),l.Nodup->(∀ x∈l,x∈l')->l.length<=l'.length
 | [],_,_,_=>Nat.zero_le _
 | x :: l,l',hn,h=>by
  obtain ⟨hx,hn⟩:=List.nodup_cons.1 hn
  have hm:=h x (by simp)
  have:=len_le l (l'.erase x) hn fun y hy=>(List.mem_erase_of_ne (fun e=>hx (by rw [<-e];exact hy))).2 (h y (List.mem_cons_of_mem _ hy))
  rw [List.length_erase_of_mem hm] at this
  have hp:=List.length_pos_of_mem hm
  simp only [List.length_cons]
  omega
theorem Rl {N:Nat} {f:List Nat} (h:f.Nodup) (hl:∀ x∈f,x < N):f.length<=N:=by
 have:f.length<=(List.range N).length:=len_le _ _ h fun x hx=>List.mem_range.2 (hl x hx)
 simpa using this
theorem Br5 {N n:Nat} (hs:∀ i,i < N->∀ j∈succ i,j < N):∀ (k i:Nat) (f:List Nat),N < k+i->i<=f.length->f.Nodup->(∀ x∈f,x < N)->n∈f->(∀ x∈f,Rch succ n x)->(∀ (a:Nat) x,a < i->f[a]? = some x->∀ j∈succ x,j∈f) ->
  (Um succ k i f).Nodup/\(∀ x∈Um succ k i f,x < N)/\∀ x,x∈Um succ k i f↔Rch succ n x
 | 0,i,f,hk,hi,hn,hl,_,_,_=>by
  have:=Rl hn hl
  omega
 | k+1,i,f,hk,hi,hn,hl,hm,hr,hc=>by
  unfold Um
  cases hx:f[i]? with
  | none =>
   simp only
   refine ⟨hn,hl,fun x=>⟨hr x,fun h=>?_⟩⟩
   induction h with
   | self=>exact hm
   | step _ hj ih =>
    obtain ⟨a,ha⟩:=List.mem_iff_getElem?.1 ih
    refine hc a _ ?_ ha _ hj
    have:=(List.getElem?_eq_some_iff.1 ha).1
    rw [List.getElem?_eq_none_iff] at hx
    omega
  | some y =>
   simp only
   have hy:=List.mem_of_getElem? hx
   have hlt:=(List.getElem?_eq_some_iff.1 hx).1
   have grow:f.length<=(Gm f (succ y)).length:=by
    rcases Nat.lt_or_ge (Gm f (succ y)).length f.length with h | h
    ·have:=Te (succ y) f (f.length - 1) _ (List.getElem?_eq_getElem (by omega))
     have:=(List.getElem?_eq_some_iff.1 this).1
     omega
    ·exact h
   refine Br5 hs k (i+1) _ (by omega) (by omega) (Rx _ _ hn) (fun x h=>?_) ((Jr _ _ _).2 (.inl hm)) (fun x h=>?_) fun a x ha hax j hj=>?_
   ·rcases (Jr _ _ _).1 h with h | h
    ·exact hl x h
    ·exact hs y (hl y hy) x h
   ·rcases (Jr _ _ _).1 h with h | h
    ·exact hr x h
    ·exact .step (hr y hy) h
   ·have hfa:f[a]? = some x:=by
     have hal:a < f.length:=by omega
     have:=Te (succ y) f a _ (List.getElem?_eq_getElem hal)
     rw [hax] at this
     rw [List.getElem?_eq_getElem hal];exact this.symm
    by_cases hai:a=i
    ·subst hai
     rw [hx] at hfa
     cases hfa
     exact (Jr _ _ _).2 (.inr hj)
    ·exact (Jr _ _ _).2 (.inl (hc a x (by omega) hfa j hj))
theorem M8:∀ (l:List Nat) (m:Nat->Bool) (i:Nat),Nw m l i=true↔m i=true\/i∈l
 | [],m,i=>by simp [Nw]
 | j :: l,m,i=>by
  show Nw (B76 m j) l i=true↔_
  rw [M8 l,List.mem_cons]
  unfold B76
  by_cases h:i=j
  ·simp [h]
  ·simp [h]
theorem Kj:∀ (l:List Nat) (m:Nat->Bool) (i:Nat),m i=true->Kk succ l m i=true
 | [],m,i,h=>h
 | a :: l,m,i,h=>by
  show Kk succ l (if m a then Nw m (succ a) else m) i=true
  refine Kj l _ i ?_
  split
  ·exact (M8 _ _ _).2 (.inl h)
  ·exact h
theorem Ut {n:Nat} : ∀ (l:List Nat) (m:Nat->Bool),(∀ i,m i=true->Rch succ n i)->∀ i,Kk succ l m i=true->Rch succ n i
 | [],m,h,i,hi=>h i hi
 | a :: l,m,h,i,hi=>by
  refine Ut l (if m a then Nw m (succ a) else m) (fun j hj=>?_) i hi
  by_cases ha:m a=true
  ·rw [if_pos ha] at hj
   rcases (M8 _ _ _).1 hj with hj | hj
   ·exact h j hj
   ·exact .step (h a ha) hj
  ·rw [if_neg ha] at hj
   exact h j hj
theorem Wr:∀ (l:List Nat) (m:Nat->Bool) (a j:Nat),a∈l->m a=true->j∈succ a->Kk succ l m j=true
 | b :: l,m,a,j,ha,hm,hj=>by
  show Kk succ l (if m b then Nw m (succ b) else m) j=true
  rcases List.mem_cons.1 ha with rfl | ha
  ·rw [if_pos hm]
   exact Kj l _ j ((M8 _ _ _).2 (.inr hj))
  ·refine Wr l _ a j ha ?_ hj
   split
   ·exact (M8 _ _ _).2 (.inl hm)
   ·exact hm
 | [],_,_,_,ha,_,_=>by cases ha
def Az1 (N:Nat) (m:Nat->Bool):Nat:=((List.range N).filter m).length
theorem Cd8 {N:Nat} {m m':Nat->Bool} (h:∀ i,m i=true->m' i=true) {j:Nat} (hj:j < N) (h1:m j=false) (h2:m' j=true):Az1 N m < Az1 N m':=by
 unfold Az1
 have sub:((List.range N).filter m++[j]).Nodup:=by
  refine List.nodup_append.2 ⟨List.nodup_range.filter _,by simp,fun a ha b hb e=>?_⟩
  rw [List.mem_singleton] at hb
  subst hb;subst e
  rw [List.mem_filter,h1] at ha
  exact absurd ha.2 (by simp)
 have:=len_le _ ((List.range N).filter m') sub fun x hx=>by
  rw [List.mem_append,List.mem_singleton] at hx
  rcases hx with hx | rfl
  ·rw [List.mem_filter] at hx ⊢
   exact ⟨hx.1,h x hx.2⟩
  ·exact List.mem_filter.2 ⟨List.mem_range.2 hj,h2⟩
 rw [List.length_append] at this
 exact this
def Nv (succ:Nat->List Nat) (N:Nat):Nat->(Nat->Bool)->(Nat->Bool)
 | 0,m=>m
 | t+1,m=>Nv succ N t (Kk succ (List.range N) m)
theorem Bg2 {N n:Nat} (hs:∀ i,i < N->∀ j∈succ i,j < N):∀ (t:Nat) (m:Nat->Bool),(∀ i,m i=true->i < N/\Rch succ n i)->m n=true->N < t+Az1 N m->∀ i,Nv succ N t m i=true↔Rch succ n i:=by
 have low:∀ m,Az1 N m<=N:=fun m=>by
  have:=List.length_filter_le m (List.range N)
  simpa [Az1] using this
 have closed:∀ (m:Nat->Bool),m n=true->(∀ i,m i=true->i < N)->(∀ a j,m a=true->j∈succ a->m j=true)->∀ i,Rch succ n i->m i=true:=fun m hn _ hc i hi=>by
  induction hi with
  | self=>exact hn
  | step _ hj ih=>exact hc _ _ ih hj
 intro t
 induction t with
 | zero=>intro m _ _ h;have:=low m;omega
 | succ t ih =>
  intro m hm hn hc i
  have hm':∀ i,Kk succ (List.range N) m i=true->i < N/\Rch succ n i:=fun i hi=>by
   have hr:=Ut (List.range N) m (fun j hj=>(hm j hj).2) i hi
   refine ⟨?_,hr⟩
   have nN:=(hm n hn).1
   clear hi
   induction hr with
   | self=>exact nN
   | step _ hj ih=>exact hs _ ih _ hj
  have hn':=Kj (succ:=succ) (List.range N) m n hn
  show Nv succ N t (Kk succ (List.range N) m) i=true↔_
  by_cases hcl:∀ a j,m a=true->j∈succ a->m j=true
  ·-- nothing is new
   have same:Kk succ (List.range N) m=m:=by
    funext x
    cases hx:m x with
    | true=>exact Kj _ _ _ hx
    | false =>
     cases hy:Kk succ (List.range N) m x with
     | false=>rfl
     | true=>rw [closed m hn (fun i hi=>(hm i hi).1) hcl x (hm' x hy).2] at hx;cases hx
   have all:∀ t,Nv succ N t m=m:=fun t=>by
    induction t with
    | zero=>rfl
    | succ t ih=>show Nv succ N t (Kk succ (List.range N) m)=m;rw [same,ih]
   rw [same,all t]
   exact ⟨fun h=>(hm i h).2,fun h=>closed m hn (fun i hi=>(hm i hi).1) hcl i h⟩
  ·have:∃ a j,m a=true/\j∈succ a/\m j=false:=by
    refine Classical.byContradiction fun hno=>hcl fun a j ha hj=>?_
    cases hmj:m j with
    | true=>rfl
    | false=>exact absurd ⟨a,j,ha,hj,hmj⟩ hno
   obtain ⟨a,j,ha,hj,hmj⟩:=this
   have hlt:=Cd8 (fun i=>Kj (succ:=succ) (List.range N) m i) (hs a (hm a ha).1 j hj) hmj (Wr _ m a j (List.mem_range.2 (hm a ha).1) ha hj)
   exact ih _ hm' hn' (by omega) i
end
theorem A51 {N:Nat} {R:List Nat} {m:Nat->Bool} (hn:R.Nodup) (hl:∀ x∈R,x < N) (hm:∀ x,x∈R↔m x=true) :
  (R.map fun x:Nat=>(x:Int)).mergeSort (fun x y=>decide (x<=y))=((List.range N).filter m).map fun x:Nat=>(x:Int):=by
 have hp:((R.map fun x:Nat=>(x:Int)).mergeSort fun x y=>decide (x<=y)).Perm (((List.range N).filter m).map fun x:Nat=>(x:Int)):=by
  refine (List.mergeSort_perm _ _).trans (List.Perm.map _ ?_)
  refine (List.perm_ext_iff_of_nodup hn (List.nodup_range.filter _)).2 fun x=>?_
  rw [List.mem_filter,List.mem_range,<-hm]
  exact ⟨fun h=>⟨hl x h,h⟩,fun h=>h.2⟩
 refine List.Perm.eq_of_pairwise (le:=fun x y:Int=>x<=y) (fun a b _ _ h1 h2=>Int.le_antisymm h1 h2) ?_ ?_ hp
 ·have:=List.pairwise_mergeSort (le:=fun x y:Int=>decide (x<=y)) (fun a b c h1 h2=>by simp at *;omega) (fun a b=>by simp;omega) (R.map fun x:Nat=>(x:Int))
  exact this.imp fun h=>by simpa using h
 ·rw [List.pairwise_map]
  exact (List.pairwise_lt_range.filter _).imp fun h=>by omega
end Go.Proofs.YtahgkllhbggmgaaGreatDoor
namespace Go.Proofs.YtahgkllhbggmgaaGreatDoor
open Go.ChangeShapes Go.WideShapes Go.ChangeAt Go.RowKit
attribute [local irreducible] AW AWY Be As vop Az Aq Ax qop Bd Bv Aj Ag Ay A7 Aw
attribute [local go_sem] Gr Eg Ez Dz Ch Gu Fp Dx E6 Cf Ae Af
end Go.Proofs.YtahgkllhbggmgaaGreatDoor
namespace Go.Proofs.YtahgkllhbggmgaaGreatDoor
open Go.ChangeShapes Go.WideShapes Go.ChangeAt Go.RowKit
attribute [local irreducible] AW AWY Be As vop Az Aq Ax qop Bd Bv Aj Ag Ay A7 Aw
attribute [local go_sem] Gr Eg Ez Dz Ch Gu Fp Dx E6 Cf Ae Af
end Go.Proofs.YtahgkllhbggmgaaGreatDoor
namespace Go.Proofs.YtahgkllhbggmgaaGreatDoor
open Go.ChangeShapes Go.WideShapes Go.ChangeAt Go.RowKit
attribute [local irreducible] AW AWY Be As vop Az Aq Ax qop Bd Bv Aj Ag Ay A7 Aw
attribute [local go_sem] Gr Eg Ez Dz Ch Gu Fp Dx E6 Cf Ae Af
def D11 (v:E8) (it:List Ah) (w:Ar):Bool:=!w.gone&&Eb it w.object&&!decide ((Bc2 v.bodies w.object w.stamp).2=0)
def D10 (v:E8) (it:List Ah) (l:List Ar):List Int:=(l.filter (D11 v it)).map (·.object)
def Du7 (v:E8) (it:List Ah):List Int×Int:=if At v=true then (D10 v it v.held,0) else ([],1)
def enO (o:Int):List IV:=[.val (.int .i64 o)]
end Go.Proofs.YtahgkllhbggmgaaGreatDoor
namespace Go.Proofs.YtahgkllhbggmgaaGreatDoor
structure VF (v:E8):Prop where
 known:B7 v.known=true
 zones:Cw v.zones=true
 held:Shelf v.held
 cache:Dc v.bodies v.room=true
 below:∀ x∈v.zones,Bi x.vec v.known=false/\Bi v.known x.vec=true
 reached:∀ w∈v.held,H5 (Jf v.zones v.known w.object) w.stamp=true
 wanted:∀ x∈v.bodies,Fb v.held x=true
def Dz9 (v:E8) (n:Bz):List Bp:=B01 (Zm v.zones v.known n)
def C30 (v:E8) (r:List Ad) (f:Nat->Bool):Bz:=⟨[],r,Gb fun o=>!f o,B03 v.held (Gb f)⟩
def C51 (v:E8) (it:List Ah) (o:Nat):Bool:=Ba it o&&Ba (T9 v.zones) o
def C89 (v:E8) (it:List Ah) (o:Nat):Bool:=Ba it o&&!Ba (T9 v.zones) o
def A47 (v:E8) (it:List Ah):Nat->List (List Ad)
 | 0=>[]
 | m+1=>A47 v it m++if C51 v it m=true/\Jf v.zones v.known m∉A47 v it m then [Jf v.zones v.known m] else []
def C79 (v:E8) (it:List Ah) (r:List Ad) (o:Nat):Bool:=C51 v it o&&decide (Jf v.zones v.known o=r)
def Cx1 (v:E8) (it:List Ah):List Bz:=C30 v v.known (C89 v it) :: (A47 v it 256).map fun r=>C30 v r (C79 v it r)
def E28 (v:E8) (it:List Ah):List Bz×Int:=if At v=true then (Cx1 v it,0) else ([],1)
structure Dy5 (v:E8) (r:List Ad) (f:Nat->Bool):Prop where
 formed:B7 r=true
 below:Bi v.known r=true
 told:∀ o:Nat,o < 256->f o=true->Jf v.zones v.known o=r
def Bg6:E8->List Bz->E8×Bool
 | v,[]=>(v,true)
 | v,n :: l=>if (Uv v n).2=0 then Bg6 (Uv v n).1 l else (v,false)
def De9 (x v:E8) (it:List Ah):E8×Bool:=if At v=true then Bg6 x (Cx1 v it) else (x,false)
end Go.Proofs.YtahgkllhbggmgaaGreatDoor
namespace Go.Proofs.YtahgkllhbggmgaaGreatDoor
open Go.ChangeShapes Go.WideShapes Go.ChangeAt Go.RowKit
attribute [local irreducible] AW AWY Be As vop Az Aq Ax qop Bd Bv Aj Ag Ay A7 Aw
attribute [local go_sem] Dz Ch Gu E6 Cf Ae Af
end Go.Proofs.YtahgkllhbggmgaaGreatDoor
namespace Go.Proofs.YtahgkllhbggmgaaGreatDoor
open Go.ChangeShapes Go.WideShapes Go.ChangeAt Go.RowKit
theorem C81 {t:TypeId} {x y:Operand} {a b:ByteArray} {K:AV->Prop} (h:K (.val (.bool (decide (a=b))))):Bd Tryz.prog .eql t x y (.val (.string a)) (.val (.string b)) K:=⟨_,fun w=>by
 go_simp
 rw [ByteArray.toList_eq,ByteArray.toList_eq]
 by_cases e:a=b
 ·simp [e]
 ·rw [decide_eq_false e,beq_eq_false_iff_ne]
  exact fun h=>e (bytes_inj h),h⟩
theorem B69:∀ {a b:List Nat},(∀ x∈a,x < 256)->(∀ x∈b,x < 256)->(Uy a=Uy b↔a=b):=fun {a b} ha hb=>by
 refine ⟨fun h=>?_,fun h=>h ▸ rfl⟩
 unfold Uy strOfNums at h
 injection h with h
 have h:=congrArg Array.toList h
 simp only [List.map_map] at h
 have key:∀ {a b:List Nat},(∀ x∈a,x < 256)->(∀ x∈b,x < 256)->a.map (fun n=>UInt8.ofNat n)=b.map (fun n=>UInt8.ofNat n)->a=b:=by
  intro a
  induction a with
  | nil=>intro b _ _ h;cases b with
   | nil=>rfl
   | cons _ _=>cases h
  | cons x a ih=>intro b ha hb h;cases b with
   | nil=>cases h
   | cons y b =>
    injection h with h1 h2
    have e:=congrArg UInt8.toNat h1
    have p:=ha x (by simp)
    have q:=hb y (by simp)
    simp only [UInt8.toNat_ofNat'] at e
    rw [ih (fun z hz=>ha z (by simp [hz])) (fun z hz=>hb z (by simp [hz])) h2]
    congr 1
    omega
 exact key ha hb (by simpa [Function.comp_def] using h)
attribute [local irreducible] AW AWY Be As vop Az Aq Ax qop Bd Bv Aj Ag Ay A7 Aw Du
attribute [local go_sem] Ez Dp Ae Af
theorem C50 {a:List Nat} (h:AV.okd (.iv (byI a))):∀ x∈a,x < 256:=fun x hx=>by
 have h2:=Q7 (by simpa [byI] using h.2) [IV.val (.int .u8 x)] (List.mem_map_of_mem (f:=fun (b:Nat)=>[IV.val (.int .u8 (b:Int))]) hx)
 have h3:(Lit.int .u8 (x:Int)).wf=true:=h2.2.1
 simp [Lit.wf,IntKind.max,IntKind.min,IntKind.signed,IntKind.bits] at h3
 omega
set_option maxRecDepth 100000 in
theorem Sj (a b:List Nat):A7 Tryz.prog A8 84 [.iv (byI a),.iv (byI b)] (.val (.bool (decide (a=b)))) []:=by
 refine A7.of (n:=10) (rs:=[.tmp 4]) Tryz.func84 rfl (by kernel_rfl) Tryz.ntmps84 (by kernel_rfl) (by simp) (fun _ _=>A8.later) ?_
 intro hok V w0
 obtain ⟨B,hB⟩ : ∃ B,decide (a=b)=B:=⟨_,rfl⟩
 rw [hB]
 refine g ?_
 repeat' refine st_ rfl (g ?_)
 refine ⟨a,rfl,B9 ?_⟩
 refine g ?_
 refine ⟨b,rfl,B9 ?_⟩
 refine g ?_
 refine C81 ?_
 refine g ?_
 repeat' refine st_ rfl (g ?_)
 rw [<-hB]
 exact decide_eq_decide.2 (B69 (C50 hok.1) (C50 hok.2.1))
set_option maxRecDepth 100000 in
theorem Sk (x y:Cr):A7 Tryz.prog A8 355 [boA x,boA y] (.val (.bool (decide (x=y)))) []:=by
 refine A7.of (n:=24) (rs:=[.tmp 4]) Tryz.func355 rfl (by kernel_rfl) Tryz.ntmps355 (by kernel_rfl) (by simp) (fun _ _=>A8.later) ?_
 intro hok V w0
 obtain ⟨B,hB⟩ : ∃ B,decide (x=y)=B:=⟨_,rfl⟩
 rw [hB]
 obtain ⟨xo,⟨xc,xn⟩,xv⟩:=x
 obtain ⟨yo,⟨yc,yn⟩,yv⟩:=y
 refine g ?_
 repeat' (first | refine st_ rfl (g ?_) | (refine B8 rfl rfl (fun h e=>?_) (fun h e=>?_)<;>simp only [e]<;>clear e<;>refine g ?_))
 ·refine ⟨_,fun u=>S6 _ _ _ _ _ _ u,?_⟩
  refine g ?_
  repeat' (first | refine st_ rfl (g ?_) | refine B9 (g ?_) | (refine E9 rfl rfl (fun h=>?_) (fun h=>?_)<;>simp only [h]<;>refine g ?_) | refine Aa (Sj _ _) rfl (g ?_))
  ·rw [<-hB]
   have h3:xc=yc/\xn=yn:=by simpa using h
   rename_i h1
   rw [h1,h3.1,h3.2]
   simp
  ·rw [<-hB]
   refine (decide_eq_false ?_).symm
   intro e
   injection e with e1 e2 e3
   injection e2 with e4 e5
   simp [e4,e5] at h
 ·rw [<-hB]
  refine (decide_eq_false ?_).symm
  intro e
  injection e with e1
  exact h e1
end Go.Proofs.YtahgkllhbggmgaaGreatDoor
namespace Go.Proofs.YtahgkllhbggmgaaGreatDoor
open Go.ChangeShapes Go.WideShapes Go.ChangeAt Go.RowKit
attribute [local irreducible] AW AWY Be As vop Az Aq Ax qop Bd Bv Aj Ag Ay A7 Aw
attribute [local go_sem] Dp Gr Eg Ez Dz Ch Gu Fp Dx E6 Cf Ae Af
def E00 (q:Cg0):AV:=.tup [vwA q.view,Qz q.note,.val (.int .i64 q.err)]
end Go.Proofs.YtahgkllhbggmgaaGreatDoor
namespace Go.Proofs.YtahgkllhbggmgaaGreatDoor
open Go.ChangeShapes Go.WideShapes Go.ChangeAt Go.RowKit
attribute [local irreducible] AW AWY Be As vop Az Aq Ax qop Bd Bv Aj Ag Ay A7 Aw
attribute [local go_sem] Gr Eg Ez Dz Ch Gu Fp Dx E6 Ae Af
theorem Bu6 (x y:Operand) (p q:Int) (w:World):(do eqGuard .neq 89 x y (.agg #[.int .i64 p,.int .i64 q]) (.agg #[.int .i64 p,.int .i64 q]);binOp .neq 89 (.agg #[.int .i64 p,.int .i64 q]) (.agg #[.int .i64 p,.int .i64 q]):Sem Value).run Tryz.prog w=.ok (.bool false) w:=by
 go_simp
theorem Bf3 (x y:Operand) (p q r:Int) (b:Bool) (w:World):(do eqGuard .neq 128 x y (.agg #[.int .i64 p,.int .i64 q,.int .i64 r,.bool b]) (.agg #[.int .i64 p,.int .i64 q,.int .i64 r,.bool b]);binOp .neq 128 (.agg #[.int .i64 p,.int .i64 q,.int .i64 r,.bool b]) (.agg #[.int .i64 p,.int .i64 q,.int .i64 r,.bool b]):Sem Value).run Tryz.prog w=.ok (.bool false) w:=by
 go_simp
set_option maxRecDepth 100000 in
set_option maxHeartbeats 800000 in
theorem A70 (l:List Cr):A7 Tryz.prog A8 274 [.iv (boI l),.iv (boI l)] (.val (.bool true)) []:=by
 refine A7.of (n:=27) (rs:=[.tmp 4]) Tryz.func274 rfl (by kernel_rfl) Tryz.ntmps274 (by kernel_rfl) (by simp) (fun _ _=>A8.later) ?_
 intro hok V w0
 have hlen:l.length<=1073741824:=by simpa [boI] using hok.1.1
 refine g ?_
 repeat' refine st_ rfl (g ?_)
 refine AW.loop (fun i:{i:Nat // i<=l.length}=>⟨[(0,.iv (boI l)),(1,.iv (boI l)),(5,.val (.int .i64 (i.1:Nat)))],[]⟩) (fun i=>l.length - i.1) ⟨0,Nat.zero_le _⟩ id ⟨⟨rfl,rfl,rfl,trivial⟩,trivial,List.nodup_nil⟩ fun ⟨i,hi⟩=>?_
 refine g ?_
 repeat' (first | refine st_ rfl (g ?_) | exact trivial | refine Al (fun h=>g ?_) (fun h=>g ?_))
 have hlt:i < l.length:=by omega
 have hg:=Dl (f:=enB) (List.getElem?_eq_getElem hlt)
 have hsame:=Sk l[i] l[i]
 rw [decide_eq_true rfl] at hsame
 refine AW.drawn (ds:=[17,18,19,20,21,22,23,24,25,26]) (fin:=[]) (bs:=[0,0,0,0,0,0,0,0,0,0]) [⟨[],[],[],[],0⟩,⟨[],[],[],[],0⟩,⟨[(17,0),(18,1)],[],[],[],0⟩,⟨[(19,2)],[],[],[],0⟩,⟨[],[],[],[],0⟩,⟨[],[],[],[],0⟩,⟨[(21,4),(22,5)],[],[],[],0⟩,⟨[(23,6)],[],[],[],0⟩,⟨[(20,3),(24,7)],[],[],[],0⟩,⟨[(25,8)],[],[],[],0⟩] (by kernel_rfl) rfl (by kernel_rfl) rfl rfl rfl fun KD hKD=>?_
 refine g ?_
 repeat' (first | refine st_ rfl (g ?_) | (refine hKD _ _ ⟨rfl,g ?_⟩;clear hKD KD) | refine ix_ (by omega) (g ?_) | refine Aa (hsame) rfl (g ?_))
 exact ⟨⟨i+1,hlt⟩,id,⟨⟨rfl,rfl,rfl,trivial⟩,trivial,List.nodup_nil⟩,by show l.length - (i+1) < l.length - i;omega⟩
set_option maxRecDepth 100000 in
set_option maxHeartbeats 800000 in
theorem Ag1 (l:List Ar):A7 Tryz.prog A8 273 [.iv (wrI l),.iv (wrI l)] (.val (.bool true)) []:=by
 refine A7.of (n:=26) (rs:=[.tmp 4]) Tryz.func273 rfl (by kernel_rfl) Tryz.ntmps273 (by kernel_rfl) (by simp) (fun _ _=>A8.later) ?_
 intro hok V w0
 have hlen:l.length<=1073741824:=by simpa [wrI] using hok.1.1
 refine g ?_
 repeat' refine st_ rfl (g ?_)
 refine AW.loop (fun i:{i:Nat // i<=l.length}=>⟨[(0,.iv (wrI l)),(1,.iv (wrI l)),(5,.val (.int .i64 (i.1:Nat)))],[]⟩) (fun i=>l.length - i.1) ⟨0,Nat.zero_le _⟩ id ⟨⟨rfl,rfl,rfl,trivial⟩,trivial,List.nodup_nil⟩ fun ⟨i,hi⟩=>?_
 refine g ?_
 repeat' (first | refine st_ rfl (g ?_) | exact trivial | refine Al (fun h=>g ?_) (fun h=>g ?_))
 have hlt:i < l.length:=by omega
 have hg:=Dl (f:=enW) (List.getElem?_eq_getElem hlt)
 refine AW.drawn (ds:=[17,18,19,20,21,22,23,24,25]) (fin:=[]) (bs:=[0,0,0,0,0,0,0,0,0]) [⟨[],[],[],[],0⟩,⟨[],[],[],[],0⟩,⟨[(17,0),(18,1)],[],[],[],0⟩,⟨[(19,2)],[],[],[],0⟩,⟨[],[],[],[],0⟩,⟨[],[],[],[],0⟩,⟨[(21,4),(22,5)],[],[],[],0⟩,⟨[(23,6)],[],[],[],0⟩,⟨[(20,3),(24,7)],[],[],[],0⟩] (by kernel_rfl) rfl (by kernel_rfl) rfl rfl rfl fun KD hKD=>?_
 refine g ?_
 repeat' refine ix_ (by omega) (g ?_)
 refine ⟨_,fun u=>Bf3 _ _ _ _ _ _ u,?_⟩
 refine g ?_
 repeat' (first | refine st_ rfl (g ?_) | refine B9 (g ?_) | (refine hKD _ _ ⟨rfl,g ?_⟩;clear hKD KD))
 exact ⟨⟨i+1,hlt⟩,id,⟨⟨rfl,rfl,rfl,trivial⟩,trivial,List.nodup_nil⟩,by show l.length - (i+1) < l.length - i;omega⟩
set_option maxRecDepth 100000 in
set_option maxHeartbeats 800000 in
theorem Ag0 (l:List Bp):A7 Tryz.prog A8 272 [.iv (znI l),.iv (znI l)] (.val (.bool true)) []:=by
 refine A7.of (n:=42) (rs:=[.tmp 4]) Tryz.func272 rfl (by kernel_rfl) Tryz.ntmps272 (by kernel_rfl) (by simp) (fun _ _=>A8.later) ?_
 intro hok V w0
 have hlen:l.length<=1073741824:=by simpa [znI] using hok.1.1
 refine g ?_
 repeat' refine st_ rfl (g ?_)
 refine AW.loop (fun i:{i:Nat // i<=l.length}=>⟨[(0,.iv (znI l)),(1,.iv (znI l)),(5,.val (.int .i64 (i.1:Nat)))],[]⟩) (fun i=>l.length - i.1) ⟨0,Nat.zero_le _⟩ id ⟨⟨rfl,rfl,rfl,trivial⟩,trivial,List.nodup_nil⟩ fun ⟨i,hi⟩=>?_
 refine g ?_
 repeat' (first | refine st_ rfl (g ?_) | exact trivial | refine Al (fun h=>g ?_) (fun h=>g ?_))
 have hlt:i < l.length:=by omega
 have hg:=Dl (f:=enZ) (List.getElem?_eq_getElem hlt)
 have hsame:=Gv l[i].vec l[i].vec
 rw [decide_eq_true rfl] at hsame
 refine AW.drawn (ds:=[17,18,19,20,21,22,23,24,25,26,27,28,29,30,31,32,33,34,35,36,37,38,39,40,41]) (fin:=[]) (bs:=[0,0,0,0,0,0,0,0,0,0,0,0,0,0,0,0,0,0,0,0,0,0,0,0,0]) [⟨[],[],[],[],0⟩,⟨[],[],[],[],0⟩,⟨[(17,0),(18,1)],[],[],[],0⟩,⟨[(19,2)],[],[],[],0⟩,⟨[(20,3)],[],[],[],0⟩,⟨[],[],[],[],0⟩,⟨[],[],[],[],0⟩,⟨[(22,5),(23,6)],[],[],[],0⟩,⟨[(24,7)],[],[],[],0⟩,⟨[(25,8)],[],[],[],0⟩,⟨[(21,4),(26,9)],[],[],[],0⟩,⟨[(27,10)],[],[],[],0⟩,⟨[],[],[],[],0⟩,⟨[],[],[],[],0⟩,⟨[(29,12),(30,13)],[],[],[],0⟩,⟨[(31,14)],[],[],[],0⟩,⟨[(32,15)],[],[],[],0⟩,⟨[],[],[],[],0⟩,⟨[],[],[],[],0⟩,⟨[(34,17),(35,18)],[],[],[],0⟩,⟨[(36,19)],[],[],[],0⟩,⟨[(37,20)],[],[],[],0⟩,⟨[(33,16),(38,21)],[],[],[],0⟩,⟨[(39,22)],[],[],[],0⟩,⟨[(28,11),(40,23)],[],[],[],0⟩] (by kernel_rfl) rfl (by kernel_rfl) rfl rfl rfl fun KD hKD=>?_
 refine g ?_
 repeat' refine ix_ (by omega) (g ?_)
 refine ⟨_,fun u=>Bu6 _ _ _ _ u,?_⟩
 refine g ?_
 repeat' (first | refine st_ rfl (g ?_) | refine B9 (g ?_) | (refine hKD _ _ ⟨rfl,g ?_⟩;clear hKD KD) | refine ix_ (by omega) (g ?_) | refine Aa (hsame) rfl (g ?_))
 exact ⟨⟨i+1,hlt⟩,id,⟨⟨rfl,rfl,rfl,trivial⟩,trivial,List.nodup_nil⟩,by show l.length - (i+1) < l.length - i;omega⟩
set_option maxRecDepth 100000 in
theorem B83 (room:Int):A7 Tryz.prog A8 74 [.val (.int .i64 room)] (.tup [vwA (Bl8 room).1,.val (.int .i64 (Bl8 room).2)]) []:=by
 refine A7.ofS (n:=13) (rs:=[.cell 2 56,.tmp 3]) Tryz.func74 rfl (by kernel_rfl) Tryz.ntmps74 (by kernel_rfl) (by simp) (fun _ _=>A8.later) ?_
 intro hok V w0
 obtain ⟨R,hR⟩ : ∃ R,Bl8 room=R:=⟨_,rfl⟩
 rw [hR]
 unfold Bl8 P0 at hR
 refine g ?_
 repeat' (first | refine st_ rfl (g ?_) | refine Al (fun h=>g ?_) (fun h=>g ?_) | (refine B8 rfl rfl (fun h e=>?_) (fun h e=>?_)<;>simp only [e]<;>clear e<;>refine g ?_))
 ·rw [if_neg (by simp;omega)] at hR
  exact B05 hR.symm
 ·rw [if_neg (by simp;omega)] at hR
  exact B05 hR.symm
 ·rw [if_pos (by simp;omega)] at hR
  subst hR
  exact Bw9 room
end Go.Proofs.YtahgkllhbggmgaaGreatDoor
namespace Go.Proofs.YtahgkllhbggmgaaGreatDoor
open Go.ChangeShapes Go.WideShapes Go.ChangeAt Go.RowKit
attribute [local irreducible] AW AWY Be As vop Az Aq Ax qop Bd Bv Aj Ag Ay A7 Aw
attribute [local go_sem] Gr Eg Ez Dz Ch Gu Fp Dx E6 Ae Af
end Go.Proofs.YtahgkllhbggmgaaGreatDoor
namespace Go.Proofs.YtahgkllhbggmgaaGreatDoor
open Go.ChangeShapes Go.WideShapes Go.ChangeAt Go.RowKit
attribute [local irreducible] AW AWY Be As vop Az Aq Ax qop Bd Bv Aj Ag Ay A7 Aw Du
attribute [local go_sem] Dz Ch Gu E6 Cf Kl M6 Km Rb
set_option maxRecDepth 100000 in
set_option maxHeartbeats 1600000 in
theorem Ag4 (a b:List Ah):A7 Tryz.prog A8 102 [.iv (spI a),.iv (spI b)] (.iv (spI (U8 a b))) []:=by
 refine A7.of (n:=29) (rs:=[.tmp 4]) Tryz.func102 rfl (by kernel_rfl) Tryz.ntmps102 (by kernel_rfl) (by simp) (fun _ _=>A8.later) ?_
 intro hok V w0
 refine g ?_
 repeat' refine st_ rfl (g ?_)
 refine Aa (Zw a) rfl (g ?_)
 refine g ?_
 refine Aa (Zw b) rfl (g ?_)
 refine g ?_
 refine Ae7 (q:=2) (s:=256) (by kernel_rfl) (Fh _) rfl (by simp [rep]) ?_
 refine g ?_
 refine Ae7 (q:=2) (s:=256) (by kernel_rfl) (Fh _) rfl (by simp [rep]) ?_
 refine g ?_
 repeat' refine st_ rfl (g ?_)
 refine AW.freeze 700 _ rfl trivial ?_
 simp only [go_sem,reduceIte,Nat.reduceEqDiff]
 refine AW.loop (fun m:{m:Nat // m<=256}=>⟨[(5,.bp 600 0),(6,.ip (Du fun o=>Ba b o)),(7,.val (.int .i64 (m.1:Nat)))],[.arr 600 (Du fun o=>Ba a o&&!(decide (o < m.1)&&Ba b o))]⟩) (fun m=>256 - m.1) ⟨0,Nat.zero_le _⟩ id ⟨⟨rfl,rfl,rfl,trivial⟩,⟨congrArg (fun C=>some (BA.arr 600 C)) (Mv fun o _=>by simp),trivial⟩,by simp [Bw,BA.id]⟩ fun ⟨m,hm⟩=>?_
 simp only
 repeat (refine AW.seq ?_)
 refine AW.reg rfl fun KK hKK=>?_
 refine g ?_
 repeat' (refine hKK _ (g ?_);clear hKK KK)
 repeat (refine AW.seq ?_)
 refine st_ rfl ?_
 refine g ?_
 refine Al (fun h=>?_) (fun h=>?_)
 ·have hm':m < 256:=by omega
  obtain ⟨F,hF⟩ : ∃ F:Nat->Bool,(fun o:Nat=>Ba a o&&!(decide (o < m)&&Ba b o))=F:=⟨_,rfl⟩
  have hld:(Du F)[m]? = some (.val (.bool (Ba a m))):=by rw [K7 hm',<-hF];simp
  have hnx:Du (fun o=>if o=m then (Ba a m&&!Ba b m) else F o)=Du fun o=>Ba a o&&!(decide (o < m+1)&&Ba b o):=Mv fun o _=>by
   rw [<-hF]
   by_cases e:o=m
   ·subst e;simp
   ·rw [if_neg e,show decide (o < m+1)=decide (o < m) from decide_eq_decide.2 (by omega)]
  rw [hF]
  refine g ?_
  repeat' refine st_ rfl (g ?_)
  refine ⟨by omega,by omega,?_⟩
  rw [Nat.mul_one,Nat.zero_add]
  refine g ?_
  repeat' refine B9 (g ?_)
  refine ⟨_,hld,?_⟩
  cases ha:Ba a m with
  | false =>
   rw [ha,Bool.false_and] at hnx
   refine g ?_
   repeat' refine B9 (g ?_)
   refine ⟨by omega,by omega,?_⟩
   rw [Nat.mul_one,Nat.zero_add]
   refine g ?_
   repeat' refine B9 (g ?_)
   refine ⟨_,rfl,⟨trivial,trivial⟩,by rw [Fh];omega,?_⟩
   refine g ?_
   repeat' (first | refine st_ rfl (g ?_) | refine B9 (g ?_))
   refine ⟨⟨m+1,hm'⟩,id,⟨⟨rfl,rfl,rfl,trivial⟩,⟨congrArg (fun C=>some (BA.arr 600 C)) ((X7 hm').trans hnx),trivial⟩,by simp [Bw,BA.id]⟩,by show 256 - (m+1) < 256 - m;omega⟩
  | true =>
   rw [ha,Bool.true_and] at hnx
   refine g ?_
   repeat' refine B9 (g ?_)
   refine ⟨by omega,by omega,?_⟩
   rw [Nat.mul_one]
   refine g ?_
   repeat' refine B9 (g ?_)
   refine Bk1 (K7 hm') ?_
   refine g ?_
   refine ⟨by omega,by omega,?_⟩
   rw [Nat.mul_one,Nat.zero_add]
   refine g ?_
   repeat' refine B9 (g ?_)
   refine ⟨_,rfl,⟨trivial,trivial⟩,by rw [Fh];omega,?_⟩
   refine g ?_
   repeat' (first | refine st_ rfl (g ?_) | refine B9 (g ?_))
   refine ⟨⟨m+1,hm'⟩,id,⟨⟨rfl,rfl,rfl,trivial⟩,⟨congrArg (fun C=>some (BA.arr 600 C)) ((X7 hm').trans hnx),trivial⟩,by simp [Bw,BA.id]⟩,by show 256 - (m+1) < 256 - m;omega⟩
 ·obtain rfl:m=256:=by omega
  refine AW.exit ?_
  simp only [reduceIte]
  refine g ?_
  repeat' refine st_ rfl (g ?_)
  refine ⟨(Fh _).symm,?_⟩
  rw [show U8 a b=Gb (fun o=>Ba a o&&!(decide (o < 256)&&Ba b o)) from Pb fun o ho=>by simp [ho]]
  refine g ?_
  repeat' (first | refine st_ rfl (g ?_) | exact trivial | refine Aa (Cx9 _) rfl (g ?_))
end Go.Proofs.YtahgkllhbggmgaaGreatDoor
namespace Go.Proofs.YtahgkllhbggmgaaGreatDoor
open Go.ChangeShapes Go.WideShapes Go.ChangeAt Go.RowKit
def Az0 (a b:List Ah):Bool:=!Lq b (Zy a)
theorem Bd3 (a b:List Ah):Az0 a b=decide ((U8 b a).length=0):=by
 have he:U8 b a=Hc b (Zy a):=by
  unfold U8 Hc Zy
  exact Pb fun o ho=>by rw [Kv _ ho]
 unfold Az0 Lq
 rw [he]
 cases (Hc b (Zy a))<;>simp
attribute [local irreducible] AW AWY Be As vop Az Aq Ax qop Bd Bv Aj Ag Ay A7 Aw
attribute [local go_sem] Bn2
theorem A56 (a b:List Ah):A7 Tryz.prog A8 47 [.iv (spI a),.iv (spI b)] (.val (.bool (Az0 a b))) []:=by
 refine A7.of (n:=10) (rs:=[.tmp 4]) Tryz.func47 rfl (by kernel_rfl) Tryz.ntmps47 (by kernel_rfl) (by simp) (fun _ _=>A8.later) ?_
 intro hok V w0
 refine g ?_
 repeat' (first | refine st_ rfl (g ?_) | refine Aa (Ar2 _) rfl (g ?_) | refine Aa (Ae6 _ _) rfl (g ?_))
 rfl
theorem Z8 (a b:List Ah):A7 Tryz.prog A8 49 [.iv (spI a),.iv (spI b)] (.val (.bool (Az0 a b))) []:=by
 rw [Bd3]
 refine A7.of (n:=10) (rs:=[.tmp 4]) Tryz.func49 rfl (by kernel_rfl) Tryz.ntmps49 (by kernel_rfl) (by simp) (fun _ _=>A8.later) ?_
 intro hok V w0
 refine g ?_
 repeat' (first | refine st_ rfl (g ?_) | refine Aa (Ag4 _ _) rfl (g ?_))
 unfold spI
 refine g ?_
 repeat' refine st_ rfl (g ?_)
 rw [decide_eq_decide]
 omega
theorem Bb4 (l:List Int) (v:Int):A7 Tryz.prog A8 97 [.iv (inI l),.val (.int .i64 v)] (.val (.int .i64 (if v∈l then ((l.findIdx fun x=>v==x:Nat):Int) else -1))) []:=by
 refine A7.of (n:=19) (rs:=[.tmp 4]) Tryz.func97 rfl (by kernel_rfl) Tryz.ntmps97 (by kernel_rfl) (by simp) (fun _ _=>A8.later) ?_
 intro hok V w0
 have hlen:l.length<=1073741824:=by simpa [inI] using hok.1.1
 refine g ?_
 repeat' refine st_ rfl (g ?_)
 refine AW.loop (fun m:{m:Nat // m<=l.length/\∀ x∈l.take m,v≠x}=>⟨[(0,.iv (inI l)),(1,.val (.int .i64 v)),(7,.val (.int .i64 (l.length:Nat))),(8,.val (.int .i64 (m.1:Nat)))],[]⟩) (fun m=>l.length - m.1) ⟨0,Nat.zero_le _,fun x hx=>by simp at hx⟩ id ⟨⟨rfl,rfl,rfl,rfl,trivial⟩,trivial,List.nodup_nil⟩ fun ⟨m,hm,ht⟩=>?_
 refine g ?_
 repeat' (first | refine st_ rfl (g ?_) | refine Al (fun h=>g ?_) (fun h=>g ?_) | refine ix_ (by omega) (g ?_))
 ·have hlt:m < l.length:=by omega
  rw [if_pos (by rw [h];exact List.getElem_mem hlt),(List.findIdx_eq hlt).2 ⟨by simpa using h,fun j hj=>by simpa using ht _ (List.mem_take_iff_getElem.2 ⟨j,by omega,rfl⟩)⟩]
 ·refine ⟨⟨m+1,by omega,fun x hx=>?_⟩,id,⟨⟨rfl,rfl,rfl,rfl,trivial⟩,trivial,List.nodup_nil⟩,by show l.length - (m+1) < l.length - m;omega⟩
  rw [List.take_succ_eq_append_getElem (by omega)] at hx
  rcases List.mem_append.1 hx with h1 | h1
  ·exact ht x h1
  ·rw [List.mem_singleton.1 h1];exact h
 ·obtain rfl:m=l.length:=by omega
  rw [List.take_length] at ht
  rw [if_neg fun hm=>ht v hm rfl]
theorem Bb7 (l:List Int) (v:Int):A7 Tryz.prog A8 46 [.iv (inI l),.val (.int .i64 v)] (.val (.bool (decide (v∈l)))) []:=by
 refine A7.of (n:=9) (rs:=[.tmp 4]) Tryz.func46 rfl (by kernel_rfl) Tryz.ntmps46 (by kernel_rfl) (by simp) (fun _ _=>A8.later) ?_
 intro hok V w0
 have h1:=Bb4 l v
 by_cases ha:v∈l
 ·rw [if_pos ha] at h1
  rw [decide_eq_true ha]
  refine g ?_
  repeat' (first | refine st_ rfl (g ?_) | refine Aa (h1) rfl (g ?_))
  exact decide_eq_true (by omega)
 ·rw [if_neg ha] at h1
  rw [decide_eq_false ha]
  refine g ?_
  repeat' (first | refine st_ rfl (g ?_) | refine Aa (h1) rfl (g ?_))
  rfl
theorem Bb1 (l:List Int):A7 Tryz.prog A8 19 [.iv (inI l),.iv (inI l)] (.val (.bool true)) []:=by
 refine A7.of (n:=26) (rs:=[.tmp 4]) Tryz.func19 rfl (by kernel_rfl) Tryz.ntmps19 (by kernel_rfl) (by simp) (fun _ _=>A8.later) ?_
 intro hok V w0
 have hlen:l.length<=1073741824:=by simpa [inI] using hok.1.1
 refine g ?_
 repeat' refine st_ rfl (g ?_)
 refine AW.loop (fun m:{m:Nat // m<=l.length}=>⟨[(0,.iv (inI l)),(1,.iv (inI l)),(5,.val (.int .i64 (m.1:Nat)))],[]⟩) (fun m=>l.length - m.1) ⟨0,Nat.zero_le _⟩ id ⟨⟨rfl,rfl,rfl,trivial⟩,trivial,List.nodup_nil⟩ fun ⟨m,hm⟩=>?_
 simp only
 repeat (refine AW.seq ?_)
 refine AW.reg rfl fun KK hKK=>?_
 refine g ?_
 repeat' (refine hKK _ (g ?_);clear hKK KK)
 repeat (refine AW.seq ?_)
 refine st_ rfl ?_
 refine g ?_
 refine Al (fun h=>?_) (fun h=>?_)
 ·have hlt:m < l.length:=by omega
  refine st_ rfl (g ?_)
  refine AW.seq ?_
  refine AW.block ?_
  repeat (refine AW.seq ?_)
  refine AW.drawn (ds:=[17,18,19,20,21,22,23,24,25]) (fin:=[]) (bs:=[0,0,0,0,0,0,0,0,0]) [⟨[],[],[],[],0⟩,⟨[],[],[],[],0⟩,⟨[(17,0),(18,1)],[],[],[],0⟩,⟨[(19,2)],[],[],[],0⟩,⟨[],[],[],[],0⟩,⟨[],[],[],[],0⟩,⟨[(21,4),(22,5)],[],[],[],0⟩,⟨[(23,6)],[],[],[],0⟩,⟨[(20,3),(24,7)],[],[],[],0⟩] (by kernel_rfl) rfl (by kernel_rfl) rfl rfl rfl fun KD hKD=>?_
  refine g ?_
  repeat' (first | refine st_ rfl (g ?_) | (refine hKD _ _ ⟨rfl,g ?_⟩;clear hKD KD) | refine ix_ (by omega) (g ?_))
  exact ⟨⟨m+1,hlt⟩,id,⟨⟨rfl,rfl,rfl,trivial⟩,trivial,List.nodup_nil⟩,by show l.length - (m+1) < l.length - m;omega⟩
 ·refine AW.exit ?_
  simp only [reduceIte]
  refine g ?_
  repeat' (first | refine st_ rfl (g ?_) | exact trivial)
end Go.Proofs.YtahgkllhbggmgaaGreatDoor
namespace Go.Proofs.YtahgkllhbggmgaaGreatDoor
open Go.ChangeShapes Go.WideShapes Go.ChangeAt Go.RowKit
theorem U0 {s h:List Nat} {i:Nat} (h1:i < s.length) (h2:i < h.length):Pc (s.take (i+1)) (h.take (i+1))=Pc (s.take i) (h.take i)+if s[i]=h[i] then 0 else 1:=by
 rw [List.take_succ_eq_append_getElem h1,List.take_succ_eq_append_getElem h2,A11 (by simp;omega)]
theorem A76:∀ (s h:List Nat),Pc s h<=s.length
 | [],h=>by cases h<;>simp [Pc]
 | _ :: _,[]=>by simp [Pc]
 | a :: s,b :: h=>by
  have:=A76 s h
  simp only [Pc,List.length_cons]
  split<;>omega
attribute [local irreducible] AW AWY Be As vop Az Aq Ax qop Bd Bv Aj Ag Ay A7 Aw CH F8 Jh
attribute [local go_sem] Dp Aa2 Xk Bk6 Ae Af
theorem Aw0 (n:Int):A7 Tryz.prog A8 127 [.val (.int .i64 n)] (.val (.bool (Dk n))) []:=by
 refine A7.of (n:=9) (rs:=[.tmp 2]) Tryz.func127 rfl (by kernel_rfl) Tryz.ntmps127 (by kernel_rfl) (by simp) (fun _ _=>A8.later) ?_
 intro hok V w0
 refine g ?_
 repeat' (first | refine Jl rfl (g ?_) | refine B9 (g ?_) | refine Qk rfl rfl (g ?_) | refine Ql rfl rfl (g ?_) | refine Nq (fun h=>g ?_) | apply Nm rfl rfl rfl rfl | refine Qj rfl rfl rfl rfl ?_ | exact Qg | refine Qh rfl ?_)
 unfold Dk
 grind
theorem At3 (a b:Int):A7 Tryz.prog A8 72 [.val (.int .i64 a),.val (.int .i64 b)] (.val (.bool (Dk a&&Dk b&&decide (a≠b)))) []:=by
 refine A7.of (n:=24) (rs:=[.tmp 4]) Tryz.func72 rfl (by kernel_rfl) Tryz.ntmps72 (by kernel_rfl) (by simp) (fun _ _=>A8.later) ?_
 intro hok V w0
 refine g ?_
 repeat' (first | refine Jl rfl (g ?_) | refine B9 (g ?_) | refine Qk rfl rfl (g ?_) | refine Ql rfl rfl (g ?_) | refine Nq (fun h=>g ?_) | apply Nm rfl rfl rfl rfl | apply Vv rfl rfl rfl rfl | refine Qj rfl rfl rfl rfl ?_ | exact Qg | refine Qh rfl ?_)
 unfold Dk
 grind
theorem Bw0 {l:List Pkt} (h:AV.okd (.iv (pkI l))) {m:Nat} (hm:m < l.length):l[m].sent.length<=1073741824:=by
 obtain ⟨-,o1,o2,o3,-⟩:=Q7 (by simpa [pkI] using h.2) (Bo5 l[m]) (List.mem_map_of_mem (List.getElem_mem hm))
 simpa [byI] using o3.1
theorem B41 {p:Pkt} (h:Aa1 p=true):p.sent.length=p.here.length:=by
 unfold Aa1 at h
 grind
set_option maxRecDepth 100000 in
theorem Ak4 (p:Pkt):A7 Tryz.prog A8 61 [pkA p] (.val (.bool (Vq p))) []:=by
 refine A7.of (n:=52) (rs:=[.tmp 2]) Tryz.func61 rfl (by kernel_rfl) Tryz.ntmps61 (by kernel_rfl) (by simp) (fun _ _=>A8.later) ?_
 intro hok V w0
 have hl1:p.sent.length<=1073741824:=by simpa [byI] using hok.1.2.2.1.1
 refine g ?_
 repeat' (first | refine Jl rfl (g ?_) | refine B9 (g ?_) | refine De (fun h=>g ?_) (fun h=>g ?_) | refine Qk rfl rfl (g ?_) | refine Ql rfl rfl (g ?_) | refine Nq (fun h=>g ?_) | apply Vv rfl rfl rfl rfl | refine Qj rfl rfl rfl rfl ?_ | exact Qg | refine Qh rfl ?_ | refine Aa (Aw0 _) rfl (g ?_))
 ·unfold Vq Aa1
  unfold Dk at *
  grind
 ·have hE:Aa1 p=true:=by
   unfold Aa1
   unfold Dk at *
   grind
  have hll:=B41 hE
  refine AW.loop (fun i:{i:Nat // i<=p.sent.length}=>⟨[(1,.bp 200 0),(3,.val (.int .i64 (Pc (p.sent.take i.1) (p.here.take i.1):Nat))),(33,.iv (byI p.sent)),(34,.val (.int .i64 (p.sent.length:Nat))),(35,.val (.int .i64 (i.1:Nat)))],[.box 200 [.val (.int .i64 p.from_),.val (.int .i64 p.to_),.iv (byI p.sent),.iv (byI p.here)]]⟩) (fun i=>p.sent.length - i.1) ⟨0,Nat.zero_le _⟩ id ⟨⟨rfl,rfl,rfl,rfl,rfl,trivial⟩,⟨rfl,trivial⟩,by simp [Bw,BA.id]⟩ fun ⟨i,hi⟩=>?_
  simp only
  have hb:Pc (p.sent.take i) (p.here.take i)<=i:=Nat.le_trans (A76 _ _) (by simp;omega)
  refine g ?_
  repeat' (first | refine Jl rfl (g ?_) | refine Al (fun h=>g ?_) (fun h=>g ?_) | refine ix_ (by omega) (g ?_))
  ·have hs:=U0 (s:=p.sent) (h:=p.here) (i:=i) (by omega) (by omega)
   rw [if_neg (by omega)] at hs
   exact ⟨⟨i+1,by omega⟩,id,⟨⟨rfl,by rw [hs];rfl,rfl,rfl,rfl,trivial⟩,⟨rfl,trivial⟩,by simp [Bw,BA.id]⟩,by show p.sent.length - (i+1) < p.sent.length - i;omega⟩
  ·have hs:=U0 (s:=p.sent) (h:=p.here) (i:=i) (by omega) (by omega)
   rw [if_pos (by omega)] at hs
   exact ⟨⟨i+1,by omega⟩,id,⟨⟨rfl,by rw [hs];rfl,rfl,rfl,rfl,trivial⟩,⟨rfl,trivial⟩,by simp [Bw,BA.id]⟩,by show p.sent.length - (i+1) < p.sent.length - i;omega⟩
  ·obtain rfl:i=p.sent.length:=by omega
   rw [List.take_length,List.take_of_length_le (by omega),Vq,hE,Bool.true_and,decide_eq_decide]
   omega
theorem A78 (p:Pkt):A7 Tryz.prog A8 60 [pkA p] (.val (.bool (!Vq p))) []:=by
 refine A7.of (n:=6) (rs:=[.tmp 2]) Tryz.func60 rfl (by kernel_rfl) Tryz.ntmps60 (by kernel_rfl) (by simp) (fun _ _=>A8.later) ?_
 intro hok V w0
 refine g ?_
 repeat' (first | refine Jl rfl (g ?_) | exact trivial | refine Aa (Ak4 p) rfl (g ?_))
theorem Ax0 (l:List Pkt) (f:FuncId)  (p:Pkt->Bool) (hp:∀ x,A7 Tryz.prog A8 f [pkA x] (.val (.bool (p x))) []):A7 Tryz.prog A8 71 [.iv (pkI l),.fn f []] (.val (.int .i64 (if l.any p=true then ((l.findIdx p:Nat):Int) else -1))) []:=by
 refine A7.of (n:=19) (rs:=[.tmp 4]) Tryz.func71 rfl (by kernel_rfl) Tryz.ntmps71 (by kernel_rfl) (by simp) (fun _ _=>A8.later) ?_
 intro hok V w0
 have hlen:l.length<=1073741824:=by simpa [pkI] using hok.1.1
 refine g ?_
 repeat' refine st_ rfl (g ?_)
 refine AW.loop (fun m:{m:Nat // m<=l.length/\∀ x∈l.take m,p x=false}=>⟨[(0,.iv (pkI l)),(1,.fn f []),(7,.val (.int .i64 (l.length:Nat))),(8,.val (.int .i64 (m.1:Nat)))],[]⟩) (fun m=>l.length - m.1) ⟨0,Nat.zero_le _,fun x hx=>by simp at hx⟩ id ⟨⟨rfl,rfl,rfl,rfl,trivial⟩,trivial,List.nodup_nil⟩ fun ⟨m,hm,ht⟩=>?_
 refine g ?_
 repeat' (first | refine st_ rfl (g ?_) | refine Al (fun h=>g ?_) (fun h=>g ?_) | refine De (fun h=>g ?_) (fun h=>g ?_) | refine ix_ (by omega) (g ?_) | refine Aa (hp _) rfl (g ?_))
 ·have hlt:m < l.length:=by omega
  rw [if_pos (List.any_eq_true.2 ⟨_,List.getElem_mem hlt,h⟩),(List.findIdx_eq hlt).2 ⟨h,fun j hj=>ht _ (List.mem_take_iff_getElem.2 ⟨j,by omega,rfl⟩)⟩]
 ·refine ⟨⟨m+1,by omega,fun x hx=>?_⟩,id,⟨⟨rfl,rfl,rfl,rfl,trivial⟩,trivial,List.nodup_nil⟩,by show l.length - (m+1) < l.length - m;omega⟩
  rw [List.take_succ_eq_append_getElem (by omega)] at hx
  rcases List.mem_append.1 hx with h1 | h1
  ·exact ht x h1
  ·rw [List.mem_singleton.1 h1];exact h
 ·obtain rfl:m=l.length:=by omega
  rw [List.take_length] at ht
  rw [if_neg]
  rw [List.any_eq_true]
  rintro ⟨x,hx,hp⟩
  rw [ht x hx] at hp
  cases hp
theorem Ax5 (l:List Pkt) (f:FuncId)  (p:Pkt->Bool) (hp:∀ x,A7 Tryz.prog A8 f [pkA x] (.val (.bool (p x))) []):A7 Tryz.prog A8 27 [.iv (pkI l),.fn f []] (.val (.bool (l.any p))) []:=by
 refine A7.of (n:=9) (rs:=[.tmp 4]) Tryz.func27 rfl (by kernel_rfl) Tryz.ntmps27 (by kernel_rfl) (by simp) (fun _ _=>A8.later) ?_
 intro hok V w0
 have h1:=Ax0 l f  p hp
 cases ha:l.any p with
 | true =>
  rw [if_pos ha] at h1
  refine g ?_
  repeat' (first | refine st_ rfl (g ?_) | refine Aa (h1) rfl (g ?_))
  exact decide_eq_true (by omega)
 | false =>
  rw [if_neg (by rw [ha];decide)] at h1
  refine g ?_
  repeat' (first | refine st_ rfl (g ?_) | refine Aa (h1) rfl (g ?_))
  rfl
theorem Aw9 (l:List Pkt) (f:FuncId) (d:List IV) (p:Pkt->Bool) (hp:∀ x,A7 Tryz.prog A8 f [pkA x,.ip d] (.val (.bool (p x))) []):A7 Tryz.prog A8 71 [.iv (pkI l),.fn f [.ip d]] (.val (.int .i64 (if l.any p=true then ((l.findIdx p:Nat):Int) else -1))) []:=by
 refine A7.of (n:=19) (rs:=[.tmp 4]) Tryz.func71 rfl (by kernel_rfl) Tryz.ntmps71 (by kernel_rfl) (by simp) (fun _ _=>A8.later) ?_
 intro hok V w0
 have hlen:l.length<=1073741824:=by simpa [pkI] using hok.1.1
 refine g ?_
 repeat' refine st_ rfl (g ?_)
 refine AW.loop (fun m:{m:Nat // m<=l.length/\∀ x∈l.take m,p x=false}=>⟨[(0,.iv (pkI l)),(1,.fn f [.ip d]),(7,.val (.int .i64 (l.length:Nat))),(8,.val (.int .i64 (m.1:Nat)))],[]⟩) (fun m=>l.length - m.1) ⟨0,Nat.zero_le _,fun x hx=>by simp at hx⟩ id ⟨⟨rfl,rfl,rfl,rfl,trivial⟩,trivial,List.nodup_nil⟩ fun ⟨m,hm,ht⟩=>?_
 refine g ?_
 repeat' (first | refine st_ rfl (g ?_) | refine Al (fun h=>g ?_) (fun h=>g ?_) | refine De (fun h=>g ?_) (fun h=>g ?_) | refine ix_ (by omega) (g ?_) | refine Aa (hp _) rfl (g ?_))
 ·have hlt:m < l.length:=by omega
  rw [if_pos (List.any_eq_true.2 ⟨_,List.getElem_mem hlt,h⟩),(List.findIdx_eq hlt).2 ⟨h,fun j hj=>ht _ (List.mem_take_iff_getElem.2 ⟨j,by omega,rfl⟩)⟩]
 ·refine ⟨⟨m+1,by omega,fun x hx=>?_⟩,id,⟨⟨rfl,rfl,rfl,rfl,trivial⟩,trivial,List.nodup_nil⟩,by show l.length - (m+1) < l.length - m;omega⟩
  rw [List.take_succ_eq_append_getElem (by omega)] at hx
  rcases List.mem_append.1 hx with h1 | h1
  ·exact ht x h1
  ·rw [List.mem_singleton.1 h1];exact h
 ·obtain rfl:m=l.length:=by omega
  rw [List.take_length] at ht
  rw [if_neg]
  rw [List.any_eq_true]
  rintro ⟨x,hx,hp⟩
  rw [ht x hx] at hp
  cases hp
theorem Ax4 (l:List Pkt) (f:FuncId) (d:List IV) (p:Pkt->Bool) (hp:∀ x,A7 Tryz.prog A8 f [pkA x,.ip d] (.val (.bool (p x))) []):A7 Tryz.prog A8 27 [.iv (pkI l),.fn f [.ip d]] (.val (.bool (l.any p))) []:=by
 refine A7.of (n:=9) (rs:=[.tmp 4]) Tryz.func27 rfl (by kernel_rfl) Tryz.ntmps27 (by kernel_rfl) (by simp) (fun _ _=>A8.later) ?_
 intro hok V w0
 have h1:=Aw9 l f d p hp
 cases ha:l.any p with
 | true =>
  rw [if_pos ha] at h1
  refine g ?_
  repeat' (first | refine st_ rfl (g ?_) | refine Aa (h1) rfl (g ?_))
  exact decide_eq_true (by omega)
 | false =>
  rw [if_neg (by rw [ha];decide)] at h1
  refine g ?_
  repeat' (first | refine st_ rfl (g ?_) | refine Aa (h1) rfl (g ?_))
  rfl
theorem A81 (l:List Pkt):A7 Tryz.prog A8 25 [.iv (pkI l)] (.val (.bool (Fl l))) []:=by
 refine A7.of (n:=11) (rs:=[.tmp 2]) Tryz.func25 rfl (by kernel_rfl) Tryz.ntmps25 (by kernel_rfl) (by simp) (fun _ _=>A8.later) ?_
 intro hok V w0
 refine g ?_
 repeat' (first | refine Jl rfl (g ?_) | refine B9 (g ?_) | refine Qk rfl rfl (g ?_) | refine Ql rfl rfl (g ?_) | refine Nq (fun h=>g ?_) | apply Nm rfl rfl rfl rfl | refine Qj rfl rfl rfl rfl ?_ | exact Qg | refine Qh rfl ?_ | refine Aa (Ax5 l _ (fun x=>!Vq x) A78) rfl (g ?_))
 unfold Fl
 rw [List.all_eq_not_any_not]
 grind
set_option maxRecDepth 100000 in
theorem Za (l:List Pkt):A7 Tryz.prog A8 29 [.iv (pkI l)] (.val (.bool (Fl l))) []:=by
 refine A7.of (n:=57) (rs:=[.tmp 2]) Tryz.func29 rfl (by kernel_rfl) Tryz.ntmps29 (by kernel_rfl) (by simp) (fun _ _=>A8.later) ?_
 intro hok V w0
 have hlen:l.length<=1073741824:=by simpa [pkI] using hok.1.1
 refine g ?_
 repeat' (first | refine Jl rfl (g ?_) | refine Al (fun h=>g ?_) (fun h=>g ?_))
 ·unfold Fl
  grind
 ·refine AW.loop (fun m:{m:Nat // m<=l.length/\(l.take m).all Vq=true}=>⟨[(0,.iv (pkI l)),(3,.val (.int .i64 (m.1:Nat)))],[]⟩) (fun m=>l.length - m.1) ⟨0,Nat.zero_le _,rfl⟩ id ⟨⟨rfl,rfl,trivial⟩,trivial,List.nodup_nil⟩ fun ⟨m,hm,ht⟩=>?_
  simp only
  refine g ?_
  repeat' (first | refine Jl rfl (g ?_) | refine B9 (g ?_) | refine Al (fun h=>g ?_) (fun h=>g ?_) | refine De (fun h=>g ?_) (fun h=>g ?_) | refine Qk rfl rfl (g ?_) | refine Ql rfl rfl (g ?_) | refine Nq (fun h=>g ?_) | apply Vv rfl rfl rfl rfl | refine Qj rfl rfl rfl rfl ?_ | exact Qg | refine Qh rfl ?_ | refine ix_ (by omega) (g ?_) | refine Aa (At3 _ _) rfl (g ?_))
  ·have hN:Fl l=false:=by
    have:l.all Vq=false:=Gp (m:=m) (by omega) (by unfold Vq Aa1;unfold Dk at *;grind)
    rw [Fl,this,Bool.and_false]
   exact hN.symm
  ·have hE:Aa1 l[m]=true:=by
    unfold Aa1
    unfold Dk at *
    grind
   have hll:=B41 hE
   have hls:l[m].sent.length<=1073741824:=Bw0 hok.1 (by omega)
   refine AW.loop (fun k:{k:Nat // k<=l[m].sent.length}=>⟨[(0,.iv (pkI l)),(3,.val (.int .i64 (m:Nat))),(4,.bp 500 0),(5,.val (.int .i64 (Pc (l[m].sent.take k.1) (l[m].here.take k.1):Nat))),(6,.val (.int .i64 (k.1:Nat)))],[.box 500 [.val (.int .i64 l[m].from_),.val (.int .i64 l[m].to_),.iv (byI l[m].sent),.iv (byI l[m].here)]]⟩) (fun k=>l[m].sent.length - k.1) ⟨0,Nat.zero_le _⟩ id ⟨⟨rfl,rfl,rfl,rfl,rfl,trivial⟩,⟨rfl,trivial⟩,by simp [Bw,BA.id]⟩ fun ⟨k,hk⟩=>?_
   simp only
   have hb:Pc (l[m].sent.take k) (l[m].here.take k)<=k:=Nat.le_trans (A76 _ _) (by simp;omega)
   repeat (refine AW.seq ?_)
   refine AW.reg rfl fun KK hKK=>?_
   refine g ?_
   repeat' (refine hKK _ (g ?_);clear hKK KK)
   repeat (refine AW.seq ?_)
   refine st_ rfl ?_
   refine g ?_
   refine Al (fun h=>?_) (fun h=>?_)
   ·have hlt:k < l[m].sent.length:=by omega
    have hs:=U0 (s:=l[m].sent) (h:=l[m].here) (i:=k) hlt (by omega)
    refine st_ rfl (g ?_)
    refine AW.seq ?_
    refine AW.block ?_
    repeat (refine AW.seq ?_)
    refine AW.drawn (ds:=[42,43,44,45,46,47,48,49,50,51,52]) (fin:=[0]) (bs:=[1,1,1,1,1,1,1,1,1,1,1]) [⟨[],[],[],[],0⟩,⟨[(42,0)],[],[0],[],0⟩,⟨[],[],[],[],0⟩,⟨[(43,1),(44,2)],[],[0],[],0⟩,⟨[(45,3)],[],[0],[],0⟩,⟨[],[],[],[],0⟩,⟨[(47,5)],[],[0],[],0⟩,⟨[],[],[],[],0⟩,⟨[(48,6),(49,7)],[],[0],[],0⟩,⟨[(50,8)],[],[0],[],0⟩,⟨[(46,4),(51,9)],[],[],[],0⟩] (by kernel_rfl) rfl (by kernel_rfl) rfl rfl rfl fun KD hKD=>?_
    refine g ?_
    repeat' (first | refine st_ rfl (g ?_) | refine Al (fun h=>g ?_) (fun h=>g ?_) | (refine hKD _ _ ⟨rfl,g ?_⟩;clear hKD KD) | refine ix_ (by omega) (g ?_))
    ·rw [if_neg (by omega)] at hs
     exact ⟨⟨k+1,hlt⟩,id,⟨⟨rfl,rfl,rfl,by rw [hs];rfl,rfl,trivial⟩,⟨rfl,trivial⟩,by simp [Bw,BA.id]⟩,by show l[m].sent.length - (k+1) < l[m].sent.length - k;omega⟩
    ·rw [if_pos (by omega)] at hs
     exact ⟨⟨k+1,hlt⟩,id,⟨⟨rfl,rfl,rfl,by rw [hs];rfl,rfl,trivial⟩,⟨rfl,trivial⟩,by simp [Bw,BA.id]⟩,by show l[m].sent.length - (k+1) < l[m].sent.length - k;omega⟩
   ·refine AW.exit ?_
    simp only [reduceIte]
    have hP:Vq l[m]=decide (Pc (l[m].sent.take k) (l[m].here.take k)<=1):=by rw [List.take_of_length_le (by omega),List.take_of_length_le (by omega),Vq,hE,Bool.true_and]
    refine g ?_
    repeat' (first | refine st_ rfl (g ?_) | refine Al (fun h=>g ?_) (fun h=>g ?_))
    ·have:l.all Vq=false:=Gp (m:=m) (by omega) (by rw [hP];exact decide_eq_false (by omega))
     rw [Fl,this,Bool.and_false]
    ·have hlt:m < l.length:=by omega
     exact ⟨⟨m+1,hlt,by rw [List.take_succ_eq_append_getElem hlt,List.all_append,ht,Bool.true_and,List.all_cons,List.all_nil,Bool.and_true,hP];exact decide_eq_true (by omega)⟩,id,⟨⟨rfl,rfl,trivial⟩,trivial,List.nodup_nil⟩,by show l.length - (m+1) < l.length - m;omega⟩
  ·obtain rfl:m=l.length:=by omega
   rw [List.take_length] at ht
   rw [Fl,ht,decide_eq_true (by omega)]
   rfl
end Go.Proofs.YtahgkllhbggmgaaGreatDoor
namespace Go.Proofs.YtahgkllhbggmgaaGreatDoor
open Go.ChangeShapes Go.WideShapes Go.ChangeAt Go.RowKit
attribute [local irreducible] AW AWY Be As vop Az Aq Ax qop Bd Bv Aj Ag Ay A7 Aw
attribute [local go_sem] Zs Dp Uh N9 Na Lt Pf Lu L6 Ro P6 Pp Jc L4 Ge L5 G9 E6 Dx Eg Ch S7 Ae Af
end Go.Proofs.YtahgkllhbggmgaaGreatDoor
namespace Go.Proofs.YtahgkllhbggmgaaGreatDoor
open Go.ChangeShapes Go.WideShapes Go.ChangeAt Go.RowKit
attribute [local irreducible] AW AWY Be As vop Az Aq Ax qop Bd Bv Aj Ag Ay A7 Aw
attribute [local go_sem] Zs Dp Uh N9 Na Lt Pf Lu P6 Jc L4 Ge G9 E6 Dx Eg Ch S7 Ae Af
theorem Bw8 {l:List Sub} {p:Sub->Bool} {m:Nat} (hm:m < l.length) (h:p l[m]=true) (ht:∀ x∈l.take m,p x=false):(if l.any p=true then ((l.findIdx p:Nat):Int) else -1)=(m:Int):=by
 rw [if_pos (List.any_eq_true.2 ⟨_,List.getElem_mem hm,h⟩),(List.findIdx_eq hm).2 ⟨h,fun j hj=>ht _ (List.mem_take_iff_getElem.2 ⟨j,by omega,rfl⟩)⟩]
theorem Bw7 {l:List Sub} {p:Sub->Bool} (ht:∀ x∈l,p x=false):(if l.any p=true then ((l.findIdx p:Nat):Int) else -1)=-1:=by
 rw [if_neg]
 rw [List.any_eq_true]
 rintro ⟨x,hx,hp⟩
 rw [ht x hx] at hp
 cases hp
set_option maxRecDepth 100000 in
set_option maxHeartbeats 1600000 in
theorem B78 (n:Es) (f:Int) (hI:K5 n):A7 Tryz.prog A8 82 [ndA n,.val (.int .i64 f)] (.val (.int .i64 (Ae4 n.subs f))) []:=by
 refine A7.of (n:=22) (rs:=[.tmp 4]) Tryz.func82 rfl (by kernel_rfl) Tryz.ntmps82 (by kernel_rfl) (by simp) (fun _ _=>A8.later) ?_
 intro hok V w0
 obtain ⟨iM,iR,iS,iT,iD⟩:=hI
 have hu:AV.okd (.iv (J2 n.subs)):=hok.1.2.2.2.2.2.2.2.2.2.2.1
 have hlen:n.subs.length<=1073741824:=by simpa using hu.1
 refine g ?_
 refine AW.seq ?_
 refine AW.reg rfl fun KK hKK=>?_
 refine g ?_
 repeat' (refine hKK _ (g ?_);clear hKK KK)
 refine AW.freeze 300 _ rfl ⟨iM,trivial,trivial,trivial,trivial,iR,trivial,trivial,iS,trivial,trivial,iT,trivial,iD,trivial,trivial,trivial⟩ ?_
 simp only [go_sem,reduceIte,Nat.reduceEqDiff]
 refine g ?_
 repeat' refine st_ rfl (g ?_)
 refine AW.loop (fun m:{m:Nat // m<=n.subs.length/\∀ x∈n.subs.take m,decide (x.from_=f)=false}=>⟨[(1,.val (.int .i64 f)),(2,.ip [.val (.int .i64 n.me),stI n.view.known,znI n.view.zones,wrI n.view.held,boI n.view.bodies,.val (.int .i64 n.view.room),stI n.log.base,noI n.log.notes,.val (.int .i64 n.log.sure),ouI n.outs,J2 n.subs,.val (.int .i64 n.tries),msI n.queue,.val (.int .i64 n.disk.room),flI n.disk.files,.val (.bool n.down)]),(5,.val (.int .i64 (m.1:Nat)))],[]⟩) (fun m=>n.subs.length - m.1) ⟨0,Nat.zero_le _,fun x hx=>by simp at hx⟩ id ⟨⟨rfl,rfl,rfl,trivial⟩,trivial,List.nodup_nil⟩ fun ⟨m,hm,ht⟩=>?_
 simp only
 repeat (refine AW.seq ?_)
 refine AW.reg rfl fun KK hKK=>?_
 refine g ?_
 repeat' (refine hKK _ (g ?_);clear hKK KK)
 repeat (refine AW.seq ?_)
 refine st_ rfl ?_
 refine g ?_
 refine Al (fun h=>?_) (fun h=>?_)
 ·have hlt:m < n.subs.length:=by omega
  have hget:=Dl (f:=Yc) (List.getElem?_eq_getElem hlt)
  refine st_ rfl (g ?_)
  refine g ?_
  repeat' (first | refine st_ rfl (g ?_) | refine Al (fun h=>g ?_) (fun h=>g ?_) | refine ix_ (by omega) (g ?_))
  ·have h2:n.subs[m].from_=f:=by simpa using h
   exact (Bw8 hlt (by simpa using h2) ht).symm
  ·have h2:¬ n.subs[m].from_=f:=by simpa using h
   refine ⟨⟨m+1,by omega,fun x hx=>?_⟩,id,⟨⟨rfl,rfl,rfl,trivial⟩,trivial,List.nodup_nil⟩,by show n.subs.length - (m+1) < n.subs.length - m;omega⟩
   rw [List.take_succ_eq_append_getElem hlt] at hx
   rcases List.mem_append.1 hx with h1 | h1
   ·exact ht x h1
   ·rw [List.mem_singleton.1 h1];simpa using h2
 ·obtain rfl:m=n.subs.length:=by omega
  rw [List.take_length] at ht
  refine AW.exit ?_
  simp only [reduceIte]
  refine g ?_
  repeat' refine st_ rfl (g ?_)
  exact (Bw7 ht).symm
end Go.Proofs.YtahgkllhbggmgaaGreatDoor
namespace Go.Proofs.YtahgkllhbggmgaaGreatDoor
open Go.ChangeShapes Go.WideShapes Go.ChangeAt Go.RowKit
attribute [local irreducible] AW AWY Be As vop Az Aq Ax qop Bd Bv Aj Ag Ay A7 Aw Du
attribute [local go_sem] L6 Lu Ro Ez Dp Ae Af
set_option maxRecDepth 100000 in
set_option maxHeartbeats 1600000 in
theorem At0 (x y:Msg) (e:x=y):A7 Tryz.prog A8 277 [msA x,msA y] (.val (.bool true)) []:=by
 refine A7.of (n:=66) (rs:=[.tmp 4]) Tryz.func277 rfl (by kernel_rfl) Tryz.ntmps277 (by kernel_rfl) (by simp) (fun _ _=>A8.later) ?_
 intro hok V w0
 have h3:=Sk x.body y.body
 rw [decide_eq_true (congrArg Msg.body e)] at h3
 obtain ⟨a1,a2,a3,a4,a5,a6,a7,a8,⟨a9,⟨b1,b2⟩,b3⟩⟩:=x
 obtain ⟨c1,c2,c3,c4,c5,c6,c7,c8,⟨c9,⟨d1,d2⟩,d3⟩⟩:=y
 injection e with e1 e2 e3 e4 e5 e6 e7 e8 e9
 subst e8
 refine g ?_
 repeat' (first | refine st_ rfl (g ?_) | exact trivial | (refine B8 rfl rfl (fun h e=>?_) (fun h e=>?_)<;>simp only [e]<;>clear e<;>refine g ?_) | refine Aa (Ny _ _) rfl (g ?_) | refine Aa (Gv _ _) rfl (g ?_) | refine Aa (A07 _) rfl (g ?_) | refine Aa (h3) rfl (g ?_))
 all_goals contradiction
theorem Ag9 (x:Msg):A7 Tryz.prog A8 277 [msA x,msA x] (.val (.bool true)) []:=At0 x x rfl
set_option maxRecDepth 100000 in
set_option maxHeartbeats 800000 in
theorem As9 (l:List Msg):A7 Tryz.prog A8 153 [.iv (msI l),.iv (msI l)] (.val (.bool true)) []:=by
 refine A7.of (n:=27) (rs:=[.tmp 4]) Tryz.func153 rfl (by kernel_rfl) Tryz.ntmps153 (by kernel_rfl) (by simp) (fun _ _=>A8.later) ?_
 intro hok V w0
 have hlen:l.length<=1073741824:=by simpa [msI] using hok.1.1
 refine g ?_
 repeat' refine st_ rfl (g ?_)
 refine AW.loop (fun i:{i:Nat // i<=l.length}=>⟨[(0,.iv (msI l)),(1,.iv (msI l)),(5,.val (.int .i64 (i.1:Nat)))],[]⟩) (fun i=>l.length - i.1) ⟨0,Nat.zero_le _⟩ id ⟨⟨rfl,rfl,rfl,trivial⟩,trivial,List.nodup_nil⟩ fun ⟨i,hi⟩=>?_
 refine g ?_
 repeat' (first | refine st_ rfl (g ?_) | exact trivial | refine Al (fun h=>g ?_) (fun h=>g ?_))
 have hlt:i < l.length:=by omega
 have hg:=Dl (f:=A31) (List.getElem?_eq_getElem hlt)
 refine AW.drawn (ds:=[17,18,19,20,21,22,23,24,25,26]) (fin:=[]) (bs:=[0,0,0,0,0,0,0,0,0,0]) [⟨[],[],[],[],0⟩,⟨[],[],[],[],0⟩,⟨[(17,0),(18,1)],[],[],[],0⟩,⟨[(19,2)],[],[],[],0⟩,⟨[],[],[],[],0⟩,⟨[],[],[],[],0⟩,⟨[(21,4),(22,5)],[],[],[],0⟩,⟨[(23,6)],[],[],[],0⟩,⟨[(20,3),(24,7)],[],[],[],0⟩,⟨[(25,8)],[],[],[],0⟩] (by kernel_rfl) rfl (by kernel_rfl) rfl rfl rfl fun KD hKD=>?_
 refine g ?_
 repeat' (first | refine st_ rfl (g ?_) | (refine hKD _ _ ⟨rfl,g ?_⟩;clear hKD KD) | refine ix_ (by omega) (g ?_) | refine Aa (Ag9 _) rfl (g ?_))
 exact ⟨⟨i+1,hlt⟩,id,⟨⟨rfl,rfl,rfl,trivial⟩,trivial,List.nodup_nil⟩,by show l.length - (i+1) < l.length - i;omega⟩
end Go.Proofs.YtahgkllhbggmgaaGreatDoor
namespace Go.Proofs.YtahgkllhbggmgaaGreatDoor
open Go.ChangeShapes Go.WideShapes Go.ChangeAt Go.RowKit
attribute [local irreducible] AW AWY Be As vop Az Aq Ax qop Bd Bv Aj Ag Ay A7 Aw
attribute [local go_sem] Ge L5 G9 Cf Ae Af
theorem Bi7 (l m:List Ad):A7 Tryz.prog A8 164 [.iv (stI l),.iv (stI m)] (.iv (stI (Dw [l,m]))) []:=(As2 l m).frz trivial
set_option maxHeartbeats 1600000 in
set_option maxRecDepth 100000 in
theorem Qy (l:Log) (iS:I64 l.sure):A7 Tryz.prog A8 77 [Xz l] (.val (.bool (C6 l))) []:=by
 refine A7.of (n:=56) (rs:=[.tmp 2]) Tryz.func77 rfl (by kernel_rfl) Tryz.ntmps77 (by kernel_rfl) (by simp) (fun _ _=>A8.later) ?_
 intro hok V w0
 have hlen:l.notes.length<=1073741824:=by simpa using hok.1.2.1.1
 obtain ⟨B,hB⟩ : ∃ B,C6 l=B:=⟨_,rfl⟩
 rw [hB]
 unfold C6 Ww at hB
 refine g ?_
 refine AW.seq ?_
 refine AW.reg rfl fun KK hKK=>?_
 refine g ?_
 repeat' (refine hKK _ (g ?_);clear hKK KK)
 refine AW.freeze 200 _ rfl ⟨trivial,trivial,iS,trivial⟩ ?_
 simp only [go_sem,reduceIte,Nat.reduceEqDiff]
 refine g ?_
 repeat' refine st_ rfl (g ?_)
 refine Aa (Gh l.base) rfl ?_
 cases hb:B7 l.base
 ·obtain rfl:B=false:=by rw [<-hB,hb];rfl
  refine g ?_
  repeat' refine st_ rfl (g ?_)
  first | exact trivial | exact ⟨.inl trivial,id,List.nodup_nil⟩ | exact ⟨.inl trivial,id,rfl,List.nodup_nil⟩ | rfl
 refine g ?_
 by_cases h0:l.sure < 0
 ·obtain rfl:B=false:=by rw [<-hB,decide_eq_false (p:=0<=l.sure) (by omega)];simp
  simp only [decide_eq_true h0]
  refine g ?_
  repeat' refine st_ rfl (g ?_)
  first | exact trivial | exact ⟨.inl trivial,id,List.nodup_nil⟩ | exact ⟨.inl trivial,id,rfl,List.nodup_nil⟩ | rfl
 simp only [decide_eq_false h0]
 refine g ?_
 repeat' (first | refine st_ rfl (g ?_) | refine De (fun h=>g ?_) (fun h=>g ?_))
 ·obtain rfl:B=false:=by
   have:=of_decide_eq_true h
   rw [<-hB,decide_eq_false (p:=l.sure<=l.notes.length) (by omega)];simp
  first | exact trivial | exact ⟨.inl trivial,id,List.nodup_nil⟩ | exact ⟨.inl trivial,id,rfl,List.nodup_nil⟩ | rfl
 have h1:l.sure<=l.notes.length:=by have:=of_decide_eq_false h;omega
 rw [hb,decide_eq_true h1,decide_eq_true (p:=0<=l.sure) (by omega),Bool.true_and,Bool.true_and,Bool.true_and] at hB
 refine AW.loop (fun m:{m:Nat // m<=l.notes.length/\C5 l.base (l.notes.take m)=true}=>⟨[(1,.ip [stI l.base,noI l.notes,.val (.int .i64 l.sure)]),(3,.iv (stI (B4 l.base (l.notes.take m.1)))),(4,.val (.int .i64 (m.1:Nat)))],[]⟩) (fun m=>l.notes.length - m.1) ⟨0,Nat.zero_le _,rfl⟩ id ⟨⟨rfl,rfl,rfl,trivial⟩,trivial,List.nodup_nil⟩ fun ⟨m,hm,ht⟩=>?_
 have hsp:∀ (hlt:m < l.notes.length),l.notes=l.notes.take m++l.notes[m] :: l.notes.drop (m+1):=fun hlt=>by rw [<-List.drop_eq_getElem_cons hlt,List.take_append_drop]
 clear h
 refine g ?_
 repeat' (first | refine st_ rfl (g ?_) | refine De (fun h=>g ?_) (fun h=>g ?_))
 ·have hlt:m < l.notes.length:=by simpa using h
  have hs2:C5 l.base l.notes=((Bt l.notes[m]&&Bi (B4 l.base (l.notes.take m)) l.notes[m].start)&&C5 (Dw [B4 l.base (l.notes.take m),l.notes[m].end_]) (l.notes.drop (m+1))):=by
   conv=>lhs;rw [hsp hlt]
   rw [Dg,ht,Bool.true_and];rfl
  refine ⟨by omega,_,Dl (List.getElem?_eq_getElem hlt),?_⟩
  refine g ?_
  repeat' refine B9 (g ?_)
  refine Aa (Qx l.notes[m]) rfl ?_
  cases hf:Bt l.notes[m]
  ·refine g ?_
   repeat' refine st_ rfl (g ?_)
   obtain rfl:B=false:=by rw [<-hB,hs2,hf];rfl
   first | exact trivial | exact ⟨.inl trivial,id,List.nodup_nil⟩ | exact ⟨.inl trivial,id,rfl,List.nodup_nil⟩ | rfl
  refine g ?_
  refine ⟨by omega,_,Dl (List.getElem?_eq_getElem hlt),?_⟩
  refine g ?_
  repeat' refine B9 (g ?_)
  refine Aa (Ag8 l.notes[m] _) rfl ?_
  cases hc:Bi (B4 l.base (l.notes.take m)) l.notes[m].start
  ·refine g ?_
   repeat' refine st_ rfl (g ?_)
   obtain rfl:B=false:=by rw [<-hB,hs2,hf,hc];rfl
   first | exact trivial | exact ⟨.inl trivial,id,List.nodup_nil⟩ | exact ⟨.inl trivial,id,rfl,List.nodup_nil⟩ | rfl
  refine g ?_
  repeat' refine st_ rfl (g ?_)
  refine ⟨by omega,_,Dl (List.getElem?_eq_getElem hlt),?_⟩
  refine g ?_
  repeat' refine B9 (g ?_)
  refine Aa (Bi7 (B4 l.base (l.notes.take m)) l.notes[m].end_) rfl ?_
  refine g ?_
  repeat' refine st_ rfl (g ?_)
  refine ⟨⟨m+1,hlt,?_⟩,id,⟨⟨rfl,?_,rfl,trivial⟩,trivial,List.nodup_nil⟩,by show l.notes.length - (m+1) < l.notes.length - m;omega⟩
  ·rw [List.take_succ_eq_append_getElem hlt,Dg,ht,Bool.true_and]
   simp [C5,hf,hc]
  ·rw [List.take_succ_eq_append_getElem hlt,Kx]
   rfl
 ·have:m=l.notes.length:=by simp at h;omega
  subst this
  rw [List.take_length] at ht
  rw [ht] at hB
  subst hB
  first | exact trivial | exact ⟨.inl trivial,id,List.nodup_nil⟩ | exact ⟨.inl trivial,id,rfl,List.nodup_nil⟩ | rfl
end Go.Proofs.YtahgkllhbggmgaaGreatDoor
namespace Go.Proofs.YtahgkllhbggmgaaGreatDoor
open Go.ChangeShapes Go.WideShapes Go.ChangeAt Go.RowKit
attribute [local irreducible] AW AWY Be As vop Az Aq Ax qop Bd Bv Aj Ag Ay A7 Aw
attribute [local go_sem] E6 G9 Dp Lu L6 Ro P6 Pp Ge L5 Dx Eg Ch Dz Ae Af
set_option maxRecDepth 100000 in
theorem Ag5 (l:List Out):A7 Tryz.prog A8 151 [.iv (ouI l),.iv (ouI [])] (.val (.bool (decide (l.length=0)))) []:=by
 cases l with
 | nil=>exact A61 []
 | cons x l =>
  refine A7.of (n:=61) (rs:=[.tmp 4]) Tryz.func151 rfl (by kernel_rfl) Tryz.ntmps151 (by kernel_rfl) (by simp) (fun _ _=>A8.later) ?_
  intro hok V w0
  rw [show decide ((x :: l).length=0)=false from rfl]
  refine g ?_
  repeat' (first | refine st_ rfl (g ?_) | exact trivial)
set_option maxRecDepth 100000 in
theorem B85 (l:List Msg):A7 Tryz.prog A8 153 [.iv (msI l),.iv (msI [])] (.val (.bool (decide (l.length=0)))) []:=by
 cases l with
 | nil=>exact As9 []
 | cons x l =>
  refine A7.of (n:=27) (rs:=[.tmp 4]) Tryz.func153 rfl (by kernel_rfl) Tryz.ntmps153 (by kernel_rfl) (by simp) (fun _ _=>A8.later) ?_
  intro hok V w0
  rw [show decide ((x :: l).length=0)=false from rfl]
  refine g ?_
  repeat' (first | refine st_ rfl (g ?_) | exact trivial)
set_option maxRecDepth 100000 in
theorem As1 (l:List Bp):A7 Tryz.prog A8 272 [.iv (znI l),.iv (znI [])] (.val (.bool (decide (l.length=0)))) []:=by
 cases l with
 | nil=>exact Ag0 []
 | cons x l =>
  refine A7.of (n:=42) (rs:=[.tmp 4]) Tryz.func272 rfl (by kernel_rfl) Tryz.ntmps272 (by kernel_rfl) (by simp) (fun _ _=>A8.later) ?_
  intro hok V w0
  rw [show decide ((x :: l).length=0)=false from rfl]
  refine g ?_
  repeat' (first | refine st_ rfl (g ?_) | exact trivial)
set_option maxRecDepth 100000 in
theorem Bi6 (l:List Ar):A7 Tryz.prog A8 273 [.iv (wrI l),.iv (wrI [])] (.val (.bool (decide (l.length=0)))) []:=by
 cases l with
 | nil=>exact Ag1 []
 | cons x l =>
  refine A7.of (n:=26) (rs:=[.tmp 4]) Tryz.func273 rfl (by kernel_rfl) Tryz.ntmps273 (by kernel_rfl) (by simp) (fun _ _=>A8.later) ?_
  intro hok V w0
  rw [show decide ((x :: l).length=0)=false from rfl]
  refine g ?_
  repeat' (first | refine st_ rfl (g ?_) | exact trivial)
set_option maxRecDepth 100000 in
theorem Ah8 (l:List Cr):A7 Tryz.prog A8 274 [.iv (boI l),.iv (boI [])] (.val (.bool (decide (l.length=0)))) []:=by
 cases l with
 | nil=>exact A70 []
 | cons x l =>
  refine A7.of (n:=27) (rs:=[.tmp 4]) Tryz.func274 rfl (by kernel_rfl) Tryz.ntmps274 (by kernel_rfl) (by simp) (fun _ _=>A8.later) ?_
  intro hok V w0
  rw [show decide ((x :: l).length=0)=false from rfl]
  refine g ?_
  repeat' (first | refine st_ rfl (g ?_) | exact trivial)
set_option maxRecDepth 100000 in
theorem B84 (l:List Bz):A7 Tryz.prog A8 275 [.iv (noI l),.iv (noI [])] (.val (.bool (decide (l.length=0)))) []:=by
 cases l with
 | nil=>exact A07 []
 | cons x l =>
  refine A7.of (n:=27) (rs:=[.tmp 4]) Tryz.func275 rfl (by kernel_rfl) Tryz.ntmps275 (by kernel_rfl) (by simp) (fun _ _=>A8.later) ?_
  intro hok V w0
  rw [show decide ((x :: l).length=0)=false from rfl]
  refine g ?_
  repeat' (first | refine st_ rfl (g ?_) | exact trivial)
set_option maxRecDepth 100000 in
theorem Ag2 (v:E8) (r:Int) (iR:I64 v.room) (iQ:I64 r):A7 Tryz.prog A8 149 [vwA v,vwA ⟨[],[],[],[],r⟩] (.val (.bool (decide (v.known=[])&&decide (v.zones.length=0)&&decide (v.held.length=0)&&decide (v.bodies.length=0)&&decide (v.room=r)))) []:=by
 refine A7.of (n:=38) (rs:=[.tmp 4]) Tryz.func149 rfl (by kernel_rfl) Tryz.ntmps149 (by kernel_rfl) (by simp) (fun _ _=>A8.later) ?_
 intro hok V w0
 have hk:=Gv v.known []
 have hz:=As1 v.zones
 have hw:=Bi6 v.held
 have hb:=Ah8 v.bodies
 obtain ⟨B,hB⟩ : ∃ B,(decide (v.known=[])&&decide (v.zones.length=0)&&decide (v.held.length=0)&&decide (v.bodies.length=0)&&decide (v.room=r))=B:=⟨_,rfl⟩
 rw [hB]
 refine g ?_
 refine AW.seq ?_
 refine AW.reg rfl fun KK hKK=>?_
 refine g ?_
 repeat' (refine hKK _ (g ?_);clear hKK KK)
 refine AW.freeze 300 _ rfl ⟨trivial,trivial,trivial,trivial,iR,trivial⟩ ?_
 simp only [go_sem,reduceIte,Nat.reduceEqDiff]
 refine AW.freeze 400 _ rfl ⟨trivial,trivial,trivial,trivial,iQ,trivial⟩ ?_
 simp only [go_sem,reduceIte,Nat.reduceEqDiff]
 refine g ?_
 repeat' (first | refine st_ rfl (g ?_) | (refine B8 rfl rfl (fun h e=>?_) (fun h e=>?_)<;>simp only [e]<;>clear e<;>refine g ?_) | refine Aa (hk) rfl (g ?_) | refine Aa (hz) rfl (g ?_) | refine Aa (hw) rfl (g ?_) | refine Aa (hb) rfl (g ?_))
 all_goals (subst hB;simp [*])
set_option maxRecDepth 100000 in
theorem At1 (l:Log) (iS:I64 l.sure):A7 Tryz.prog A8 150 [Xz l,Xz ⟨[],[],0⟩] (.val (.bool (decide (l.base=[])&&decide (l.sure=0)&&decide (l.notes.length=0)))) []:=by
 refine A7.of (n:=24) (rs:=[.tmp 4]) Tryz.func150 rfl (by kernel_rfl) Tryz.ntmps150 (by kernel_rfl) (by simp) (fun _ _=>A8.later) ?_
 intro hok V w0
 have hk:=Gv l.base []
 have hn:=B84 l.notes
 obtain ⟨B,hB⟩ : ∃ B,(decide (l.base=[])&&decide (l.sure=0)&&decide (l.notes.length=0))=B:=⟨_,rfl⟩
 rw [hB]
 refine g ?_
 refine AW.seq ?_
 refine AW.reg rfl fun KK hKK=>?_
 refine g ?_
 repeat' (refine hKK _ (g ?_);clear hKK KK)
 refine AW.freeze 300 _ rfl ⟨trivial,trivial,iS,trivial⟩ ?_
 simp only [go_sem,reduceIte,Nat.reduceEqDiff]
 refine AW.freeze 400 _ rfl ⟨trivial,trivial,rfl,trivial⟩ ?_
 simp only [go_sem,reduceIte,Nat.reduceEqDiff]
 refine g ?_
 repeat' (first | refine st_ rfl (g ?_) | (refine B8 rfl rfl (fun h e=>?_) (fun h e=>?_)<;>simp only [e]<;>clear e<;>refine g ?_) | refine Aa (hk) rfl (g ?_) | refine Aa (hn) rfl (g ?_))
 all_goals (subst hB;simp [*])
end Go.Proofs.YtahgkllhbggmgaaGreatDoor
namespace Go.Proofs.YtahgkllhbggmgaaGreatDoor
open Go.ChangeShapes Go.WideShapes Go.ChangeAt Go.RowKit
theorem Y1:∀ {l:List Hr} {k:Nat} (e:Int) (h:k < l.length),Gx e (l.take (k+1))=l[k].number
 | [],_,_,h=>absurd h (Nat.not_lt_zero _)
 | f :: l,0,e,_=>by simp [Gx]
 | f :: l,k+1,e,h=>by
  rw [List.take_succ_cons]
  exact Y1 (l:=l) f.number (by simpa using h)
theorem Al6 {room:Int} : ∀ {l:List Hr} {u:Nat} {e:Int},Er room u e l=true->e<=Gx e l
 | [],_,_,_=>Int.le_refl _
 | f :: l,u,e,h=>by
  simp only [Er,Ve,Bool.and_eq_true,decide_eq_true_eq] at h
  have:=Al6 h.2
  show e<=Gx f.number l
  omega
attribute [local irreducible] AW AWY Be As vop Az Aq Ax qop Bd Bv Aj Ag Ay A7 Aw
attribute [local go_sem] Dp Uh N9 Na Ae Af
set_option maxRecDepth 100000 in
set_option maxHeartbeats 3200000 in
theorem V3 (d : Jw) (iR : I64 d.room) : A7 Tryz.prog A8 73 [dkA d] (.val (.bool (C0 d))) [] := by
  refine A7.of (n := 77) (rs := [.tmp 2]) Tryz.func73 rfl (by kernel_rfl) Tryz.ntmps73 (by kernel_rfl) (by simp) (fun _ _ => A8.later) ?_
  intro hok V w0
  have hfl : AV.okd (.iv (flI d.files)) := hok.1.2.1
  have hlen : d.files.length <= 1073741824 := by simpa [flI] using hfl.1
  obtain ⟨B, hB⟩ : ∃ B, C0 d = B := ⟨_, rfl⟩
  rw [hB]
  refine g ?_
  refine AW.seq ?_
  refine AW.reg rfl fun KK hKK => ?_
  refine g ?_
  repeat' (refine hKK _ (g ?_); clear hKK KK)
  refine AW.freeze 200 _ rfl ⟨iR, trivial, trivial⟩ ?_
  simp only [go_sem, reduceIte, Nat.reduceEqDiff]
  refine g ?_
  repeat' (first | refine st_ rfl (g ?_) | refine Al (fun h => g ?_) (fun h => g ?_) | (refine B8 rfl rfl (fun h e => ?_) (fun h e => ?_) <;> simp only [e] <;> clear e <;> refine g ?_))
  · rw [<- hB]; simp [C0]; intros; omega
  · rw [<- hB]; simp [C0]; intros; omega
  have hR : 0 <= d.room /\ d.room <= 16777216 := by omega
  have hBF : B = Er d.room 0 (-1) d.files := by rw [<- hB]; simp [C0, hR]
  clear hB
  refine AW.loop (fun m : {m : Nat // m <= d.files.length /\ Er d.room 0 (-1) (d.files.take m) = true} => ⟨[(1, .ip [.val (.int .i64 d.room), flI d.files]), (3, .val (.int .i64 (d.room - (K6 (d.files.take m.1) : Nat)))), (4, .val (.int .i64 (m.1 : Nat)))], []⟩) (fun m => d.files.length - m.1) ⟨0, Nat.zero_le _, rfl⟩ id ⟨⟨rfl, by show look _ 3 = .val (.int .i64 (d.room - 0)); rw [Int.sub_zero]; rfl, rfl, trivial⟩, trivial, List.nodup_nil⟩ fun ⟨m, hm, ht⟩ => ?_
  simp only
  have hsum := Ru hR.1 (u := 0) (by omega) ht
  repeat (refine AW.seq ?_)
  refine AW.reg rfl fun KK hKK => ?_
  refine g ?_
  repeat' (refine hKK _ (g ?_); clear hKK KK)
  repeat (refine AW.seq ?_)
  refine st_ rfl ?_
  refine g ?_
  refine Al (fun h => ?_) (fun h => ?_)
  · have hlt : m < d.files.length := by omega
    obtain ⟨i1, i2, i3⟩ := C37 hfl hlt
    have hat := Am6 hlt ht
    rw [<- hBF] at hat
    have hN : Ve d.room (K6 (d.files.take m)) (Gx (-1) (d.files.take m)) d.files[m] = false -> false = B := fun h => by rw [hat, h]; rfl
    have hl0 : m = 0 -> Gx (-1) (d.files.take m) = -1 := fun h => by subst h; rfl
    have hl1 : (h : 0 < m) -> Gx (-1) (d.files.take m) = (d.files[m - 1]'(by omega)).number := fun h => by
      obtain ⟨k, rfl⟩ : ∃ k, m = k + 1 := ⟨m - 1, by omega⟩
      exact Y1 _ _
    have hge := Al6 ht
    have hend : Ve d.room (K6 (d.files.take m)) (Gx (-1) (d.files.take m)) d.files[m] = true -> Er d.room 0 (-1) (d.files.take (m + 1)) = true /\ d.room - (K6 (d.files.take m) : Nat) - (d.files[m].bytes.length : Nat) = d.room - ((K6 (d.files.take (m + 1)) : Nat) : Int) := fun h => by
      obtain ⟨g1, g2, -⟩ := Yb hlt ht h
      exact ⟨g1, by rw [g2]; omega⟩
    refine st_ rfl (g ?_)
    refine g ?_
    refine g ?_
    repeat' (first | refine st_ rfl (g ?_) | refine ix_ (by omega) (g ?_))
    refine AW.freeze 600 _ rfl ⟨i1, trivial, i2, trivial⟩ ?_
    simp only [go_sem, reduceIte, Nat.reduceEqDiff]
    refine AW.drawn (ds := [28, 29, 30, 31, 32, 33, 34, 35, 36, 37, 38, 39, 40, 41, 42, 43, 44, 45, 46, 47, 48, 49, 50, 51, 52, 53, 54, 55, 56, 57, 58, 59, 60, 61, 62, 63, 64, 65, 66, 67, 68, 69, 70, 71]) (fin := []) (bs := [0, 0, 0, 0, 0, 0, 0, 0, 0, 0, 0, 0, 0, 0, 0, 0, 0, 0, 0, 0, 0, 0, 0, 0, 0, 0, 0, 0, 0, 0, 0, 0, 0, 0, 0, 0, 0, 0, 0, 0, 0, 0, 0, 0]) [⟨[], [], [], [], 0⟩, ⟨[(28, 0)], [], [], [], 0⟩, ⟨[(29, 1)], [], [], [], 0⟩, ⟨[(30, 2)], [], [], [], 0⟩, ⟨[], [], [], [], 0⟩, ⟨[(32, 4)], [], [], [], 0⟩, ⟨[(33, 5)], [], [], [], 0⟩, ⟨[(31, 3), (34, 6)], [], [], [], 0⟩, ⟨[(35, 7)], [], [], [], 0⟩, ⟨[], [], [], [], 0⟩, ⟨[(37, 9)], [], [], [], 0⟩, ⟨[(38, 10)], [], [], [], 0⟩, ⟨[], [], [], [], 0⟩, ⟨[(40, 12)], [], [], [], 0⟩, ⟨[], [], [], [], 0⟩, ⟨[(42, 14)], [], [], [], 0⟩, ⟨[(41, 13), (43, 15)], [], [], [], 0⟩, ⟨[(44, 16)], [], [], [], 0⟩, ⟨[(45, 17)], [], [], [], 0⟩, ⟨[], [], [], [], 0⟩, ⟨[(47, 19)], [], [], [], 0⟩, ⟨[(46, 18), (48, 20)], [], [], [], 0⟩, ⟨[(39, 11), (49, 21)], [], [], [], 0⟩, ⟨[(36, 8), (50, 22)], [], [], [], 0⟩, ⟨[(51, 23)], [], [], [], 0⟩, ⟨[], [], [], [], 0⟩, ⟨[(53, 25)], [], [], [], 0⟩, ⟨[(54, 26)], [], [], [], 0⟩, ⟨[(52, 24), (55, 27)], [], [], [], 0⟩, ⟨[(56, 28)], [], [], [], 0⟩, ⟨[], [], [], [], 0⟩, ⟨[(58, 30)], [], [], [], 0⟩, ⟨[], [], [], [], 0⟩, ⟨[(60, 32)], [], [], [], 0⟩, ⟨[(61, 33)], [], [], [], 0⟩, ⟨[(59, 31), (62, 34)], [], [], [], 0⟩, ⟨[(57, 29), (63, 35)], [], [], [], 0⟩, ⟨[(64, 36)], [], [], [], 0⟩, ⟨[], [], [], [], 0⟩, ⟨[(66, 38)], [], [], [], 0⟩, ⟨[(67, 39)], [], [], [], 0⟩, ⟨[], [], [], [], 0⟩, ⟨[(68, 40), (69, 41)], [], [], [], 0⟩, ⟨[(65, 37), (70, 42)], [], [], [], 0⟩] (by kernel_rfl) rfl (by kernel_rfl) rfl rfl rfl fun KD hKD => ?_
    refine g ?_
    repeat' (first | refine st_ rfl (g ?_) | refine Al (fun h => g ?_) (fun h => g ?_) | (refine hKD _ _ ⟨rfl, g ?_⟩; clear hKD KD) | (refine Lz rfl rfl (fun h e => ?_) (fun h e => ?_) <;> simp only [e] <;> clear e <;> refine g ?_) | (refine ixm (m - 1) (by omega) (by omega) (by omega) ?_) <;> refine g ?_)
    all_goals first
      | exact hN (decide_eq_false (by omega))
      | exact hN (decide_eq_false (by have := hl1 (by omega); omega))
      | (obtain ⟨g1, g2⟩ := hend (decide_eq_true (by rcases Nat.eq_zero_or_pos m with h0 | h0; (have := hl0 h0; omega); (have := hl1 h0; omega)))
         exact ⟨⟨m + 1, by omega, g1⟩, id, ⟨⟨rfl, congrArg (fun z => AV.val (.int .i64 z)) g2, rfl, trivial⟩, trivial, List.nodup_nil⟩, by show d.files.length - (m + 1) < d.files.length - m; omega⟩)
  · refine AW.exit ?_
    simp only [reduceIte]
    refine g ?_
    repeat' refine st_ rfl (g ?_)
    rw [List.take_of_length_le (by omega)] at ht
    rw [hBF, ht]
end Go.Proofs.YtahgkllhbggmgaaGreatDoor
namespace Go.Proofs.YtahgkllhbggmgaaGreatDoor
open Go.ChangeShapes Go.WideShapes Go.ChangeAt Go.RowKit
attribute [local irreducible] AW AWY Be As vop Az Aq Ax qop Bd Bv Aj Ag Ay A7 Aw
attribute [local go_sem] Dp Uh N9 Na Ae Af
set_option maxRecDepth 100000 in
set_option maxHeartbeats 1600000 in
theorem Ah6 (d:Jw) (iR:I64 d.room):A7 Tryz.prog A8 154 [dkA d,dkA d] (.val (.bool true)) []:=by
 refine A7.of (n:=59) (rs:=[.tmp 4]) Tryz.func154 rfl (by kernel_rfl) Tryz.ntmps154 (by kernel_rfl) (by simp) (fun _ _=>A8.later) ?_
 intro hok V w0
 have hfl:AV.okd (.iv (flI d.files)):=hok.1.2.1
 have hlen:d.files.length<=1073741824:=by simpa [flI] using hfl.1
 refine g ?_
 refine AW.seq ?_
 refine AW.reg rfl fun KK hKK=>?_
 refine g ?_
 repeat' (refine hKK _ (g ?_);clear hKK KK)
 refine AW.freeze 300 _ rfl ⟨iR,trivial,trivial⟩ ?_
 simp only [go_sem,reduceIte,Nat.reduceEqDiff]
 refine AW.freeze 400 _ rfl ⟨iR,trivial,trivial⟩ ?_
 simp only [go_sem,reduceIte,Nat.reduceEqDiff]
 refine g ?_
 repeat' refine st_ rfl (g ?_)
 refine AW.loop (fun i:{i:Nat // i<=d.files.length}=>⟨[(2,.ip [.val (.int .i64 d.room),flI d.files]),(3,.ip [.val (.int .i64 d.room),flI d.files]),(5,.val (.int .i64 (i.1:Nat)))],[]⟩) (fun i=>d.files.length - i.1) ⟨0,Nat.zero_le _⟩ id ⟨⟨rfl,rfl,rfl,trivial⟩,trivial,List.nodup_nil⟩ fun ⟨i,hi⟩=>?_
 simp only
 repeat (refine AW.seq ?_)
 refine AW.reg rfl fun KK hKK=>?_
 refine g ?_
 repeat' (refine hKK _ (g ?_);clear hKK KK)
 repeat (refine AW.seq ?_)
 refine st_ rfl ?_
 refine g ?_
 refine Al (fun h=>?_) (fun h=>?_)
 ·have hlt:i < d.files.length:=by omega
  refine st_ rfl (g ?_)
  refine AW.seq ?_
  refine AW.block ?_
  repeat (refine AW.seq ?_)
  refine AW.drawn (ds:=[29,30,31,32,33,34,35,36,37,38,6,7]) (fin:=[2,3]) (bs:=[0,0,0,0,0,0,0,0,0,0,0,1,2,3]) [⟨[],[],[],[],0⟩,⟨[(29,0)],[],[],[],0⟩,⟨[],[],[],[],0⟩,⟨[(30,1),(31,2)],[],[],[],0⟩,⟨[(32,3)],[],[],[],0⟩,⟨[],[],[],[],0⟩,⟨[(34,5)],[],[],[],0⟩,⟨[],[],[],[],0⟩,⟨[(35,6),(36,7)],[],[],[],0⟩,⟨[(37,8)],[],[],[],0⟩,⟨[],[],[],[],1⟩,⟨[],[],[],[],1⟩,⟨[(6,10),(33,4)],[],[],[0],1⟩,⟨[(7,11),(38,9)],[],[],[1],1⟩] (by kernel_rfl) rfl (by kernel_rfl) rfl rfl rfl fun KD hKD=>?_
  refine g ?_
  repeat' (first | refine st_ rfl (g ?_) | (refine hKD _ _ ⟨rfl,g ?_⟩;clear hKD KD) | refine ix_ (by omega) (g ?_) | refine Aa (Sj _ _) rfl (g ?_))
  all_goals first
   | exact ⟨⟨i+1,hlt⟩,id,⟨⟨rfl,rfl,rfl,trivial⟩,trivial,List.nodup_nil⟩,by show d.files.length - (i+1) < d.files.length - i;omega⟩
   | (simp at *;done)
 ·refine AW.exit ?_
  simp only [reduceIte]
  refine g ?_
  repeat' (first | refine st_ rfl (g ?_) | exact trivial)
end Go.Proofs.YtahgkllhbggmgaaGreatDoor
namespace Go.Proofs.YtahgkllhbggmgaaGreatDoor
open Go.ChangeShapes Go.WideShapes Go.ChangeAt Go.RowKit
theorem Br1 (b c:Bool) (w:World):(do pure ();binOp .eql 4 (.bool b) (.bool c):Sem Value).run Tryz.prog w=.ok (.bool (decide (b=c))) w:=by
 cases b<;>cases c<;>go_simp<;>rfl
attribute [local irreducible] AW AWY Be As vop Az Aq Ax qop Bd Bv Aj Ag Ay A7 Aw
attribute [local go_sem] Dp N9 Na Lt Pf Lu P6 Jc Ge G9 E6 Dx Eg Ch Ae Af
set_option maxRecDepth 100000 in
set_option maxHeartbeats 3200000 in
theorem As7 (n m : Es) (hI : K5 n) (hJ : K5 m) (b1 b2 b3 b4 b5 b6 : Bool)
    (h1 : A7 Tryz.prog A8 149 [vwA n.view, vwA m.view] (.val (.bool b1)) [])
    (h2 : A7 Tryz.prog A8 150 [Xz n.log, Xz m.log] (.val (.bool b2)) [])
    (h3 : A7 Tryz.prog A8 151 [.iv (ouI n.outs), .iv (ouI m.outs)] (.val (.bool b3)) [])
    (h4 : A7 Tryz.prog A8 152 [.iv (J2 n.subs), .iv (J2 m.subs)] (.val (.bool b4)) [])
    (h5 : A7 Tryz.prog A8 153 [.iv (msI n.queue), .iv (msI m.queue)] (.val (.bool b5)) [])
    (h6 : A7 Tryz.prog A8 154 [dkA n.disk, dkA m.disk] (.val (.bool b6)) []) :
    A7 Tryz.prog A8 75 [ndA n, ndA m] (.val (.bool (decide (n.me = m.me) && b1 && b2 && b3 && b4 && decide (n.tries = m.tries) && b5 && b6 && decide (n.down = m.down)))) [] := by
  refine A7.of (n := 66) (rs := [.tmp 4]) Tryz.func75 rfl (by kernel_rfl) Tryz.ntmps75 (by kernel_rfl) (by simp) (fun _ _ => A8.later) ?_
  intro hok V w0
  obtain ⟨B, hB⟩ : ∃ B, (decide (n.me = m.me) && b1 && b2 && b3 && b4 && decide (n.tries = m.tries) && b5 && b6 && decide (n.down = m.down)) = B := ⟨_, rfl⟩
  rw [hB]
  obtain ⟨iM, iR, iS, iT, iD⟩ := hI
  obtain ⟨jM, jR, jS, jT, jD⟩ := hJ
  refine g ?_
  refine AW.seq ?_
  refine AW.reg rfl fun KK hKK => ?_
  refine g ?_
  repeat' (refine hKK _ (g ?_); clear hKK KK)
  refine AW.freeze 300 _ rfl ⟨iM, trivial, trivial, trivial, trivial, iR, trivial, trivial, iS, trivial, trivial, iT, trivial, iD, trivial, trivial, trivial⟩ ?_
  simp only [go_sem, reduceIte, Nat.reduceEqDiff]
  refine AW.freeze 400 _ rfl ⟨jM, trivial, trivial, trivial, trivial, jR, trivial, trivial, jS, trivial, trivial, jT, trivial, jD, trivial, trivial, trivial⟩ ?_
  simp only [go_sem, reduceIte, Nat.reduceEqDiff]
  refine g ?_
  repeat' (first | refine st_ rfl (g ?_) | (refine B8 rfl rfl (fun h e => ?_) (fun h e => ?_) <;> simp only [e] <;> clear e <;> refine g ?_) | (refine E9 rfl rfl (fun h => ?_) (fun h => ?_) <;> simp only [h] <;> refine g ?_) | refine Aa (h1) rfl (g ?_) | refine Aa (h2) rfl (g ?_) | refine Aa (h3) rfl (g ?_) | refine Aa (h4) rfl (g ?_) | refine Aa (h5) rfl (g ?_) | refine Aa (h6) rfl (g ?_))
  all_goals first
    | (subst hB; simp [*]; done)
    | (refine ⟨_, fun u => Br1 _ _ u, B9 ?_⟩
       refine g ?_
       repeat' refine st_ rfl (g ?_)
       subst hB
       simp [*])
end Go.Proofs.YtahgkllhbggmgaaGreatDoor
namespace Go.Proofs.YtahgkllhbggmgaaGreatDoor
open Go.ChangeShapes Go.WideShapes Go.ChangeAt Go.RowKit
attribute [local irreducible] AW AWY Be As vop Az Aq Ax qop Bd Bv Aj Ag Ay A7 Aw
attribute [local go_sem] Dp N9 Na Lt Pf Lu P6 Jc Ge G9 E6 Dx Eg Ch S7 Ae Af
def Ab2 (n:Es):Es:=⟨n.me,⟨[],[],[],[],n.view.room⟩,⟨[],[],0⟩,[],[],0,[],n.disk,true⟩
theorem Be0 (n:Es):Hm (.agg [.val (.int .i64 n.me),.val (.slice none 0 0),.val (.slice none 0 0),.val (.slice none 0 0),.val (.slice none 0 0),.val (.int .i64 n.view.room),.val (.slice none 0 0),.val (.slice none 0 0),.val (.int .i64 0),.val (.slice none 0 0),.val (.slice none 0 0),.val (.int .i64 0),.val (.slice none 0 0),.val (.int .i64 n.disk.room),.iv (flI n.disk.files),.val (.bool true)]) (ndA (Ab2 n)):=by
 rw [Pf,Lt]
 refine Ab6 rfl fun p hp=>?_
 simp only [Ab2,List.zip_cons_cons,List.zip_nil_right,List.mem_cons,List.not_mem_nil,or_false] at hp
 rcases hp with rfl | rfl | rfl | rfl | rfl | rfl | rfl | rfl | rfl | rfl | rfl | rfl | rfl | rfl | rfl | rfl
 all_goals first
  | exact Hm.rfl_ _
  | exact Dd _
set_option maxRecDepth 100000 in
set_option maxHeartbeats 3200000 in
theorem A62 (n:Es) (hI:K5 n) (hd:n.down=true):A7 Tryz.prog A8 30 [ndA n] (.val (.bool (Bf n))) []:=by
 have hs:=As7 n (Ab2 n) hI ⟨hI.me,hI.room,rfl,rfl,hI.droom⟩ _ _ _ _ _ _ (Ag2 n.view n.view.room hI.room hI.room) (At1 n.log hI.sure) (Ag5 n.outs) (As6 n.subs []) (B85 n.queue) (Ah6 n.disk hI.droom)
 rw [show ndA n=.agg (ndC n) from rfl,Lt,hd] at hs
 have hdf:=V3 n.disk hI.droom
 have hnew:=B83 n.view.room
 unfold Bl8 at hnew
 refine A7.of (n:=143) (rs:=[.tmp 2]) Tryz.func30 rfl (by kernel_rfl) Tryz.ntmps30 (by kernel_rfl) (by simp) (fun _ _=>A8.later) ?_
 intro hok V w0
 obtain ⟨iM,iR,iS,iT,iD⟩:=hI
 have hq:AV.okd (.iv (msI n.queue)):=hok.1.2.2.2.2.2.2.2.2.2.2.2.2.1
 have l2:n.queue.length<=1073741824:=by simpa using hq.1
 obtain ⟨B,hB⟩ : ∃ B,Bf n=B:=⟨_,rfl⟩
 rw [hB]
 unfold Bf B67 at hB
 rw [hd,if_pos rfl] at hB
 unfold Vg at hB
 refine g ?_
 refine AW.seq ?_
 refine AW.reg rfl fun KK hKK=>?_
 refine g ?_
 repeat' (refine hKK _ (g ?_);clear hKK KK)
 refine AW.freeze 200 _ rfl ⟨iM,trivial,trivial,trivial,trivial,iR,trivial,trivial,iS,trivial,trivial,iT,trivial,iD,trivial,trivial,trivial⟩ ?_
 simp only [go_sem,reduceIte,Nat.reduceEqDiff]
 rw [hd]
 cases hr:P0 n.view.room
 ·rw [if_neg (by simp [hr])] at hnew
  refine g ?_
  repeat' (first | refine st_ rfl (g ?_) | refine Al (fun h=>g ?_) (fun h=>g ?_) | (refine B8 rfl rfl (fun h e=>?_) (fun h e=>?_)<;>simp only [e]<;>clear e<;>refine g ?_) | (refine E9 rfl rfl (fun h=>?_) (fun h=>?_)<;>simp only [h]<;>refine g ?_) | refine Aa (hdf) rfl (g ?_) | refine Aa (hnew) rfl (g ?_))
  all_goals (rw [<-hB];simp [hr])
 ·rw [if_pos hr] at hnew
  refine g ?_
  repeat' (first | refine st_ rfl (g ?_) | refine Al (fun h=>g ?_) (fun h=>g ?_) | (refine B8 rfl rfl (fun h e=>?_) (fun h e=>?_)<;>simp only [e]<;>clear e<;>refine g ?_) | (refine E9 rfl rfl (fun h=>?_) (fun h=>?_)<;>simp only [h]<;>refine g ?_) | refine Aa (hdf) rfl (g ?_) | refine Aa (hnew) rfl (g ?_) | (refine Bq2 hs (Sbs.cons_ (Sbs.of_ (Be0 n) (Sbs.rfl_ _))) rfl (g ?_))<;>refine g ?_)
  all_goals first
   | (rw [<-hB];simp [hr];done)
   | (rw [<-hB];simp [hr];omega)
   | (rw [<-hB];simp [hr];intros;omega)
   | (rw [<-hB];simp [*];done)
   | (simp at h;rw [<-hB];simp [hr,h];done)
   | skip
  have hm:n.me>=0/\n.me < 64/\0<=n.tries/\n.tries < 1099511627776/\n.queue.length<=4096:=by omega
  rename_i hdk
  simp at hdk
  rw [<-hB,hdk,hr,Bool.eq_iff_iff]
  simp [Ab2,hm,List.length_eq_zero_iff]
  constructor
  ·intro h
   have ht:n.tries=0:=of_decide_eq_true h.1.2
   simp_all
  ·intro h
   simp_all
end Go.Proofs.YtahgkllhbggmgaaGreatDoor
namespace Go.Proofs.YtahgkllhbggmgaaGreatDoor
open Go.ChangeShapes Go.WideShapes Go.ChangeAt Go.RowKit
attribute [local irreducible] AW AWY Be As vop Az Aq Ax qop Bd Bv Aj Ag Ay A7 Aw
attribute [local go_sem] Ge L5 G9 Ae Af
set_option maxRecDepth 100000 in
theorem A64 (l:Log) (iS:I64 l.sure) (h:C6 l=true):A7 Tryz.prog A8 79 [Xz l] (.iv (stI (B4 l.base l.notes))) []:=by
 refine A7.ofS (n:=27) (rs:=[.tmp 2]) Tryz.func79 rfl (by kernel_rfl) Tryz.ntmps79 (by kernel_rfl) (by simp) (fun _ _=>A8.later) ?_
 intro hok V w0
 have hf:=Qy l iS
 rw [h] at hf
 have hlen:l.notes.length<=1073741824:=by simpa [noI] using hok.1.2.1.1
 refine g ?_
 refine AW.seq ?_
 refine AW.reg rfl fun KK hKK=>?_
 refine g ?_
 repeat' (refine hKK _ (g ?_);clear hKK KK)
 refine AW.freeze 200 _ rfl ⟨trivial,trivial,iS,trivial⟩ ?_
 simp only [go_sem,reduceIte,Nat.reduceEqDiff]
 refine g ?_
 repeat' (first | refine st_ rfl (g ?_) | refine Aa (hf) rfl (g ?_) | refine Aa (A60 _) rfl (g ?_))
 refine AW.loop (fun m:{m:Nat // m<=l.notes.length}=>⟨[(1,.ip [stI l.base,noI l.notes,.val (.int .i64 l.sure)]),(3,.iv (stI (B4 l.base (l.notes.take m.1)))),(4,.val (.int .i64 (m.1:Nat)))],[]⟩) (fun m=>l.notes.length - m.1) ⟨0,Nat.zero_le _⟩ id ⟨⟨rfl,rfl,rfl,trivial⟩,trivial,List.nodup_nil⟩ fun ⟨m,hm⟩=>?_
 simp only
 repeat (refine AW.seq ?_)
 refine AW.reg rfl fun KK hKK=>?_
 refine g ?_
 repeat' (refine hKK _ (g ?_);clear hKK KK)
 repeat (refine AW.seq ?_)
 refine st_ rfl ?_
 refine g ?_
 refine Al (fun h=>?_) (fun h=>?_)
 ·have hlt:m < l.notes.length:=by omega
  refine st_ rfl (g ?_)
  refine g ?_
  repeat' (first | refine st_ rfl (g ?_) | refine ix_ (by omega) (g ?_) | refine Aa (Bi7 _ _) rfl (g ?_))
  refine ⟨⟨m+1,hlt⟩,id,⟨⟨rfl,?_,rfl,trivial⟩,trivial,List.nodup_nil⟩,by show l.notes.length - (m+1) < l.notes.length - m;omega⟩
  have e:B4 l.base (l.notes.take (m+1))=Dw [B4 l.base (l.notes.take m),l.notes[m].end_]:=by
   unfold B4
   rw [List.take_succ_eq_append_getElem hlt,List.foldl_append]
   rfl
  exact congrArg (fun z=>AV.iv (stI z)) e.symm
 ·obtain rfl:m=l.notes.length:=by omega
  rw [List.take_length]
  refine AW.exit ?_
  simp only [reduceIte]
  refine g ?_
  repeat' refine st_ rfl (g ?_)
  exact Hm.rfl_ _
end Go.Proofs.YtahgkllhbggmgaaGreatDoor
namespace Go.Proofs.YtahgkllhbggmgaaGreatDoor
open Go.ChangeShapes Go.WideShapes Go.ChangeAt Go.RowKit
attribute [local irreducible] AW AWY Be As vop Az Aq Ax qop Bd Bv Aj Ag Ay A7 Aw
attribute [local go_sem] Dp N9 Na Lt Pf Lu L6 Ro P6 Pp Jc Ge G9 E6 Dx Eg Ch S7 Ae Af
set_option maxRecDepth 100000 in
set_option maxHeartbeats 6400000 in
theorem As8 (n:Es) (hI:K5 n) (hd:n.down=false):A7 Tryz.prog A8 30 [ndA n] (.val (.bool (Bf n))) []:=by
 have hvf:=As3 n.view hI.room
 have hlf:=Qy n.log hI.sure
 have hkn:=A64 n.log hI.sure
 have heq:=Gv (B4 n.log.base n.log.notes) n.view.known
 have hfo:=Ah2 n.outs n.log.notes.length
 have hfs:=Ah1 n.subs
 have hsb:=B78 n n.me hI
 have hdf:=V3 n.disk hI.droom
 rw [show ndA n=.agg (ndC n) from rfl,Lt,hd] at hsb
 refine A7.of (n:=143) (rs:=[.tmp 2]) Tryz.func30 rfl (by kernel_rfl) Tryz.ntmps30 (by kernel_rfl) (by simp) (fun _ _=>A8.later) ?_
 intro hok V w0
 obtain ⟨iM,iR,iS,iT,iD⟩:=hI
 have hq:AV.okd (.iv (msI n.queue)):=hok.1.2.2.2.2.2.2.2.2.2.2.2.2.1
 have ho:AV.okd (.iv (ouI n.outs)):=hok.1.2.2.2.2.2.2.2.2.2.1
 have l1:n.outs.length<=1073741824:=by simpa using ho.1
 have l2:n.queue.length<=1073741824:=by simpa using hq.1
 have l3:n.log.notes.length<=1073741824:=by simpa using hok.1.2.2.2.2.2.2.2.1.1
 obtain ⟨B,hB⟩ : ∃ B,Bf n=B:=⟨_,rfl⟩
 rw [hB]
 unfold Bf B67 at hB
 rw [hd,if_neg (by simp)] at hB
 refine g ?_
 refine AW.seq ?_
 refine AW.reg rfl fun KK hKK=>?_
 refine g ?_
 repeat' (refine hKK _ (g ?_);clear hKK KK)
 refine AW.freeze 200 _ rfl ⟨iM,trivial,trivial,trivial,trivial,iR,trivial,trivial,iS,trivial,trivial,iT,trivial,iD,trivial,trivial,trivial⟩ ?_
 simp only [go_sem,reduceIte,Nat.reduceEqDiff]
 rw [hd]
 refine g ?_
 repeat' (first | refine st_ rfl (g ?_) | refine Al (fun h=>g ?_) (fun h=>g ?_) | (refine B8 rfl rfl (fun h e=>?_) (fun h e=>?_)<;>simp only [e]<;>clear e<;>refine g ?_) | (refine E9 rfl rfl (fun h=>?_) (fun h=>?_)<;>simp only [h]<;>refine g ?_) | refine Aa (hdf) rfl (g ?_))
 all_goals first
  | (rw [<-hB];simp;done)
  | (rw [<-hB];simp;omega)
  | (rw [<-hB];simp;intros;omega)
  | (simp at h;rw [<-hB];simp [h];done)
  | skip
 refine AW.drawn (ds:=[61,62,63,64,65,66,67,68,69,70,71,72,73,74,75,76,77,78,79,80,81,82,83,84,85,86,87,88,89,90,91,92,93,94,95,96]) (fin:=[]) (bs:=[0,0,0,0,0,0,0,0,0,0,0,0,0,0,0,0,0,0,0,0,0,0,0,0,0,0,0,0,0,0,0,0,0,0,0,0]) [⟨[],[],[],[],0⟩,⟨[(61,0)],[],[],[],0⟩,⟨[(62,1)],[],[],[],0⟩,⟨[(63,2)],[],[],[],0⟩,⟨[(64,3)],[],[],[],0⟩,⟨[],[],[],[],0⟩,⟨[(66,5)],[],[],[],0⟩,⟨[(67,6)],[],[],[],0⟩,⟨[(68,7)],[],[],[],0⟩,⟨[(65,4),(69,8)],[],[],[],0⟩,⟨[(70,9)],[],[],[],0⟩,⟨[],[],[],[],0⟩,⟨[(72,11)],[],[],[],0⟩,⟨[(73,12)],[],[],[],0⟩,⟨[],[],[],[],0⟩,⟨[(75,14)],[],[],[],0⟩,⟨[(76,15)],[],[],[],0⟩,⟨[(74,13),(77,16)],[],[],[],0⟩,⟨[(78,17)],[],[],[],0⟩,⟨[(71,10),(79,18)],[],[],[],0⟩,⟨[(80,19)],[],[],[],0⟩,⟨[],[],[],[],0⟩,⟨[(82,21)],[],[],[],0⟩,⟨[],[],[],[],0⟩,⟨[(84,23)],[],[],[],0⟩,⟨[(85,24)],[],[],[],0⟩,⟨[(86,25)],[],[],[],0⟩,⟨[(83,22),(87,26)],[],[],[],0⟩,⟨[(88,27)],[],[],[],0⟩,⟨[(81,20),(89,28)],[],[],[],0⟩,⟨[(90,29)],[],[],[],0⟩,⟨[],[],[],[],0⟩,⟨[(92,31)],[],[],[],0⟩,⟨[(93,32)],[],[],[],0⟩,⟨[(94,33)],[],[],[],0⟩,⟨[(91,30),(95,34)],[],[],[],0⟩] (by kernel_rfl) rfl (by kernel_rfl) rfl rfl rfl fun KD hKD=>?_
 cases hL:C6 n.log
 ·rw [hL] at hlf
  refine g ?_
  repeat' (first | refine st_ rfl (g ?_) | (refine hKD _ _ ⟨rfl,g ?_⟩;clear hKD KD) | (refine S2 rfl rfl (fun h=>?_) (fun h=>?_)<;>simp only [h]<;>refine g ?_) | refine Aa (hvf) rfl (g ?_) | refine Aa (hlf) rfl (g ?_))
  all_goals (rw [<-hB];simp [Ad5,hL])
 rw [hL] at hlf
 refine g ?_
 repeat' (first | refine st_ rfl (g ?_) | refine De (fun h=>g ?_) (fun h=>g ?_) | (refine hKD _ _ ⟨rfl,g ?_⟩;clear hKD KD) | (refine S2 rfl rfl (fun h=>?_) (fun h=>?_)<;>simp only [h]<;>refine g ?_) | refine Aa (hvf) rfl (g ?_) | refine Aa (hlf) rfl (g ?_) | refine Aa (hkn hL) rfl (g ?_) | refine Aa (heq) rfl (g ?_) | refine Aa (hfo) rfl (g ?_) | refine Aa (hfs) rfl (g ?_))
 all_goals first
  | (simp at h;rw [<-hB];simp [Ad5,Y2,hL,h];done)
  | skip
 rename_i g1 g2 g3 g4 g5 g6 g7 g8 g9
 have e5:C0 n.disk=true:=by simpa using g5
 have e7:At n.view=true:=by simpa using g7
 have e8:B4 n.log.base n.log.notes=n.view.known:=by simpa using g8
 have e9:Fc n.log.notes.length n.outs=true:=by simpa using g9
 have e10:D6 n.subs=true:=by simpa using h
 have hm:(0<=n.me/\n.me < 64)/\(0<=n.tries/\n.tries < 1099511627776)/\n.queue.length<=4096:=by omega
 unfold Ad5 Y2 at hB
 rw [if_pos hL,e5,e7,hL,e9,e10,decide_eq_true e8,decide_eq_true hm.1,decide_eq_true hm.2.1,decide_eq_true hm.2.2] at hB
 simp only [Bool.true_and] at hB
 clear g1 g2 g3 g4 g5 g6 g7 g8 g9
 refine AW.loop (fun m:{m:Nat // m<=n.outs.length/\∀ x∈n.outs.take m,¬ x.to_=n.me}=>⟨[(1,.ip [.val (.int .i64 n.me),stI n.view.known,znI n.view.zones,wrI n.view.held,boI n.view.bodies,.val (.int .i64 n.view.room),stI n.log.base,noI n.log.notes,.val (.int .i64 n.log.sure),ouI n.outs,J2 n.subs,.val (.int .i64 n.tries),msI n.queue,.val (.int .i64 n.disk.room),flI n.disk.files,.val (.bool false)]),(5,.val (.int .i64 (m.1:Nat)))],[]⟩) (fun m=>n.outs.length - m.1) ⟨0,Nat.zero_le _,fun x hx=>by simp at hx⟩ id ⟨⟨rfl,rfl,trivial⟩,trivial,List.nodup_nil⟩ fun ⟨m,hm,ht⟩=>?_
 simp only
 repeat (refine AW.seq ?_)
 refine AW.reg rfl fun KK hKK=>?_
 refine g ?_
 repeat' (refine hKK _ (g ?_);clear hKK KK)
 repeat (refine AW.seq ?_)
 refine st_ rfl ?_
 refine g ?_
 refine Al (fun h=>?_) (fun h=>?_)
 ·have hlt:m < n.outs.length:=by omega
  refine st_ rfl (g ?_)
  refine AW.seq ?_
  refine AW.block ?_
  repeat (refine AW.seq ?_)
  refine AW.drawn (ds:=[104,105,106,107,108,109,110,111,112]) (fin:=[]) (bs:=[0,0,0,0,0,0,0,0,0]) [⟨[],[],[],[],0⟩,⟨[(104,0)],[],[],[],0⟩,⟨[],[],[],[],0⟩,⟨[(105,1),(106,2)],[],[],[],0⟩,⟨[(107,3)],[],[],[],0⟩,⟨[(108,4)],[],[],[],0⟩,⟨[],[],[],[],0⟩,⟨[(110,6)],[],[],[],0⟩,⟨[(109,5),(111,7)],[],[],[],0⟩] (by kernel_rfl) rfl (by kernel_rfl) rfl rfl rfl fun KD hKD=>?_
  refine g ?_
  repeat' (first | refine st_ rfl (g ?_) | refine Al (fun h=>g ?_) (fun h=>g ?_) | (refine hKD _ _ ⟨rfl,g ?_⟩;clear hKD KD) | refine ix_ (by omega) (g ?_))
  ·rw [<-hB,Gp hlt (by simp [h])];rfl
  ·refine ⟨⟨m+1,hlt,fun x hx=>?_⟩,id,⟨⟨rfl,rfl,trivial⟩,trivial,List.nodup_nil⟩,by show n.outs.length - (m+1) < n.outs.length - m;omega⟩
   rw [List.take_succ_eq_append_getElem hlt] at hx
   rcases List.mem_append.1 hx with h1 | h1
   ·exact ht x h1
   ·rw [List.mem_singleton.1 h1];exact h
 obtain rfl:m=n.outs.length:=by omega
 rw [List.take_length] at ht
 rw [List.all_eq_true.2 (fun x hx=>by simp [ht x hx]),Bool.true_and] at hB
 refine AW.exit ?_
 simp only [reduceIte]
 refine g ?_
 repeat' (first | refine st_ rfl (g ?_) | refine Al (fun h=>g ?_) (fun h=>g ?_) | refine Aa (hsb) rfl (g ?_))
 ·have ha:n.subs.any (fun s=>decide (s.from_=n.me))=true:=by
   unfold Ae4 at h
   by_cases ha:n.subs.any (fun s=>decide (s.from_=n.me))=true
   ·exact ha
   ·rw [if_neg ha] at h;omega
  rw [<-hB,<-List.not_any_eq_all_not,ha]
  simp
 have ha:n.subs.any (fun s=>decide (s.from_=n.me))=false:=by
  cases ha:n.subs.any (fun s=>decide (s.from_=n.me)) with
  | false=>rfl
  | true =>
   exfalso
   unfold Ae4 at h
   rw [if_pos ha] at h
   omega
 rw [<-List.not_any_eq_all_not,ha,Bool.not_false,Bool.and_true] at hB
 refine AW.loop (fun m:{m:Nat // m<=n.queue.length/\∀ x∈n.queue.take m,Sq n.me x=true}=>⟨[(1,.ip [.val (.int .i64 n.me),stI n.view.known,znI n.view.zones,wrI n.view.held,boI n.view.bodies,.val (.int .i64 n.view.room),stI n.log.base,noI n.log.notes,.val (.int .i64 n.log.sure),ouI n.outs,J2 n.subs,.val (.int .i64 n.tries),msI n.queue,.val (.int .i64 n.disk.room),flI n.disk.files,.val (.bool false)]),(6,.val (.int .i64 (m.1:Nat)))],[]⟩) (fun m=>n.queue.length - m.1) ⟨0,Nat.zero_le _,fun x hx=>by simp at hx⟩ id ⟨⟨rfl,rfl,trivial⟩,trivial,List.nodup_nil⟩ fun ⟨m,hm,ht⟩=>?_
 simp only
 repeat (refine AW.seq ?_)
 refine AW.reg rfl fun KK hKK=>?_
 refine g ?_
 repeat' (refine hKK _ (g ?_);clear hKK KK)
 repeat (refine AW.seq ?_)
 refine st_ rfl ?_
 refine g ?_
 refine Al (fun h=>?_) (fun h=>?_)
 ·have hlt:m < n.queue.length:=by omega
  have hwf:=Ah0 n.queue[m] (C31 hq hlt)
  refine st_ rfl (g ?_)
  refine AW.seq ?_
  refine AW.block ?_
  repeat (refine AW.seq ?_)
  refine AW.drawn (ds:=[125,126,127,128,129,130,131,132,133,134,135,136,137,138,139,140,141,142]) (fin:=[]) (bs:=[0,0,0,0,0,0,0,0,0,0,0,0,0,0,0,0,0,0]) [⟨[],[],[],[],0⟩,⟨[(125,0)],[],[],[],0⟩,⟨[],[],[],[],0⟩,⟨[(126,1),(127,2)],[],[],[],0⟩,⟨[(128,3)],[],[],[],0⟩,⟨[(129,4)],[],[],[],0⟩,⟨[(130,5)],[],[],[],0⟩,⟨[(131,6)],[],[],[],0⟩,⟨[],[],[],[],0⟩,⟨[(133,8)],[],[],[],0⟩,⟨[],[],[],[],0⟩,⟨[(134,9),(135,10)],[],[],[],0⟩,⟨[(136,11)],[],[],[],0⟩,⟨[(137,12)],[],[],[],0⟩,⟨[],[],[],[],0⟩,⟨[(139,14)],[],[],[],0⟩,⟨[(138,13),(140,15)],[],[],[],0⟩,⟨[(132,7),(141,16)],[],[],[],0⟩] (by kernel_rfl) rfl (by kernel_rfl) rfl rfl rfl fun KD hKD=>?_
  refine g ?_
  repeat' (first | refine st_ rfl (g ?_) | refine Al (fun h=>g ?_) (fun h=>g ?_) | (refine hKD _ _ ⟨rfl,g ?_⟩;clear hKD KD) | (refine S2 rfl rfl (fun h=>?_) (fun h=>?_)<;>simp only [h]<;>refine g ?_) | refine ix_ (by omega) (g ?_) | refine Aa (hwf) rfl (g ?_))
  ·rw [<-hB,Gp hlt (by simp only [Sq];simp at h;simp [h])]
  ·rw [<-hB,Gp hlt (by simp only [Sq,decide_eq_false h,Bool.false_and])]
  ·rename_i h2
   refine ⟨⟨m+1,hlt,fun x hx=>?_⟩,id,⟨⟨rfl,rfl,trivial⟩,trivial,List.nodup_nil⟩,by show n.queue.length - (m+1) < n.queue.length - m;omega⟩
   rw [List.take_succ_eq_append_getElem hlt] at hx
   rcases List.mem_append.1 hx with h1 | h1
   ·exact ht x h1
   ·rw [List.mem_singleton.1 h1]
    simp only [Sq]
    simp at h h2
    simp [h,h2]
 obtain rfl:m=n.queue.length:=by omega
 rw [List.take_length] at ht
 refine AW.exit ?_
 simp only [reduceIte]
 refine g ?_
 repeat' refine st_ rfl (g ?_)
 rw [<-hB]
 exact (List.all_eq_true.2 ht).symm
theorem A63 (n:Es) (hI:K5 n):A7 Tryz.prog A8 30 [ndA n] (.val (.bool (Bf n))) []:=by
 cases hd:n.down
 ·exact As8 n hI hd
 ·exact A62 n hI hd
end Go.Proofs.YtahgkllhbggmgaaGreatDoor
namespace Go.Proofs.YtahgkllhbggmgaaGreatDoor
open Go.ChangeShapes Go.WideShapes Go.ChangeAt Go.RowKit
theorem Wc (n:Es):Bc7 n=[.val (.int .i64 n.me),stI n.view.known,znI n.view.zones,wrI n.view.held,boI n.view.bodies,.val (.int .i64 n.view.room),stI n.log.base,noI n.log.notes,.val (.int .i64 n.log.sure),ouI n.outs,J2 n.subs,.val (.int .i64 n.tries),msI n.queue,.val (.int .i64 n.disk.room),flI n.disk.files,.val (.bool n.down)]:=rfl
attribute [local irreducible] AW AWY Be As vop Az Aq Ax qop Bd Bv Aj Ag Ay A7 Aw CH F8 Jh
attribute [local go_sem] Dp Aa2 Xk Bk6 Wc A83 Aa9 Aa8 Pf Lt Ae Af
theorem V6 {l:List Es} {i:Nat} (h:i < l.length):Fe 0 (l.take (i+1))=(Fe 0 (l.take i)&&(decide (l[i].me=(i:Int))&&Bf l[i])):=by
 rw [List.take_succ_eq_append_getElem h,Ls]
 have:(l.take i).length=i:=by simp;omega
 simp [Fe,this]
theorem Bp6 {c:Clu} {i:Nat} (h:i < c.nodes.length) (hp:(decide ¬ c.nodes[i].me=(i:Int) || !Bf c.nodes[i])=true):false=Cc c:=by
 have:Fe 0 c.nodes=false:=by
  rw [<-List.take_append_drop (i+1) c.nodes,Ls,V6 h]
  have h2:¬ c.nodes[i].me=(i:Int)\/Bf c.nodes[i]=false:=by simpa using hp
  rcases h2 with h2 | h2<;>simp [h2]
 rw [Cc,this]
 simp
theorem An8 {l:List Es} {i:Nat} (h:i < l.length) (hp:(decide ¬ l[i].me=(i:Int) || !Bf l[i])=false) (ht:Fe 0 (l.take i)=true):Fe 0 (l.take (i+1))=true:=by
 rw [V6 h,ht,Bool.true_and,Bool.and_eq_true,decide_eq_true_eq]
 simpa using hp
theorem Wd {c:Clu} (h:(decide ((c.nodes.length:Int) < 1) || decide (64 < (c.nodes.length:Int)) || !Fl c.net)=false) (ht:Fe 0 c.nodes=true):Cc c=c.net.all fun p=>decide (p.from_ < c.nodes.length)&&decide (p.to_ < c.nodes.length):=by
 rw [Cc,ht]
 grind
set_option maxRecDepth 100000 in
theorem Ao2 (p:Pkt) (ns:List Es) (net:List Pkt):A7 Tryz.prog A8 28 [pkA p,.ip [ndI ns,pkI net]] (.val (.bool (!(decide (p.from_ < ns.length)&&decide (p.to_ < ns.length))))) []:=by
 refine A7.of (n:=13) (rs:=[.tmp 3]) Tryz.func28 rfl (by kernel_rfl) Tryz.ntmps28 (by kernel_rfl) (by simp) (fun _ _=>A8.later) ?_
 intro hok V w0
 refine g ?_
 repeat' refine Jl rfl (g ?_)
 refine ⟨_,rfl,B9 (g ?_)⟩
 refine g ?_
 repeat' refine Jl rfl (g ?_)
 rw [Bool.eq_iff_iff]
 simp
 omega
set_option maxRecDepth 100000 in
theorem Az3 (c:Clu) (hI:∀ x∈c.nodes,K5 x):A7 Tryz.prog A8 10 [clA c] (.val (.bool (Cc c))) []:=by
 refine A7.of (n:=44) (rs:=[.tmp 2]) Tryz.func10 rfl (by kernel_rfl) Tryz.ntmps10 (by kernel_rfl) (by simp) (fun _ _=>A8.later) ?_
 intro hok V w0
 have hlen:c.nodes.length<=1073741824:=by simpa [ndI] using hok.1.1.1
 refine g ?_
 refine AW.seq ?_
 refine AW.reg rfl fun KK hKK=>?_
 refine g ?_
 repeat' (refine hKK _ (g ?_);clear hKK KK)
 refine AW.freeze 200 _ rfl ⟨trivial,trivial,trivial⟩ ?_
 simp only [go_sem,reduceIte,Nat.reduceEqDiff]
 refine g ?_
 repeat' (first | refine Jl rfl (g ?_) | refine B9 (g ?_) | refine De (fun h=>g ?_) (fun h=>g ?_) | refine Qk rfl rfl (g ?_) | refine Ql rfl rfl (g ?_) | refine Nq (fun h=>g ?_) | apply Nm rfl rfl rfl rfl | apply Vv rfl rfl rfl rfl | refine Qj rfl rfl rfl rfl ?_ | exact Qg | refine Qh rfl ?_ | refine Aa (A81 _) rfl (g ?_))
 ·unfold Cc
  grind
 ·refine AW.loop (fun m:{m:Nat // m<=c.nodes.length/\Fe 0 (c.nodes.take m)=true}=>⟨[(1,.ip [ndI c.nodes,pkI c.net]),(22,.iv (ndI c.nodes)),(23,.val (.int .i64 (c.nodes.length:Nat))),(24,.val (.int .i64 (m.1:Nat)))],[]⟩) (fun m=>c.nodes.length - m.1) ⟨0,Nat.zero_le _,rfl⟩ id ⟨⟨rfl,rfl,rfl,rfl,trivial⟩,trivial,List.nodup_nil⟩ fun ⟨m,hm,ht⟩=>?_
  simp only
  repeat (refine AW.seq ?_)
  refine AW.reg rfl fun KK hKK=>?_
  refine g ?_
  repeat' (refine hKK _ (g ?_);clear hKK KK)
  repeat (refine AW.seq ?_)
  refine st_ rfl ?_
  refine g ?_
  refine Al (fun h=>?_) (fun h=>?_)
  ·have hlt:m < c.nodes.length:=by omega
   refine st_ rfl (g ?_)
   refine g ?_
   repeat' (first | refine Jl rfl (g ?_) | refine B9 (g ?_) | refine De (fun h=>g ?_) (fun h=>g ?_) | refine Qk rfl rfl (g ?_) | refine Ql rfl rfl (g ?_) | refine Nq (fun h=>g ?_) | apply Nm rfl rfl rfl rfl | refine Qj rfl rfl rfl rfl ?_ | exact Qg | refine Qh rfl ?_ | refine ix_ (by omega) (g ?_) | refine Aa (Aw1 c.nodes[m] (hI _ (List.getElem_mem hlt))) rfl (g ?_))
   ·exact Bp6 hlt h
   ·exact ⟨⟨m+1,hlt,An8 hlt h ht⟩,id,⟨⟨rfl,rfl,rfl,rfl,trivial⟩,trivial,List.nodup_nil⟩,by show c.nodes.length - (m+1) < c.nodes.length - m;omega⟩
  ·refine AW.exit ?_
   simp only [reduceIte]
   refine g ?_
   repeat' (first | refine Jl rfl (g ?_) | refine Aa (Ax4 c.net _ [ndI c.nodes,pkI c.net] _ (fun x=>Ao2 x c.nodes c.net)) rfl (g ?_))
   obtain rfl:m=c.nodes.length:=by omega
   rw [List.take_length] at ht
   rw [Wd (by assumption) ht,List.all_eq_not_any_not]
set_option maxRecDepth 100000 in
theorem Ah7 (c:Clu) (hI:∀ x∈c.nodes,K5 x):A7 Tryz.prog A8 11 [clA c] (.val (.bool (Cc c))) []:=by
 refine A7.of (n:=74) (rs:=[.tmp 2]) Tryz.func11 rfl (by kernel_rfl) Tryz.ntmps11 (by kernel_rfl) (by simp) (fun _ _=>A8.later) ?_
 intro hok V w0
 have hlen:c.nodes.length<=1073741824:=by simpa [ndI] using hok.1.1.1
 have hln:c.net.length<=1073741824:=by simpa [pkI] using hok.1.2.1.1
 refine g ?_
 refine AW.seq ?_
 refine AW.reg rfl fun KK hKK=>?_
 refine g ?_
 repeat' (refine hKK _ (g ?_);clear hKK KK)
 refine AW.freeze 200 _ rfl ⟨trivial,trivial,trivial⟩ ?_
 simp only [go_sem,reduceIte,Nat.reduceEqDiff]
 refine g ?_
 repeat' (first | refine Jl rfl (g ?_) | refine B9 (g ?_) | refine De (fun h=>g ?_) (fun h=>g ?_) | refine Qk rfl rfl (g ?_) | refine Ql rfl rfl (g ?_) | refine Nq (fun h=>g ?_) | apply Nm rfl rfl rfl rfl | apply Vv rfl rfl rfl rfl | refine Qj rfl rfl rfl rfl ?_ | exact Qg | refine Qh rfl ?_ | refine Aa (Za _) rfl (g ?_))
 ·unfold Cc
  grind
 ·refine AW.loop (fun m:{m:Nat // m<=c.nodes.length/\Fe 0 (c.nodes.take m)=true}=>⟨[(1,.ip [ndI c.nodes,pkI c.net]),(3,.val (.int .i64 (m.1:Nat)))],[]⟩) (fun m=>c.nodes.length - m.1) ⟨0,Nat.zero_le _,rfl⟩ id ⟨⟨rfl,rfl,trivial⟩,trivial,List.nodup_nil⟩ fun ⟨m,hm,ht⟩=>?_
  simp only
  repeat (refine AW.seq ?_)
  refine AW.reg rfl fun KK hKK=>?_
  refine g ?_
  repeat' (refine hKK _ (g ?_);clear hKK KK)
  repeat (refine AW.seq ?_)
  refine st_ rfl ?_
  refine g ?_
  refine Al (fun h=>?_) (fun h=>?_)
  ·have hlt:m < c.nodes.length:=by omega
   refine st_ rfl (g ?_)
   refine g ?_
   repeat' (first | refine Jl rfl (g ?_) | refine B9 (g ?_) | refine De (fun h=>g ?_) (fun h=>g ?_) | refine Qk rfl rfl (g ?_) | refine Ql rfl rfl (g ?_) | refine Nq (fun h=>g ?_) | apply Nm rfl rfl rfl rfl | refine Qj rfl rfl rfl rfl ?_ | exact Qg | refine Qh rfl ?_ | refine ix_ (by omega) (g ?_) | refine Aa (A63 c.nodes[m] (hI _ (List.getElem_mem hlt))) rfl (g ?_))
   ·exact Bp6 hlt h
   ·exact ⟨⟨m+1,hlt,An8 hlt h ht⟩,id,⟨⟨rfl,rfl,trivial⟩,trivial,List.nodup_nil⟩,by show c.nodes.length - (m+1) < c.nodes.length - m;omega⟩
  ·refine AW.exit ?_
   simp only [reduceIte]
   refine g ?_
   repeat' refine Jl rfl (g ?_)
   refine AW.loop (fun m:{m:Nat // m<=c.net.length/\(c.net.take m).all (fun p=>decide (p.from_ < c.nodes.length)&&decide (p.to_ < c.nodes.length))=true}=>⟨[(1,.ip [ndI c.nodes,pkI c.net]),(4,.val (.int .i64 (m.1:Nat)))],[]⟩) (fun m=>c.net.length - m.1) ⟨0,Nat.zero_le _,rfl⟩ id ⟨⟨rfl,rfl,trivial⟩,trivial,List.nodup_nil⟩ fun ⟨q,hq,hp⟩=>?_
   simp only
   repeat (refine AW.seq ?_)
   refine AW.reg rfl fun KK hKK=>?_
   refine g ?_
   repeat' (refine hKK _ (g ?_);clear hKK KK)
   repeat (refine AW.seq ?_)
   refine st_ rfl ?_
   refine g ?_
   refine Al (fun h=>?_) (fun h=>?_)
   ·have hlq:q < c.net.length:=by omega
    refine st_ rfl (g ?_)
    refine AW.seq ?_
    refine AW.block ?_
    repeat (refine AW.seq ?_)
    refine AW.drawn (ds:=[52,53,54,55,56,57,58,59,60,61,62,63,64,65,66,67,68,69,70,71,72,73]) (fin:=[]) (bs:=[0,0,0,0,0,0,0,0,0,0,0,0,0,0,0,0,0,0,0,0,0,0]) [⟨[],[],[],[],0⟩,⟨[(52,0)],[],[],[],0⟩,⟨[],[],[],[],0⟩,⟨[(53,1),(54,2)],[],[],[],0⟩,⟨[(55,3)],[],[],[],0⟩,⟨[(56,4)],[],[],[],0⟩,⟨[],[],[],[],0⟩,⟨[(58,6)],[],[],[],0⟩,⟨[(59,7)],[],[],[],0⟩,⟨[(57,5),(60,8)],[],[],[],0⟩,⟨[(61,9)],[],[],[],0⟩,⟨[],[],[],[],0⟩,⟨[(63,11)],[],[],[],0⟩,⟨[],[],[],[],0⟩,⟨[(64,12),(65,13)],[],[],[],0⟩,⟨[(66,14)],[],[],[],0⟩,⟨[(67,15)],[],[],[],0⟩,⟨[],[],[],[],0⟩,⟨[(69,17)],[],[],[],0⟩,⟨[(70,18)],[],[],[],0⟩,⟨[(68,16),(71,19)],[],[],[],0⟩,⟨[(62,10),(72,20)],[],[],[],0⟩] (by kernel_rfl) rfl (by kernel_rfl) rfl rfl rfl fun KD hKD=>?_
    refine g ?_
    repeat' (first | refine st_ rfl (g ?_) | refine Al (fun h=>g ?_) (fun h=>g ?_) | (refine hKD _ _ ⟨rfl,g ?_⟩;clear hKD KD) | (refine Lz rfl rfl (fun h e=>?_) (fun h e=>?_)<;>simp only [e]<;>clear e<;>refine g ?_) | refine ix_ (by omega) (g ?_))
    all_goals have htt:Fe 0 c.nodes=true:=by rw [List.take_of_length_le (by omega)] at ht;exact ht
    ·rw [Wd (by assumption) htt,Gp hlq (by simp;omega)]
    ·rw [Wd (by assumption) htt,Gp hlq (by simp;omega)]
    ·exact ⟨⟨q+1,hlq,by rw [List.take_succ_eq_append_getElem hlq,List.all_append,hp];simp;omega⟩,id,⟨⟨rfl,rfl,trivial⟩,trivial,List.nodup_nil⟩,by show c.net.length - (q+1) < c.net.length - q;omega⟩
   ·refine AW.exit ?_
    simp only [reduceIte]
    refine g ?_
    repeat' refine Jl rfl (g ?_)
    obtain rfl:m=c.nodes.length:=by omega
    obtain rfl:q=c.net.length:=by omega
    rw [List.take_length] at ht hp
    rw [Wd (by assumption) ht,hp]
end Go.Proofs.YtahgkllhbggmgaaGreatDoor
namespace Go.Proofs.YtahgkllhbggmgaaGreatDoor
open Go.ChangeShapes Go.WideShapes Go.ChangeAt Go.RowKit
def Jp (N:Nat) (it:List Ah) (s:Sub):Bool:=decide (s.from_ < N)&&Az0 s.interest it
def D2 (N:Nat) (it:List Ah) (l:List Sub):List Nat:=(l.filter (Jp N it)).map (·.from_.toNat)
def Ed (c:Clu) (it:List Ah) (i:Nat):List Nat:=D2 c.nodes.length it ((c.nodes[i]?.map (·.subs)).getD [])
def A86 (c:Clu) (it:List Ah) (n:Int):Nat->Bool:=Nv (Ed c it) c.nodes.length c.nodes.length fun i=>decide (i=n.toNat)
def R0 (c:Clu) (n:Int) (it:List Ah):List Int:=if Cc c=true/\0<=n/\n < c.nodes.length then ((List.range c.nodes.length).filter (A86 c it n)).map fun x:Nat=>(x:Int) else []
theorem Rm:∀ {l:List Es} {k:Int},Fe k l=true->∀ x∈l,Bf x=true
 | [],_,_,x,hx=>by cases hx
 | n :: r,k,h,x,hx=>by
  simp only [Fe,Bool.and_eq_true] at h
  rcases List.mem_cons.1 hx with rfl | hx
  ·exact h.1.2
  ·exact Rm h.2 x hx
theorem Ux:∀ {l:List Sub} {e:Int},-1<=e->Em e l=true->∀ s∈l,0<=s.from_
 | [],_,_,_,s,hs=>by cases hs
 | x :: l,e,he,h,s,hs=>by
  simp only [Em,Bool.and_eq_true,decide_eq_true_eq] at h
  rcases List.mem_cons.1 hs with rfl | hs
  ·omega
  ·exact Ux (by omega) h.2 s hs
theorem Bu3 {l:List Sub} (h:D6 l=true):∀ s∈l,0<=s.from_:=by
 unfold D6 at h
 rw [Bool.and_eq_true] at h
 exact Ux (by omega) h.1
theorem Uw:∀ {l:List Sub} {e:Int},Em e l=true->∀ s∈l,I64 s.from_/\I64 s.session/\I64 s.seq
 | [],_,_,s,hs=>by cases hs
 | x :: l,e,h,s,hs=>by
  simp only [Em,Dk,Np,Bool.and_eq_true,decide_eq_true_eq] at h
  rcases List.mem_cons.1 hs with rfl | hs
  ·exact ⟨I64.of (by omega) (by omega),I64.of (by omega) (by omega),I64.of (by omega) (by omega)⟩
  ·exact Uw h.2 s hs
theorem B28 {x:Es} (h:Bf x=true):∀ s∈x.subs,I64 s.from_/\I64 s.session/\I64 s.seq:=fun s hs=>by
 unfold Bf at h
 rw [Bool.and_eq_true] at h
 split at h
 ·have:=h.2
  unfold Vg at this
  simp only [Bool.and_eq_true,decide_eq_true_eq] at this
  rw [this.1.2.2.2.2.2.2.2.1] at hs
  cases hs
 ·have:=h.2
  unfold Ad5 D6 at this
  simp only [Bool.and_eq_true] at this
  exact Uw this.1.1.1.2.1 s hs
theorem Ba5 {x:Es} (h:Bf x=true):∀ s∈x.subs,0<=s.from_:=fun s hs=>by
 unfold Bf at h
 rw [Bool.and_eq_true] at h
 split at h
 ·have:=h.2
  unfold Vg at this
  simp only [Bool.and_eq_true,decide_eq_true_eq] at this
  rw [this.1.2.2.2.2.2.2.2.1] at hs
  cases hs
 ·have:=h.2
  unfold Ad5 at this
  simp only [Bool.and_eq_true] at this
  exact Bu3 this.1.1.1.2 s hs
theorem V7 {x:Es} (h:Bf x=true):x.subs.length<=16:=by
 unfold Bf at h
 rw [Bool.and_eq_true] at h
 split at h
 ·have:=h.2
  unfold Vg at this
  simp only [Bool.and_eq_true,decide_eq_true_eq] at this
  rw [this.1.2.2.2.2.2.2.2.1]
  simp
 ·have:=h.2
  unfold Ad5 D6 at this
  simp only [Bool.and_eq_true,decide_eq_true_eq] at this
  exact this.1.1.1.2.2
theorem T6 {c:Clu} (h:Cc c=true) {x:Es} (hx:x∈c.nodes):Bf x=true:=by
 unfold Cc at h
 simp only [Bool.and_eq_true] at h
 exact Rm h.1.2 x hx
theorem Bp7 {c:Clu} (h:Cc c=true):c.nodes.length<=64:=by
 unfold Cc at h
 simp only [Bool.and_eq_true,decide_eq_true_eq] at h
 exact h.1.1.1.2
theorem Yq {c:Clu} (h:Cc c=true) {i:Nat} {x:Es} (hx:c.nodes[i]? = some x):∀ s∈x.subs,0<=s.from_:=by
 unfold Cc at h
 simp only [Bool.and_eq_true] at h
 exact Ba5 (Rm h.1.2 x (List.mem_of_getElem? hx))
theorem Wx {c:Clu} (it:List Ah) (h:Cc c=true):∀ i,i < c.nodes.length->∀ j∈Ed c it i,j < c.nodes.length:=fun i hi j hj=>by
 unfold Ed D2 at hj
 rw [List.getElem?_eq_getElem hi] at hj
 simp only [Option.map_some,Option.getD_some,List.mem_map,List.mem_filter] at hj
 obtain ⟨s,⟨hs,hg⟩,rfl⟩:=hj
 have:=Yq h (List.getElem?_eq_getElem hi) s hs
 unfold Jp at hg
 simp only [Bool.and_eq_true,decide_eq_true_eq] at hg
 omega
theorem Ae8 (N:Nat) (it:List Ah) (l:List Sub) (s:Sub):D2 N it (l++[s])=D2 N it l++if Jp N it s=true then [s.from_.toNat] else []:=by
 unfold D2
 rw [List.filter_append,List.map_append]
 cases h:Jp N it s<;>simp [List.filter,h]
theorem Bs1 (f a b:List Nat):Gm f (a++b)=Gm (Gm f a) b:=by
 unfold Gm
 rw [List.foldl_append]
theorem Al3 {c:Clu} {n:Int} {it:List Ah} (h:Cc c=true) (hn:0<=n/\n < c.nodes.length):((Um (Ed c it) (c.nodes.length+1) 0 [n.toNat]).map fun x:Nat=>(x:Int)).mergeSort (fun x y=>decide (x<=y))=R0 c n it:=by
 have hN:n.toNat < c.nodes.length:=by omega
 obtain ⟨h1,h2,h3⟩:=Br5 (n:=n.toNat) (Wx it h) (c.nodes.length+1) 0 [n.toNat] (by omega) (by simp) (by simp) (fun x hx=>by rw [List.mem_singleton.1 hx];exact hN) (by simp) (fun x hx=>by rw [List.mem_singleton.1 hx];exact .self) (fun a x ha=>absurd ha (Nat.not_lt_zero _))
 have hm:=Bg2 (n:=n.toNat) (Wx it h) c.nodes.length (fun i=>decide (i=n.toNat)) (fun i hi=>by rw [of_decide_eq_true hi];exact ⟨hN,.self⟩) (decide_eq_true rfl) (by
  have:0 < Az1 c.nodes.length (fun i=>decide (i=n.toNat)):=List.length_pos_of_mem (a:=n.toNat) (List.mem_filter.2 ⟨List.mem_range.2 hN,decide_eq_true rfl⟩)
  omega)
 rw [R0,if_pos ⟨h,hn⟩]
 exact A51 h1 h2 fun x=>(h3 x).trans (hm x).symm
end Go.Proofs.YtahgkllhbggmgaaGreatDoor
namespace Go.Proofs.YtahgkllhbggmgaaGreatDoor
open Go.Proofs Go.Shelf
def Al5:Go.Shelf.Ren:=⟨fun | 189=>48 | 125=>101 | 257=>100 | 128=>191 | 129=>192 | 294=>182 | 295=>183 | 296=>184 | 297=>185 | 298=>186 | 299=>187 | 216=>188 | 300=>189 | 301=>190 | 328=>293 | 329=>294 | 330=>295 | 331=>296 | 332=>297 | 215=>298 | 343=>364 | n=>n,fun | 28=>35 | 3=>3 | 46=>147 | 0=>0 | 51=>228 | 53=>230 | 4=>4 | 183=>221 | 182=>220 | 131=>225 | 5=>5 | 9=>9 | 218=>328 | 222=>332 | 228=>408 | 229=>409 | n=>n,fun | n=>n⟩
theorem Bx5:Go.Proofs.Lays.n189 Tryz.prog Al5:={
 mixed:=by kernel_rfl
 f125:=Tryz.func101.trans (congrArg some (by kernel_rfl))
 f128:=Tryz.func191.trans (congrArg some (by kernel_rfl))
 f129:=Tryz.func192.trans (congrArg some (by kernel_rfl))
 f189:=Tryz.func48.trans (congrArg some (by kernel_rfl))
 f215:=Tryz.func298.trans (congrArg some (by kernel_rfl))
 f216:=Tryz.func188.trans (congrArg some (by kernel_rfl))
 f257:=Tryz.func100.trans (congrArg some (by kernel_rfl))
 f294:=Tryz.func182.trans (congrArg some (by kernel_rfl))
 f295:=Tryz.func183.trans (congrArg some (by kernel_rfl))
 f296:=Tryz.func184.trans (congrArg some (by kernel_rfl))
 f297:=Tryz.func185.trans (congrArg some (by kernel_rfl))
 f298:=Tryz.func186.trans (congrArg some (by kernel_rfl))
 f299:=Tryz.func187.trans (congrArg some (by kernel_rfl))
 f300:=Tryz.func189.trans (congrArg some (by kernel_rfl))
 f301:=Tryz.func190.trans (congrArg some (by kernel_rfl))
 f328:=Tryz.func293.trans (congrArg some (by kernel_rfl))
 f329:=Tryz.func294.trans (congrArg some (by kernel_rfl))
 f330:=Tryz.func295.trans (congrArg some (by kernel_rfl))
 f331:=Tryz.func296.trans (congrArg some (by kernel_rfl))
 f332:=Tryz.func297.trans (congrArg some (by kernel_rfl))
 f343:=Tryz.func364.trans (congrArg some (by kernel_rfl))
 t0:=Tryz.underlying0
 a0:=Tryz.isAgg0
 z0:=Tryz.sizeOf0
 v0:=Tryz.zeroValue0
 t3:=Tryz.underlying3
 a3:=Tryz.isAgg3
 z3:=Tryz.sizeOf3
 v3:=Tryz.zeroValue3
 t4:=Tryz.underlying4
 a4:=Tryz.isAgg4
 z4:=Tryz.sizeOf4
 v4:=Tryz.zeroValue4
 t5:=Tryz.underlying5
 a5:=Tryz.isAgg5
 z5:=Tryz.sizeOf5
 v5:=Tryz.zeroValue5
 t9:=Tryz.underlying9
 a9:=Tryz.isAgg9
 z9:=Tryz.sizeOf9
 v9:=Tryz.zeroValue9
 t28:=Tryz.underlying35
 a28:=Tryz.isAgg35
 z28:=Tryz.sizeOf35
 v28:=Tryz.zeroValue35
 t46:=Tryz.underlying147
 a46:=Tryz.isAgg147
 z46:=Tryz.sizeOf147
 v46:=Tryz.zeroValue147
 t51:=Tryz.underlying228
 a51:=Tryz.isAgg228
 z51:=Tryz.sizeOf228
 v51:=Tryz.zeroValue228
 t53:=Tryz.underlying230
 a53:=Tryz.isAgg230
 z53:=Tryz.sizeOf230
 v53:=Tryz.zeroValue230
 t131:=Tryz.underlying225
 a131:=Tryz.isAgg225
 z131:=Tryz.sizeOf225
 v131:=Tryz.zeroValue225
 t182:=Tryz.underlying220
 a182:=Tryz.isAgg220
 z182:=Tryz.sizeOf220
 v182:=Tryz.zeroValue220
 t183:=Tryz.underlying221
 a183:=Tryz.isAgg221
 z183:=Tryz.sizeOf221
 v183:=Tryz.zeroValue221
 t218:=Tryz.underlying328
 a218:=Tryz.isAgg328
 z218:=Tryz.sizeOf328
 v218:=Tryz.zeroValue328
 t222:=Tryz.underlying332
 a222:=Tryz.isAgg332
 z222:=Tryz.sizeOf332
 v222:=Tryz.zeroValue332
 t228:=Tryz.underlying408
 a228:=Tryz.isAgg408
 z228:=Tryz.sizeOf408
 v228:=Tryz.zeroValue408
 t229:=Tryz.underlying409
 a229:=Tryz.isAgg409
 z229:=Tryz.sizeOf409
 v229:=Tryz.zeroValue409 }
open Go.Sort Go.RowKit in
theorem slices_Sort_int (blk off cap:Nat) (zs:List Int) (w:World) (hH:Holds (Value.int .i64) w blk off zs.toArray) (hblk:blk < w.heap.size) (hsz:zs.length < 4611686018427387904) :
  Calls Tryz.prog 48 #[.slice (some ⟨blk,off,none⟩) zs.length cap] w fun e w' =>
   e=.returned (.tuple #[])/\∃ n os,w'=grow (putRow (Value.int .i64) (Sort.ahead w n) blk off (zs.mergeSort fun x y=>decide (x<=y)).toArray) os:=Any.slices_Sort_int Bx5 blk off cap zs w hH hblk hsz
end Go.Proofs.YtahgkllhbggmgaaGreatDoor
namespace Go.Proofs.YtahgkllhbggmgaaGreatDoor
open Go.ChangeShapes Go.WideShapes Go.ChangeAt Go.RowKit Go.Sort
def enJ (n:Int):List IV:=[.val (.int .i64 n)]
theorem Vj {X:World} : ∀ {l:List Int} {xs:List Value},Bh (Av X) 1 xs (l.map enJ)->xs=l.map (Value.int .i64)
 | [],xs,h=>h
 | x :: l,xs,⟨cs,rest,e,hk,h1,h2⟩=>by
  match cs,h1 with
  | [c0],⟨q0,_⟩ =>
   cases q0 with | val i0 =>
   rw [e,Vj h2]
   rfl
theorem Va {X:World} : ∀ {l:List Int},(∀ x∈l,I64 x)->Bh (Av X) 1 (l.map (Value.int .i64)) (l.map enJ)
 | [],_=>rfl
 | x :: l,h=>⟨[.int .i64 x],l.map (Value.int .i64),rfl,rfl,⟨.val (h x (by simp)),trivial⟩,Va fun y hy=>h y (by simp [hy])⟩
theorem Ar3 {l:List Int} (hne:l≠[]) (hi:∀ x∈l,I64 x):Py Tryz.prog A8 48 [.own 1] (.tup []) [.row 1 3 1 (l.map enJ)] [] [] [.row 1 3 1 ((l.mergeSort fun x y=>decide (x<=y)).map enJ)]:=by
 refine Py.keep (r:=.tuple #[]) Tryz.func48 rfl (by kernel_rfl) (fun E X=>.tup rfl fun j v c a b=>by simp at a) fun X w E v vs base hX hbase hG h hvs=>?_
 obtain rfl:=An.nil_iff.1 hvs
 obtain ⟨xs,hown,hch,hbig⟩:=id h
 obtain rfl:=Vj hch
 have hperm:=List.mergeSort_perm l fun x y=>decide (x<=y)
 rw [List.length_map] at hown hbig
 rcases hown.2 with ⟨rfl,hn⟩ | ⟨g,cap,cur,rfl,hb,hg,hnc,hcm,hcs,ht⟩
 ·exact absurd (List.eq_nil_of_length_eq_zero hn) hne
 ·rw [Nat.mul_one] at ht
  have hlt:g < w.heap.size:=(Array.getElem?_eq_some_iff.1 hg).1
  refine Calls.mono (slices_Sort_int g 0 cap l w (holds_of_blockI hg ht) hlt (by omega)) ?_
  rintro e w' ⟨rfl,n,os,rfl⟩
  have hl:=hperm.length_eq
  refine ⟨rfl,⟨_,?_,Va fun x hx=>hi x (hperm.mem_iff.1 hx),by rw [List.length_map,hl];exact hbig⟩,grownBy_sortedI _⟩
  rw [List.length_map,hl]
  exact ownsRow_sortedI hl hb hg hnc hcm hcs
end Go.Proofs.YtahgkllhbggmgaaGreatDoor
namespace Go.Proofs.YtahgkllhbggmgaaGreatDoor
open Go.ChangeShapes Go.WideShapes Go.ChangeAt Go.RowKit
theorem Bn3 (l:List Int):inI l=.sl 1 (l.map enJ):=rfl
def asI (f:List Nat):List Int:=f.map fun x:Nat=>(x:Int)
theorem Tc (f:List Nat):(asI f).length=f.length:=by simp [asI]
theorem C08 {f:List Nat} {i:Nat} (h:i < f.length):((asI f).map enJ)[i]? = some (enJ (f[i]:Nat)):=by simp [asI,h]
theorem B51 {f:List Nat} {x:Int} (h:0<=x):x∈asI f↔f.contains x.toNat=true:=by
 unfold asI
 rw [List.contains_iff_mem,List.mem_map]
 constructor
 ·rintro ⟨y,hy,rfl⟩
  exact hy
 ·intro hx
  exact ⟨_,hx,by omega⟩
structure Bs7 (c:Clu) (it:List Ah) (a:Nat) where
 f:List Nat
 i:Nat
 nd:f.Nodup
 lt:∀ x∈f,x < c.nodes.length
 le:i<=f.length
 ne:f≠[]
 eq:Um (Ed c it) (c.nodes.length+1 - i) i f=Um (Ed c it) (c.nodes.length+1) 0 [a]
theorem C11 {l f:List Nat} (h:f≠[]):Gm f l≠[]:=fun e=>by
 obtain ⟨x,f,rfl⟩ : ∃ x f',f=x :: f':=by cases f with | nil=>exact absurd rfl h | cons x f=>exact ⟨x,f,rfl⟩
 have:x∈Gm (x :: f) l:=(Jr l _ x).2 (.inl (by simp))
 rw [e] at this
 cases this
theorem C12 (l f:List Nat):f.length<=(Gm f l).length:=by
 rcases Nat.lt_or_ge (Gm f l).length f.length with h | h
 ·have:=Te l f (f.length - 1) _ (List.getElem?_eq_getElem (by omega))
  have:=(List.getElem?_eq_some_iff.1 this).1
  omega
 ·exact h
theorem Bb9 {N:Nat} {it:List Ah} {S:List Sub} {f:List Nat} {k:Nat} (h:k < S.length):Gm f (D2 N it (S.take (k+1)))=if Jp N it S[k]=true then (if (Gm f (D2 N it (S.take k))).contains S[k].from_.toNat then Gm f (D2 N it (S.take k)) else Gm f (D2 N it (S.take k))++[S[k].from_.toNat]) else Gm f (D2 N it (S.take k)):=by
 rw [List.take_succ_eq_append_getElem h,Ae8,Bs1]
 split<;>rfl
theorem Bc0 {c:Clu} {it:List Ah} {a:Nat} (x:Bs7 c it a) (h:x.i < x.f.length) (hN:x.f.length<=c.nodes.length):Um (Ed c it) (c.nodes.length+1 - (x.i+1)) (x.i+1) (Gm x.f (Ed c it x.f[x.i]))=Um (Ed c it) (c.nodes.length+1) 0 [a]:=by
 rw [<-x.eq,show c.nodes.length+1 - x.i=(c.nodes.length+1 - (x.i+1))+1 by omega]
 conv=>rhs;unfold Um
 rw [List.getElem?_eq_getElem h]
theorem Bn8 {c:Clu} {it:List Ah} {a:Nat} (x:Bs7 c it a) (h:x.i=x.f.length):x.f=Um (Ed c it) (c.nodes.length+1) 0 [a]:=by
 rw [<-x.eq]
 cases e:c.nodes.length+1 - x.i with
 | zero=>rfl
 | succ k =>
  unfold Um
  rw [List.getElem?_eq_none (by omega)]
theorem Bh1 {c:Clu} {it:List Ah} (hF:Cc c=true) {x:Nat} (hx:x < c.nodes.length) {k:Nat} {f:List Nat} (nd:f.Nodup) (lt:∀ y∈f,y < c.nodes.length):(Gm f (D2 c.nodes.length it (c.nodes[x].subs.take k))).Nodup/\∀ y∈Gm f (D2 c.nodes.length it (c.nodes[x].subs.take k)),y < c.nodes.length:=by
 refine ⟨Rx _ _ nd,fun y hy=>?_⟩
 rcases (Jr _ _ _).1 hy with h | h
 ·exact lt y h
 ·refine Wx it hF x hx y ?_
  unfold Ed D2 at *
  rw [List.getElem?_eq_getElem hx]
  simp only [Option.map_some,Option.getD_some]
  obtain ⟨s,hs,rfl⟩:=List.mem_map.1 h
  obtain ⟨h1,h2⟩:=List.mem_filter.1 hs
  exact List.mem_map_of_mem (List.mem_filter.2 ⟨List.mem_of_mem_take h1,h2⟩)
attribute [local irreducible] AW AWY Be As vop Az Aq Ax qop Bd Bv Aj Ag Ay A7 Aw
attribute [local go_sem] Wc A83 Aa9 Aa8 Xk Jc L4 enJ Bn3 Ae Af
set_option maxRecDepth 100000 in
set_option maxHeartbeats 3200000 in
theorem Al2 (c:Clu) (n:Int) (it:List Ah) (hI:∀ x∈c.nodes,K5 x):A7 Tryz.prog A8 20 [clA c,.val (.int .i64 n),.iv (spI it)] (.iv (inI (R0 c n it))) []:=by
 have hf:=Az3 c hI
 refine A7.ofS (n:=75) (rs:=[.tmp 6]) Tryz.func20 rfl (by kernel_rfl) Tryz.ntmps20 (by kernel_rfl) (by simp) (fun _ _=>A8.later) ?_
 intro hok V w0
 have hlen:c.nodes.length<=1073741824:=by simpa [ndI] using hok.1.1.1
 refine g ?_
 refine AW.seq ?_
 refine AW.reg rfl fun KK hKK=>?_
 refine g ?_
 repeat' (refine hKK _ (g ?_);clear hKK KK)
 refine AW.freeze 400 _ rfl ⟨trivial,trivial,trivial⟩ ?_
 simp only [go_sem,reduceIte,Nat.reduceEqDiff]
 cases hF:Cc c with
 | false =>
  rw [hF] at hf
  rw [R0,if_neg (by simp [hF])]
  refine g ?_
  repeat' (first | refine st_ rfl (g ?_) | refine Aa (hf) rfl (g ?_))
  exact Dd 1
 | true =>
 rw [hF] at hf
 by_cases hn:0<=n/\n < c.nodes.length
 rotate_left
 ·rw [R0,if_neg (by simp [hn])]
  refine g ?_
  repeat' (first | refine st_ rfl (g ?_) | refine Al (fun h=>g ?_) (fun h=>g ?_) | (refine B8 rfl rfl (fun h e=>?_) (fun h e=>?_)<;>simp only [e]<;>clear e<;>refine g ?_) | refine Aa (hf) rfl (g ?_))
  all_goals first
   | exact Dd 1
   | omega
 obtain ⟨a,rfl⟩ : ∃ a:Nat,n=(a:Int):=⟨n.toNat,by omega⟩
 have ha:a < c.nodes.length:=by omega
 have h64:=Bp7 hF
 have hsort:=Al3 (it:=it) hF hn
 rw [Int.toNat_natCast] at hsort
 rw [<-hsort]
 have iN:∀ x:Nat,x < c.nodes.length->I64 (x:Int):=fun x hx=>I64.of (by omega) (by omega)
 refine g ?_
 repeat' (first | refine st_ rfl (g ?_) | refine Al (fun h=>g ?_) (fun h=>g ?_) | refine Aa (hf) rfl (g ?_))
 ·exfalso
  omega
 refine bs1 (by omega) rfl rfl rfl ⟨iN a ha,trivial⟩ ?_
 refine g ?_
 repeat' refine st_ rfl (g ?_)
 refine AW.loop (fun x:Bs7 c it a=>⟨[(2,.iv (spI it)),(3,.ip [ndI c.nodes,pkI c.net]),(7,.own 50000),(8,.val (.int .i64 (x.i:Nat)))],[.row 50000 3 1 ((asI x.f).map enJ)]⟩) (fun x=>c.nodes.length+1 - x.i) ⟨[a],0,by simp,fun x hx=>by rw [List.mem_singleton.1 hx];exact ha,by simp,by simp,rfl⟩ (fun b=>if b=50000 then 2700 else b) ⟨⟨rfl,rfl,rfl,rfl,trivial⟩,⟨rfl,trivial⟩,by simp [Bw,BA.id]⟩ fun x=>?_
 have hle:=Rl x.nd x.lt
 simp only
 repeat (refine AW.seq ?_)
 refine AW.reg rfl fun KK hKK=>?_
 refine g ?_
 repeat' (refine hKK _ (g ?_);clear hKK KK)
 repeat (refine AW.seq ?_)
 refine st_ rfl ?_
 refine g ?_
 refine Al (fun h=>?_) (fun h=>?_)
 ·have hlt:x.i < x.f.length:=by have:=Tc x.f;simp at h;omega
  have hx:x.f[x.i] < c.nodes.length:=x.lt _ (List.getElem_mem hlt)
  have hgn:=Dl (f:=Bc7) (List.getElem?_eq_getElem hx)
  refine st_ rfl (g ?_)
  refine g ?_
  repeat' refine st_ rfl (g ?_)
  refine AW.drawn (ds:=[33,34,35,36,37,38,39,40,41,42,43]) (fin:=[0]) (bs:=[1,1,1,1,1,1,1,1,1,1,1]) [⟨[],[],[],[],0⟩,⟨[(33,0)],[],[0],[],0⟩,⟨[],[],[],[],0⟩,⟨[],[],[],[],0⟩,⟨[(35,2),(36,3)],[],[0],[],0⟩,⟨[(37,4)],[],[0],[],0⟩,⟨[(34,1),(38,5)],[],[0],[],0⟩,⟨[(39,6)],[],[],[],0⟩,⟨[(40,7)],[],[0],[],0⟩,⟨[(41,8)],[],[0],[],0⟩,⟨[],[],[],[],0⟩] (by kernel_rfl) rfl (by kernel_rfl) rfl rfl rfl fun KD hKD=>?_
  refine g ?_
  repeat' (first | refine st_ rfl (g ?_) | (refine hKD _ _ ⟨rfl,g ?_⟩;clear hKD KD) | refine ix_ (by omega) (g ?_) | (refine Cb4 (by rw [Tc];exact hlt) ?_)<;>refine g ?_ | (refine By0 (C08 hlt) ?_)<;>refine g ?_)
  have h16:=V7 (T6 hF (List.getElem_mem hx))
  have hge:=Yq hF (List.getElem?_eq_getElem hx)
  have hi64:=B28 (T6 hF (List.getElem_mem hx))
  have hin:=fun k=>Bh1 (it:=it) hF hx (k:=k) x.nd x.lt
  have hnx:=Bc0 x hlt hle
  have hsx:Ed c it x.f[x.i]=D2 c.nodes.length it c.nodes[x.f[x.i]].subs:=by
   unfold Ed
   rw [List.getElem?_eq_getElem hx]
   rfl
  rw [hsx] at hnx
  obtain ⟨S,hS⟩ : ∃ S,c.nodes[x.f[x.i]].subs=S:=⟨_,rfl⟩
  rw [hS] at h16 hge hi64 hin hnx ⊢
  refine AW.loop (fun k:{k:Nat // k<=S.length}=>⟨[(2,.iv (spI it)),(3,.ip [ndI c.nodes,pkI c.net]),(7,.own 60000),(8,.val (.int .i64 (x.i:Nat))),(41,.iv (J2 S)),(42,.val (.int .i64 (S.length:Nat))),(43,.val (.int .i64 (k.1:Nat)))],[.row 60000 3 1 ((asI (Gm x.f (D2 c.nodes.length it (S.take k.1)))).map enJ)]⟩) (fun k=>S.length - k.1) ⟨0,Nat.zero_le _⟩ (fun b=>if b=60000 then 50000 else b) ⟨⟨rfl,rfl,rfl,rfl,rfl,rfl,rfl,trivial⟩,⟨rfl,trivial⟩,by simp [Bw,BA.id]⟩ fun ⟨k,hk⟩=>?_
  simp only
  have hst:=fun h=>Bb9 (N:=c.nodes.length) (it:=it) (S:=S) (f:=x.f) (k:=k) h
  have hik:=hin k
  have hlk:=Rl hik.1 hik.2
  obtain ⟨G,hG⟩ : ∃ G,Gm x.f (D2 c.nodes.length it (S.take k))=G:=⟨_,rfl⟩
  rw [hG] at hst hik hlk ⊢
  repeat (refine AW.seq ?_)
  refine AW.reg rfl fun KK hKK=>?_
  refine g ?_
  repeat' (refine hKK _ (g ?_);clear hKK KK)
  repeat (refine AW.seq ?_)
  refine st_ rfl ?_
  refine g ?_
  refine Al (fun h=>?_) (fun h=>?_)
  ·have hlk2:k < S.length:=by omega
   have hst:=hst hlk2
   have hg0:=hge _ (List.getElem_mem hlk2)
   obtain ⟨o1,o2,o3⟩:=hi64 _ (List.getElem_mem hlk2)
   have hf:((S[k].from_.toNat:Nat):Int)=S[k].from_:=by omega
   refine st_ rfl (g ?_)
   refine g ?_
   repeat' (first | refine st_ rfl (g ?_) | refine De (fun h=>g ?_) (fun h=>g ?_) | (refine B8 rfl rfl (fun h e=>?_) (fun h e=>?_)<;>simp only [e]<;>clear e<;>refine g ?_) | refine ix_ (by omega) (g ?_) | refine Aa (A56 _ _) rfl (g ?_) | (refine Yt (Bb7 (asI G) _) (by simp [Aj9,J8,okA,okV];exact ⟨o1,o2,o3⟩) rfl (fun _ h=>by cases h) (by exact Sbs.rfl_ _) rfl (g ?_))<;>refine g ?_)
   ·have e:Gm x.f (D2 c.nodes.length it (S.take (k+1)))=G:=by rw [hst,if_neg (by unfold Jp;simp;omega)]
    exact ⟨⟨k+1,hlk2⟩,id,⟨⟨rfl,rfl,rfl,rfl,rfl,rfl,rfl,trivial⟩,⟨by rw [e];rfl,trivial⟩,by simp [Bw,BA.id]⟩,by show S.length - (k+1) < S.length - k;omega⟩
   ·have e:Gm x.f (D2 c.nodes.length it (S.take (k+1)))=G:=by
     rw [hst]
     split
     ·rw [if_pos ((B51 hg0).1 h)]
     ·rfl
    exact ⟨⟨k+1,hlk2⟩,id,⟨⟨rfl,rfl,rfl,rfl,rfl,rfl,rfl,trivial⟩,⟨by rw [e];rfl,trivial⟩,by simp [Bw,BA.id]⟩,by show S.length - (k+1) < S.length - k;omega⟩
   ·have e:Gm x.f (D2 c.nodes.length it (S.take (k+1)))=G:=by
     rw [hst,if_neg]
     unfold Jp
     have hc:Az0 S[k].interest it=false:=by simpa using h
     rw [hc,Bool.and_false]
     decide
    exact ⟨⟨k+1,hlk2⟩,id,⟨⟨rfl,rfl,rfl,rfl,rfl,rfl,rfl,trivial⟩,⟨by rw [e];rfl,trivial⟩,by simp [Bw,BA.id]⟩,by show S.length - (k+1) < S.length - k;omega⟩
   ·have e:Gm x.f (D2 c.nodes.length it (S.take (k+1)))=G++[S[k].from_.toNat]:=by
     have hc:Az0 S[k].interest it=true:=by simpa using h
     have hn:¬ S[k].from_∈asI G:=by assumption
     rw [hst,if_pos (by unfold Jp;rw [hc,Bool.and_true];exact decide_eq_true (by omega)),if_neg fun hm=>hn ((B51 hg0).2 hm)]
    refine bs1 (by omega) rfl rfl rfl ⟨o1,trivial⟩ ?_
    refine g ?_
    refine Nf rfl (by kernel_rfl) (by omega) (by kernel_rfl) rfl (by rw [List.length_map,Tc];simp;omega) ?_
    refine g ?_
    repeat' refine st_ rfl (g ?_)
    refine ⟨⟨k+1,hlk2⟩,fun b=>if b=60000 then 7100 else b,⟨⟨rfl,rfl,rfl,rfl,rfl,rfl,rfl,trivial⟩,⟨?_,trivial⟩,by simp [Bw,BA.id]⟩,by show S.length - (k+1) < S.length - k;omega⟩
    rw [e]
    unfold asI
    rw [List.map_append,List.map_append]
    simp only [List.map_cons,List.map_nil,hf]
    rfl
  ·refine AW.exit ?_
   simp only [reduceIte]
   refine g ?_
   repeat' refine st_ rfl (g ?_)
   have hkS:S.take k=S:=List.take_of_length_le (by omega)
   have hgl:=C12 (D2 c.nodes.length it (S.take k)) x.f
   have hgn2:=C11 (l:=D2 c.nodes.length it (S.take k)) x.ne
   rw [hG] at hgl hgn2
   rw [hkS] at hG
   rw [hG] at hnx
   exact ⟨⟨G,x.i+1,hik.1,hik.2,by omega,hgn2,hnx⟩,fun b=>if b=50000 then 60000 else b,⟨⟨rfl,rfl,rfl,rfl,trivial⟩,⟨rfl,trivial⟩,by simp [Bw,BA.id]⟩,by show c.nodes.length+1 - (x.i+1) < c.nodes.length+1 - x.i;omega⟩
 ·refine AW.exit ?_
  simp only [reduceIte]
  have hi:x.i=x.f.length:=by have:=Tc x.f;have:=x.le;omega
  have hbe:=Bn8 x hi
  rw [<-hbe]
  refine g ?_
  repeat' refine st_ rfl (g ?_)
  refine Ce3 [] [] (fun _=>50000) (Ar3 (l:=asI x.f) (by unfold asI;simpa using x.ne) fun y hy=>by
   obtain ⟨z,hz,rfl⟩:=List.mem_map.1 hy
   exact iN z (x.lt z hz)) rfl rfl rfl (g ?_)
  refine g ?_
  repeat' ((fail_if_success refine AW.ret ?_);refine st_ rfl (g ?_))
  refine AW.freeze 50000 _ rfl trivial ?_
  simp only [go_sem,reduceIte,Nat.reduceEqDiff]
  refine g ?_
  repeat' refine st_ rfl (g ?_)
  exact Hm.rfl_ _
end Go.Proofs.YtahgkllhbggmgaaGreatDoor
namespace Go.Proofs.YtahgkllhbggmgaaGreatDoor
open Go.ChangeShapes Go.WideShapes Go.ChangeAt Go.RowKit
def mkI (f:Nat->Bool):List IV:=(List.range 64).map fun i=>.val (.bool (f i))
theorem B31 (f:Nat->Bool):(mkI f).length=64:=by simp [mkI]
theorem Aw2 {f:Nat->Bool} {i:Nat} (h:i < 64):(mkI f)[i]? = some (.val (.bool (f i))):=by simp [mkI,h]
theorem B32 {f:Nat->Bool} {j:Nat} (h:j < (mkI f).length):(mkI f)[j]=.val (.bool (f j)):=by simp [mkI]
theorem B30 {f:Nat->Bool} {i:Nat} {v:Bool} : (mkI f).set i (.val (.bool v))=mkI fun o=>if o=i then v else f o:=by
 refine List.ext_getElem (by simp [B31]) fun j h1 h2=>?_
 rw [List.getElem_set,B32,B32]
 by_cases e:i=j
 ·rw [if_pos e,if_pos e.symm]
 ·rw [if_neg e,if_neg fun h=>e h.symm]
theorem Bm3:(rep 64 (.bool false)).map IV.val=mkI fun _=>false:=by kernel_rfl
theorem Ae9 (N:Nat) (it:List Ah) (s:Sub) (l:List Sub):D2 N it (s :: l)=if Jp N it s=true then s.from_.toNat :: D2 N it l else D2 N it l:=by
 unfold D2
 cases h:Jp N it s<;>simp [List.filter,h]
structure C53 (c:Clu) (it:List Ah) (a:Nat) where
 t:Nat
 m:Nat->Bool
 le:t<=c.nodes.length
 eq:Nv (Ed c it) c.nodes.length (c.nodes.length - t) m=A86 c it a
structure D92 (c:Clu) (it:List Ah) (M:Nat->Bool) where
 i:Nat
 m:Nat->Bool
 le:i<=c.nodes.length
 eq:Kk (Ed c it) ((List.range c.nodes.length).drop i) m=M
structure D89 (N:Nat) (it:List Ah) (S:List Sub) (i:Nat) (M:Nat->Bool) where
 k:Nat
 m:Nat->Bool
 le:k<=S.length
 on:m i=true
 eq:Nw m (D2 N it (S.drop k))=M
theorem B65 {c:Clu} {it:List Ah} {a:Nat} (x:C53 c it a) (h:x.t < c.nodes.length) {m:Nat->Bool} (hm:m=Kk (Ed c it) (List.range c.nodes.length) x.m):Nv (Ed c it) c.nodes.length (c.nodes.length - (x.t+1)) m=A86 c it a:=by
 rw [<-x.eq,show c.nodes.length - x.t=(c.nodes.length - (x.t+1))+1 by omega,hm]
 rfl
theorem Bi9 {c:Clu} {it:List Ah} {M:Nat->Bool} (x:D92 c it M) (h:x.i < c.nodes.length):Kk (Ed c it) ((List.range c.nodes.length).drop (x.i+1)) (if x.m x.i=true then Nw x.m (Ed c it x.i) else x.m)=M:=by
 refine Eq.trans ?_ x.eq
 rw [List.drop_eq_getElem_cons (i:=x.i) (by rw [List.length_range];exact h),List.getElem_range]
 rfl
theorem Bg9 {N:Nat} {it:List Ah} {S:List Sub} {i:Nat} {M:Nat->Bool} (x:D89 N it S i M) (h:x.k < S.length):Nw (if Jp N it S[x.k]=true then B76 x.m S[x.k].from_.toNat else x.m) (D2 N it (S.drop (x.k+1)))=M:=by
 refine Eq.trans ?_ x.eq
 rw [List.drop_eq_getElem_cons (i:=x.k) h,Ae9]
 split<;>rfl
attribute [local irreducible] AW AWY Be As vop Az Aq Ax qop Bd Bv Aj Ag Ay A7 Aw
attribute [local go_sem] Wc A83 Aa9 Aa8 Xk Jc L4 enJ Bn3 Ae Af
set_option maxRecDepth 100000 in
set_option maxHeartbeats 3200000 in
theorem A65 (c:Clu) (n:Int) (it:List Ah) (hI:∀ x∈c.nodes,K5 x):A7 Tryz.prog A8 21 [clA c,.val (.int .i64 n),.iv (spI it)] (.iv (inI (R0 c n it))) []:=by
 have hf:=Ah7 c hI
 refine A7.ofS (n:=99) (rs:=[.tmp 6]) Tryz.func21 rfl (by kernel_rfl) Tryz.ntmps21 (by kernel_rfl) (by simp) (fun _ _=>A8.later) ?_
 intro hok V w0
 have hlen:c.nodes.length<=1073741824:=by simpa [ndI] using hok.1.1.1
 refine g ?_
 refine AW.seq ?_
 refine AW.reg rfl fun KK hKK=>?_
 refine g ?_
 repeat' (refine hKK _ (g ?_);clear hKK KK)
 refine AW.freeze 400 _ rfl ⟨trivial,trivial,trivial⟩ ?_
 simp only [go_sem,reduceIte,Nat.reduceEqDiff]
 cases hF:Cc c with
 | false =>
  rw [hF] at hf
  rw [R0,if_neg (by simp [hF])]
  refine g ?_
  repeat' (first | refine st_ rfl (g ?_) | refine Aa (hf) rfl (g ?_))
  exact Dd 1
 | true =>
 rw [hF] at hf
 by_cases hn:0<=n/\n < c.nodes.length
 rotate_left
 ·rw [R0,if_neg (by simp [hn])]
  refine g ?_
  repeat' (first | refine st_ rfl (g ?_) | refine Al (fun h=>g ?_) (fun h=>g ?_) | (refine B8 rfl rfl (fun h e=>?_) (fun h e=>?_)<;>simp only [e]<;>clear e<;>refine g ?_) | refine Aa (hf) rfl (g ?_))
  all_goals first
   | exact Dd 1
   | omega
 rw [R0,if_pos ⟨hF,hn⟩]
 obtain ⟨a,rfl⟩ : ∃ a:Nat,n=(a:Int):=⟨n.toNat,by omega⟩
 have ha:a < c.nodes.length:=by omega
 have h64:=Bp7 hF
 refine g ?_
 repeat' (first | refine st_ rfl (g ?_) | refine Al (fun h=>g ?_) (fun h=>g ?_) | refine Aa (hf) rfl (g ?_))
 ·exfalso
  omega
 refine ⟨by omega,by omega,?_⟩
 refine g ?_
 repeat' refine B9 (g ?_)
 refine ⟨_,rfl,⟨trivial,trivial⟩,by simp [rep];omega,?_⟩
 refine g ?_
 repeat' (first | refine st_ rfl (g ?_) | refine B9 (g ?_))
 refine AW.loop (fun x:C53 c it a=>⟨[(2,.iv (spI it)),(3,.ip [ndI c.nodes,pkI c.net]),(7,.bp 800 0),(8,.val (.int .i64 (x.t:Nat)))],[.arr 800 (mkI x.m)]⟩) (fun x=>c.nodes.length - x.t) ⟨0,fun i=>decide (i=a),Nat.zero_le _,rfl⟩ id ⟨⟨rfl,rfl,rfl,rfl,trivial⟩,⟨?_,trivial⟩,by simp [Bw,BA.id]⟩ fun x=>?_
 ·refine congrArg (fun C=>some (BA.arr 800 C)) ?_
  show List.set ((rep 64 (.bool false)).map IV.val) (0+a*1) (.val (.bool true))=mkI fun i=>decide (i=a)
  rw [Bm3,B30,Nat.mul_one,Nat.zero_add]
  exact congrArg mkI (funext fun i=>by by_cases e:i=a<;>simp [e])
 simp only
 repeat (refine AW.seq ?_)
 refine AW.reg rfl fun KK hKK=>?_
 refine g ?_
 repeat' (refine hKK _ (g ?_);clear hKK KK)
 repeat (refine AW.seq ?_)
 refine st_ rfl ?_
 refine g ?_
 refine Al (fun h=>?_) (fun h=>?_)
 ·have hlt:x.t < c.nodes.length:=by omega
  obtain ⟨M,hM⟩ : ∃ M,Kk (Ed c it) (List.range c.nodes.length) x.m=M:=⟨_,rfl⟩
  refine st_ rfl (g ?_)
  refine g ?_
  repeat' refine st_ rfl (g ?_)
  refine AW.loop (fun y:D92 c it M=>⟨[(2,.iv (spI it)),(3,.ip [ndI c.nodes,pkI c.net]),(7,.bp 800 0),(8,.val (.int .i64 (x.t:Nat))),(9,.val (.int .i64 (y.i:Nat)))],[.arr 800 (mkI y.m)]⟩) (fun y=>c.nodes.length - y.i) ⟨0,x.m,Nat.zero_le _,hM⟩ id ⟨⟨rfl,rfl,rfl,rfl,rfl,trivial⟩,⟨rfl,trivial⟩,by simp [Bw,BA.id]⟩ fun y=>?_
  simp only
  repeat (refine AW.seq ?_)
  refine AW.reg rfl fun KK hKK=>?_
  refine g ?_
  repeat' (refine hKK _ (g ?_);clear hKK KK)
  repeat (refine AW.seq ?_)
  refine st_ rfl ?_
  refine g ?_
  refine Al (fun h=>?_) (fun h=>?_)
  ·have hi:y.i < c.nodes.length:=by omega
   have hgn:=Dl (f:=Bc7) (List.getElem?_eq_getElem hi)
   have h16:=V7 (T6 hF (List.getElem_mem hi))
   have hge:=Yq hF (List.getElem?_eq_getElem hi)
   have hi64:=B28 (T6 hF (List.getElem_mem hi))
   have hnx:=Bi9 y hi
   have hsx:Ed c it y.i=D2 c.nodes.length it c.nodes[y.i].subs:=by
    unfold Ed
    rw [List.getElem?_eq_getElem hi]
    rfl
   rw [hsx] at hnx
   refine st_ rfl (g ?_)
   refine g ?_
   repeat' refine st_ rfl (g ?_)
   cases hon:y.m y.i with
   | false =>
    rw [hon,if_neg (by decide)] at hnx
    refine AW.once ?_
    refine g ?_
    repeat' (first | refine st_ rfl (g ?_) | (refine B8 rfl rfl (fun h e=>?_) (fun h e=>?_)<;>simp only [e]<;>clear e<;>refine g ?_) | refine ix_ (by omega) (g ?_))
    ·refine ⟨by omega,by omega,?_⟩
     rw [Nat.mul_one,Nat.zero_add]
     refine g ?_
     repeat' refine B9 (g ?_)
     refine ⟨_,Aw2 (i:=y.i) (by omega),?_⟩
     rw [hon]
     refine g ?_
     repeat' (first | refine st_ rfl (g ?_) | refine B9 (g ?_))
     exact ⟨⟨y.i+1,y.m,hi,hnx⟩,id,⟨⟨rfl,rfl,rfl,rfl,rfl,trivial⟩,⟨rfl,trivial⟩,by simp [Bw,BA.id]⟩,by show c.nodes.length - (y.i+1) < c.nodes.length - y.i;omega⟩
    ·exact ⟨⟨y.i+1,y.m,hi,hnx⟩,id,⟨⟨rfl,rfl,rfl,rfl,rfl,trivial⟩,⟨rfl,trivial⟩,by simp [Bw,BA.id]⟩,by show c.nodes.length - (y.i+1) < c.nodes.length - y.i;omega⟩
   | true =>
    rw [hon,if_pos rfl] at hnx
    refine AW.loop (fun z:D89 c.nodes.length it c.nodes[y.i].subs y.i (Nw y.m (D2 c.nodes.length it c.nodes[y.i].subs))=>⟨[(2,.iv (spI it)),(3,.ip [ndI c.nodes,pkI c.net]),(7,.bp 800 0),(8,.val (.int .i64 (x.t:Nat))),(9,.val (.int .i64 (y.i:Nat))),(10,.val (.int .i64 (z.k:Nat)))],[.arr 800 (mkI z.m)]⟩) (fun z=>c.nodes[y.i].subs.length - z.k) ⟨0,y.m,Nat.zero_le _,hon,rfl⟩ id ⟨⟨rfl,rfl,rfl,rfl,rfl,rfl,trivial⟩,⟨rfl,trivial⟩,by simp [Bw,BA.id]⟩ fun z=>?_
    simp only
    refine g ?_
    repeat' (first | refine st_ rfl (g ?_) | (refine B8 rfl rfl (fun h e=>?_) (fun h e=>?_)<;>simp only [e]<;>clear e<;>refine g ?_) | refine ix_ (by omega) (g ?_))
    ·have hk:z.k < c.nodes[y.i].subs.length:=by omega
     have hsn:=Bg9 z hk
     have hg0:=hge _ (List.getElem_mem hk)
     refine ⟨by omega,by omega,?_⟩
     rw [Nat.mul_one,Nat.zero_add]
     refine g ?_
     repeat' refine B9 (g ?_)
     refine ⟨_,Aw2 (i:=y.i) (by omega),?_⟩
     rw [z.on]
     refine g ?_
     repeat' (first | refine st_ rfl (g ?_) | refine B9 (g ?_) | refine De (fun h=>g ?_) (fun h=>g ?_) | (refine B8 rfl rfl (fun h e=>?_) (fun h e=>?_)<;>simp only [e]<;>clear e<;>refine g ?_) | refine ix_ (by omega) (g ?_) | refine Aa (Z8 _ _) rfl (g ?_))
     ·have hl:Jp c.nodes.length it c.nodes[y.i].subs[z.k]=true:=by
       unfold Jp
       rw [h,Bool.and_true]
       exact decide_eq_true (by omega)
      rw [if_pos hl] at hsn
      have hj:c.nodes[y.i].subs[z.k].from_.toNat < 64:=by omega
      refine ⟨by omega,by omega,?_⟩
      rw [Nat.mul_one,Nat.zero_add]
      refine g ?_
      repeat' refine B9 (g ?_)
      refine ⟨_,rfl,⟨trivial,trivial⟩,by rw [B31];omega,?_⟩
      refine g ?_
      repeat' (first | refine st_ rfl (g ?_) | refine B9 (g ?_))
      refine ⟨⟨z.k+1,B76 z.m c.nodes[y.i].subs[z.k].from_.toNat,hk,?_,hsn⟩,id,⟨⟨rfl,rfl,rfl,rfl,rfl,rfl,trivial⟩,⟨congrArg (fun C=>some (BA.arr 800 C)) B30,trivial⟩,by simp [Bw,BA.id]⟩,by show c.nodes[y.i].subs.length - (z.k+1) < c.nodes[y.i].subs.length - z.k;omega⟩
      unfold B76
      split
      ·rfl
      ·exact z.on
     ·have hl:¬ Jp c.nodes.length it c.nodes[y.i].subs[z.k]=true:=by
       unfold Jp
       rw [h,Bool.and_false]
       decide
      rw [if_neg hl] at hsn
      exact ⟨⟨z.k+1,z.m,hk,z.on,hsn⟩,id,⟨⟨rfl,rfl,rfl,rfl,rfl,rfl,trivial⟩,⟨rfl,trivial⟩,by simp [Bw,BA.id]⟩,by show c.nodes[y.i].subs.length - (z.k+1) < c.nodes[y.i].subs.length - z.k;omega⟩
     ·have hl:¬ Jp c.nodes.length it c.nodes[y.i].subs[z.k]=true:=by
       unfold Jp
       simp
       omega
      rw [if_neg hl] at hsn
      exact ⟨⟨z.k+1,z.m,hk,z.on,hsn⟩,id,⟨⟨rfl,rfl,rfl,rfl,rfl,rfl,trivial⟩,⟨rfl,trivial⟩,by simp [Bw,BA.id]⟩,by show c.nodes[y.i].subs.length - (z.k+1) < c.nodes[y.i].subs.length - z.k;omega⟩
    ·have hz:z.k=c.nodes[y.i].subs.length:=by have:=z.le;omega
     have he:=z.eq
     rw [hz,List.drop_length] at he
     rw [<-he] at hnx
     exact ⟨⟨y.i+1,z.m,hi,hnx⟩,id,⟨⟨rfl,rfl,rfl,rfl,rfl,trivial⟩,⟨rfl,trivial⟩,by simp [Bw,BA.id]⟩,by show c.nodes.length - (y.i+1) < c.nodes.length - y.i;omega⟩
  ·refine AW.exit ?_
   simp only [reduceIte]
   refine g ?_
   repeat' refine st_ rfl (g ?_)
   have hy:y.i=c.nodes.length:=by have:=y.le;omega
   have he:=y.eq
   rw [hy,List.drop_of_length_le (by rw [List.length_range];omega)] at he
   exact ⟨⟨x.t+1,y.m,hlt,B65 x hlt (he.trans hM.symm)⟩,id,⟨⟨rfl,rfl,rfl,rfl,trivial⟩,⟨rfl,trivial⟩,by simp [Bw,BA.id]⟩,by show c.nodes.length - (x.t+1) < c.nodes.length - x.t;omega⟩
 ·refine AW.exit ?_
  simp only [reduceIte]
  have hm:x.m=A86 c it a:=by
   have:=x.eq
   rw [show c.nodes.length - x.t=0 by omega] at this
   exact this
  rw [<-hm]
  refine g ?_
  repeat' refine st_ rfl (g ?_)
  refine AW.adopt 12 70000 3 1 rfl rfl ?_
  refine AW.loop (fun j:{j:Nat // j<=c.nodes.length}=>⟨[(3,.ip [ndI c.nodes,pkI c.net]),(7,.bp 800 0),(12,.own 70000),(13,.val (.int .i64 (j.1:Nat)))],[.row 70000 3 1 ((asI ((List.range j.1).filter x.m)).map enJ),.arr 800 (mkI x.m)]⟩) (fun j=>c.nodes.length - j.1) ⟨0,Nat.zero_le _⟩ id ⟨⟨rfl,rfl,rfl,rfl,trivial⟩,⟨rfl,rfl,trivial⟩,by simp [Bw,BA.id]⟩ fun ⟨j,hj⟩=>?_
  simp only
  repeat (refine AW.seq ?_)
  refine AW.reg rfl fun KK hKK=>?_
  refine g ?_
  repeat' (refine hKK _ (g ?_);clear hKK KK)
  repeat (refine AW.seq ?_)
  refine st_ rfl ?_
  refine g ?_
  refine Al (fun h=>?_) (fun h=>?_)
  ·have hj2:j < c.nodes.length:=by omega
   have hle:((List.range j).filter x.m).length<=j:=by have:=List.length_filter_le x.m (List.range j);simpa using this
   refine st_ rfl (g ?_)
   refine g ?_
   repeat' refine st_ rfl (g ?_)
   refine ⟨by omega,by omega,?_⟩
   rw [Nat.mul_one,Nat.zero_add]
   refine g ?_
   repeat' refine B9 (g ?_)
   refine ⟨_,Aw2 (i:=j) (by omega),?_⟩
   cases hon:x.m j with
   | false =>
    refine g ?_
    repeat' (first | refine st_ rfl (g ?_) | refine B9 (g ?_))
    exact ⟨⟨j+1,hj2⟩,id,⟨⟨rfl,rfl,rfl,rfl,trivial⟩,⟨by rw [List.range_succ,List.filter_append,List.filter_cons_of_neg (by rw [hon];decide),List.filter_nil,List.append_nil];rfl,rfl,trivial⟩,by simp [Bw,BA.id]⟩,by show c.nodes.length - (j+1) < c.nodes.length - j;omega⟩
   | true =>
    refine g ?_
    repeat' (first | refine st_ rfl (g ?_) | refine B9 (g ?_))
    refine bs1 (by omega) rfl rfl rfl ⟨I64.of (by omega) (by omega),trivial⟩ ?_
    refine g ?_
    refine Nf rfl (by kernel_rfl) (by omega) (by kernel_rfl) rfl (by rw [List.length_map,Tc];simp;omega) ?_
    refine g ?_
    repeat' refine st_ rfl (g ?_)
    refine ⟨⟨j+1,hj2⟩,fun b=>if b=70000 then 9800 else b,⟨⟨rfl,rfl,rfl,rfl,trivial⟩,⟨?_,rfl,trivial⟩,by simp [Bw,BA.id]⟩,by show c.nodes.length - (j+1) < c.nodes.length - j;omega⟩
    rw [List.range_succ,List.filter_append,List.filter_cons_of_pos (by rw [hon]),List.filter_nil]
    unfold asI
    rw [List.map_append,List.map_append]
    rfl
  ·refine AW.exit ?_
   simp only [reduceIte]
   obtain rfl:j=c.nodes.length:=by omega
   refine AW.freeze 70000 _ rfl trivial ?_
   simp only [go_sem,reduceIte,Nat.reduceEqDiff]
   refine g ?_
   repeat' refine st_ rfl (g ?_)
   exact Hm.rfl_ _
end Go.Proofs.YtahgkllhbggmgaaGreatDoor
namespace Go.Proofs.YtahgkllhbggmgaaGreatDoor
open Go.ChangeShapes Go.WideShapes Go.ChangeAt Go.RowKit
section
variable {P : Program} {G : World -> Prop} {σ : Ab} {V w0 : World} {n : Nd} {ro : Option Nat} {K : Exit -> Ab -> Prop}
end
theorem A7.nd {f:FuncId} {args:List AV} {r:AV} {nb:List BA} (h:A7 Tryz.prog A8 f args r nb):A7 Tryz.prog R5 f args r nb:=⟨h.1,fun V w E vs a b c=>h.2 V w E vs a b.1 c⟩
section
variable {L : Operand -> AV} {K K' : List (List IV) -> Prop} {x0 x1 x2 x3 : Operand} {a b c d : Int}
end
attribute [local irreducible] AW AWY Be As vop Az Aq Ax qop Bd Bv Aj Ag Ay A7 Aw
attribute [local go_sem] Bq7 Ae Af
end Go.Proofs.YtahgkllhbggmgaaGreatDoor
namespace Go.Proofs.YtahgkllhbggmgaaGreatDoor
open Go.ChangeShapes Go.WideShapes Go.ChangeAt Go.RowKit
attribute [local irreducible] AW AWY Be As vop Az Aq Ax qop Bd Bv Aj Ag Ay A7 Aw
attribute [local go_sem] Aa2 Xk Wc A83 Aa9 Aa8 Ae Af
set_option maxRecDepth 100000 in
theorem Bn0 (c:Clu) (n:Int) (it:List Ah) (hI:∀ x∈c.nodes,K5 x) (hal:A7 Tryz.prog R5 18 [] (.val (.bool true)) []):A7 Tryz.prog R5 6 [clA c,.val (.int .i64 n),.iv (spI it)] (.val (.bool true)) []:=by
 have h1:=(Al2 c n it hI).nd
 have h2:=(A65 c n it hI).nd
 have h3:=(Bb1 (R0 c n it)).nd
 refine A7.of (n:=19) (rs:=[.tmp 6]) Tryz.func6 rfl (by kernel_rfl) Tryz.ntmps6 (by kernel_rfl) (by simp) (fun _ _=>R5.later) ?_
 intro hok V w0
 refine g ?_
 refine AW.seq ?_
 refine AW.reg rfl fun KK hKK=>?_
 refine g ?_
 repeat' (refine hKK _ (g ?_);clear hKK KK)
 refine AW.freeze 400 _ rfl ⟨trivial,trivial,trivial⟩ ?_
 simp only [go_sem,reduceIte,Nat.reduceEqDiff]
 repeat (refine AW.seq ?_)
 refine AW.drawn (ds:=[7,8,9,10,11,12,13,14,15,16,17,18,6]) (fin:=[]) (bs:=[0,0,0,0,0,0,0,0,0,0,0,0,0]) [⟨[],[],[],[],0⟩,⟨[(7,0)],[],[],[],0⟩,⟨[],[],[],[],0⟩,⟨[],[],[],[],0⟩,⟨[],[],[],[],0⟩,⟨[(9,2),(10,3),(11,4)],[],[],[],0⟩,⟨[],[],[],[],0⟩,⟨[],[],[],[],0⟩,⟨[],[],[],[],0⟩,⟨[(13,6),(14,7),(15,8)],[],[],[],0⟩,⟨[(12,5),(16,9)],[],[],[],0⟩,⟨[(8,1),(17,10)],[],[],[],0⟩,⟨[(18,11)],[],[],[],0⟩] (by kernel_rfl) rfl (by kernel_rfl) rfl rfl rfl fun KD hKD=>?_
 refine g ?_
 repeat' (first | refine st_ rfl (g ?_) | exact trivial | (refine hKD _ _ ⟨rfl,g ?_⟩;clear hKD KD) | refine Aa (hal) rfl (g ?_) | refine Aa (h1) rfl (g ?_) | refine Aa (h2) rfl (g ?_) | refine Aa (h3) rfl (g ?_))
end Go.Proofs.YtahgkllhbggmgaaGreatDoor
