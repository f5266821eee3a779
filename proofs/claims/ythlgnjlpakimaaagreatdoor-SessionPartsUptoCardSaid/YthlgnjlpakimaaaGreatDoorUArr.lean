/- cmp.Compare at int. -/
import Derived.Test.YthlgnjlpakimaaaGreatDoorURep
import Derived.Deep.WholeRow
set_option linter.all false
set_option linter.unnecessarySimpa false
set_option linter.unusedSimpArgs false
set_option linter.unusedVariables false
namespace Go.Proofs.YthlgnjlpakimaaaGreatDoor
open Go.ChangeShapes Go.WideShapes Go.ChangeAt Go.RowKit
structure BW (w:World) where
 val:World
 below:Below w.heap.size w val
instance (w:World):Nonempty (BW w):=⟨⟨w,Below.refl _ w⟩⟩
theorem BW.cell {w:World} (z:BW w) {a:Addr} {v:Value} (h:w.cell? a=some v):z.val.cell? a=some v:=Am z.below h
theorem BW.size {w:World} (z:BW w):w.heap.size<=z.val.heap.size:=z.below.size
theorem Cb {P:Program} {id:Nat} {Q:Exit->Act->World->Prop} {a:Act} {w:World} {l:List Oper} (hm:P.follows .mixedOrders=true) (hB:Region.lexB .any l.toArray=true)
  (h:wpQuiet P l.toArray (fun w'=>∃ z:BW w,w'=z.val) (fun a'=>∀ w1,Below w.heap.size w w1->Q .normal a' w1) l a):(Code.region id l.toArray true).wp P Q a w:=by
 refine wp_region_quiet (C:=fun w'=>∃ z:BW w,w'=z.val) hm hB ⟨⟨_,(Below.refl _ w).drew⟩,rfl⟩ ?_
 have e:(fun a'=>∀ w',(∃ z:BW w,w'=z.val)->Q .normal a' w')=fun a'=>∀ w1,Below w.heap.size w w1->Q .normal a' w1:=by
  funext a'
  exact propext ⟨fun h w1 hb=>h _ ⟨⟨w1,hb⟩,rfl⟩,fun h _ ⟨z,e⟩=>e ▸ h z.val z.below⟩
 rw [e]
 simpa using h
theorem Gb {P:Program} {id:Nat} {Q:Exit->Act->World->Prop} {a:Act} {W:World} {z0:BW W} {l:List Oper} (hm:P.follows .mixedOrders=true) (hB:Region.lexB .any l.toArray=true)
  (h:wpQuiet P l.toArray (fun w'=>∃ z:BW W,w'=z.val) (fun a'=>∀ z:BW W,Q .normal a' z.val) l a):(Code.region id l.toArray true).wp P Q a z0.val:=by
 refine wp_region_quiet (C:=fun w'=>∃ z:BW W,w'=z.val) hm hB ⟨⟨_,z0.below.drew⟩,rfl⟩ ?_
 have e:(fun a'=>∀ w',(∃ z:BW W,w'=z.val)->Q .normal a' w')=fun a'=>∀ z:BW W,Q .normal a' z.val:=by
  funext a'
  exact propext ⟨fun h z=>h _ ⟨z,rfl⟩,fun h _ ⟨z,e⟩=>e ▸ h z⟩
 rw [e]
 simpa using h
theorem Fo {P:Program} {f:FuncId} {args:Array Value} {w:World} {z:BW w} {v:Value} (h:Calls P f args z.val fun e w'=>e=.returned v/\Below z.val.heap.size z.val w') :
  Calls P f args z.val fun e w''=>e=.returned v/\∃ z':BW w,w''=z'.val :=
 h.mono fun _ w' ⟨he,hb⟩=>⟨he,⟨w',z.below.trans (hb.mono z.below.size)⟩,rfl⟩
theorem Kc {P:Program} {f:FuncId} {args:Array Value} {w:World} {z:BW w} {v:Value} (h:Calls P f args z.val fun e w'=>e=.returned v/\z.val=w') :
  Calls P f args z.val fun e w''=>e=.returned v/\∃ z':BW w,w''=z'.val :=
 h.mono fun _ _ ⟨he,hb⟩=>⟨he,z,hb.symm⟩
theorem BW.start {P:Program} {f:FuncId} {args:Array Value} {w:World} {Q:Ending->World->Prop} (h:∀ z:BW w,Calls P f args z.val Q):Calls P f args w Q:=h ⟨w,Below.refl _ w⟩
def BW.self (w:World):BW w:=⟨w,Below.refl _ w⟩
def BW.up {w W:World} (z:BW W) (hb:Below w.heap.size w W):BW w:=⟨z.val,As hb z.below⟩
def BW.alloc {w:World} (z:BW w) (o:Obj):BW w:=⟨z.val.alloc o,Af z.below⟩
def BW.to {w w1:World} (z:BW w) (hb:Below z.val.heap.size z.val w1):BW w:=⟨w1,As z.below hb⟩
theorem BW.call {P:Program} {f:FuncId} {args:Array Value} {w:World} {z:BW w} {v:Value} {Q:Ending->World->Prop} (h:Calls P f args z.val fun e w'=>e=.returned v/\Below z.val.heap.size z.val w')
  (k:∀ z':BW w,Q (.returned v) z'.val):Calls P f args z.val Q :=
 h.mono fun _ w' ⟨he,hb⟩=>he ▸ k ⟨w',z.below.trans (hb.mono z.below.size)⟩
theorem BW.callR {P:Program} {f:FuncId} {args:Array Value} {w:World} {z:BW w} {v v':Value} {Q:Ending->World->Prop} (h:Calls P f args z.val fun e w'=>e=.returned v/\Below z.val.heap.size z.val w')
  (hv:v=v') (k:∀ z':BW w,Q (.returned v') z'.val):Calls P f args z.val Q:=BW.call (hv ▸ h) k
theorem BW.same {P:Program} {f:FuncId} {args:Array Value} {w:World} {v:Value} {Q:Ending->World->Prop} (h:Calls P f args w fun e w'=>e=.returned v/\w=w')
  (k:Q (.returned v) w):Calls P f args w Q :=
 h.mono fun _ _ ⟨he,hb⟩=>he ▸ hb ▸ k
theorem BW.sameR {P:Program} {f:FuncId} {args:Array Value} {w:World} {v v':Value} {Q:Ending->World->Prop} (h:Calls P f args w fun e w'=>e=.returned v/\w=w')
  (hv:v=v') (k:Q (.returned v') w):Calls P f args w Q:=BW.same (hv ▸ h) k
def G6 (n:Nat) (f:Nat->Value):Array Value:=Array.ofFn (n:=n) fun i=>f i
theorem Ny (n:Nat) (f:Nat->Value):(G6 n f).size=n:=by simp [G6]
theorem Cv {n:Nat} {f:Nat->Value} {i:Nat} (h:i < n):(G6 n f)[i]? = some (f i):=by simp [G6,h]
theorem N0 {n:Nat} {f:Nat->Value} {i:Nat} (v:Value):(G6 n f).setIfInBounds i v=G6 n fun k=>if k=i then v else f k:=by
 apply Array.ext
 ·simp [G6]
 ·intro k h1 h2
  simp only [G6,Array.size_setIfInBounds,Array.size_ofFn] at h1
  rw [Array.getElem_setIfInBounds (by simpa [G6] using h1)]
  simp only [G6,Array.getElem_ofFn,eq_comm (a:=i)]
theorem Ug {n:Nat} {f:Nat->Value} (h:∀ i,(f i).oneCell'=true):(G6 n f).all (·.oneCell')=true:=by
 rw [Array.all_eq_true]
 intro i hi
 simp only [G6,Array.getElem_ofFn]
 exact h _
theorem F6 {n:Nat} {f g:Nat->Value} (h:∀ i,i < n->f i=g i):G6 n f=G6 n g:=by
 unfold G6
 congr 1
 funext i
 exact h i i.2
theorem Blk.setRow {w:World} {g:Nat} {t:TypeId} {cs cs':Array Value} (h:Blk w g t cs):Blk (w.setRow g cs') g t cs':=by
 unfold Blk at h ⊢
 simp [World.setRow,Array.getElem?_modify,h]
theorem Blk.farRow {w:World} {g g':Nat} {t:TypeId} {cs cs':Array Value} (h:Blk w g t cs) (hne:g≠g'):Blk (w.setRow g' cs') g t cs:=by
 unfold Blk at h ⊢
 simp [World.setRow,Array.getElem?_modify,h,Ne.symm hne]
theorem L5 {w w1:World} {g:Nat} {cs:Array Value} (h:Below w.heap.size w w1) (hg:w.heap.size<=g):Below w.heap.size w (w1.setRow g cs):=by
 refine ⟨h.os,h.tape,h.output,?_,fun i hi=>?_⟩
 ·have:=h.size;simpa [World.setRow] using this
 ·rw [<-h.block i hi]
  simp [World.setRow,Array.getElem?_modify,show ¬ g=i by omega]
theorem Rh {P:Program} {t e:TypeId} {n:Nat} {cs:Array Value} {k:IntKind} {i:Nat} {v:Value} {d:TypeDesc} (hu:P.underlying t=some (.array n e)) (he:P.underlying e=some d)
  (hd:(match d with | .struct _ | .array _ _=>true | _=>false)=false) (hs:(P.info? e).map (·.size)=some 1) (hi:i < n) (hc:cs[i]? = some v) (w:World):(Instr.index t (.agg cs) (.int k i)).run P w=.ok v w:=by
 cases hq:P.info? e with
 | none=>simp [hq] at hs
 | some inf =>
  have h1:inf.size=1:=by simpa [hq] using hs
  have hagg:(isAgg e).run P w=.ok false w:=by
   unfold isAgg
   rw [Sem.run_bind,run_underlying he w]
   cases d<;>simp_all
  simp [Instr.index,asIntOf,run_underlying hu,hi,sizeOf,typeInfo,hq,h1,part,hagg,hc]
def Wj (a b:Int):Int:=if a < b then -1 else if b < a then 1 else 0
theorem Yx (a b:Int) (w:World):Calls Tryz.prog 181 #[.int .i64 a,.int .i64 b] w fun e w'=>e=.returned (.int .i64 (Wj a b))/\w=w':=by
 go_enter Tryz.func181,Tryz.ntmps181
 go_wp2
 all_goals (go_ret;exact ⟨by unfold Wj;simp [*]<;>omega,rfl⟩)
theorem A98 {a b:Int} : Wj a b < 0↔a < b:=by unfold Wj;split<;>(try split)<;>omega
theorem Ax1 {a b:Int} : Wj a b=0↔a=b:=by unfold Wj;split<;>(try split)<;>omega
end Go.Proofs.YthlgnjlpakimaaaGreatDoor
