/- cmp.Compare at int. -/
import Derived.Test.YtahgkllhbggmgaaGreatDoorLRep
import Derived.Deep.WholeRow
set_option linter.all false
set_option linter.unnecessarySimpa false
set_option linter.unusedSimpArgs false
set_option linter.unusedVariables false
namespace Go.Proofs.YtahgkllhbggmgaaGreatDoor
open Go.ChangeShapes Go.WideShapes Go.ChangeAt Go.RowKit
structure Ad where
 count:Int
 node:Int
 deriving DecidableEq
def Fs (cs:List Value) (s:Ad):Prop:=cs=[.int .i64 s.count,.int .i64 s.node]/\I64 s.count/\I64 s.node
theorem P8 {w:World} : Dt Tryz.prog w 38 2 Fs:=by
 intro H enc fuel cs x h
 obtain ⟨hl,n,hf⟩:=Bq Tryz.underlying38 h
 have hk:Tryz.prog.cellsOf 38=2:=by kernel_rfl
 have hi:Tryz.prog.cellsOf 3=1:=by kernel_rfl
 rw [hk] at hl
 refine ⟨hl,?_⟩
 match cs,hl with
 | [v0,v1],_ =>
  obtain ⟨y0,h0⟩:=hf 0 3 0 1 rfl hi
  obtain ⟨y1,h1⟩:=hf 1 3 1 1 rfl hi
  obtain ⟨_,a,e0,ia⟩:=Br (w:=w) Tryz.underlying3 H enc n _ _ h0
  obtain ⟨_,b,e1,ib⟩:=Br (w:=w) Tryz.underlying3 H enc n _ _ h1
  simp at e0 e1
  subst e0 e1
  exact ⟨⟨a,b⟩,rfl,ia,ib⟩
abbrev Bx:=Sl Fs 2
theorem G7 {w:World} : Dt Tryz.prog w 51 1 (fun cs l=>∃ v,cs=[v]/\Bx w w.heap.size v l) :=
 Cz Tryz.underlying51 (by kernel_rfl) (by omega) P8
structure BW (w:World) where
 val:World
 below:Below w.heap.size w val
instance (w:World):Nonempty (BW w):=⟨⟨w,Below.refl _ w⟩⟩
theorem BW.cell {w:World} (z:BW w) {a:Addr} {v:Value} (h:w.cell? a=some v):z.val.cell? a=some v:=Ao z.below h
theorem Cj {P:Program} {id:Nat} {Q:Exit->Act->World->Prop} {a:Act} {w:World} {l:List Oper} (hm:P.follows .mixedOrders=true) (hB:Region.lexB .any l.toArray=true)
  (h:wpQuiet P l.toArray (fun w'=>∃ z:BW w,w'=z.val) (fun a'=>∀ w1,Below w.heap.size w w1->Q .normal a' w1) l a):(Code.region id l.toArray true).wp P Q a w:=by
 refine wp_region_quiet (C:=fun w'=>∃ z:BW w,w'=z.val) hm hB ⟨⟨_,(Below.refl _ w).drew⟩,rfl⟩ ?_
 have e:(fun a'=>∀ w',(∃ z:BW w,w'=z.val)->Q .normal a' w')=fun a'=>∀ w1,Below w.heap.size w w1->Q .normal a' w1:=by
  funext a'
  exact propext ⟨fun h w1 hb=>h _ ⟨⟨w1,hb⟩,rfl⟩,fun h _ ⟨z,e⟩=>e ▸ h z.val z.below⟩
 rw [e]
 simpa using h
theorem En {P:Program} {f:FuncId} {args:Array Value} {w:World} {z:BW w} {v:Value} (h:Calls P f args z.val fun e w'=>e=.returned v/\Below z.val.heap.size z.val w') :
  Calls P f args z.val fun e w''=>e=.returned v/\∃ z':BW w,w''=z'.val :=
 h.mono fun _ w' ⟨he,hb⟩=>⟨he,⟨w',z.below.trans (hb.mono z.below.size)⟩,rfl⟩
theorem E4 {P:Program} {f:FuncId} {args:Array Value} {w:World} {z:BW w} {v:Value} (h:Calls P f args z.val fun e w'=>e=.returned v/\z.val=w') :
  Calls P f args z.val fun e w''=>e=.returned v/\∃ z':BW w,w''=z'.val :=
 h.mono fun _ _ ⟨he,hb⟩=>⟨he,z,hb.symm⟩
theorem BW.start {P:Program} {f:FuncId} {args:Array Value} {w:World} {Q:Ending->World->Prop} (h:∀ z:BW w,Calls P f args z.val Q):Calls P f args w Q:=h ⟨w,Below.refl _ w⟩
def BW.self (w:World):BW w:=⟨w,Below.refl _ w⟩
def BW.up {w W:World} (z:BW W) (hb:Below w.heap.size w W):BW w:=⟨z.val,B6 hb z.below⟩
def BW.alloc {w:World} (z:BW w) (o:Obj):BW w:=⟨z.val.alloc o,Ap z.below⟩
def BW.to {w w1:World} (z:BW w) (hb:Below z.val.heap.size z.val w1):BW w:=⟨w1,B6 z.below hb⟩
theorem BW.call {P:Program} {f:FuncId} {args:Array Value} {w:World} {z:BW w} {v:Value} {Q:Ending->World->Prop} (h:Calls P f args z.val fun e w'=>e=.returned v/\Below z.val.heap.size z.val w')
  (k:∀ z':BW w,Q (.returned v) z'.val):Calls P f args z.val Q :=
 h.mono fun _ w' ⟨he,hb⟩=>he ▸ k ⟨w',z.below.trans (hb.mono z.below.size)⟩
theorem BW.callR {P:Program} {f:FuncId} {args:Array Value} {w:World} {z:BW w} {v v':Value} {Q:Ending->World->Prop} (h:Calls P f args z.val fun e w'=>e=.returned v/\Below z.val.heap.size z.val w')
  (hv:v=v') (k:∀ z':BW w,Q (.returned v') z'.val):Calls P f args z.val Q:=BW.call (hv ▸ h) k
theorem BW.same {P:Program} {f:FuncId} {args:Array Value} {w:World} {v:Value} {Q:Ending->World->Prop} (h:Calls P f args w fun e w'=>e=.returned v/\w=w')
  (k:Q (.returned v) w):Calls P f args w Q :=
 h.mono fun _ _ ⟨he,hb⟩=>he ▸ hb ▸ k
theorem BW.sameR {P:Program} {f:FuncId} {args:Array Value} {w:World} {v v':Value} {Q:Ending->World->Prop} (h:Calls P f args w fun e w'=>e=.returned v/\w=w')
  (hv:v=v') (k:Q (.returned v') w):Calls P f args w Q:=BW.same (hv ▸ h) k
def Ea:Int->List Ad->Bool
 | _,[]=>true
 | e,s :: l=>(Bj s.count s.node&&decide (e < s.node))&&Ea s.node l
def B7 (l:List Ad):Bool:=Ea (-1) l
theorem Ek {α:Type} {l:List α} {m:Nat} {x:α} (h:l[m]? = some x):l.drop m=x :: l.drop (m+1):=by
 obtain ⟨hm,rfl⟩:=List.getElem?_eq_some_iff.1 h
 exact List.drop_eq_getElem_cons hm
theorem Eh {α:Type} {l:List α} {m:Nat} {x:α} (h:l[m]? = some x):l.take (m+1)=l.take m++[x]:=by
 rw [List.take_add_one,h];rfl
theorem H6 {b:Bool} (c n:Int) (w:World) (h:Bj c n=b) :
  Calls Tryz.prog 93 #[.agg #[.int .i64 c,.int .i64 n]] w fun e w'=>e=.returned (.bool b)/\Below w.heap.size w w':=h ▸ Wy c n w
theorem Ks {b:Bool} (c n:Int) (w:World) (h:Bj c n=b) :
  Calls Tryz.prog 94 #[.agg #[.int .i64 c,.int .i64 n]] w fun e w'=>e=.returned (.bool b)/\Below w.heap.size w w':=h ▸ Ah5 c n w
theorem Ev {w:World} {B:Nat} {v:Value} {l:List Ad} (h:Bx w B v l) {m:Nat} {x:Ad} (hx:l[m]? = some x) :
  ∃ b off c,v=.slice (some ⟨b,off,none⟩) l.length c/\b < B/\w.cell? ⟨b,off+m*2,none⟩=some (.int .i64 x.count)/\w.cell? ⟨b,off+m*2+1,none⟩=some (.int .i64 x.node)/\I64 x.count/\I64 x.node:=by
 obtain ⟨A,c,rfl,_,_,h3⟩:=h
 obtain ⟨b,off,rfl,hb,h4⟩:=h3 (by rintro rfl;simp at hx)
 obtain ⟨cs,⟨rfl,i1,i2⟩,_,h5⟩:=h4 m x hx
 exact ⟨b,off,c,rfl,hb,h5 0 _ rfl,h5 1 _ rfl,i1,i2⟩
theorem Mr (l:List Ad) (v:Value) (w:World) (h:Bx w w.heap.size v l) :
  Calls Tryz.prog 130 #[v] w fun e w'=>e=.returned (.bool (B7 l))/\Below w.heap.size w w':=by
 have hle:=h.len_le
 obtain ⟨A,c,rfl,_⟩:=id h
 go_enter Tryz.func130,Tryz.ntmps130
 go_wp2_with fail
 go_loopw [3,8] (fun a k wr=>∃ (m:Nat) (e:Int),m<=l.length/\k=.int .i64 m/\a=.int .i64 e/\B7 l=Ea e (l.drop m)/\Below w.heap.size w wr) (fun _ k _=>l.length - (intOf k).toNat)
 case atStart=>exact ⟨0,-1,Nat.zero_le _,rfl,rfl,rfl,Below.refl _ _⟩
 case round =>
  obtain ⟨m,e,hm,rfl,rfl,hv,hb⟩:=hrel
  by_cases hlt:m < l.length
  ·obtain ⟨x,hx⟩ : ∃ x,l[m]? = some x:=⟨l[m],List.getElem?_eq_getElem hlt⟩
   obtain ⟨b,off,c',hv',hbb,e0,e1,_,_⟩:=Ev h hx
   injection hv' with hv1 hv2 hv3
   subst hv1
   have f0:=(hb.cell (p:=⟨b,off+m*2,none⟩) hbb).trans e0
   have f1:=(hb.cell (p:=⟨b,off+m*2+1,none⟩) hbb).trans e1
   rw [Ek hx,Ea] at hv
   obtain ⟨xc,xn⟩:=x
   simp only at f0 f1 hv
   generalize hr:Bj xc xn=r at hv
   have HV:=Lib.hid hv
   clear hv hv2 hv3 e0 e1 hx
   go_wp2_with fail
   refine (H6 xc xn _ hr).mono ?_
   rintro e' w1 ⟨rfl,hb1⟩
   have B1:=(Blk.new wr 38 #[.int .i64 xc,.int .i64 xn]).next hb1
   have k1:=B6 (Ap hb) hb1
   have b0:=B1.cell 0
   have b1:=B1.cell 1
   simp only [List.getElem?_toArray,List.getElem?_cons_zero,List.getElem?_cons_succ] at b0 b1
   clear hb1 hr
   cases r<;>go_wp2_with fail
   ·go_ret
    exact ⟨Ak (by rw [HV.out];rfl),k1⟩
   ·go_ret
    refine ⟨Ak ?_,k1⟩
    rw [HV.out,decide_eq_false (by omega)];rfl
   ·refine ⟨⟨m+1,xn,by omega,by go_num,rfl,?_,k1⟩,by simp [intOf];omega⟩
    rw [HV.out,decide_eq_true (by omega)];rfl
  ·obtain rfl:m=l.length:=by omega
   rw [List.drop_length] at hv
   have HV:=Lib.hid hv
   clear hv
   go_wp2_with fail
   go_ret
   exact ⟨Ak HV.out.symm,hb⟩
theorem Ju (l:List Ad) (v:Value) (w:World) (h:Bx w w.heap.size v l) :
  Calls Tryz.prog 155 #[v] w fun e w'=>e=.returned (.bool (B7 l))/\Below w.heap.size w w':=by
 have hle:=h.len_le
 obtain ⟨A,c,rfl,_⟩:=id h
 go_enter Tryz.func155,Tryz.ntmps155
 go_wp2_with fail
 go_loopw [3] (fun k wr=>∃ (m:Nat) (e:Int),m<=l.length/\k=.int .i64 m/\(m=0->e=-1)/\(∀ i x,m=i+1->l[i]? = some x->e=x.node)/\B7 l=Ea e (l.drop m)/\Below w.heap.size w wr) (fun k _=>l.length - (intOf k).toNat)
 case atStart=>exact ⟨0,-1,Nat.zero_le _,rfl,fun _=>rfl,fun i x hi=>by omega,rfl,Below.refl _ _⟩
 case round =>
  obtain ⟨m,e,hm,rfl,he0,he1,hv,hb⟩:=hrel
  by_cases hlt:m < l.length
  ·obtain ⟨x,hx⟩ : ∃ x,l[m]? = some x:=⟨l[m],List.getElem?_eq_getElem hlt⟩
   obtain ⟨b,off,c',hv',hbb,e0,e1,_,_⟩:=Ev h hx
   injection hv' with hv1 hv2 hv3
   subst hv1
   have f0:=(hb.cell (p:=⟨b,off+m*2,none⟩) hbb).trans e0
   have f1:=(hb.cell (p:=⟨b,off+m*2+1,none⟩) hbb).trans e1
   rw [Ek hx,Ea] at hv
   obtain ⟨xc,xn⟩:=x
   simp only at f0 f1 hv
   generalize hr:Bj xc xn=r at hv
   have HV:=Lib.hid hv
   clear hv hv2 hv3 e0 e1
   cases m with
   | zero =>
    simp only [Nat.zero_mul,Nat.add_zero] at f0 f1
    cases r
    all_goals
     go_wp2_with fail
     have q0:∀ z:BW wr,z.val.cell? ⟨b,off,none⟩=some (.int .i64 xc):=fun z=>z.cell f0
     have q1:∀ z:BW wr,z.val.cell? ⟨b,off+1,none⟩=some (.int .i64 xn):=fun z=>z.cell f1
     clear f0 f1
     refine Cj (by kernel_rfl) (by kernel_rfl) ?_
     repeat (go_big_quiet_step (first | (go_at_call 94;exact En (Ks _ _ _ hr))))
    all_goals
     refine wpQuiet_nil ?_
     intro w1 hb1
     have k1:=B6 hb hb1
     go_wp2_with fail
    ·go_ret
     exact ⟨Ak (by rw [HV.out];rfl),k1⟩
    ·refine ⟨⟨1,xn,by omega,by go_num,fun h=>by omega,fun i x hi hxi=>?_,?_,k1⟩,by simp [intOf];omega⟩
     ·obtain rfl:i=0:=by omega
      rw [hx] at hxi
      injection hxi with hxi
      subst hxi
      rfl
     ·simp only [Bj,decide_eq_true_eq] at hr
      rw [HV.out,decide_eq_true (by have:=he0 trivial;omega)];rfl
   | succ i =>
    obtain ⟨y,hy⟩ : ∃ y,l[i]? = some y:=⟨l[i],List.getElem?_eq_getElem (by omega)⟩
    obtain rfl:=he1 i y rfl hy
    obtain ⟨b',off',c'',hv',_,_,e1,_,_⟩:=Ev h hy
    injection hv' with hv1 hv2 hv3
    injection hv1 with hv1
    injection hv1 with hv4 hv5
    subst hv4 hv5
    have g1:=(hb.cell (p:=⟨b,off+i*2+1,none⟩) hbb).trans e1
    have Hx:=Lib.hid hx
    clear he1 he0 hy hv2 hv3 hx
    have i1:(0:Int) < (i:Int)+1:=by omega
    have i2:(i:Int)+1 < (l.length:Int):=by omega
    have i3:(i:Int) < (l.length:Int):=by omega
    have q0:∀ z:BW wr,z.val.cell? ⟨b,off+(i+1)*2,none⟩=some (.int .i64 xc):=fun z=>z.cell f0
    have q1:∀ z:BW wr,z.val.cell? ⟨b,off+(i+1)*2+1,none⟩=some (.int .i64 xn):=fun z=>z.cell f1
    have q2:∀ z:BW wr,z.val.cell? ⟨b,off+i*2+1,none⟩=some (.int .i64 y.node):=fun z=>z.cell g1
    clear f0 f1 g1 e1
    have s1:IntKind.i64.wrap ((i:Int)+1)=(i:Int)+1:=IntWalk.i64_in _ (by omega)
    have s2:IntKind.i64.wrap (i:Int)=(i:Int):=IntWalk.i64_in _ (by omega)
    cases r
    all_goals
     go_wp2_with fail
     refine Cj (by kernel_rfl) (by kernel_rfl) ?_
     repeat (go_big_quiet_step (first | (go_at_call 94;exact En (Ks _ _ _ hr))))
     refine wpQuiet_nil ?_
     intro w1 hb1
     have k1:=B6 hb hb1
     clear s1 s2
     go_wp2_with fail
    ·go_ret
     exact ⟨Ak (by rw [HV.out];rfl),k1⟩
    ·go_ret
     refine ⟨Ak ?_,k1⟩
     rw [HV.out,decide_eq_false (by omega)];rfl
    ·refine ⟨⟨i+1+1,xn,by omega,by go_num,fun h=>by omega,fun i' x hi hxi=>?_,?_,k1⟩,by simp [intOf];omega⟩
     ·obtain rfl:i'=i+1:=by omega
      rw [Hx.out] at hxi
      injection hxi with hxi
      subst hxi
      rfl
     ·rw [HV.out,decide_eq_true (by omega)];rfl
  ·obtain rfl:m=l.length:=by omega
   rw [List.drop_length] at hv
   have HV:=Lib.hid hv
   clear hv he0 he1
   go_wp2_with fail
   go_ret
   exact ⟨Ak HV.out.symm,hb⟩
def G2 (n:Nat) (f:Nat->Value):Array Value:=Array.ofFn (n:=n) fun i=>f i
theorem Mw (n:Nat) (f:Nat->Value):(G2 n f).size=n:=by simp [G2]
theorem Dv {n:Nat} {f:Nat->Value} {i:Nat} (h:i < n):(G2 n f)[i]? = some (f i):=by simp [G2,h]
theorem M9 {n:Nat} {f:Nat->Value} {i:Nat} (v:Value):(G2 n f).setIfInBounds i v=G2 n fun k=>if k=i then v else f k:=by
 apply Array.ext
 ·simp [G2]
 ·intro k h1 h2
  simp only [G2,Array.size_setIfInBounds,Array.size_ofFn] at h1
  rw [Array.getElem_setIfInBounds (by simpa [G2] using h1)]
  simp only [G2,Array.getElem_ofFn,eq_comm (a:=i)]
theorem Ts {n:Nat} {f:Nat->Value} (h:∀ i,(f i).oneCell'=true):(G2 n f).all (·.oneCell')=true:=by
 rw [Array.all_eq_true]
 intro i hi
 simp only [G2,Array.getElem_ofFn]
 exact h _
theorem F9 {n:Nat} {f g:Nat->Value} (h:∀ i,i < n->f i=g i):G2 n f=G2 n g:=by
 unfold G2
 congr 1
 funext i
 exact h i i.2
theorem Blk.setRow {w:World} {g:Nat} {t:TypeId} {cs cs':Array Value} (h:Blk w g t cs):Blk (w.setRow g cs') g t cs':=by
 unfold Blk at h ⊢
 simp [World.setRow,Array.getElem?_modify,h]
theorem Blk.farRow {w:World} {g g':Nat} {t:TypeId} {cs cs':Array Value} (h:Blk w g t cs) (hne:g≠g'):Blk (w.setRow g' cs') g t cs:=by
 unfold Blk at h ⊢
 simp [World.setRow,Array.getElem?_modify,h,Ne.symm hne]
theorem Ln {w w1:World} {g:Nat} {cs:Array Value} (h:Below w.heap.size w w1) (hg:w.heap.size<=g):Below w.heap.size w (w1.setRow g cs):=by
 refine ⟨h.os,h.tape,h.output,?_,fun i hi=>?_⟩
 ·have:=h.size;simpa [World.setRow] using this
 ·rw [<-h.block i hi]
  simp [World.setRow,Array.getElem?_modify,show ¬ g=i by omega]
theorem Qv {P:Program} {t e:TypeId} {n:Nat} {cs:Array Value} {k:IntKind} {i:Nat} {v:Value} {d:TypeDesc} (hu:P.underlying t=some (.array n e)) (he:P.underlying e=some d)
  (hd:(match d with | .struct _ | .array _ _=>true | _=>false)=false) (hs:(P.info? e).map (·.size)=some 1) (hi:i < n) (hc:cs[i]? = some v) (w:World):(Instr.index t (.agg cs) (.int k i)).run P w=.ok v w:=by
 cases hq:P.info? e with
 | none=>simp [hq] at hs
 | some inf =>
  have h1:inf.size=1:=by simpa [hq] using hs
  have hagg:(isAgg e).run P w=.ok false w:=by
   unfold isAgg
   rw [Sem.run_bind,run_underlying he w]
   cases d<;>simp_all
  simp [Instr.index,asIntOf,run_underlying hu,hi,sizeOf,typeInfo,hq,h1,part,hagg,hc]
def Vu (a b:Int):Int:=if a < b then -1 else if b < a then 1 else 0
theorem Yp (a b:Int) (w:World):Calls Tryz.prog 292 #[.int .i64 a,.int .i64 b] w fun e w'=>e=.returned (.int .i64 (Vu a b))/\w=w':=by
 go_enter Tryz.func292,Tryz.ntmps292
 go_wp2
 all_goals (go_ret;exact ⟨by unfold Vu;simp [*]<;>omega,rfl⟩)
theorem Aa5 {a b:Int} : Vu a b < 0↔a < b:=by unfold Vu;split<;>(try split)<;>omega
theorem B45 {a b:Int} : Vu a b=0↔a=b:=by unfold Vu;split<;>(try split)<;>omega
end Go.Proofs.YtahgkllhbggmgaaGreatDoor
