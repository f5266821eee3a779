/- The formula of an operation is enough: slices, indices, calls; and all kinds together. No program is known here. -/
import Derived.Test.YthlgnjlpakimaaaGreatDoorUMarks
import Derived.OrdersIn
import Derived.OwnWalkIn
import Derived.Scope
import Derived.Laws.IdiomCopy
import Derived.MapKept
import Derived.Laws.BytesArg
import Derived.Lib.ConvBytes
set_option linter.all false
set_option linter.unnecessarySimpa false
set_option linter.unusedSimpArgs false
set_option linter.unusedVariables false
namespace Go.Proofs.YthlgnjlpakimaaaGreatDoor
open Go.ChangeShapes Go.WideShapes Go.ChangeAt Go.RowKit
inductive IV where
 | val (v:Value)
 | sl (k:Nat) (l:List (List IV))
 | pt (cs:List IV)
instance:Inhabited IV:=⟨.val undef⟩
def okV:Value->Prop
 | .int k n=>(Lit.int k n).wf=true
 | .string s=>s.size<=maxLen
 | .agg _=>False
 | .tuple _=>False
 | _=>True
theorem Bh6 {v:Value} (h:okV v):v.oneCell'=true:=by
 cases v<;>first | rfl | exact h.elim
inductive Cs (X:World):Value->IV->Prop
 | val {v:Value} : okV v->Cs X v (.val v)
 | nil {A:Option Addr} {c k:Nat} : c<=maxLen->Cs X (.slice A 0 c) (.sl k [])
 | sl {b off c k:Nat} {l:List (List IV)} (f:Nat->Nat->Value):b < X.heap.size->l.length<=c->l.length<=1073741824->c<=maxLen->(∀ cs∈l,cs.length=k) ->
   (∀ i j cs u,l[i]? = some cs->cs[j]? = some u->X.cell? ⟨b,off+i*k+j,none⟩=some (f i j)) ->
   (∀ i j cs u,l[i]? = some cs->cs[j]? = some u->Cs X (f i j) u)->Cs X (.slice (some ⟨b,off,none⟩) l.length c) (.sl k l)
 | pt {b off:Nat} {cs:List IV} (f:Nat->Value):(∀ j u,cs[j]? = some u->X.cell? ⟨b,off+j,none⟩=some (f j))->(∀ j u,cs[j]? = some u->Cs X (f j) u)->Cs X (.pointer (some ⟨b,off,none⟩)) (.pt cs)
theorem Cs.ext {X X':World} (he:Ext X X') {v:Value} {i:IV} (h:Cs X v i):Cs X' v i:=by
 induction h with
 | val h=>exact .val h
 | nil h=>exact .nil h
 | sl f h0 h1 h2 h3 h4 h5 _ ih=>exact .sl f (Nat.lt_of_lt_of_le h0 he.size) h1 h2 h3 h4 (fun i j cs u a b=>he.cell _ _ (h5 i j cs u a b)) ih
 | pt f h1 _ ih=>exact .pt f (fun j u a=>he.cell _ _ (h1 j u a)) ih
theorem Cs.one {X:World} {v:Value} {i:IV} (h:Cs X v i):v.oneCell'=true:=by
 cases h with
 | val h=>exact Bh6 h
 | nil _=>rfl
 | sl _=>rfl
 | pt _=>rfl
def Bl (X:World):List Value->List IV->Prop
 | [],[]=>True
 | v :: vs,i :: is=>Cs X v i/\Bl X vs is
 | _,_=>False
theorem Bl.len {X:World} : ∀ {vs:List Value} {is:List IV},Bl X vs is->vs.length=is.length
 | [],[],_=>rfl
 | _ :: _,_ :: _,h=>congrArg (·+1) (Bl.len h.2)
 | [],_ :: _,h=>h.elim
 | _ :: _,[],h=>h.elim
theorem Bl.get {X:World} : ∀ {vs:List Value} {is:List IV},Bl X vs is->∀ {j:Nat} {v:Value} {i:IV},vs[j]? = some v->is[j]? = some i->Cs X v i
 | _ :: _,_ :: _,h,0,_,_,a,b=>by simp at a b;subst a b;exact h.1
 | _ :: _,_ :: _,h,j+1,_,_,a,b=>Bl.get h.2 (j:=j) (by simpa using a) (by simpa using b)
 | [],_,_,j,_,_,a,_=>by simp at a
 | _ :: _,[],h,_,_,_,_,_=>h.elim
theorem Bl.of {X:World} : ∀ {vs:List Value} {is:List IV},vs.length=is.length->(∀ (j:Nat) (v:Value) (i:IV),vs[j]? = some v->is[j]? = some i->Cs X v i)->Bl X vs is
 | [],[],_,_=>trivial
 | v :: vs,i :: is,hl,h=>⟨h 0 v i rfl rfl,Bl.of (by simpa using hl) fun j v i a b=>h (j+1) v i (by simpa using a) (by simpa using b)⟩
 | [],_ :: _,hl,_=>by simp at hl
 | _ :: _,[],hl,_=>by simp at hl
theorem Bl.ext {X X':World} (he:Ext X X') {vs:List Value} {is:List IV} (h:Bl X vs is):Bl X' vs is:=Bl.of h.len fun _ _ _ a b=>(h.get a b).ext he
theorem Bl.one {X:World} {vs:List Value} {is:List IV} (h:Bl X vs is):∀ u∈vs,u.oneCell'=true:=by
 intro u hu
 obtain ⟨j,hj⟩:=List.mem_iff_getElem?.1 hu
 have hlt:=(List.getElem?_eq_some_iff.1 hj).1
 rw [h.len] at hlt
 exact (h.get hj (List.getElem?_eq_getElem hlt)).one
section
variable {X : World} {v : Value} {k : Nat} {l : List (List IV)}
theorem Cs.to_sl (h:Cs X v (.sl k l)):Sl (Bl X) k X X.heap.size v l:=by
 cases h with
 | nil h=>exact Sl.nil_ h _
 | @sl b off c _ _ f h0 h1 h2 h3 h4 h5 h6 =>
  refine ⟨_,c,rfl,⟨h1,h2⟩,h3,fun hne=>⟨b,off,rfl,h0,fun i cs hx=>?_⟩⟩
  refine ⟨(List.range cs.length).map (f i),Bl.of (by simp) fun j v u a b=>?_,by simp [h4 cs (List.mem_of_getElem? hx)],fun j u hu=>?_⟩
  ·have hj:=(List.getElem?_eq_some_iff.1 b).1
   rw [List.getElem?_map,List.getElem?_range hj] at a
   obtain rfl:=Option.some.inj a
   exact h6 i j cs u hx b
  ·obtain ⟨hj,e⟩:=List.getElem?_eq_some_iff.1 hu
   simp only [List.length_map,List.length_range] at hj
   simp only [List.getElem_map,List.getElem_range] at e
   subst e
   exact h5 i j cs _ hx (List.getElem?_eq_getElem hj)
theorem Cs.of_sl (h:Sl (Bl X) k X X.heap.size v l):Cs X v (.sl k l):=by
 obtain ⟨A,c,rfl,⟨h1,h2⟩,h3,h4⟩:=h
 by_cases hne:l=[]
 ·subst hne
  exact .nil h3
 ·obtain ⟨b,off,rfl,hb,h5⟩:=h4 hne
  refine .sl (fun i j=>(X.cell? ⟨b,off+i*k+j,none⟩).getD undef) hb h1 h2 h3 (fun cs hcs=>?_) (fun i j cs u hx hu=>?_) (fun i j cs u hx hu=>?_)
  ·obtain ⟨i,hi⟩:=List.mem_iff_getElem?.1 hcs
   obtain ⟨vs,a1,a2,_⟩:=h5 i cs hi
   rw [<-a1.len,a2]
  ·obtain ⟨vs,a1,a2,a3⟩:=h5 i cs hx
   have hj:=(List.getElem?_eq_some_iff.1 hu).1
   rw [<-a1.len] at hj
   rw [a3 j _ (List.getElem?_eq_getElem hj)]
   rfl
  ·obtain ⟨vs,a1,a2,a3⟩:=h5 i cs hx
   have hj:=(List.getElem?_eq_some_iff.1 hu).1
   rw [<-a1.len] at hj
   simp only [a3 j _ (List.getElem?_eq_getElem hj),Option.getD_some]
   exact a1.get (List.getElem?_eq_getElem hj) hu
theorem Cs.of_typed {α:Type} {R:List Value->α->Prop} {enc:α->List IV} (hR:∀ cs x,R cs x->Bl X cs (enc x)) {l:List α} {B:Nat} (h:Sl R k X B v l) (hB:B<=X.heap.size):Cs X v (.sl k (l.map enc)):=by
 refine Cs.of_sl ?_
 obtain ⟨A,c,rfl,h1,h3,h4⟩:=h
 refine ⟨A,c,by rw [List.length_map],by rw [List.length_map];exact h1,h3,fun hne=>?_⟩
 obtain ⟨b,off,rfl,hb,h5⟩:=h4 (fun e=>hne (by rw [e];rfl))
 refine ⟨b,off,rfl,Nat.lt_of_lt_of_le hb hB,fun i cs hx=>?_⟩
 rw [List.getElem?_map,Option.map_eq_some_iff] at hx
 obtain ⟨y,hy,rfl⟩:=hx
 obtain ⟨vs,a1,a2,a3⟩:=h5 i y hy
 exact ⟨vs,hR _ _ a1,a2,a3⟩
theorem Cs.to_typed {α:Type} {R:List Value->α->Prop} {enc:α->List IV} {l:List α} (h:Cs X v (.sl k (l.map enc))) (hR:∀ cs x,x∈l->Bl X cs (enc x)->R cs x):Sl R k X X.heap.size v l:=by
 obtain ⟨A,c,rfl,h1,h3,h4⟩:=h.to_sl
 rw [List.length_map] at h1 ⊢
 refine ⟨A,c,rfl,h1,h3,fun hne=>?_⟩
 obtain ⟨b,off,rfl,hb,h5⟩:=h4 (fun e=>hne (List.map_eq_nil_iff.1 e))
 refine ⟨b,off,rfl,hb,fun i y hy=>?_⟩
 obtain ⟨vs,a1,a2,a3⟩:=h5 i (enc y) (by rw [List.getElem?_map,hy];rfl)
 exact ⟨vs,hR _ _ (List.mem_of_getElem? hy) a1,a2,a3⟩
end
inductive AV where
 | any
 | val (v:Value)
 | iv (i:IV)
 | ip (cs:List IV)
 | bp (b o:Nat)
 | rp (b k i j:Nat)
 | own (b:Nat)
 | mv (b:Nat)
 | agg (cs:List AV)
 | aggI (cs:List IV)
 | tup (vs:List AV)
 | fn (f:FuncId) (caps:List AV)
instance:Inhabited AV:=⟨.any⟩
structure Env where
 blk:Nat->Nat
 row:Nat->Value
inductive Bb (E:Env) (X:World):Value->AV->Prop
 | any {v:Value} : Bb E X v .any
 | val {v:Value} : Bb E X v (.val v)
 | iv {v:Value} {i:IV} : Cs X v i->Bb E X v (.iv i)
 | ip {b off:Nat} {cs:List IV} (f:Nat->Value):(∀ j u,cs[j]? = some u->X.cell? ⟨b,off+j,none⟩=some (f j))->(∀ j u,cs[j]? = some u->Cs X (f j) u)->Bb E X (.pointer (some ⟨b,off,none⟩)) (.ip cs)
 | bp {b o:Nat} : Bb E X (.pointer (some ⟨E.blk b,o,none⟩)) (.bp b o)
 | rp {b k i j:Nat} : Bb E X (.pointer (some ⟨E.blk b,i*k+j,none⟩)) (.rp b k i j)
 | own {b:Nat} {A:Option Addr} {n c:Nat} : E.row b=.slice A n c->Bb E X (.slice A n c) (.own b)
 | mv {b:Nat} : Bb E X (.map (some (E.blk b))) (.mv b)
 | aggI {vs:Array Value} {cs:List IV} : Bl X vs.toList cs->Bb E X (.agg vs) (.aggI cs)
 | agg {vs:Array Value} {cs:List AV} : vs.size=cs.length->(∀ (j:Nat) v c,vs[j]? = some v->cs[j]? = some c->Bb E X v c)->Bb E X (.agg vs) (.agg cs)
 | tup {vs:Array Value} {cs:List AV} : vs.size=cs.length->(∀ (j:Nat) v c,vs[j]? = some v->cs[j]? = some c->Bb E X v c)->Bb E X (.tuple vs) (.tup cs)
 | fn {f:FuncId} {vs:Array Value} {cs:List AV} : vs.size=cs.length->(∀ (j:Nat) v c,vs[j]? = some v->cs[j]? = some c->Bb E X v c)->Bb E X (.func (.func f) #[] vs) (.fn f cs)
def AV.off (lo hi:Nat):AV->Bool
 | .bp b _=>decide (b < lo) || decide (hi<=b)
 | .rp b _ _ _=>decide (b < lo) || decide (hi<=b)
 | .own b=>decide (b < lo) || decide (hi<=b)
 | .mv b=>decide (b < lo) || decide (hi<=b)
 | .agg cs=>offs lo hi cs
 | .tup cs=>offs lo hi cs
 | .fn _ cs=>offs lo hi cs
 | _=>true
where offs (lo hi:Nat):List AV->Bool
 | []=>true
 | c :: cs=>AV.off lo hi c&&offs lo hi cs
def Env.same (lo hi:Nat) (E E':Env):Prop:=∀ b,(b < lo\/hi<=b)->E'.blk b=E.blk b/\E'.row b=E.row b
theorem Env.same_refl (lo hi:Nat) (E:Env):Env.same lo hi E E:=fun _ _=>⟨rfl,rfl⟩
theorem Q6 {lo hi:Nat} : ∀ {cs:List AV},AV.off.offs lo hi cs=true->∀ {j:Nat} {c:AV},cs[j]? = some c->c.off lo hi=true
 | [],_,j,c,h=>by simp at h
 | d :: cs,h,0,c,e=>by
  simp only [AV.off.offs,Bool.and_eq_true] at h
  simp at e;subst e;exact h.1
 | d :: cs,h,j+1,c,e=>by
  simp only [AV.off.offs,Bool.and_eq_true] at h
  exact Q6 h.2 (by simpa using e)
theorem Bb.ext {E E':Env} {X X':World} {lo hi:Nat} (hE:Env.same lo hi E E') (he:Ext X X') {v:Value} {a:AV} (h:Bb E X v a):a.off lo hi=true->Bb E' X' v a:=by
 induction h with
 | any=>exact fun _=>.any
 | val=>exact fun _=>.val
 | iv h=>exact fun _=>.iv (h.ext he)
 | ip f h1 h2=>exact fun _=>.ip f (fun j u hu=>he.cell _ _ (h1 j u hu)) fun j u hu=>(h2 j u hu).ext he
 | @bp b o =>
  intro hb
  simp only [AV.off,Bool.or_eq_true,decide_eq_true_eq] at hb
  rw [<-(hE b hb).1]
  exact .bp
 | @rp b k i j =>
  intro hb
  simp only [AV.off,Bool.or_eq_true,decide_eq_true_eq] at hb
  rw [<-(hE b hb).1]
  exact .rp
 | @own b A n c h =>
  intro hb
  simp only [AV.off,Bool.or_eq_true,decide_eq_true_eq] at hb
  exact .own ((hE b hb).2.trans h)
 | @mv b =>
  intro hb
  simp only [AV.off,Bool.or_eq_true,decide_eq_true_eq] at hb
  rw [<-(hE b hb).1]
  exact .mv
 | aggI h=>exact fun _=>.aggI (h.ext he)
 | agg h1 _ ih=>exact fun hb=>.agg h1 fun j v c a b=>ih j v c a b (Q6 hb b)
 | tup h1 _ ih=>exact fun hb=>.tup h1 fun j v c a b=>ih j v c a b (Q6 hb b)
 | fn h1 _ ih=>exact fun hb=>.fn h1 fun j v c a b=>ih j v c a b (Q6 hb b)
theorem off_none (lo:Nat):∀ a:AV,a.off lo lo=true:=by
 have key:∀ n (a:AV),SizeOf.sizeOf a<=n->a.off lo lo=true:=by
  intro n
  induction n with
  | zero=>intro a h;cases a<;>simp at h
  | succ n ih =>
   have hs:∀ cs:List AV,SizeOf.sizeOf cs<=n->AV.off.offs lo lo cs=true:=by
    intro cs
    induction cs with
    | nil=>exact fun _=>rfl
    | cons c cs ihs =>
     intro h
     simp only [List.cons.sizeOf_spec] at h
     simp only [AV.off.offs,Bool.and_eq_true]
     exact ⟨ih c (by omega),ihs (by omega)⟩
   intro a h
   cases a with
   | any=>rfl
   | val v=>rfl
   | iv i=>rfl
   | ip cs=>rfl
   | bp b o=>simp only [AV.off,Bool.or_eq_true,decide_eq_true_eq];omega
   | rp b k i j=>simp only [AV.off,Bool.or_eq_true,decide_eq_true_eq];omega
   | own b=>simp only [AV.off,Bool.or_eq_true,decide_eq_true_eq];omega
   | mv b=>simp only [AV.off,Bool.or_eq_true,decide_eq_true_eq];omega
   | aggI cs=>rfl
   | agg cs=>simp only [AV.agg.sizeOf_spec] at h;exact hs cs (by omega)
   | tup cs=>simp only [AV.tup.sizeOf_spec] at h;exact hs cs (by omega)
   | fn f cs=>simp only [AV.fn.sizeOf_spec] at h;exact hs cs (by omega)
 exact fun a=>key _ a (Nat.le_refl _)
theorem Bb.mono {E:Env} {X X':World} (he:Ext X X') {v:Value} {a:AV} (h:Bb E X v a):Bb E X' v a:=h.ext (Env.same_refl 0 0 E) he (off_none 0 a)
def At (E:Env) (X:World) (vs:List Value) (cs:List AV):Prop:=vs.length=cs.length/\∀ (j:Nat) v c,vs[j]? = some v->cs[j]? = some c->Bb E X v c
theorem At.nil {E:Env} {X:World} : At E X [] []:=⟨rfl,fun j v c h=>by simp at h⟩
theorem At.cons {E:Env} {X:World} {v:Value} {vs:List Value} {c:AV} {cs:List AV} (h:Bb E X v c) (hs:At E X vs cs):At E X (v :: vs) (c :: cs) :=
 ⟨by simp [hs.1],fun j u d a b=>by
  cases j with
  | zero=>simp at a b;subst a b;exact h
  | succ j=>exact hs.2 j u d (by simpa using a) (by simpa using b)⟩
theorem At.cons_iff {E:Env} {X:World} {vs:List Value} {c:AV} {cs:List AV} : At E X vs (c :: cs)↔∃ v vs',vs=v :: vs'/\Bb E X v c/\At E X vs' cs:=by
 constructor
 ·rintro ⟨h1,h2⟩
  cases vs with
  | nil=>simp at h1
  | cons v vs=>exact ⟨v,vs,rfl,h2 0 v c rfl rfl,by simpa using h1,fun j u d a b=>h2 (j+1) u d (by simpa using a) (by simpa using b)⟩
 ·rintro ⟨v,vs',rfl,h,hs⟩
  exact At.cons h hs
theorem At.nil_iff {E:Env} {X:World} {vs:List Value} : At E X vs []↔vs=[]:=⟨fun h=>List.eq_nil_of_length_eq_zero h.1,fun h=>h ▸ At.nil⟩
theorem At.ext {E E':Env} {X X':World} {lo hi:Nat} (hE:Env.same lo hi E E') (he:Ext X X') {vs:List Value} {cs:List AV} (h:At E X vs cs) (hb:AV.off.offs lo hi cs=true):At E' X' vs cs :=
 ⟨h.1,fun j v c a b=>(h.2 j v c a b).ext hE he (Q6 hb b)⟩
theorem At.mono {E:Env} {X X':World} (he:Ext X X') {vs:List Value} {cs:List AV} (h:At E X vs cs):At E X' vs cs:=⟨h.1,fun j v c a b=>(h.2 j v c a b).mono he⟩
theorem Bl.as {E:Env} {X:World} {vs:List Value} {is:List IV} (h:Bl X vs is):At E X vs (is.map AV.iv) :=
 ⟨by rw [List.length_map];exact h.len,fun j v c a b=>by
  rw [List.getElem?_map,Option.map_eq_some_iff] at b
  obtain ⟨i,hi,rfl⟩:=b
  exact .iv (h.get a hi)⟩
theorem At.ofVals {E:Env} {X:World} (vs:List Value):At E X vs (vs.map AV.val) :=
 ⟨by simp,fun j v c a b=>by
  rw [List.getElem?_map,a] at b
  obtain rfl:=Option.some.inj b
  exact .val⟩
def FW (ro:Option Nat):Fence:={ Fence.wide with round:=ro }
section
variable {P : Program}
theorem M5 {ro:Option Nat} {o:Oper} {a:Act} {w:World} {N:Act->World->Prop} {Q:Exit->Act->World->Prop} (hd:∀ c,o.op≠.defer c) (h:o.wp P a w N Q):o.wpIn (FW ro) 0 P a w N Q:=by
 refine ⟨fun _ _=>trivial,?_⟩
 rw [Oper.semAt_plain _ _ _ hd]
 unfold Oper.wp at h
 generalize (execOp a.eval o).run P w=r at *
 cases r with
 | ok x w' =>
  cases x<;>simp only [Oper.upon] at h<;>simp only [Oper.uponIn] <;>
   first
    | exact h
    | exact ⟨fun e=>(by cases e),callsIn_wide.2 h⟩
    | exact ⟨fun e=>(by cases e),fun c cs _=>let ⟨v,w',r,s⟩:=h c cs;⟨v,w',r,stepsIn_wide.2 s⟩⟩
    | exact h.elim
 | halt x w'=>cases x<;>simp only [Oper.upon] at h<;>simp only [Oper.uponIn]<;>exact h
theorem Ah1 {F:Fence} {n:Nat} {o:Oper} {a:Act} {w:World} {K:Act->World->Prop} {Q:Exit->Act->World->Prop} (h:o.wpIn F n P a w K (Aq5 K Q)):o.wpIn F n P a w K Q:=by
 unfold Oper.wpIn at *
 refine ⟨h.1,?_⟩
 have h:=h.2
 generalize (o.semAt F.round a.eval).run P w=r at *
 cases r with
 | ok n w' =>
  cases n<;>simp only [Oper.uponIn] at h ⊢ <;>
   first
    | exact h
    | exact ⟨h.1,CallsIn.mono h.2 (fun e w'' he=>by cases e<;>exact he)⟩
    | exact ⟨h.1,RowsIn.mono h.2 (fun _ _ he=>he)⟩
    | exact ⟨h.1,RoundIn.mono h.2 (fun e w'' he=>by cases e<;>exact he)⟩
 | halt x w'=>cases x<;>simp only [Oper.uponIn] at h ⊢<;>exact h
theorem Ah2 {F:Fence} {n:Nat} {ops:Array Oper} {i:Nat} {o:Oper} {a:Act} {w:World} {K:Act->World->Prop} {Q:Exit->Act->World->Prop} (ho:ops[i]? = some o) (h:wpListIn F n P ops (Aq5 K Q) [o] a w):wpOpIn F n P ops Q i K a w:=by
 unfold wpOpIn
 simp only [ho]
 unfold wpListIn at h
 split
 ·rename_i hw
  rw [if_pos hw] at h
  exact Ah1 h
 ·rename_i hw
  rw [if_neg hw] at h
  exact h
theorem R4 {F:Fence} {n:Nat} {Q:Exit->Act->World->Prop} {a:Act} {w:World} {c:Code} (h:c.wpIn F n P (Exit.noGoto Q) a w):(Code.scope c).wpIn F n P Q a w:=by
 intro b k cs hro hb hr
 have s1:StepsIn (Machine.fenced P F) P (lone (b.atR a (.code (.scope c) :: k)) cs w) (lone (b.atR a (.code c :: .inScope c :: k)) cs w):=.one (fenced_calm hb hr rfl) (step_lone_go (by simp [stepG,stepG.exec,Frame.atR]))
 obtain ⟨e,a₁,w₁,hq,harr⟩:=h b (.inScope c :: k) cs hro hb hr
 cases e with
 | normal=>exact ⟨.normal,a₁,w₁,hq,s1.trans (StepsIn.trans harr (.one (fenced_calm hb hr rfl) (step_lone_go (by simp [stepG,stepG.exec,Frame.atR]))))⟩
 | exit id =>
  have hx:exitTo id (.inScope c :: k)=exitTo id k:=by simp [exitTo]
  exact ⟨.exit id,a₁,w₁,hq,fun k' hk=>s1.trans (harr.1 k' (by rw [hx];exact hk)),fun hr' hk=>let ⟨k₁,h1,h2⟩:=harr.2 hr' (by rw [hx];exact hk);⟨k₁,h1,s1.trans h2⟩⟩
 | goto l=>exact hq.elim
 | ret=>exact ⟨_,a₁,w₁,hq,.of_steps s1 harr⟩
 | panic ch=>exact ⟨_,a₁,w₁,hq,.of_steps s1 harr⟩
 | outgrown=>exact ⟨_,a₁,w₁,hq,.of_steps s1 harr⟩
theorem We {F:Fence} {n:Nat} {id:Nat} {Q:Exit->Act->World->Prop} {a:Act} {w:World} {ops:Array Oper} (hm:P.follows .mixedOrders=true) (hord:Ai4 ops=true)
  (Inv:(Nat->Bool)->Act->World->Prop) (h0:Inv (fun _=>false) a w.drew)
  (hstep:∀ (i:Nat) (o:Oper) (S:Nat->Bool) (a:Act) (w:World),ops[i]? = some o->S i=false->(∀ e∈o.after,Region.binds .any e=true->S e.on=true)->(∀ (k:Nat) (o':Oper),ops[k]? = some o'->S k=true->∀ e∈o'.after,Region.binds .any e=true->S e.on=true)->Inv S a w->wpListIn F n P ops (Aq5 (Inv fun j=>S j || decide (j=i)) Q) [o] a w)
  (hend:∀ (S:Nat->Bool) (a:Act) (w:World),(∀ i,i < ops.size->S i=true)->Inv S a w->Q .normal a w):(Code.region id ops true).wpIn F n P Q a w:=by
 refine wpIn_region_any hm ?_
 have key:∀ (fuel:Nat) (listed:Array Bool) (a:Act) (w:World) (S:Nat->Bool),listed.size=ops.size->(∀ j,j < ops.size->S j=listed.getD j false)->Pk (fun j=>!S j) ops.size<=fuel->(∀ (k:Nat) (o':Oper),ops[k]? = some o'->S k=true->∀ e∈o'.after,Region.binds .any e=true->S e.on=true)->Inv S a w->wpAnyIn F n P .any ops Q fuel listed a w:=by
  intro fuel
  have hget:∀ (listed:Array Bool) (j:Nat),listed.size=ops.size->j < ops.size->listed.getD j true=listed.getD j false:=by
   intro listed j hs hj
   simp [Array.getD,hs,hj]
  have hready:∀ (listed:Array Bool) (S:Nat->Bool),listed.size=ops.size->(∀ j,j < ops.size->S j=listed.getD j false)->Region.ready .any ops listed=[]->∀ i,i < ops.size->S i=true:=by
   intro listed S hs hS hr i hi
   cases hSi:S i with
   | true=>rfl
   | false =>
    exfalso
    obtain ⟨k,k1,k2,k3⟩:=A41 (f:=fun j=>!S j) (n:=ops.size) ⟨i,hi,by simp [hSi]⟩
    have hk:k∈Region.ready .any ops listed:=by
     unfold Region.ready
     rw [List.mem_filter,List.mem_range]
     refine ⟨k1,?_⟩
     rw [Bool.and_eq_true,hget listed k hs k1,<-hS k k1]
     refine ⟨by simpa using k2,?_⟩
     have ho:ops[k]? = some ops[k]:=Array.getElem?_eq_getElem k1
     have hlk:=List.all_eq_true.1 hord k (List.mem_range.2 k1)
     rw [ho] at hlk ⊢
     simp only [Option.map_some,Option.getD_some] at hlk ⊢
     rw [Array.all_eq_true_iff_forall_mem] at hlk ⊢
     intro e he
     rw [Bool.or_eq_true]
     by_cases hb:Region.binds .any e=true
     ·right
      have h1:e.on < k:=by simpa [hb] using hlk e he
      rw [<-hS e.on (by omega)]
      have:=k3 e.on h1
      simpa using this
     ·left
      simpa using hb
    rw [hr] at hk
    cases hk
  induction fuel with
  | zero =>
   intro listed a w S hs hS hc _ hi
   have hall:∀ i,i < ops.size->S i=true:=fun i hi'=>by
    have:=Yv (f:=fun j=>!S j) (by omega) i hi'
    simpa using this
   refine ⟨?_,hend S a w hall hi⟩
   unfold Region.ready
   rw [List.filter_eq_nil_iff]
   intro i hi'
   rw [List.mem_range] at hi'
   rw [hget listed i hs hi',<-hS i hi',hall i hi']
   simp
  | succ fuel ih =>
   intro listed a w S hs hS hc hcl hi
   refine ⟨fun hr=>hend S a w (hready listed S hs hS hr) hi,fun i hir=>?_⟩
   unfold Region.ready at hir
   rw [List.mem_filter,List.mem_range,Bool.and_eq_true] at hir
   obtain ⟨hisz,hun,haf⟩:=hir
   have ho:ops[i]? = some ops[i]:=Array.getElem?_eq_getElem hisz
   have hSi:S i=false:=by
    rw [hget listed i hs hisz,<-hS i hisz] at hun
    simpa using hun
   have hdeps:∀ e∈ops[i].after,Region.binds .any e=true->S e.on=true:=by
    rw [ho] at haf
    simp only [Option.map_some,Option.getD_some] at haf
    rw [Array.all_eq_true_iff_forall_mem] at haf
    intro e he hb
    have h1:=haf e he
    rw [hb] at h1
    have hlk:=List.all_eq_true.1 hord i (List.mem_range.2 hisz)
    rw [ho] at hlk
    simp only [Option.map_some,Option.getD_some] at hlk
    rw [Array.all_eq_true_iff_forall_mem] at hlk
    have h2:e.on < i:=by simpa [hb] using hlk e he
    rw [hS e.on (by omega)]
    simpa using h1
   refine wpOpIn_mono (fun a' w' h=>ih (listed.setIfInBounds i true) a' w' (fun j=>S j || decide (j=i)) (by simpa using hs) (fun j hj=>?_) ?_ (fun k o' hk hSk e he hb=>?_) h) (Ah2 ho (hstep i _ S a w ho hSi hdeps hcl hi))
   ·rw [hS j hj]
    by_cases e:j=i
    ·subst e;simp [Array.getD,hs,hj]
    ·simp [Array.getD,hs,hj,e,Array.getElem_setIfInBounds,Ne.symm e]
   ·have:=Ak5 (f:=fun j=>!(S j || decide (j=i))) (g:=fun j=>!S j) (fun j h=>by simp at h ⊢;exact h.1) (k:=i) (by simp) (by simp [hSi]) ops.size hisz
    omega
   ·rw [Bool.or_eq_true,decide_eq_true_eq] at hSk ⊢
    rcases hSk with hSk | rfl
    ·exact .inl (hcl k o' hk hSk e he hb)
    ·rw [ho] at hk
     obtain rfl:=Option.some.inj hk
     exact .inl (hdeps e he hb)
 exact key ops.size (Array.replicate ops.size false) a w.drew (fun _=>false) (by simp) (fun j hj=>by simp [Array.getD,hj]) (by
  have:∀ n,Pk (fun _=>!false) n<=n:=by
   intro n
   induction n with
   | zero=>exact Nat.le_refl _
   | succ n ih=>unfold Pk;simp at ih ⊢;omega
  exact this _) (fun _ _ _ h=>nomatch h) h0
end
def Kk:Obj->Bool
 | .deferred _=>true
 | .loop _=>true
 | _=>false
theorem Aj0 {o:Obj} (h:Kk o=true):o.isCells=false:=by cases o<;>first | rfl | cases h
theorem K1 {W W':World} {row:Option Nat} {a:Addr} {v:Value} (h:W.cell? a=some v) (hg:W.grownBy W' row) (hr:∀ r,row=some r->∃ o:Obj,W.heap[r]? = some o/\Kk o=true):W'.cell? a=some v :=
 cell_kept h hg fun r e=>let ⟨o,h1,h2⟩:=hr r e;⟨o,h1,Aj0 h2⟩
theorem Uc {B:Nat} {I:World->Prop} (hI:∀ (A C:World) (row:Option Nat),I A->A.grownBy C row->(∀ r,row=some r->B<=r/\∃ o:Obj,A.heap[r]? = some o/\Kk o=true)->I C):∀ (Ds:List Nat) (W:World),Eg B Ds W->I W->I (shut Ds W)
 | [],_,_,h=>h
 | D :: Ds,W,hm,h=>Uc hI Ds _ hm.tail (hI W _ (some D) h (grownBy_putObj' _ _ _) fun r e=>by cases e;exact ⟨(hm.at_ D (List.mem_cons_self ..)).1,_,(hm.at_ D (List.mem_cons_self ..)).2,rfl⟩)
structure Far where
 l:List (Nat×Obj)
 nd:(l.map (·.1)).Nodup
 act:∀ p∈l,Kk p.2=false
inductive BA where
 | box (b:Nat) (cs:List AV)
 | arr (b:Nat) (cs:List IV)
 | row (b e k:Nat) (l:List (List IV))
 | mp (b:Nat) (k:IntKind) (kv:List (Int×Value))
 | opq (b:Nat) (F:Far)
def BA.id:BA->Nat
 | .box b _=>b
 | .arr b _=>b
 | .row b _ _ _=>b
 | .mp b _ _=>b
 | .opq b _=>b
def BA.owned (E:Env):BA->List Nat
 | .box b _=>[E.blk b]
 | .arr b _=>[E.blk b]
 | .row b _ _ _=>(E.row b).ownBlock.toList
 | .mp b _ _=>[E.blk b]
 | .opq _ F=>F.l.map (·.1)
def BA.holds (E:Env) (X w:World) (base:Nat):BA->Prop
 | .box b cs=>∃ (C:Array Value) (t:TypeId),Blk w (E.blk b) t C/\At E X C.toList cs
 | .arr b cs=>∃ (C:Array Value) (t:TypeId),Blk w (E.blk b) t C/\Bl X C.toList cs
 | .row b e k l=>Ae (Bl X) k w base e (E.row b) l/\∀ g,(E.row b).ownBlock=some g->g=E.blk b
 | .mp b k kv=>∃ (es:Array MapEntry) (clock:Nat),w.heap[E.blk b]? = some (.map es clock)/\es.toList.map (fun e=>(e.key,e.val))=kv.map fun x=>(.int k x.1,x.2)
 | .opq _ F=>∀ p∈F.l,w.heap[p.1]? = some p.2
def BA.off (lo hi:Nat):BA->Bool
 | .box b cs=>(decide (b < lo) || decide (hi<=b))&&AV.off.offs lo hi cs
 | .arr b _=>decide (b < lo) || decide (hi<=b)
 | .row b _ _ _=>decide (b < lo) || decide (hi<=b)
 | .mp b _ _=>decide (b < lo) || decide (hi<=b)
 | .opq b _=>decide (b < lo) || decide (hi<=b)
def Jf (lo hi:Nat):List BA->Bool
 | []=>true
 | b :: bs=>b.off lo hi&&Jf lo hi bs
def Ac (E:Env):List BA->List Nat
 | []=>[]
 | b :: bs=>b.owned E++Ac E bs
theorem Au (E:Env):∀ (a b:List BA),Ac E (a++b)=Ac E a++Ac E b
 | [],_=>rfl
 | x :: a,b=>by simp [Ac,Au E a b]
theorem BA.owned_same {lo hi:Nat} {E E':Env} (hE:Env.same lo hi E E') {b:BA} (h:b.off lo hi=true):b.owned E'=b.owned E:=by
 cases b<;>simp only [BA.off,Bool.and_eq_true,Bool.or_eq_true,decide_eq_true_eq] at h<;>simp only [BA.owned]
 ·rw [(hE _ h.1).1]
 ·rw [(hE _ h).1]
 ·rw [(hE _ h).2]
 ·rw [(hE _ h).1]
theorem N6 {lo hi:Nat} {E E':Env} (hE:Env.same lo hi E E'):∀ {bs:List BA},Jf lo hi bs=true->Ac E' bs=Ac E bs
 | [],_=>rfl
 | b :: bs,h=>by
  simp only [Jf,Bool.and_eq_true] at h
  simp only [Ac]
  rw [BA.owned_same hE h.1,N6 hE h.2]
def Aj1 (w:World) (gs:List Nat):World:={ w with heap:=w.heap.mapIdx fun i o=>if i∈gs then .cells #[] 0 else o }
theorem Yg (w:World) (gs:List Nat):(Aj1 w gs).heap.size=w.heap.size:=by simp [Aj1]
theorem As0 (w:World) (gs:List Nat) (p:Addr):(Aj1 w gs).cell? p=if p.block∈gs then none else w.cell? p:=by
 unfold World.cell? Aj1
 simp only [Array.getElem?_mapIdx]
 by_cases h:p.block∈gs
 ·rw [if_pos h]
  cases w.heap[p.block]? with
  | none=>rfl
  | some o=>simp [h]
 ·rw [if_neg h]
  cases w.heap[p.block]? with
  | none=>rfl
  | some o=>simp [h]
def vis (V w0 w:World) (gs:List Nat):World:=H8 V w0 (Aj1 w gs)
theorem E9 (V w0 w:World) (gs:List Nat):(vis V w0 w gs).heap.size=w.heap.size:=by unfold vis;rw [Gu,Yg]
theorem Gw {V w0 w:World} {gs:List Nat} {p:Addr} (h:p.block < w0.heap.size) (h':p.block < w.heap.size):(vis V w0 w gs).cell? p=V.cell? p:=Tl h (by rw [Yg];exact h')
theorem Gx {V w0 w:World} {gs:List Nat} {p:Addr} (h:w0.heap.size<=p.block):(vis V w0 w gs).cell? p=if p.block∈gs then none else w.cell? p:=by
 unfold vis;rw [R0 h,As0]
theorem Pr {V w0 w:World} {gs:List Nat} {p:Addr} {u:Value} (h:(vis V w0 w gs).cell? p=some u):p.block < w.heap.size/\(p.block < w0.heap.size/\V.cell? p=some u\/w0.heap.size<=p.block/\p.block∉gs/\w.cell? p=some u):=by
 have hlt:=World.block_lt_of_cell? _ p h
 rw [E9] at hlt
 refine ⟨hlt,?_⟩
 by_cases hp:p.block < w0.heap.size
 ·exact .inl ⟨hp,by rw [<-h,Gw hp hlt]⟩
 ·rw [Gx (Nat.not_lt.1 hp)] at h
  by_cases hg:p.block∈gs
  ·rw [if_pos hg] at h;cases h
  ·rw [if_neg hg] at h
   exact .inr ⟨Nat.not_lt.1 hp,hg,h⟩
theorem Dl {V w0 w w':World} {gs gs':List Nat} (hs:w.heap.size<=w'.heap.size) (h:∀ p u,w0.heap.size<=p.block->p.block < w.heap.size->p.block∉gs->w.cell? p=some u->p.block∉gs'/\w'.cell? p=some u):Ext (vis V w0 w gs) (vis V w0 w' gs') :=
 ⟨by rw [E9,E9];exact hs,fun p u hp=>by
  obtain ⟨h1,h2⟩:=Pr hp
  rcases h2 with ⟨h2,h3⟩ | ⟨h2,h3,h4⟩
  ·rw [Gw h2 (Nat.lt_of_lt_of_le h1 hs)];exact h3
  ·obtain ⟨h5,h6⟩:=h p u h2 h1 h3 h4
   rw [Gx h2,if_neg h5];exact h6⟩
theorem Rs {V w0 w:World} {gs:List Nat} (hV:Ext V w0) (hb:Below w0.heap.size w0 w):Ext (vis V w0 w gs) w :=
 ⟨by rw [E9];exact Nat.le_refl _,fun p u hp=>by
  rcases (Pr hp).2 with ⟨_,h2⟩ | ⟨_,_,h2⟩
  ·exact Am hb (hV.cell p u h2)
  ·exact h2⟩
theorem M6 {V w0 w:World} {gs:List Nat} (hV:Ext V w0) (hb:Below w0.heap.size w0 w):Ext V (vis V w0 w gs) :=
 ⟨by rw [E9];exact Nat.le_trans hV.size hb.size,fun p u hp=>by
  have hlt:=Nat.lt_of_lt_of_le (World.block_lt_of_cell? V p hp) hV.size
  rw [Gw hlt (Nat.lt_of_lt_of_le hlt hb.size)];exact hp⟩
structure Ah where
 fr:List (Nat×AV)
 bk:List BA
def Ct:List (Nat×AV)->Nat->AV
 | [],_=>.any
 | (j,a) :: r,i=>if i=j then a else Ct r i
def Ky (lo hi:Nat):List (Nat×AV)->Bool
 | []=>true
 | (_,a) :: r=>a.off lo hi&&Ky lo hi r
theorem Qz {lo hi:Nat} : ∀ {fr:List (Nat×AV)},Ky lo hi fr=true->∀ i,(Ct fr i).off lo hi=true
 | [],_,_=>rfl
 | (j,a) :: r,h,i=>by
  simp only [Ky,Bool.and_eq_true] at h
  simp only [Ct]
  split
  ·exact h.1
  ·exact Qz h.2 i
structure Nd where
 n:Nat
 fx:List Nat
 rnd:Bool:=false
structure Fm where
 nd:Nd
 fix:Nat->Value
 ds:List Nat
 hold:Nat->Option Obj
 lo:Nat
def Fm.fine (m:Fm) (w0:World):Prop:=m.ds.Nodup/\∀ D∈m.ds,w0.heap.size<=D/\m.hold D=some (.deferred (some []))
structure Fm.le (m m':Fm):Prop where
 nd:m'.nd=m.nd
 fix:m'.fix=m.fix
 lo:m.lo<=m'.lo
 ds:m.nd.rnd=true->m'.ds=m.ds
 hold:∀ g o,m.hold g=some o->m'.hold g=some o
theorem Fm.le.refl (m:Fm):Fm.le m m:=⟨rfl,rfl,Nat.le_refl _,fun _=>rfl,fun _ _ h=>h⟩
theorem Fm.le.trans {m m' m'':Fm} (h:Fm.le m m') (h':Fm.le m' m''):Fm.le m m'':=⟨h'.nd.trans h.nd,h'.fix.trans h.fix,Nat.le_trans h.lo h'.lo,fun e=>(h'.ds (by rw [h.nd];exact e)).trans (h.ds e),fun g o hg=>h'.hold g o (h.hold g o hg)⟩
structure St (V w0:World) (n:Fm) (E:Env) (σ:Ah) (a:Act) (w:World):Prop where
 ext:Ext V w0
 low:Below w0.heap.size w0 w
 apart:(Ac E σ.bk).Nodup
 base:∀ g∈Ac E σ.bk,w0.heap.size<=g
 holds:∀ b∈σ.bk,b.holds E (vis V w0 w (Ac E σ.bk)) w w0.heap.size
 slots:∀ i,Bb E (vis V w0 w (Ac E σ.bk)) (a.tmps.getD i undef) (Ct σ.fr i)
 size:a.tmps.size=n.nd.n/\∀ i∈n.nd.fx,a.tmps.getD i undef=n.fix i
 defers:a.defers=Mg n.ds/\n.fine w0
 hold:n.lo<=w.heap.size/\∀ g o,n.hold g=some o->w.heap[g]? = some o/\g∉Ac E σ.bk
section
variable {V w0 : World} {n : Fm} {E : Env} {σ : Ah} {a : Act} {w : World}
theorem BA.holds_ext {E E':Env} {lo hi:Nat} (hE:Env.same lo hi E E') {X X' w w':World} (he:Ext X X') {b:BA} {base:Nat} (hw:∀ g∈b.owned E,w'.heap[g]? = w.heap[g]?) (hb:b.off lo hi=true) (h:b.holds E X w base):b.holds E' X' w' base:=by
 cases b with
 | box b cs =>
  simp only [BA.off,Bool.and_eq_true,Bool.or_eq_true,decide_eq_true_eq] at hb
  obtain ⟨C,t,h1,h2⟩:=h
  refine ⟨C,t,?_,h2.ext hE he hb.2⟩
  rw [(hE b hb.1).1]
  exact (hw _ (by simp [BA.owned])).trans h1
 | arr b cs =>
  simp only [BA.off,Bool.or_eq_true,decide_eq_true_eq] at hb
  obtain ⟨C,t,h1,h2⟩:=h
  refine ⟨C,t,?_,h2.ext he⟩
  rw [(hE b hb).1]
  exact (hw _ (by simp [BA.owned])).trans h1
 | row b e k l =>
  simp only [BA.off,Bool.or_eq_true,decide_eq_true_eq] at hb
  obtain ⟨h1,h2⟩:=h
  refine ⟨?_,by rw [(hE b hb).1,(hE b hb).2];exact h2⟩
  rw [(hE b hb).2]
  obtain ⟨xs,⟨h3,h4⟩,h5,h6⟩:=h1
  refine ⟨xs,⟨h3,h4.elim Or.inl fun ⟨g,cap,cur,e1,e2,e3,r⟩=>.inr ⟨g,cap,cur,e1,e2,?_,r⟩⟩,h5.mono fun _ _ h=>h.ext he,h6⟩
  exact (hw g (by simp [BA.owned,e1,Value.ownBlock])).trans e3
 | mp b k kv =>
  simp only [BA.off,Bool.or_eq_true,decide_eq_true_eq] at hb
  obtain ⟨es,c,h1,h2⟩:=h
  refine ⟨es,c,?_,h2⟩
  rw [(hE b hb).1]
  exact (hw _ (by simp [BA.owned])).trans h1
 | opq b F=>exact fun p hp=>(hw _ (List.mem_map_of_mem hp)).trans (h p hp)
theorem BA.owned_lt {E:Env} {X w:World} {base:Nat} {b:BA} (h:b.holds E X w base):∀ g∈b.owned E,g < w.heap.size:=by
 intro g hg
 cases b with
 | box b cs =>
  obtain ⟨C,t,h1,h2⟩:=h
  simp only [BA.owned,List.mem_singleton] at hg
  subst hg;exact h1.lt
 | arr b cs =>
  obtain ⟨C,t,h1,h2⟩:=h
  simp only [BA.owned,List.mem_singleton] at hg
  subst hg;exact h1.lt
 | row b e k l =>
  simp only [BA.owned,Option.mem_toList] at hg
  exact (h.1.lt g hg).2
 | mp b k kv =>
  obtain ⟨es,c,h1,h2⟩:=h
  simp only [BA.owned,List.mem_singleton] at hg
  subst hg;exact (Array.getElem?_eq_some_iff.1 h1).1
 | opq b F =>
  obtain ⟨p,hp,rfl⟩:=List.mem_map.1 hg
  exact (Array.getElem?_eq_some_iff.1 (h p hp)).1
theorem Bx {E:Env} : ∀ {bs:List BA} {g:Nat},g∈Ac E bs↔∃ b∈bs,g∈b.owned E
 | [],g=>by simp [Ac]
 | b :: bs,g=>by simp [Ac,Bx]
theorem Ki {lo hi:Nat} : ∀ {bs:List BA},Jf lo hi bs=true->∀ b∈bs,b.off lo hi=true
 | [],_,b,h=>by cases h
 | c :: bs,h,b,hb=>by
  simp only [Jf,Bool.and_eq_true] at h
  rcases List.mem_cons.1 hb with rfl | hb
  ·exact h.1
  ·exact Ki h.2 b hb
theorem St.lt (h:St V w0 n E σ a w):∀ g∈Ac E σ.bk,g < w.heap.size:=fun g hg=>by
 obtain ⟨b,hb,hg⟩:=Bx.1 hg
 exact BA.owned_lt (h.holds b hb) g hg
theorem St.in_ (h:St V w0 n E σ a w):Ext (vis V w0 w (Ac E σ.bk)) w:=Rs h.ext h.low
theorem Ag3 {a:Act} {d:Nat} (v:Value) (i:Nat) (hd:d < a.tmps.size):(a.put (some d) v).tmps.getD i undef=if i=d then v else a.tmps.getD i undef:=by
 simp only [Act.put,Array.getD_eq_getD_getElem?,Array.getElem?_setIfInBounds]
 by_cases h:i=d
 ·subst h;simp [hd]
 ·simp [h,Ne.symm h]
def J8 (dst:Option Tmp) (r:AV) (fr:List (Nat×AV)):List (Nat×AV) :=
 match dst with
 | some d=>(d,r) :: fr
 | none=>fr
theorem St.put (h:St V w0 n E σ a w) {dst:Option Tmp} (hd:∀ d,dst=some d->d < n.nd.n/\d∉n.nd.fx) {v:Value} {r:AV} (hv:Bb E (vis V w0 w (Ac E σ.bk)) v r):St V w0 n E ⟨J8 dst r σ.fr,σ.bk⟩ (a.put dst v) w:=by
 refine ⟨h.ext,h.low,h.apart,h.base,h.holds,fun i=>?_,?_,?_,h.hold⟩
 ·cases dst with
  | none=>exact h.slots i
  | some d =>
   rw [Ag3 v i (by rw [h.size.1];exact (hd d rfl).1)]
   simp only [J8,Ct]
   split
   ·exact hv
   ·exact h.slots i
 ·cases dst with
  | none=>exact h.size
  | some d =>
   refine ⟨by simp only [Act.put,Array.size_setIfInBounds];exact h.size.1,fun i hi=>?_⟩
   rw [Ag3 v i (by rw [h.size.1];exact (hd d rfl).1),if_neg (fun e:i=d=>(hd d rfl).2 (e ▸ hi))]
   exact h.size.2 i hi
 ·cases dst with
  | none=>exact h.defers
  | some d=>exact h.defers
theorem B20 (cs:List AV):AV.off.offs 0 0 cs=true:=by
 induction cs with
 | nil=>rfl
 | cons c cs ih=>simp only [AV.off.offs,Bool.and_eq_true];exact ⟨off_none 0 c,ih⟩
theorem BA.off_none (b:BA):b.off 0 0=true:=by
 cases b with
 | box b cs=>simp only [BA.off,Bool.and_eq_true,Bool.or_eq_true,decide_eq_true_eq];exact ⟨by omega,B20 cs⟩
 | arr b cs=>simp only [BA.off,Bool.or_eq_true,decide_eq_true_eq];omega
 | row b e k l=>simp only [BA.off,Bool.or_eq_true,decide_eq_true_eq];omega
 | mp b k kv=>simp only [BA.off,Bool.or_eq_true,decide_eq_true_eq];omega
 | opq b F=>simp only [BA.off,Bool.or_eq_true,decide_eq_true_eq];omega
theorem St.add {lo hi:Nat} {E':Env} {nb:List BA} {w':World} (h:St V w0 n E σ a w) (hb:Below w.heap.size w w') (hE:Env.same lo hi E E') (h1:Ky lo hi σ.fr=true) (h2:Jf lo hi σ.bk=true)
  (hnd:(Ac E' nb).Nodup) (hnew:∀ g∈Ac E' nb,w.heap.size<=g) (hh:∀ b∈nb,b.holds E' (vis V w0 w' (Ac E' nb++Ac E σ.bk)) w' w0.heap.size):St V w0 n E' ⟨σ.fr,nb++σ.bk⟩ a w':=by
 have ho:Ac E' (nb++σ.bk)=Ac E' nb++Ac E σ.bk:=by rw [Au,N6 hE h2]
 have hx:Ext (vis V w0 w (Ac E σ.bk)) (vis V w0 w' (Ac E' nb++Ac E σ.bk)):=Dl hb.size fun p u _ h4 h5 h6=>⟨fun hm=>by
  rcases List.mem_append.1 hm with hm | hm
  ·have:=hnew _ hm;omega
  ·exact h5 hm,Am hb h6⟩
 refine ⟨h.ext,h.low.trans (hb.mono h.low.size),?_,?_,?_,?_,h.size,h.defers,Nat.le_trans h.hold.1 hb.size,fun g o hg=>?hold⟩
 case hold =>
  obtain ⟨q1,q2⟩:=h.hold.2 g o hg
  have hlt:=(Array.getElem?_eq_some_iff.1 q1).1
  refine ⟨(hb.block g hlt).trans q1,fun hm=>?_⟩
  rw [ho] at hm
  rcases List.mem_append.1 hm with hm | hm
  ·have:=hnew _ hm;omega
  ·exact q2 hm
 ·rw [ho]
  refine List.nodup_append.2 ⟨hnd,h.apart,fun g hg g' hg' e=>?_⟩
  subst e
  have:=hnew _ hg
  have:=h.lt _ hg'
  omega
 ·intro g hg
  rw [ho] at hg
  rcases List.mem_append.1 hg with hg | hg
  ·have:=hnew _ hg
   have:=h.low.size
   omega
  ·exact h.base g hg
 ·intro b hbm
  simp only [ho]
  rcases List.mem_append.1 hbm with hbm | hbm
  ·exact hh b hbm
  ·exact BA.holds_ext hE hx (fun g hg=>hb.block g (h.lt g (Bx.2 ⟨b,hbm,hg⟩))) (Ki h2 b hbm) (h.holds b hbm)
 ·intro i
  simp only [ho]
  exact (h.slots i).ext hE hx (Qz h1 i)
theorem Uo:∀ (fr:List (Nat×AV)),Ky 0 0 fr=true
 | []=>rfl
 | (_,c) :: r=>by simp only [Ky,Bool.and_eq_true];exact ⟨off_none 0 c,Uo r⟩
theorem Up:∀ (bk:List BA),Jf 0 0 bk=true
 | []=>rfl
 | b :: r=>by simp only [Jf,Bool.and_eq_true];exact ⟨b.off_none,Up r⟩
theorem St.next {w':World} (h:St V w0 n E σ a w) (hb:Below w.heap.size w w'):St V w0 n E σ a w' :=
 h.add (lo:=0) (hi:=0) (nb:=[]) hb (Env.same_refl 0 0 E) (Uo _) (Up _) List.nodup_nil (fun _ hg=>by cases hg) (fun _ hg=>by cases hg)
theorem St.drew (h:St V w0 n E σ a w):St V w0 n E σ a w.drew:=h.next ((Below.refl _ w).drew)
theorem B71 {w':World} {gs gs':List Nat} (hgs:∀ g∈gs,g < w.heap.size) (h0:w0.heap.size<=w.heap.size) (hb:Below w.heap.size w w') (hg':∀ g∈gs',w.heap.size<=g):Ext (vis (vis V w0 w gs) w w' gs') (vis V w0 w' (gs'++gs)) :=
 ⟨by rw [E9,E9];exact Nat.le_refl _,fun p u hp=>by
  obtain ⟨h1,h2⟩:=Pr hp
  rcases h2 with ⟨h2,h3⟩ | ⟨h2,h3,h4⟩
  ·rcases (Pr h3).2 with ⟨h5,h6⟩ | ⟨h5,h6,h7⟩
   ·rw [Gw h5 h1];exact h6
   ·rw [Gx h5,if_neg (fun hm=>by
     rcases List.mem_append.1 hm with hm | hm
     ·have:=hg' _ hm;omega
     ·exact h6 hm)]
    exact Am hb h7
  ·rw [Gx (Nat.le_trans h0 h2),if_neg (fun hm=>by
    rcases List.mem_append.1 hm with hm | hm
    ·exact h3 hm
    ·have:=hgs _ hm;omega)]
   exact h4⟩
theorem St.turn {fr:List (Nat×AV)} {pre post:List BA} {x y:BA} {w':World} (h:St V w0 n E ⟨fr,pre++x :: post⟩ a w) (ho:y.owned E=x.owned E) (hlow:Below w0.heap.size w0 w') (hs:w.heap.size<=w'.heap.size)
  (hk:∀ g,g∉x.owned E->g < w.heap.size->w'.heap[g]? = w.heap[g]?) (hy:y.holds E (vis V w0 w (Ac E (pre++x :: post))) w' w0.heap.size):St V w0 n E ⟨fr,pre++y :: post⟩ a w':=by
 have e:Ac E (pre++y :: post)=Ac E (pre++x :: post):=by simp only [Au,Ac,ho]
 have hap:=h.apart
 have hx:Ext (vis V w0 w (Ac E (pre++x :: post))) (vis V w0 w' (Ac E (pre++x :: post))):=Dl hs fun p u _ h2 h3 h4=>⟨h3,by
  rw [World.cell?_of_block (hk p.block (fun hm=>h3 (Bx.2 ⟨x,by simp,hm⟩)) h2)];exact h4⟩
 have key:∀ b∈pre++post,b.holds E (vis V w0 w' (Ac E (pre++x :: post))) w' w0.heap.size:=by
  intro b hb
  have hbm:b∈pre++x :: post:=by
   rcases List.mem_append.1 hb with hb | hb
   ·exact List.mem_append_left _ hb
   ·exact List.mem_append_right _ (List.mem_cons_of_mem _ hb)
  refine BA.holds_ext (Env.same_refl 0 0 E) hx (fun g hg=>hk g (fun hm=>?_) (h.lt g (Bx.2 ⟨b,hbm,hg⟩))) b.off_none (h.holds b hbm)
  simp only [Au,Ac] at hap
  obtain ⟨_,h2,h3⟩:=List.nodup_append.1 hap
  obtain ⟨_,_,h4⟩:=List.nodup_append.1 h2
  rcases List.mem_append.1 hb with hb | hb
  ·exact h3 g (Bx.2 ⟨b,hb,hg⟩) g (List.mem_append_left _ hm) rfl
  ·exact h4 g hm g (Bx.2 ⟨b,hb,hg⟩) rfl
 refine ⟨h.ext,hlow,by rw [e];exact hap,by rw [e];exact h.base,?_,fun i=>?_,h.size,h.defers,Nat.le_trans h.hold.1 hs,fun g o hg=>?hold⟩
 case hold =>
  obtain ⟨q1,q2⟩:=h.hold.2 g o hg
  exact ⟨(hk g (fun hm=>q2 (Bx.2 ⟨x,by simp,hm⟩)) (Array.getElem?_eq_some_iff.1 q1).1).trans q1,by rw [e];exact q2⟩
 ·intro b hb
  simp only [e]
  rcases List.mem_append.1 hb with hb | hb
  ·exact key b (List.mem_append_left _ hb)
  ·rcases List.mem_cons.1 hb with rfl | hb
   ·have:=BA.holds_ext (Env.same_refl 0 0 E) hx (w:=w') (w':=w') (fun _ _=>rfl) b.off_none hy
    exact this
   ·exact key b (List.mem_append_right _ hb)
 ·simp only [e]
  exact (h.slots i).mono hx
theorem At.set_ {E:Env} {X:World} {vs:List Value} {cs:List AV} (h:At E X vs cs) {u:Value} {c:AV} (hu:Bb E X u c) (o:Nat):At E X (vs.set o u) (cs.set o c) :=
 ⟨by rw [List.length_set,List.length_set];exact h.1,fun j v d a b=>by
  rw [List.getElem?_set] at a b
  by_cases e:o=j
  ·subst e
   simp only [if_true] at a b
   split at a
   ·split at b
    ·obtain rfl:=Option.some.inj a
     obtain rfl:=Option.some.inj b
     exact hu
    ·cases b
   ·cases a
  ·rw [if_neg e] at a b
   exact h.2 j v d a b⟩
theorem Bl.set_ {X:World} {vs:List Value} {cs:List IV} (h:Bl X vs cs) {u:Value} {c:IV} (hu:Cs X u c) (o:Nat):Bl X (vs.set o u) (cs.set o c):=by
 refine Bl.of (by rw [List.length_set,List.length_set];exact h.len) fun j v d a b=>?_
 rw [List.getElem?_set] at a b
 by_cases e:o=j
 ·subst e
  simp only [if_true] at a b
  split at a
  ·split at b
   ·obtain rfl:=Option.some.inj a
    obtain rfl:=Option.some.inj b
    exact hu
   ·cases b
  ·cases a
 ·rw [if_neg e] at a b
  exact h.get a b
theorem St.set_box {fr:List (Nat×AV)} {pre post:List BA} {b:Nat} {cs:List AV} (h:St V w0 n E ⟨fr,pre++.box b cs :: post⟩ a w) (o:Nat) {u:Value} {c:AV} (hu:Bb E (vis V w0 w (Ac E (pre++.box b cs :: post))) u c) :
  St V w0 n E ⟨fr,pre++.box b (cs.set o c) :: post⟩ a (w.setCell ⟨E.blk b,o,none⟩ u):=by
 obtain ⟨C,t,hB,hC⟩:=h.holds (.box b cs) (by simp)
 refine h.turn (y:=.box b (cs.set o c)) rfl (h.low.setCell (h.base _ (Bx.2 ⟨.box b cs,by simp,by simp [BA.owned]⟩)) u) (by simp) (fun g hg _=>Below.heap_setCell _ _ _ _ (by simpa [BA.owned] using hg)) ⟨C.setIfInBounds o u,t,hB.set_ o u,?_⟩
 rw [Array.toList_setIfInBounds]
 exact hC.set_ hu o
theorem St.set_arr {fr:List (Nat×AV)} {pre post:List BA} {b:Nat} {cs:List IV} (h:St V w0 n E ⟨fr,pre++.arr b cs :: post⟩ a w) (o:Nat) {u:Value} {c:IV} (hu:Cs (vis V w0 w (Ac E (pre++.arr b cs :: post))) u c) :
  St V w0 n E ⟨fr,pre++.arr b (cs.set o c) :: post⟩ a (w.setCell ⟨E.blk b,o,none⟩ u):=by
 obtain ⟨C,t,hB,hC⟩:=h.holds (.arr b cs) (by simp)
 refine h.turn (y:=.arr b (cs.set o c)) rfl (h.low.setCell (h.base _ (Bx.2 ⟨.arr b cs,by simp,by simp [BA.owned]⟩)) u) (by simp) (fun g hg _=>Below.heap_setCell _ _ _ _ (by simpa [BA.owned] using hg)) ⟨C.setIfInBounds o u,t,hB.set_ o u,?_⟩
 rw [Array.toList_setIfInBounds]
 exact hC.set_ hu o
theorem St.set_row {fr:List (Nat×AV)} {pre post:List BA} {b e k:Nat} {l:List (List IV)} (h:St V w0 n E ⟨fr,pre++.row b e k l :: post⟩ a w) {i j:Nat} {x:List IV} (hi:l[i]? = some x) (hj:j < k) {u:Value} {c:IV} (hu:Cs (vis V w0 w (Ac E (pre++.row b e k l :: post))) u c) :
  St V w0 n E ⟨fr,pre++.row b e k (l.set i (x.set j c)) :: post⟩ a (w.setCell ⟨E.blk b,i*k+j,none⟩ u):=by
 obtain ⟨hO,hB⟩:=h.holds (.row b e k l) (by simp)
 rcases hO.forms with ⟨_,hl⟩ | ⟨g,cc,hg,hg1,hg2⟩
 ·rw [hl] at hi;simp at hi
 ·have hgb:g=E.blk b:=hB g (by rw [hg];rfl)
  subst hgb
  have hm:E.blk b∈Ac E (pre++.row b e k l :: post):=Bx.2 ⟨.row b e k l,by simp,by simp [BA.owned,hg,Value.ownBlock]⟩
  refine h.turn (y:=.row b e k (l.set i (x.set j c))) rfl (h.low.setCell (h.base _ hm) u) (by simp) (fun g' hg' _=>Below.heap_setCell _ _ _ _ (fun e=>hg' (by simp [BA.owned,hg,Value.ownBlock,e]))) ⟨?_,hB⟩
  rw [hg] at hO ⊢
  have:=Ae.set_ (x':=x.set j c) hO hi hj (u:=u) fun cs hc _=>hc.set_ hu j
  exact this
end
-- what is asked of types
def tyK (P:Program) (t:TypeId):Option (Nat×Nat) :=
 match P.underlying t,P.info? t with
 | some (.struct _),some i=>some (1,i.size)
 | some (.array _ _),some i=>some (2,i.size)
 | some _,some i=>some (0,i.size)
 | _,_=>none
def Ep (P:Program) (t:TypeId):Option (TypeId×Nat×Nat) :=
 match P.underlying t with
 | some (.slice e)=>(P.info? e).map fun i=>(e,i.size,i.bytes)
 | _=>none
def Wb (P:Program) (t:TypeId):Option (Nat×Nat×Nat) :=
 match P.underlying t with
 | some (.array n e)=>(tyK P e).map fun x=>(n,x.1,x.2)
 | _=>none
def Kt (P:Program) (t:TypeId):Bool :=
 match P.underlying t with
 | some .string=>true
 | _=>false
def tyF (P:Program) (t:TypeId) (f:Nat):Option (Nat×Nat×Nat) :=
 match P.underlying t with
 | some (.struct fs)=>match fs[f]? with
  | some fd=>(tyK P fd.type).map fun x=>(fd.offset,x.1,x.2)
  | none=>none
 | _=>none
def tyZ (P:Program) (t:TypeId):Option (Nat×List Value) :=
 match tyK P t,(P.info? t).bind (·.zero) with
 | some (k,_),some z=>some (k,z.cells.toList)
 | _,_=>none
def Mx (P:Program) (t:TypeId):Option (List Value×List (Nat×Nat)) :=
 match P.underlying t,(P.info? t).bind (·.zero) with
 | some (.struct fs),some z=>(fs.toList.mapM fun f=>(P.info? f.type).map fun i=>(f.offset,i.size)).map fun l=>(z.cells.toList,l)
 | some (.array n e),some z=>(P.info? e).map fun i=>(z.cells.toList,(List.range n).map fun k=>(k*i.size,i.size))
 | _,_=>none
def U5 (P:Program) (t:TypeId):Option (IntKind×Value) :=
 match P.underlying t with
 | some (.map kt et)=>match P.underlying kt,tyK P et,(P.info? et).bind (·.zero) with
  | some (.int k),some (0,1),some z=>some (k,z)
  | _,_,_=>none
 | _=>none
def Lv:List (Int×Value)->Int->Option Value
 | [],_=>none
 | (i,v) :: r,m=>if m=i then some v else Lv r m
def Mh:List (Int×Value)->Int->Value->List (Int×Value)
 | [],m,u=>[(m,u)]
 | (i,v) :: r,m,u=>if m=i then (i,u) :: r else (i,v) :: Mh r m u
theorem Uu {m n:Int} {u:Value} : ∀ {kv:List (Int×Value)},Lv (Mh kv m u) n=if n=m then some u else Lv kv n
 | []=>rfl
 | (i,v) :: r=>by
  by_cases e:m=i
  ·subst e
   simp only [Mh,if_true,Lv]
   split<;>rfl
  ·simp only [Mh,if_neg e,Lv,Uu (kv:=r)]
   by_cases e2:n=i
   ·subst e2;simp [Ne.symm e]
   ·simp [e2]
theorem A92 {k:IntKind} {m:Int} : ∀ {es:List MapEntry} {kv:List (Int×Value)} (i:Nat),es.map (fun e=>(e.key,e.val))=kv.map (fun x=>(Value.int k x.1,x.2)) ->
  (Instr.findNow (.int k) (.int k m) es i=some none/\Lv kv m=none/\∀ u,Mh kv m u=kv++[(m,u)]) \/
  (∃ j u,Instr.findNow (.int k) (.int k m) es i=some (some (i+j,u))/\Lv kv m=some u/\(∃ e,es[j]? = some e/\e.key=.int k m)/\∀ (key u':Value),key=.int k m->(es.modify j fun e=>{ e with key:=key,val:=u' }).map (fun e=>(e.key,e.val))=(Mh kv m u').map fun x=>(Value.int k x.1,x.2))
 | [],[],_,_=>.inl ⟨rfl,rfl,fun _=>rfl⟩
 | [],_ :: _,_,h=>by simp at h
 | _ :: _,[],_,h=>by simp at h
 | e :: es,(a,v) :: kv,i,h=>by
  simp only [List.map_cons,List.cons.injEq,Prod.mk.injEq] at h
  obtain ⟨⟨h1,h2⟩,h3⟩:=h
  by_cases ea:m=a
  ·subst ea
   refine .inr ⟨0,e.val,by simp [Instr.findNow,h1,Instr.sameNow],by simp [Lv,h2],⟨e,rfl,h1⟩,fun key u' hk=>?_⟩
   subst hk
   simp [Mh,h3]
  ·have hs:Instr.sameNow (.int k) (.int k m) e.key=some false:=by rw [h1];simp [Instr.sameNow,ea]
   rcases A92 (k:=k) (m:=m) (i+1) h3 with ⟨h4,h5,h6⟩ | ⟨j,u,h4,h5,h6,h7⟩
   ·exact .inl ⟨by simp only [Instr.findNow,hs,h4],by simp [Lv,ea,h5],fun u=>by simp [Mh,ea,h6]⟩
   ·refine .inr ⟨j+1,u,by simp only [Instr.findNow,hs,h4];congr 3;omega,by simp [Lv,ea,h5],by simpa using h6,fun key u' hk=>?_⟩
    simp [Mh,ea,h1,h2,h7 key u' hk]
def Ss (P:Program) (t:TypeId):Bool :=
 match P.underlying t with
 | some (.slice e)=>match P.underlying e with
  | some (.int .u8)=>true
  | _=>false
 | _=>false
theorem U6 {P:Program} {t:TypeId} (h:Ss P t=true):∃ e,P.underlying t=some (.slice e)/\P.underlying e=some (.int .u8):=by
 unfold Ss at h
 split at h
 ·rename_i e h1
  split at h
  ·rename_i h2
   exact ⟨e,h1,h2⟩
  ·cases h
 ·cases h
theorem Qt {P:Program} {t:TypeId} (h:Kt P t=true):P.underlying t=some .string:=by
 unfold Kt at h
 split at h
 ·assumption
 ·cases h
def Zw (bs:List Nat):ByteArray:=strOfNums (bs.map fun (b:Nat)=>(b:Int))
def byR (bs:List Nat):List (List IV):=bs.map fun (b:Nat)=>[IV.val (.int .u8 b)]
def L4 (s:ByteArray):List Nat:=s.data.toList.map UInt8.toNat
def Sr (P:Program) (t:TypeId):Option IntKind :=
 match P.underlying t with
 | some (.int k)=>some k
 | _=>none
section
variable {P : Program} {w : World} {t : TypeId}
theorem Fv {k s:Nat} (h:tyK P t=some (k,s)):(isAgg t).run P w=.ok (decide (k≠0)) w/\(sizeOf t).run P w=.ok s w:=by
 unfold tyK at h
 cases hu:P.underlying t with
 | none=>rw [hu] at h;simp at h
 | some d =>
  cases hi:P.info? t with
  | none=>rw [hu,hi] at h;cases d<;>simp at h
  | some i =>
   rw [hu,hi] at h
   have h2:(sizeOf t).run P w=.ok i.size w:=by simp [sizeOf,typeInfo,hi]
   rw [h2]
   cases d<;>simp at h<;>obtain ⟨rfl,rfl⟩:=h<;>simp [isAgg,run_underlying hu]
theorem Li {e k y:Nat} (h:Ep P t=some (e,k,y)):P.underlying t=some (.slice e)/\∃ i,P.info? e=some i/\i.size=k/\i.bytes=y:=by
 unfold Ep at h
 split at h
 ·rename_i e' hu
  simp only [Option.map_eq_some_iff,Prod.mk.injEq] at h
  obtain ⟨i,hi,rfl,rfl,rfl⟩:=h
  exact ⟨hu,i,hi,rfl,rfl⟩
 ·cases h
theorem Xc {n q k:Nat} (h:Wb P t=some (n,q,k)):∃ e,P.underlying t=some (.array n e)/\tyK P e=some (q,k):=by
 unfold Wb at h
 split at h
 ·rename_i n' e hu
  simp only [Option.map_eq_some_iff,Prod.mk.injEq] at h
  obtain ⟨⟨q',k'⟩,hi,rfl,rfl,rfl⟩:=h
  exact ⟨e,hu,hi⟩
 ·cases h
theorem Au4 {f off k s:Nat} (h:tyF P t f=some (off,k,s)):∃ fs fd,P.underlying t=some (.struct fs)/\fs[f]? = some fd/\fd.offset=off/\tyK P fd.type=some (k,s):=by
 unfold tyF at h
 split at h
 ·rename_i fs hu
  split at h
  ·rename_i fd hf
   simp only [Option.map_eq_some_iff,Prod.mk.injEq] at h
   obtain ⟨⟨k',s'⟩,hk,rfl,rfl,rfl⟩:=h
   exact ⟨fs,fd,hu,hf,rfl,hk⟩
  ·cases h
 ·cases h
theorem Xb {k:IntKind} {z:Value} (h:U5 P t=some (k,z)):∃ kt et,P.underlying t=some (.map kt et)/\P.underlying kt=some (.int k)/\(zeroValue et).run P w=.ok z w:=by
 unfold U5 at h
 split at h
 ·rename_i kt et hu
  split at h
  ·rename_i k' z' h1 h2 h3
   simp only [Option.some.injEq,Prod.mk.injEq] at h
   obtain ⟨rfl,rfl⟩:=h
   obtain ⟨i,hi,hz⟩:=Option.bind_eq_some_iff.1 h3
   exact ⟨kt,et,hu,h1,by simp [zeroValue,typeInfo,hi,hz]⟩
  ·cases h
 ·cases h
theorem Au3 {k:Nat} {zs:List Value} (h:tyZ P t=some (k,zs)):∃ z,(zeroValue t).run P w=.ok z w/\z.cells.toList=zs/\∃ s,tyK P t=some (k,s):=by
 unfold tyZ at h
 split at h
 ·rename_i k' s' z hk hz
  simp only [Option.some.injEq,Prod.mk.injEq] at h
  obtain ⟨rfl,rfl⟩:=h
  obtain ⟨i,hi,hz⟩:=Option.bind_eq_some_iff.1 hz
  exact ⟨z,by simp [zeroValue,typeInfo,hi,hz],rfl,s',hk⟩
 ·cases h
end
-- operands
def nrm:AV->AV
 | .iv (.val v)=>.val v
 | .iv (.pt cs)=>.ip cs
 | a=>a
def ev (fr:List (Nat×AV)):Operand->AV
 | .tmp t=>Ct fr t
 | .const v=>match v with
  | .agg cs=>.agg (cs.toList.map AV.val)
  | v=>.val v
 | .global g=>.val (.pointer (some ⟨g,0,none⟩))
 | .func f=>.fn f []
theorem Bb.nrm_ {E:Env} {X:World} {v:Value} {c:AV} (h:Bb E X v c):Bb E X v (nrm c):=by
 cases h with
 | iv h =>
  cases h with
  | val h=>exact .val
  | nil h=>exact .iv (.nil h)
  | sl f h0 h1 h2 h3 h4 h5 h6=>exact .iv (.sl f h0 h1 h2 h3 h4 h5 h6)
  | pt f h1 h2=>exact .ip f h1 h2
 | any=>exact .any
 | val=>exact .val
 | ip f h1 h2=>exact .ip f h1 h2
 | bp=>exact .bp
 | rp=>exact .rp
 | own h=>exact .own h
 | mv=>exact .mv
 | agg h1 h2=>exact .agg h1 h2
 | aggI h=>exact .aggI h
 | tup h1 h2=>exact .tup h1 h2
 | fn h1 h2=>exact .fn h1 h2
theorem Bb.agg_vals {E:Env} {X:World} (cs:Array Value):Bb E X (.agg cs) (.agg (cs.toList.map AV.val)) :=
 .agg (by simp) fun j v c a b=>by
  rw [List.getElem?_map,Array.getElem?_toList,a] at b
  simp at b;subst b;exact .val
theorem St.ev {V w0:World} {n:Fm} {E:Env} {σ:Ah} {a:Act} {w:World} (h:St V w0 n E σ a w) (x:Operand):Bb E (vis V w0 w (Ac E σ.bk)) (a.eval x) (ev σ.fr x):=by
 cases x with
 | tmp t=>exact h.slots t
 | const v=>cases v<;>first | exact .val | exact Bb.agg_vals _
 | global g=>exact .val
 | func f=>exact .fn rfl fun j v c a b=>by simp at a
def Wd:AV->Bool
 | .val (.agg _)=>false
 | .val (.tuple _)=>false
 | .val _=>true
 | .iv _=>true
 | .ip _=>true
 | .bp _ _=>true
 | .rp _ _ _ _=>true
 | .own _=>true
 | .mv _=>true
 | .fn _ _=>true
 | _=>false
theorem Bb.sing_ {E:Env} {X:World} {v:Value} {c:AV} (h:Bb E X v c) (hs:Wd c=true):v.oneCell'=true/\v.cells=#[v]:=by
 cases h with
 | any=>simp [Wd] at hs
 | val=>cases v<;>first | exact ⟨rfl,rfl⟩ | simp [Wd] at hs
 | iv h=>cases h with
  | val h=>cases v<;>first | exact ⟨rfl,rfl⟩ | exact h.elim
  | nil h=>exact ⟨rfl,rfl⟩
  | sl f=>exact ⟨rfl,rfl⟩
  | pt f=>exact ⟨rfl,rfl⟩
 | ip f h1 h2=>exact ⟨rfl,rfl⟩
 | bp=>exact ⟨rfl,rfl⟩
 | rp=>exact ⟨rfl,rfl⟩
 | own h=>exact ⟨rfl,rfl⟩
 | mv=>exact ⟨rfl,rfl⟩
 | agg h1 h2=>simp [Wd] at hs
 | aggI h=>simp [Wd] at hs
 | tup h1 h2=>simp [Wd] at hs
 | fn h1 h2=>exact ⟨rfl,rfl⟩
def Ad5:List AV->Bool
 | []=>true
 | c :: cs=>Wd c&&Ad5 cs
theorem A01:∀ {cs:List AV},Ad5 cs=true->∀ {j:Nat} {c:AV},cs[j]? = some c->Wd c=true
 | [],_,j,c,h=>by simp at h
 | d :: cs,h,0,c,e=>by
  simp only [Ad5,Bool.and_eq_true] at h
  simp at e;subst e;exact h.1
 | d :: cs,h,j+1,c,e=>by
  simp only [Ad5,Bool.and_eq_true] at h
  exact A01 h.2 (by simpa using e)
def Bh:AV->List AV
 | .agg cs=>cs
 | .aggI cs=>cs.map AV.iv
 | c=>[c]
def okC:AV->Bool
 | .agg cs=>Ad5 cs
 | .aggI _=>true
 | c=>Wd c
theorem Bb.cells {E:Env} {X:World} {v:Value} {c:AV} (h:Bb E X v c) (hs:okC c=true):At E X v.cells.toList (Bh c)/\∀ u∈v.cells.toList,u.oneCell'=true:=by
 have one:Wd c=true->At E X v.cells.toList [c]/\∀ u∈v.cells.toList,u.oneCell'=true:=fun hs=>by
  obtain ⟨h1,h2⟩:=h.sing_ hs
  rw [h2]
  exact ⟨At.cons h At.nil,fun u hu=>by simp at hu;subst hu;exact h1⟩
 cases h with
 | any=>simp [okC,Wd] at hs
 | val=>exact one hs
 | iv h=>exact one hs
 | ip f h1 h2=>exact one hs
 | bp=>exact one hs
 | rp=>exact one hs
 | own h=>exact one hs
 | mv=>exact one hs
 | tup h1 h2=>simp [okC,Wd] at hs
 | fn h1 h2=>exact one hs
 | @agg vs cs h1 h2 =>
  refine ⟨⟨by simpa [Value.cells,Bh] using h1,fun j v c a b=>h2 j v c (by simpa [Value.cells] using a) b⟩,fun u hu=>?_⟩
  obtain ⟨j,hj⟩:=List.mem_iff_getElem?.1 hu
  have hlt:=(List.getElem?_eq_some_iff.1 hj).1
  have hj':vs[j]? = some u:=by simpa [Value.cells] using hj
  have hlt':j < cs.length:=by rw [<-h1];exact (Array.getElem?_eq_some_iff.1 hj').1
  exact ((h2 j u _ hj' (List.getElem?_eq_getElem hlt')).sing_ (A01 hs (List.getElem?_eq_getElem hlt'))).1
 | @aggI vs cs h=>exact ⟨h.as,fun u hu=>h.one u hu⟩
def toI:AV->Option IV
 | .val v=>some (.val v)
 | .iv i=>some i
 | .ip cs=>some (.pt cs)
 | _=>none
def okA:AV->Prop
 | .val v=>okV v
 | _=>True
def toIs:List AV->Option (List IV)
 | []=>some []
 | c :: cs=>match toI c,toIs cs with
  | some i,some is=>some (i :: is)
  | _,_=>none
def Ft:List AV->Prop
 | []=>True
 | c :: cs=>okA c/\Ft cs
theorem Bb.toI {E:Env} {X:World} {v:Value} {c:AV} {i:IV} (h:Bb E X v c) (hi:toI c=some i) (ho:okA c):Cs X v i:=by
 cases h<;>simp [Go.Proofs.YthlgnjlpakimaaaGreatDoor.toI] at hi
 ·subst hi;exact .val ho
 ·subst hi;assumption
 ·rename_i f h1 h2;subst hi;exact .pt f h1 h2
theorem At.toIs {E:Env} {X:World} : ∀ {vs:List Value} {cs:List AV} {is:List IV},At E X vs cs->toIs cs=some is->Ft cs->Bl X vs is
 | vs,[],is,h,hi,_=>by
  simp [Go.Proofs.YthlgnjlpakimaaaGreatDoor.toIs] at hi
  subst hi
  rw [At.nil_iff.1 h]
  trivial
 | vs,c :: cs,is,h,hi,ho=>by
  obtain ⟨v,vs',rfl,h1,h2⟩:=At.cons_iff.1 h
  simp only [Go.Proofs.YthlgnjlpakimaaaGreatDoor.toIs] at hi
  split at hi
  ·rename_i i is' e1 e2
   obtain rfl:=Option.some.inj hi
   exact ⟨h1.toI e1 ho.1,At.toIs h2 e2 ho.2⟩
  ·cases hi
-- blocks by name
def Cd (b:Nat):List BA->Option BA
 | []=>none
 | x :: r=>if x.id=b then some x else Cd b r
def D2 (b:Nat) (y:List BA):List BA->List BA
 | []=>[]
 | x :: r=>if x.id=b then y++r else x :: D2 b y r
theorem De {b:Nat} {x:BA} : ∀ {bk:List BA},Cd b bk=some x->∃ pre post,bk=pre++x :: post/\x.id=b/\∀ y,D2 b y bk=pre++(y++post)
 | [],h=>by cases h
 | z :: r,h=>by
  simp only [Cd] at h
  by_cases e:z.id=b
  ·rw [if_pos e] at h
   obtain rfl:=Option.some.inj h
   exact ⟨[],r,rfl,e,fun y=>by simp [D2,e]⟩
  ·rw [if_neg e] at h
   obtain ⟨pre,post,h1,h2,h3⟩:=De h
   exact ⟨z :: pre,post,by rw [h1];rfl,h2,fun y=>by simp [D2,e,h3 y]⟩
theorem J1 {b:Nat} {x:BA} {bk:List BA} (h:Cd b bk=some x):x∈bk/\x.id=b:=by
 obtain ⟨pre,post,e,h2,_⟩:=De h
 exact ⟨by rw [e];simp,h2⟩
def Es {α:Type} (cs:List α) (o:Nat):List α->List α
 | []=>cs
 | d :: ds=>Es (cs.set o d) (o+1) ds
def A7 (P:Program) (G:World->Prop) (f:FuncId) (args:List AV) (r:AV) (nb:List BA):Prop :=
 (∀ (vs:Array Value) (w:World),(callFunc f vs).run P w=.ok (.enter f vs) w) /\
 ∀ (V w:World) (E:Env) (vs:Array Value),Ext V w->G w->At E V vs.toList args->Calls P f vs w fun e w'=>∃ v E',e=.returned v/\Below w.heap.size w w'/\(Ac E' nb).Nodup/\(∀ g∈Ac E' nb,w.heap.size<=g) /\
  (∀ b∈nb,b.holds E' (vis V w w' (Ac E' nb)) w' w.heap.size)/\Bb E' (vis V w w' (Ac E' nb)) v r
def cid (dst:Option Tmp):Nat :=
 match dst with
 | some d=>100*(d+1)
 | none=>0
def AV.sh (c:Nat):AV->AV
 | .bp b o=>.bp (b+c) o
 | .rp b k i j=>.rp (b+c) k i j
 | .own b=>.own (b+c)
 | .mv b=>.mv (b+c)
 | .agg cs=>.agg (shs c cs)
 | .tup cs=>.tup (shs c cs)
 | .fn f cs=>.fn f (shs c cs)
 | a=>a
where shs (c:Nat):List AV->List AV
 | []=>[]
 | a :: l=>AV.sh c a :: shs c l
def AV.small:AV->Bool
 | .bp b _=>Nat.blt b 100
 | .rp b _ _ _=>Nat.blt b 100
 | .own b=>Nat.blt b 100
 | .mv b=>Nat.blt b 100
 | .agg cs=>smalls cs
 | .tup cs=>smalls cs
 | .fn _ cs=>smalls cs
 | _=>true
where smalls:List AV->Bool
 | []=>true
 | a :: l=>AV.small a&&smalls l
def BA.sh (c:Nat):BA->BA
 | .box b cs=>.box (b+c) (AV.sh.shs c cs)
 | .arr b cs=>.arr (b+c) cs
 | .row b e k l=>.row (b+c) e k l
 | .mp b k kv=>.mp (b+c) k kv
 | .opq b F=>.opq (b+c) F
def BA.small:BA->Bool
 | .box b cs=>Nat.blt b 100&&AV.small.smalls cs
 | .arr b _=>Nat.blt b 100
 | .row b _ _ _=>Nat.blt b 100
 | .mp b _ _=>Nat.blt b 100
 | .opq b _=>Nat.blt b 100
def shB (c:Nat):List BA->List BA
 | []=>[]
 | b :: bs=>b.sh c :: shB c bs
def Mp:List BA->Bool
 | []=>true
 | b :: bs=>b.small&&Mp bs
def Env.join (E E':Env) (c:Nat):Env:=⟨fun b=>if c<=b/\b < c+100 then E'.blk (b - c) else E.blk b,fun b=>if c<=b/\b < c+100 then E'.row (b - c) else E.row b⟩
theorem Env.join_same (E E':Env) (c:Nat):Env.same c (c+100) E (Env.join E E' c):=fun b hb=>by
 have:¬ (c<=b/\b < c+100):=by omega
 simp only [Env.join,if_neg this];exact ⟨trivial,trivial⟩
theorem Env.join_sh (E E':Env) (c:Nat) {b:Nat} (h:b < 100):(Env.join E E' c).blk (b+c)=E'.blk b/\(Env.join E E' c).row (b+c)=E'.row b:=by
 have h1:c<=b+c/\b+c < c+100:=by omega
 simp only [Env.join,if_pos h1,Nat.add_sub_cancel];exact ⟨trivial,trivial⟩
theorem Sz {c:Nat} : ∀ {cs:List AV} {j:Nat},(AV.sh.shs c cs)[j]? = (cs[j]?).map (AV.sh c)
 | [],j=>by simp [AV.sh.shs]
 | _ :: _,0=>by simp [AV.sh.shs]
 | _ :: cs,j+1=>by simp only [AV.sh.shs,List.getElem?_cons_succ];exact Sz
theorem Sy {c:Nat} : ∀ {cs:List AV},(AV.sh.shs c cs).length=cs.length
 | []=>rfl
 | _ :: cs=>congrArg Nat.succ (Sy (cs:=cs))
theorem Lo:∀ {cs:List AV},AV.small.smalls cs=true->∀ {j:Nat} {c:AV},cs[j]? = some c->c.small=true
 | [],_,j,c,h=>by simp at h
 | d :: cs,h,0,c,e=>by
  simp only [AV.small.smalls,Bool.and_eq_true] at h
  simp at e;subst e;exact h.1
 | d :: cs,h,j+1,c,e=>by
  simp only [AV.small.smalls,Bool.and_eq_true] at h
  exact Lo h.2 (by simpa using e)
theorem Ex {a b:Nat} : Nat.blt a b=true↔a < b:=by simp [Nat.blt_eq]
theorem Bb.sh {E E':Env} {X:World} {c:Nat} {v:Value} {a:AV} (h:Bb E' X v a):a.small=true->Bb (Env.join E E' c) X v (a.sh c):=by
 induction h with
 | any=>exact fun _=>.any
 | val=>exact fun _=>.val
 | iv h=>exact fun _=>.iv h
 | ip f h1 h2=>exact fun _=>.ip f h1 h2
 | @bp b o=>exact fun hb=>by rw [<-(Env.join_sh E E' c (Ex.1 hb)).1];exact .bp
 | @rp b k i j=>exact fun hb=>by rw [<-(Env.join_sh E E' c (Ex.1 hb)).1];exact .rp
 | @own b A n cc h=>exact fun hb=>.own ((Env.join_sh E E' c (Ex.1 hb)).2.trans h)
 | @mv b=>exact fun hb=>by rw [<-(Env.join_sh E E' c (Ex.1 hb)).1];exact .mv
 | aggI h=>exact fun _=>.aggI h
 | agg h1 h2 ih =>
  exact fun hb=>.agg (by rw [Sy];exact h1) fun j v d a b=>by
   rw [Sz,Option.map_eq_some_iff] at b
   obtain ⟨d',hd,rfl⟩:=b
   exact ih j v d' a hd (Lo hb hd)
 | tup h1 h2 ih =>
  exact fun hb=>.tup (by rw [Sy];exact h1) fun j v d a b=>by
   rw [Sz,Option.map_eq_some_iff] at b
   obtain ⟨d',hd,rfl⟩:=b
   exact ih j v d' a hd (Lo hb hd)
 | fn h1 h2 ih =>
  exact fun hb=>.fn (by rw [Sy];exact h1) fun j v d a b=>by
   rw [Sz,Option.map_eq_some_iff] at b
   obtain ⟨d',hd,rfl⟩:=b
   exact ih j v d' a hd (Lo hb hd)
theorem At.sh {E E':Env} {X:World} {c:Nat} {vs:List Value} {cs:List AV} (h:At E' X vs cs) (hs:AV.small.smalls cs=true):At (Env.join E E' c) X vs (AV.sh.shs c cs) :=
 ⟨by rw [Sy];exact h.1,fun j v d a b=>by
  rw [Sz,Option.map_eq_some_iff] at b
  obtain ⟨d',hd,rfl⟩:=b
  exact (h.2 j v d' a hd).sh (Lo hs hd)⟩
theorem BA.sh_owned {E E':Env} {c:Nat} {b:BA} (h:b.small=true):(b.sh c).owned (Env.join E E' c)=b.owned E':=by
 cases b with
 | box b cs=>simp only [BA.small,Bool.and_eq_true] at h;simp only [BA.sh,BA.owned,(Env.join_sh E E' c (Ex.1 h.1)).1]
 | arr b cs=>simp only [BA.sh,BA.owned,(Env.join_sh E E' c (Ex.1 h)).1]
 | row b e k l=>simp only [BA.sh,BA.owned,(Env.join_sh E E' c (Ex.1 h)).2]
 | mp b k kv=>simp only [BA.sh,BA.owned,(Env.join_sh E E' c (Ex.1 h)).1]
 | opq b F=>rfl
theorem Xo {E E':Env} {c:Nat} : ∀ {bs:List BA},Mp bs=true->Ac (Env.join E E' c) (shB c bs)=Ac E' bs
 | [],_=>rfl
 | b :: bs,h=>by
  simp only [Mp,Bool.and_eq_true] at h
  simp only [shB,Ac,BA.sh_owned h.1,Xo h.2]
theorem A58 {c:Nat} : ∀ {bs:List BA} {x:BA},x∈shB c bs->∃ b∈bs,x=b.sh c
 | b :: bs,x,h=>by
  simp only [shB] at h
  rcases List.mem_cons.1 h with rfl | h
  ·exact ⟨b,by simp,rfl⟩
  ·obtain ⟨b',h1,h2⟩:=A58 h
   exact ⟨b',List.mem_cons_of_mem _ h1,h2⟩
theorem Rz:∀ {bs:List BA},Mp bs=true->∀ b∈bs,b.small=true
 | [],_,b,h=>by cases h
 | c :: bs,h,b,hb=>by
  simp only [Mp,Bool.and_eq_true] at h
  rcases List.mem_cons.1 hb with rfl | hb
  ·exact h.1
  ·exact Rz h.2 b hb
theorem BA.sh_holds {E E':Env} {X w:World} {base c:Nat} {b:BA} (h:b.holds E' X w base) (hs:b.small=true):(b.sh c).holds (Env.join E E' c) X w base:=by
 cases b with
 | box b cs =>
  simp only [BA.small,Bool.and_eq_true] at hs
  obtain ⟨C,t,h1,h2⟩:=h
  exact ⟨C,t,by rw [(Env.join_sh E E' c (Ex.1 hs.1)).1];exact h1,h2.sh hs.2⟩
 | arr b cs =>
  obtain ⟨C,t,h1,h2⟩:=h
  exact ⟨C,t,by rw [(Env.join_sh E E' c (Ex.1 hs)).1];exact h1,h2⟩
 | row b e k l =>
  obtain ⟨h1,h2⟩:=h
  obtain ⟨e1,e2⟩:=Env.join_sh E E' c (Ex.1 hs)
  exact ⟨by rw [e2];exact h1,by rw [e1,e2];exact h2⟩
 | mp b k kv =>
  obtain ⟨es,cl,h1,h2⟩:=h
  exact ⟨es,cl,by rw [(Env.join_sh E E' c (Ex.1 hs)).1];exact h1,h2⟩
 | opq b F=>exact h
theorem BA.holds_base {E:Env} {X w:World} {base base':Nat} {b:BA} (h:b.holds E X w base) (hb:base'<=base):b.holds E X w base':=by
 cases b with
 | box b cs=>exact h
 | arr b cs=>exact h
 | row b e k l=>exact ⟨h.1.base hb,h.2⟩
 | mp b k kv=>exact h
 | opq b F=>exact h
-- what is lent to a callee that reads alone
def Ks (B:Nat->Option BA):AV->AV
 | .own b=>match B b with
  | some (.row _ _ k l)=>.iv (.sl k l)
  | _=>.any
 | .bp b o=>match B b with
  | some (.arr _ cs)=>.ip (cs.drop o)
  | some (.box _ cs)=>match toIs cs with
   | some is=>.ip (is.drop o)
   | none=>.any
  | _=>.any
 | .agg cs=>.agg (viewAs cs)
 | .tup cs=>.tup (viewAs cs)
 | .fn f cs=>.fn f (viewAs cs)
 | a=>a
where viewAs:List AV->List AV
 | []=>[]
 | a :: l=>Ks B a :: viewAs l
def Ar5 (B:Nat->Option BA):Prop:=∀ b b' cs,B b=some (BA.box b' cs)->Ft cs
def Wf:List BA->Prop
 | []=>True
 | .box _ cs :: r=>Ft cs/\Wf r
 | _ :: r=>Wf r
theorem A29:∀ {bk:List BA},Wf bk->Ar5 fun b=>Cd b bk
 | [],_,b,b',cs,h=>by cases h
 | x :: r,ho,b,b',cs,h=>by
  simp only [Cd] at h
  have hr:Wf r:=by cases x<;>first | exact ho | exact ho.2
  split at h
  ·obtain rfl:=Option.some.inj h
   exact ho.1
  ·exact A29 hr b b' cs h
def Ku:AV->Bool
 | .any=>true
 | .val _=>true
 | .iv (.val _)=>true
 | .iv (.sl _ [])=>true
 | .own _=>true
 | .agg cs=>flats cs
 | .tup cs=>flats cs
 | _=>false
where flats:List AV->Bool
 | []=>true
 | a :: l=>Ku a&&flats l
def Aw8 (nb:List BA):Prop:=∀ b∈nb,∃ i e k l,b=.row i e k l/\∀ cs∈l,∀ x∈cs,∃ v,x=.val v
theorem Lh {B:Nat->Option BA} : ∀ {cs:List AV} {j:Nat},(Ks.viewAs B cs)[j]? = (cs[j]?).map (Ks B)
 | [],j=>by simp [Ks.viewAs]
 | _ :: _,0=>by simp [Ks.viewAs]
 | _ :: cs,j+1=>by simp only [Ks.viewAs,List.getElem?_cons_succ];exact Lh
theorem Lg {B:Nat->Option BA} : ∀ {cs:List AV},(Ks.viewAs B cs).length=cs.length
 | []=>rfl
 | _ :: cs=>congrArg Nat.succ (Lg (cs:=cs))
theorem Ux:∀ {cs:List AV},Ku.flats cs=true->∀ {j:Nat} {c:AV},cs[j]? = some c->Ku c=true
 | [],_,j,c,h=>by simp at h
 | d :: cs,h,0,c,e=>by
  simp only [Ku.flats,Bool.and_eq_true] at h
  simp at e;subst e;exact h.1
 | d :: cs,h,j+1,c,e=>by
  simp only [Ku.flats,Bool.and_eq_true] at h
  exact Ux h.2 (by simpa using e)
theorem Bb.flat {E:Env} {X X':World} {v:Value} {a:AV} (h:Bb E X v a):Ku a=true->Bb E X' v a:=by
 induction h with
 | any=>exact fun _=>.any
 | val=>exact fun _=>.val
 | iv h =>
  exact fun hf=>by
   cases h with
   | val h=>exact .iv (.val h)
   | nil h=>exact .iv (.nil h)
   | @sl b off c k l f h0 h1 h2 h3 h4 h5 h6 =>
    cases l with
    | nil=>exact .iv (.nil h3)
    | cons=>simp [Ku] at hf
   | pt f=>simp [Ku] at hf
 | ip f h1 h2=>exact fun hf=>by simp [Ku] at hf
 | bp=>exact fun hf=>by simp [Ku] at hf
 | rp=>exact fun hf=>by simp [Ku] at hf
 | own h=>exact fun _=>.own h
 | mv=>exact fun hf=>by simp [Ku] at hf
 | aggI h=>exact fun hf=>by simp [Ku] at hf
 | agg h1 h2 ih=>exact fun hf=>.agg h1 fun j v c a b=>ih j v c a b (Ux hf b)
 | tup h1 h2 ih=>exact fun hf=>.tup h1 fun j v c a b=>ih j v c a b (Ux hf b)
 | fn h1 h2 ih=>exact fun hf=>by simp [Ku] at hf
theorem Bl.flat {X X':World} {vs:List Value} {is:List IV} (h:Bl X vs is) (hf:∀ x∈is,∃ v,x=.val v):Bl X' vs is :=
 Bl.of h.len fun j v i a b=>by
  obtain ⟨u,rfl⟩:=hf i (List.mem_of_getElem? b)
  have:=h.get a b
  cases this with
  | val h=>exact .val h
theorem Bu.mono_memE {α:Type} {R R':List Value->α->Prop} {k:Nat} : ∀ {xs:List Value} {l:List α},(∀ cs x,x∈l->R cs x->R' cs x)->Bu R k xs l->Bu R' k xs l
 | _,[],_,h=>h
 | _,x :: _,hR,⟨cs,rest,e,hk,h1,h⟩=>⟨cs,rest,e,hk,hR _ _ (by simp) h1,Bu.mono_memE (fun cs y hy=>hR cs y (List.mem_cons_of_mem _ hy)) h⟩
theorem BA.flat_holds {E:Env} {X X' w:World} {base:Nat} {nb:List BA} (hf:Aw8 nb) {b:BA} (hb:b∈nb) (h:b.holds E X w base):b.holds E X' w base:=by
 obtain ⟨i,e,k,l,rfl,hl⟩:=hf b hb
 obtain ⟨⟨xs,h1,h2,h3⟩,h4⟩:=h
 exact ⟨⟨xs,h1,Bu.mono_memE (fun cs x hx h=>h.flat (hl x hx)) h2,h3⟩,h4⟩
section
variable {V w0 : World} {n : Fm} {E : Env} {σ : Ah} {a : Act} {w : World}
theorem St.view (h:St V w0 n E σ a w) {B:Nat->Option BA} (hB:∀ b x,B b=some x->x∈σ.bk/\x.id=b) (hl:Ar5 B) {v:Value} {c:AV} (hv:Bb E (vis V w0 w (Ac E σ.bk)) v c):Bb E (vis V w0 w []) v (Ks B c):=by
 have hx:Ext (vis V w0 w (Ac E σ.bk)) (vis V w0 w []):=Dl (Nat.le_refl _) fun p u _ _ _ h4=>⟨by simp,h4⟩
 have blkc:∀ {g:Nat} {t:TypeId} {C:Array Value},w0.heap.size<=g->Blk w g t C->∀ (j:Nat) u,C[j]? = some u->(vis V w0 w []).cell? ⟨g,j,none⟩=some u:=fun hg hB j u hu=>by
  rw [Gx hg,if_neg (by simp),hB.cell];exact hu
 induction hv with
 | any=>exact .any
 | val=>exact .val
 | iv h=>exact .iv (h.ext hx)
 | ip f h1 h2=>exact (Bb.ip f h1 h2).mono hx
 | aggI h=>exact .aggI (h.ext hx)
 | rp=>exact .rp
 | mv=>exact .mv
 | @bp b o =>
  simp only [Ks]
  cases hb:B b with
  | none=>exact .any
  | some x =>
   obtain ⟨h1,h2⟩:=hB b x hb
   have hh:=h.holds x h1
   cases x with
   | row b' e k l=>exact .any
   | mp b' k kv=>exact .any
   | opq b' F=>exact .any
   | arr b' cs =>
    obtain rfl:b'=b:=h2
    obtain ⟨C,t,h3,h4⟩:=hh
    have hg:=h.base (E.blk b') (Bx.2 ⟨_,h1,by simp [BA.owned]⟩)
    refine .ip (fun j=>(C[o+j]?).getD undef) (fun j u hu=>?_) (fun j u hu=>?_)
    ·rw [List.getElem?_drop] at hu
     have hj:o+j < C.size:=by
      have:=(List.getElem?_eq_some_iff.1 hu).1
      rw [<-h4.len] at this;simpa using this
     rw [Array.getElem?_eq_getElem hj]
     exact blkc hg h3 _ _ (Array.getElem?_eq_getElem hj)
    ·rw [List.getElem?_drop] at hu
     have hj:o+j < C.size:=by
      have:=(List.getElem?_eq_some_iff.1 hu).1
      rw [<-h4.len] at this;simpa using this
     simp only [Array.getElem?_eq_getElem hj,Option.getD_some]
     exact (h4.get (j:=o+j) (by rw [Array.getElem?_toList,Array.getElem?_eq_getElem hj]) hu).ext hx
   | box b' cs =>
    obtain rfl:b'=b:=h2
    simp only
    cases hi:toIs cs with
    | none=>exact .any
    | some is =>
     obtain ⟨C,t,h3,h4⟩:=hh
     have h5:=At.toIs h4 hi (hl _ _ _ hb)
     have hg:=h.base (E.blk b') (Bx.2 ⟨_,h1,by simp [BA.owned]⟩)
     refine .ip (fun j=>(C[o+j]?).getD undef) (fun j u hu=>?_) (fun j u hu=>?_)
     ·rw [List.getElem?_drop] at hu
      have hj:o+j < C.size:=by
       have:=(List.getElem?_eq_some_iff.1 hu).1
       rw [<-h5.len] at this;simpa using this
      rw [Array.getElem?_eq_getElem hj]
      exact blkc hg h3 _ _ (Array.getElem?_eq_getElem hj)
     ·rw [List.getElem?_drop] at hu
      have hj:o+j < C.size:=by
       have:=(List.getElem?_eq_some_iff.1 hu).1
       rw [<-h5.len] at this;simpa using this
      simp only [Array.getElem?_eq_getElem hj,Option.getD_some]
      exact (h5.get (j:=o+j) (by rw [Array.getElem?_toList,Array.getElem?_eq_getElem hj]) hu).ext hx
 | @own b A m cc he =>
  simp only [Ks]
  cases hb:B b with
  | none=>exact .any
  | some x =>
   obtain ⟨h1,h2⟩:=hB b x hb
   have hh:=h.holds x h1
   cases x with
   | arr b' cs=>exact .any
   | box b' cs=>exact .any
   | mp b' k kv=>exact .any
   | opq b' F=>exact .any
   | row b' e k l =>
    obtain rfl:b'=b:=h2
    obtain ⟨h3,h4⟩:=hh
    rw [he] at h3
    refine .iv (Cs.of_sl ?_)
    obtain ⟨A',c',hv',p1,p2,p3⟩:=h3.sl
    refine ⟨A',c',hv',p1,p2,fun hne=>?_⟩
    obtain ⟨g,off,hA,q1,q2⟩:=p3 hne
    refine ⟨g,off,hA,by rw [E9];exact q1,fun i x hx'=>?_⟩
    obtain ⟨cs,r1,r2,r3⟩:=q2 i x hx'
    refine ⟨cs,r1.ext hx,r2,fun j u hu=>?_⟩
    have hg:w0.heap.size<=g:=by
     obtain ⟨hlo,_⟩:=h3.lt g (by rw [hv',hA];rfl)
     exact hlo
    rw [Gx hg,if_neg (by simp)]
    exact r3 j u hu
 | agg h1 h2 ih =>
  exact .agg (by rw [Lg];exact h1) fun j v d a b=>by
   rw [Lh,Option.map_eq_some_iff] at b
   obtain ⟨d',hd,rfl⟩:=b
   exact ih j v d' a hd
 | tup h1 h2 ih =>
  exact .tup (by rw [Lg];exact h1) fun j v d a b=>by
   rw [Lh,Option.map_eq_some_iff] at b
   obtain ⟨d',hd,rfl⟩:=b
   exact ih j v d' a hd
 | fn h1 h2 ih =>
  exact .fn (by rw [Lg];exact h1) fun j v d a b=>by
   rw [Lh,Option.map_eq_some_iff] at b
   obtain ⟨d',hd,rfl⟩:=b
   exact ih j v d' a hd
end
def Sbs (xs ys:List AV):Prop:=∀ (E:Env) (X:World) (vs:List Value),At E X vs xs->At E X vs ys
theorem Sbs.rfl_ (l:List AV):Sbs l l:=fun _ _ _ h=>h
theorem Sbs.cons_ {x:AV} {l m:List AV} (h:Sbs l m):Sbs (x :: l) (x :: m):=fun E X vs hv=>by
 obtain ⟨v,vs',rfl,h1,h2⟩:=At.cons_iff.1 hv
 exact At.cons h1 (h _ _ _ h2)
theorem Sbs.of_ {x y:AV} {l m:List AV} (hx:∀ (E:Env) (X:World) (v:Value),Bb E X v x->Bb E X v y) (h:Sbs l m):Sbs (x :: l) (y :: m):=fun E X vs hv=>by
 obtain ⟨v,vs',rfl,h1,h2⟩:=At.cons_iff.1 hv
 exact At.cons (hx _ _ _ h1) (h _ _ _ h2)
def AsI (cs:List AV) (is:List IV):Prop:=∀ (E:Env) (X:World) (vs:List Value),At E X vs cs->Bl X vs is
theorem AsI.of {cs:List AV} {is:List IV} (h:toIs cs=some is) (ho:Ft cs):AsI cs is:=fun _ _ _ h'=>h'.toIs h ho
theorem AsI.sub {cs ds:List AV} {is:List IV} (hs:Sbs cs ds) (h:toIs ds=some is) (ho:Ft ds):AsI cs is:=fun E X vs h'=>(hs E X vs h').toIs h ho
theorem Wr {k:Nat} : ∀ (E:Env) (X:World) (v:Value),Bb E X v (.val (.slice none 0 0))->Bb E X v (.iv (.sl k [])):=fun _ _ _ h=>by
 cases h;exact .iv (.nil (by unfold maxLen;omega))
def rdI (q s:Nat) (cs:List IV) (K:AV->Prop):Prop :=
 match q with
 | 0=>match cs with
  | c :: _=>K (nrm (.iv c))
  | []=>False
 | 1=>s<=cs.length/\K (.agg ((cs.take s).map fun c=>nrm (.iv c)))
 | _=>s<=cs.length/\K (.aggI (cs.take s))
def rdA (q s:Nat) (cs:List AV) (K:AV->Prop):Prop :=
 match q with
 | 0=>match cs with
  | c :: _=>K c
  | []=>False
 | 1=>s<=cs.length/\K (.agg (cs.take s))
 | _=>False
def Bo (P:Program) (G:World->Prop) (B:Nat->Option BA) (f:FuncId) (args:List AV) (c:Nat) (K:AV->List BA->Prop):Prop :=
 ∃ r nb args',((Sbs args args'/\A7 P G f args' r nb)\/(Ar5 B/\Ku r=true/\Aw8 nb/\Sbs (Ks.viewAs B args) args'/\A7 P G f args' r nb))/\(r.small&&Mp nb)=true/\K (r.sh c) (shB c nb)
def Gf:AV->Option Value
 | .val v=>some v
 | .iv (.val v)=>some v
 | .agg cs=>(valAs cs).map fun l=>.agg l.toArray
 | _=>none
where valAs:List AV->Option (List Value)
 | []=>some []
 | c :: cs=>match Gf c,valAs cs with
  | some v,some l=>some (v :: l)
  | _,_=>none
def Ce (P:Program) (t:TypeId) (B:Nat->Option BA) (x:AV) (K:AV->Prop):Prop :=
 match nrm x with
 | .iv (.sl _ l)=>(Ep P t).isSome=true/\K (.val (.int .i64 (l.length:Nat)))
 | .own b=>match B b with
  | some (.row _ _ _ l)=>(Ep P t).isSome=true/\K (.val (.int .i64 (l.length:Nat)))
  | _=>False
 | .val (.slice none 0 0)=>(Ep P t).isSome=true/\K (.val (.int .i64 0))
 | .val (.string s)=>Kt P t=true/\K (.val (.int .i64 (s.size:Nat)))
 | _=>False
def Ro (P:Program) (s d:TypeId) (u:AV) (K:AV->Prop):Prop :=
 match u with
 | .val (.int _ m)=>match Sr P s,Sr P d with
  | some _,some k=>∃ m',k.wrap m=m'/\K (.val (.int k m'))
  | _,_=>False
 | .val (.slice none 0 0)=>Ss P s=true/\Kt P d=true/\K (.val (.string ByteArray.empty))
 | .val (.string z)=>Kt P s=true/\Ss P d=true/\z.size<=1048576/\K (.iv (.sl 1 (byR (L4 z))))
 | .iv (.sl k l)=>Ss P s=true/\Kt P d=true/\k=1/\∃ bs:List Nat,l=byR bs/\K (.val (.string (Zw bs)))
 | _=>False
def By (P:Program) (op:BinOp) (t:TypeId) (x y:Operand) (u v:AV) (K:AV->Prop):Prop :=
 match op,nrm u,nrm v with
 | .lss,.val (.int k a),.val (.int k' b)=>k=k'/\K (.val (.bool (decide (a < b))))
 | .leq,.val (.int k a),.val (.int k' b)=>k=k'/\K (.val (.bool (decide (a<=b))))
 | .gtr,.val (.int k a),.val (.int k' b)=>k=k'/\K (.val (.bool (decide (b < a))))
 | .geq,.val (.int k a),.val (.int k' b)=>k=k'/\K (.val (.bool (decide (b<=a))))
 | .eql,.val (.int k a),.val (.int k' b)=>k=k'/\K (.val (.bool (decide (a=b))))
 | .neq,.val (.int k a),.val (.int k' b)=>k=k'/\K (.val (.bool (decide (a≠b))))
 | .add,.val (.int k a),.val (.int k' b)=>k=k'/\∃ m,k.wrap (a+b)=m/\K (.val (.int k m))
 | .sub,.val (.int k a),.val (.int k' b)=>k=k'/\∃ m,k.wrap (a - b)=m/\K (.val (.int k m))
 | .mul,.val (.int k a),.val (.int k' b)=>k=k'/\∃ m,k.wrap (a*b)=m/\K (.val (.int k m))
 | op,u,v=>match Gf u,Gf v with
  | some p,some q=>∃ r,(∀ w,(do eqGuard op t x y p q;binOp op t p q:Sem Value).run P w=.ok r w)/\K (.val r)
  | _,_=>False
def Rm (places:List (Nat×Nat)) (cells:List AV):List (Nat×AV)->Option (List AV)
 | []=>some cells
 | (i,v) :: rest=>match places[i]? with
  | none=>none
  | some (off,size)=>if (Bh v).length=size/\okC v=true/\off+size<=cells.length then Rm places (Es cells off (Bh v)) rest else none
def mxQ (L:Operand->AV) (mx hi:Option Operand) (j n:Nat) (K:Prop):Prop :=
 match mx with
 | none=>K
 | some p=>hi.isSome=true/\∃ m:Nat,L p=.val (.int .i64 m)/\j<=m/\m<=n/\K
def qop (P:Program) (G:World->Prop) (L:Operand->AV) (B:Nat->Option BA) (o:Oper) (c:Nat) (K:AV->List BA->Prop):Prop :=
 match o.op with
 | .move x=>K (L x) []
 | .assign x=>K (L x) []
 | .pick c x y=>match nrm (L c) with
  | .val (.bool true)=>K (L x) []
  | .val (.bool false)=>K (L y) []
  | _=>False
 | .alloc e=>match tyZ P e with
  | some (2,zs)=>(∀ v∈zs,okV v)/\K (.bp c 0) [.arr c (zs.map IV.val)]
  | some (_,zs)=>K (.bp c 0) [.box c (zs.map AV.val)]
  | none=>False
 | .box _ x=>match L x with
  | .aggI cs=>K (.bp c 0) [.arr c cs]
  | u=>okC u=true/\K (.bp c 0) [.box c (Bh u)]
 | .load t x=>match tyK P t with
  | some (q,s)=>match L x with
   | .ip cs=>rdI q s cs fun r=>K r []
   | .bp b p=>match B b with
    | some (.box _ cs)=>rdA q s (cs.drop p) fun r=>K r []
    | some (.arr _ cs)=>match q with
     | 0=>∃ u,cs[p]? = some u/\K (nrm (.iv u)) []
     | 1=>∃ ds,(cs.drop p).take s=ds/\ds.length=s/\K (.agg (ds.map fun c=>nrm (.iv c))) []
     | _=>p=0/\s=cs.length/\K (.aggI cs) []
    | _=>False
   | .rp b k i j=>match B b with
    | some (.row _ _ k' l)=>k'=k/\∃ cs,l[i]? = some cs/\rdI q s (cs.drop j) fun r=>K r []
    | _=>False
   | _=>False
  | none=>False
 | .nilCheck x=>match L x with
  | .ip cs=>K (.ip cs) []
  | .bp b p=>K (.bp b p) []
  | .rp b k i j=>K (.rp b k i j) []
  | .fn f cs=>K (.fn f cs) []
  | _=>False
 | .binOp op t x y _=>By P op t x y (L x) (L y) fun r=>K r []
 | .unOp op _ x=>match op,nrm (L x) with
  | .not,.val (.bool b)=>K (.val (.bool !b)) []
  | .neg,.val (.int k m)=>∃ m',k.wrap (0 - m)=m'/\K (.val (.int k m')) []
  | _,_=>False
 | .convert s d x=>Ro P s d (nrm (L x)) fun r=>K r []
 | .makeFunc (.func f) first caps=>first=#[]/\K (.fn f (caps.toList.map L)) []
 | .slice t x lo hi mx=>match Ep P t,nrm (L x) with
  | some (_,k,_),.iv (.sl k' l) =>
   k=k'/\∃ i j:Nat,(match lo with | none=>i=0 | some p=>L p=.val (.int .i64 i))/\(match hi with | none=>j=l.length | some p=>L p=.val (.int .i64 j))/\i<=j/\j<=l.length/\mxQ L mx hi j l.length (K (.iv (.sl k ((l.take j).drop i))) [])
  | _,_=>False
 | .fieldAddr t x f=>match tyF P t f with
  | some (off,_,s)=>s≠0/\match L x with
   | .ip cs=>K (.ip (cs.drop off)) []
   | .bp b p=>K (.bp b (p+off)) []
   | .rp b k i j=>K (.rp b k i (j+off)) []
   | _=>False
  | none=>False
 | .field t x f=>match tyF P t f,L x with
  | some (off,q,s),.agg cs=>rdA q s (cs.drop off) fun r=>K r []
  | _,_=>False
 | .indexAddr t x i=>match nrm (L i) with
  | .val (.int _ m)=>match Ep P t with
   | some (_,k,_)=>match nrm (L x) with
    | .iv (.sl k' l)=>k=k'/\0<=m/\∃ cs,l[m.toNat]? = some cs/\K (.ip cs) []
    | .own b=>match B b with
     | some (.row _ _ k' l)=>k=k'/\0<=m/\m.toNat < l.length/\K (.rp b k m.toNat 0) []
     | _=>False
    | _=>False
   | none=>match Wb P t,L x with
    | some (n,_,k),.bp b p=>0<=m/\m < (n:Int)/\0 < k/\K (.bp b (p+m.toNat*k)) []
    | some (n,_,k),.ip cs=>0<=m/\m < (n:Int)/\0 < k/\K (.ip (cs.drop (m.toNat*k))) []
    | _,_=>False
  | _=>False
 | .index t x i=>match nrm (L i),L x with
  | .val (.int _ m),.aggI cs=>match Wb P t with
   | some (n,0,1)=>0<=m/\m < (n:Int)/\∃ u,cs[m.toNat]? = some u/\K (nrm (.iv u)) []
   | _=>False
  | .val (.int _ m),.val (.string s)=>Kt P t=true/\0<=m/\∃ b,s[m.toNat]? = some b/\K (.val (.int .u8 (b.toNat:Nat))) []
  | _,_=>False
 | .build t parts=>match Mx P t with
  | some (zs,places)=>match Rm places (zs.map AV.val) (parts.toList.map fun p=>(p.1,L p.2)) with
   | some cs=>K (.agg cs) []
   | none=>False
  | none=>False
 | .extract x i=>match L x with
  | .tup cs=>i < cs.length/\K (cs.getD i .any) []
  | _=>False
 | .buildSlice t len parts=>match Ep P t with
  | some (e,k,_)=>(tyZ P e).isSome=true/\∃ l:List (List IV),l.length=len/\0 < k/\len*k<=16777216/\(∀ (i:Nat) (cs:List IV),l[i]? = some cs->cs.length=k/\∃ x,parts[i]? = some (i,x)/\okC (L x)=true/\AsI (Bh (L x)) cs)/\parts.size=len/\(K (.own c) [.row c e k l]\/K (.iv (.sl k l)) [])
  | none=>False
 | .makeMap t r=>match U5 P t with
  | some (k,_)=>(match r with | none=>True | some x=>∃ q m,nrm (L x)=.val (.int q m))/\K (.mv c) [.mp c k []]
  | none=>False
 | .lookup t x i ok=>match U5 P t,L x,nrm (L i) with
  | some (k,z),.mv b,.val (.int k' m)=>match B b with
   | some (.mp _ k'' kv)=>ok=false/\k'=k/\k''=k/\∃ u,(Lv kv m).getD z=u/\K (.val u) []
   | _=>False
  | _,_,_=>False
 | .call { callee:=.value f,args,argTypes:=_ }=>match L f with
  | .fn f caps=>Bo P G B f (args.toList.map L++caps) c K
  | _=>False
 | .call { callee:=.builtin .len,args,argTypes }=>match args.toList,argTypes.toList with
  | [x],[t]=>Ce P t B (L x) fun r=>K r []
  | _,_=>False
 | .call { callee:=.builtin .cap,args,argTypes }=>match args.toList,argTypes.toList with
  | [x],[t]=>match nrm (L x) with
   | .val (.slice none 0 0)=>(Ep P t).isSome=true/\K (.val (.int .i64 0)) []
   | _=>False
  | _,_=>False
 | .call { callee:=.builtin .max,args,argTypes:=_ }=>match args.toList with
  | [x,y]=>match nrm (L x),nrm (L y) with
   | .val (.int k p),.val (.int _ q)=>∃ m,max p q=m/\K (.val (.int k m)) []
   | _,_=>False
  | _=>False
 | .call { callee:=.builtin .min,args,argTypes:=_ }=>match args.toList with
  | [x,y]=>match nrm (L x),nrm (L y) with
   | .val (.int k p),.val (.int _ q)=>∃ m,min p q=m/\K (.val (.int k m)) []
   | _,_=>False
  | _=>False
 | _=>False
def Hz (o:Oper):Bool :=
 match o.op with
 | .alloc _=>true
 | .box _ _=>true
 | .buildSlice _ _ _=>true
 | .makeMap _ _=>true
 | .call { callee:=.value _,args:=_,argTypes:=_ }=>true
 | .call { callee:=.builtin .append,args:=_,argTypes:=_ }=>true
 | _=>false
def Res (o:Oper) (V w0:World) (E:Env) (σ:Ah) (w:World) (c:Nat) (nb:List BA) (r:AV) (v:Value) (w':World) (E':Env):Prop :=
 Below w.heap.size w w'/\(Env.same c (c+100) E E'/\(E'=E\/Hz o=true))/\(Ac E' nb).Nodup/\(∀ g∈Ac E' nb,w.heap.size<=g)/\(∀ b∈nb,b.holds E' (vis V w0 w' (Ac E' nb++Ac E σ.bk)) w' w0.heap.size)/\Bb E' (vis V w0 w' (Ac E' nb++Ac E σ.bk)) v r
def Dv (P:Program) (G:World->Prop) (o:Oper) (c:Nat) (L:Operand->AV) (B:Nat->Option BA) (r:AV) (nb:List BA):Prop :=
 ∀ (V w0:World) (n:Fm) (E:Env) (σ:Ah) (a:Act) (w:World),St V w0 n E σ a w->G w->(∀ x,Bb E (vis V w0 w (Ac E σ.bk)) (a.eval x) (L x))->(∀ b x,B b=some x->x∈σ.bk/\x.id=b) ->
  ∀ (N:Act->World->Prop) (Q:Exit->Act->World->Prop),(∀ v w' E',Res o V w0 E σ w c nb r v w' E'->N (a.put o.dst v) w')->o.wp P a w N Q
section
variable {P : Program} {G : World -> Prop} {o : Oper} {c : Nat} {L : Operand -> AV} {B : Nat -> Option BA} {r : AV} {nb : List BA}
theorem Dv.pure_ (h:∀ (V w0:World) (n:Fm) (E:Env) (σ:Ah) (a:Act) (w:World),St V w0 n E σ a w->(∀ x,Bb E (vis V w0 w (Ac E σ.bk)) (a.eval x) (L x))->(∀ b x,B b=some x->x∈σ.bk/\x.id=b) ->
  ∃ v,(execOp a.eval o).run P w=.ok (.value v) w/\Bb E (vis V w0 w (Ac E σ.bk)) v r):Dv P G o c L B r []:=by
 intro V w0 n E σ a w hs hG hL hB N Q hN
 obtain ⟨v,h1,h2⟩:=h V w0 n E σ a w hs hL hB
 unfold Oper.wp
 rw [h1]
 exact hN v w E ⟨Below.refl _ _,⟨Env.same_refl _ _ _,.inl rfl⟩,List.nodup_nil,(fun _ h=>by cases h),(fun _ h=>by cases h),h2⟩
theorem G5 {s:Sem Value} {v:Value} {w w':World} (h:s.run P w=.ok v w'):(do return Next.value (<- s):Sem Next).run P w=.ok (.value v) w':=by
 simp [h]
theorem Dv.box_ {b:BA} (hm:Hz o=true) (hb:b.id=c) (h:∀ (V w0:World) (n:Fm) (E:Env) (σ:Ah) (a:Act) (w:World),St V w0 n E σ a w->(∀ x,Bb E (vis V w0 w (Ac E σ.bk)) (a.eval x) (L x)) ->
  ∃ (C:Array Value) (t:TypeId),(execOp a.eval o).run P w=.ok (.value (.pointer (some ⟨w.heap.size,0,none⟩))) (w.alloc (.cells C t)) /\
   ((∃ cs,b=.box c cs/\At E (vis V w0 w (Ac E σ.bk)) C.toList cs/\AV.off.offs c (c+100) cs=true)\/(∃ cs,b=.arr c cs/\Bl (vis V w0 w (Ac E σ.bk)) C.toList cs))):Dv P G o c L B (.bp c 0) [b]:=by
 intro V w0 n E σ a w hs hG hL _ N Q hN
 obtain ⟨C,t,h1,h2⟩:=h V w0 n E σ a w hs hL
 unfold Oper.wp
 rw [h1]
 have hE:Env.same c (c+100) E ⟨fun b=>if b=c then w.heap.size else E.blk b,E.row⟩:=fun b hb=>by
  have:¬ b=c:=by omega
  simp [this]
 have hbel:=Af (o:=.cells C t) (Below.refl _ w)
 have ho:Ac ⟨fun b=>if b=c then w.heap.size else E.blk b,E.row⟩ [b]=[w.heap.size]:=by
  rcases h2 with ⟨cs,rfl,_⟩ | ⟨cs,rfl,_⟩<;>simp [Ac,BA.owned]
 have hx:Ext (vis V w0 w (Ac E σ.bk)) (vis V w0 (w.alloc (.cells C t)) ([w.heap.size]++Ac E σ.bk)):=Dl hbel.size fun p u _ h4 h5 h6=>⟨fun hm=>by
  rcases List.mem_append.1 hm with hm | hm
  ·simp at hm;omega
  ·exact h5 hm,Am hbel h6⟩
 refine hN _ _ ⟨fun b=>if b=c then w.heap.size else E.blk b,E.row⟩ ⟨hbel,⟨hE,.inr hm⟩,by rw [ho];simp,fun g hg=>by rw [ho] at hg;simp at hg;omega,fun b' hb'=>?_,?_⟩
 ·rw [ho]
  simp only [List.mem_singleton] at hb'
  subst hb'
  rcases h2 with ⟨cs,rfl,h3,h4⟩ | ⟨cs,rfl,h3⟩
  ·exact ⟨C,t,by simp;exact Blk.new _ _ _,h3.ext hE hx h4⟩
  ·exact ⟨C,t,by simp;exact Blk.new _ _ _,h3.ext hx⟩
 ·have:=Bb.bp (E:=⟨fun b=>if b=c then w.heap.size else E.blk b,E.row⟩) (X:=vis V w0 (w.alloc (.cells C t)) (Ac ⟨fun b=>if b=c then w.heap.size else E.blk b,E.row⟩ [b]++Ac E σ.bk)) (b:=c) (o:=0)
  simpa using this
theorem Ac7 {X:World} {f:Nat->Value} {cs:List IV} {s:Nat} (hs:s<=cs.length) (h:∀ j u,cs[j]? = some u->Cs X (f j) u):Bl X ((List.range s).map f) (cs.take s):=by
 refine Bl.of (by simp [hs]) fun j v i a b=>?_
 have hj:j < s:=by
  have:=(List.getElem?_eq_some_iff.1 a).1
  simpa using this
 rw [List.getElem?_map,List.getElem?_range hj] at a
 obtain rfl:=Option.some.inj a
 rw [List.getElem?_take_of_lt hj] at b
 exact h j i b
theorem Bl.nrms {E:Env} {X:World} {vs:List Value} {is:List IV} (h:Bl X vs is):At E X vs (is.map fun c=>nrm (.iv c)) :=
 ⟨by rw [List.length_map];exact h.len,fun j v c a b=>by
  rw [List.getElem?_map,Option.map_eq_some_iff] at b
  obtain ⟨i,hi,rfl⟩:=b
  exact (Bb.iv (h.get a hi)).nrm_⟩
theorem A68 {q s t:Nat} (ht:tyK P t=some (q,s)) {cs:List IV} {K:AV->Prop} (h:rdI q s cs K):∃ r,K r/\∀ (E:Env) (X w:World) (b off:Nat) (f:Nat->Value),(∀ (j:Nat) u,cs[j]? = some u->w.cell? ⟨b,off+j,none⟩=some (f j))->(∀ (j:Nat) u,cs[j]? = some u->Cs X (f j) u) ->
  ∃ v,(Instr.loadAt t (.pointer (some ⟨b,off,none⟩))).run P w=.ok v w/\Bb E X v r:=by
 have many:s<=cs.length->q≠0->∀ (w:World) (b off:Nat) (f:Nat->Value),(∀ (j:Nat) u,cs[j]? = some u->w.cell? ⟨b,off+j,none⟩=some (f j))->(Instr.loadAt t (.pointer (some ⟨b,off,none⟩))).run P w=.ok (.agg ((List.range s).map f).toArray) w:=fun hs hq w b off f h1=>by
  obtain ⟨ha,hz⟩:=Fv (w:=w) ht
  have hl:=run_loadCells (P:=P) w ⟨b,off,none⟩ s f fun j hj=>by
   rw [Hg]
   exact h1 j _ (List.getElem?_eq_getElem (by omega))
  simp [Instr.loadAt,Instr.sureAddr,loadVar,ha,hz,hq,hl]
 match q,ht,h,many with
 | 0,ht,h,_ =>
  cases cs with
  | nil=>exact h.elim
  | cons c cs =>
   refine ⟨_,h,fun E X w b off f h1 h2=>⟨f 0,?_,(Bb.iv (h2 0 c rfl)).nrm_⟩⟩
   obtain ⟨ha,hz⟩:=Fv (w:=w) ht
   have h0:=h1 0 c rfl
   simp only [Nat.add_zero] at h0
   simp [Instr.loadAt,Instr.sureAddr,loadVar,ha,load,Sem.run,h0]
 | 1,_,h,many=>exact ⟨_,h.2,fun E X w b off f h1 h2=>⟨_,many h.1 (by omega) w b off f h1,.agg (by simp [h.1]) fun j v d a b=>(Ac7 h.1 h2).nrms.2 j v d (by simpa using a) b⟩⟩
 | q+2,_,h,many=>exact ⟨_,h.2,fun E X w b off f h1 h2=>⟨_,many h.1 (by omega) w b off f h1,.aggI (by simpa using Ac7 h.1 h2)⟩⟩
theorem Av7 {q s t:Nat} (ht:tyK P t=some (q,s)) {cs:List AV} {K:AV->Prop} (h:rdA q s cs K):∃ r,K r/\∀ (E:Env) (X w:World) (g p:Nat) (e:TypeId) (C:Array Value),Blk w g e C->At E X (C.toList.drop p) cs ->
  ∃ v,(Instr.loadAt t (.pointer (some ⟨g,p,none⟩))).run P w=.ok v w/\Bb E X v r:=by
 match q,ht,h with
 | 0,ht,h =>
  cases cs with
  | nil=>exact h.elim
  | cons c cs =>
   refine ⟨_,h,fun E X w g p e C hB hC=>?_⟩
   obtain ⟨ha,hz⟩:=Fv (w:=w) ht
   have hlen:=hC.1
   have hp:p < C.size:=by simp at hlen;omega
   have h0:w.cell? ⟨g,p,none⟩=some C[p]:=by rw [hB.cell,Array.getElem?_eq_getElem hp]
   refine ⟨C[p],?_,hC.2 0 _ c (by rw [List.getElem?_drop,Array.getElem?_toList];simp [hp]) rfl⟩
   simp [Instr.loadAt,Instr.sureAddr,loadVar,ha,load,Sem.run,h0]
 | 1,ht,h =>
  refine ⟨_,h.2,fun E X w g p e C hB hC=>?_⟩
  obtain ⟨ha,hz⟩:=Fv (w:=w) ht
  have hlen:=hC.1
  have hl:(loadCells ⟨g,p,none⟩ ((C.toList.drop p).take s).length).run P w=.ok ((C.toList.drop p).take s).toArray w:=run_loadCells_list (P:=P) w ⟨g,p,none⟩ ((C.toList.drop p).take s) fun j v hv=>by
   rw [Hg,hB.cell]
   have hj:=(List.getElem?_eq_some_iff.1 hv).1
   rw [List.getElem?_take_of_lt (by simp at hj;omega),List.getElem?_drop,Array.getElem?_toList] at hv
   exact hv
  have hsl:((C.toList.drop p).take s).length=s:=by rw [List.length_take,hlen];exact Nat.min_eq_left h.1
  rw [hsl] at hl
  refine ⟨_,by simp [Instr.loadAt,Instr.sureAddr,loadVar,ha,hz,hl];rfl,.agg (by simp only [List.size_toArray,hsl];rw [List.length_take];exact (Nat.min_eq_left h.1).symm) fun j v d a b=>?_⟩
  have a':((C.toList.drop p).take s)[j]? = some v:=by simpa using a
  have hj:j < s:=by have:=(List.getElem?_eq_some_iff.1 a').1;omega
  rw [List.getElem?_take_of_lt hj] at a' b
  exact hC.2 j v d a' b
end
section
variable {P : Program} {G : World -> Prop} {c : Nat} {L : Operand -> AV} {B : Nat -> Option BA} {K : AV -> List BA -> Prop}
def D9 (P:Program) (G:World->Prop) (o:Oper) (c:Nat) (L:Operand->AV) (B:Nat->Option BA) (K:AV->List BA->Prop):Prop:=∃ r nb,K r nb/\Dv P G o c L B r nb
variable {dst : Option Tmp} {ty : TypeId} {pos : String} {after : Array Edge} {gd : Option (Nat × Bool)}
theorem Br1 {x:Operand} (h:K (L x) []):D9 P G ⟨dst,.move x,ty,pos,after,gd⟩ c L B K :=
 ⟨_,_,h,Dv.pure_ fun V w0 n E σ a w _ hL _=>⟨a.eval x,rfl,hL x⟩⟩
theorem Bd4 {x:Operand} (h:K (L x) []):D9 P G ⟨dst,.assign x,ty,pos,after,gd⟩ c L B K :=
 ⟨_,_,h,Dv.pure_ fun V w0 n E σ a w _ hL _=>⟨a.eval x,rfl,hL x⟩⟩
theorem Ax0 {e q:TypeId} {zs:List Value} (hz:tyZ P e=some (q,zs)) (h:(q=2/\(∀ v∈zs,okV v)/\K (.bp c 0) [.arr c (zs.map IV.val)])\/K (.bp c 0) [.box c (zs.map AV.val)]):D9 P G ⟨dst,.alloc e,ty,pos,after,gd⟩ c L B K:=by
 have run:∀ (a:Act) (w:World),∃ C:Array Value,C.toList=zs/\(execOp a.eval ⟨dst,.alloc e,ty,pos,after,gd⟩).run P w=.ok (.value (.pointer (some ⟨w.heap.size,0,none⟩))) (w.alloc (.cells C e)):=fun a w=>by
  obtain ⟨z,h1,h2,_⟩:=Au3 (w:=w) hz
  exact ⟨z.cells,h2,by
   simp only [execOp,Instr.alloc,newVar,newRow,newObj]
   simp only [Sem.run_bind,Sem.run_pure,h1,Result.andThen_ok,Sem.run]
   rfl⟩
 rcases h with ⟨_,h1,h2⟩ | h2
 ·refine ⟨_,_,h2,Dv.box_ rfl rfl fun V w0 n E σ a w _ _=>?_⟩
  obtain ⟨C,h3,h4⟩:=run a w
  refine ⟨C,e,h4,.inr ⟨_,rfl,?_⟩⟩
  rw [h3]
  refine Bl.of (by simp) fun j v i a b=>?_
  rw [List.getElem?_map,a] at b
  obtain rfl:=Option.some.inj b
  exact .val (h1 v (List.mem_of_getElem? a))
 ·refine ⟨_,_,h2,Dv.box_ rfl rfl fun V w0 n E σ a w _ _=>?_⟩
  obtain ⟨C,h3,h4⟩:=run a w
  refine ⟨C,e,h4,.inl ⟨_,rfl,?_,?_⟩⟩
  ·rw [h3]
   exact ⟨by simp,fun j v i a b=>by
    rw [List.getElem?_map,a] at b
    obtain rfl:=Option.some.inj b
    exact .val⟩
  ·clear hz h2 run h3 h4
   induction zs with
   | nil=>rfl
   | cons z zs ih=>simp only [List.map_cons,AV.off.offs,AV.off,Bool.true_and];exact ih
theorem Aq6 {lo hi:Nat} {u:AV} (h:u.off lo hi=true):AV.off.offs lo hi (Bh u)=true:=by
 have one:AV.off.offs lo hi [u]=true:=by simp only [AV.off.offs,Bool.and_eq_true];exact ⟨h,trivial⟩
 cases u with
 | agg cs=>exact h
 | aggI cs =>
  simp only [Bh]
  induction cs with
  | nil=>rfl
  | cons z zs ih=>simp only [List.map_cons,AV.off.offs,AV.off,Bool.true_and];exact ih rfl (by rfl)
 | _=>exact one
theorem Cc9 {e:TypeId} {x:Operand} (hf:(L x).off c (c+100)=true) (h:match L x with
  | .aggI cs=>K (.bp c 0) [.arr c cs]
  | u=>okC u=true/\K (.bp c 0) [.box c (Bh u)]):D9 P G ⟨dst,.box e x,ty,pos,after,gd⟩ c L B K:=by
 have run:∀ (a:Act) (w:World),(execOp a.eval ⟨dst,.box e x,ty,pos,after,gd⟩).run P w=.ok (.value (.pointer (some ⟨w.heap.size,0,none⟩))) (w.alloc (.cells (a.eval x).cells e)):=fun a w=>by
  simp only [execOp,Instr.box,newVar,newRow,newObj]
  simp only [Sem.run_bind,Sem.run_pure,Result.andThen_ok,Sem.run]
  rfl
 have gen:okC (L x)=true->K (.bp c 0) [.box c (Bh (L x))]->D9 P G ⟨dst,.box e x,ty,pos,after,gd⟩ c L B K:=fun h1 h2 =>
  ⟨_,_,h2,Dv.box_ rfl rfl fun V w0 n E σ a w _ hL=>⟨_,e,run a w,.inl ⟨_,rfl,((hL x).cells h1).1,Aq6 hf⟩⟩⟩
 split at h
 ·rename_i cs hx
  refine ⟨_,_,h,Dv.box_ rfl rfl fun V w0 n E σ a w _ hL=>⟨_,e,run a w,.inr ⟨_,rfl,?_⟩⟩⟩
  have:=hL x
  rw [hx] at this
  generalize a.eval x=v at this
  cases this with
  | aggI h=>exact h
 ·exact gen h.1 h.2
theorem Br2 {t : TypeId} {x : Operand} {q s : Nat} (ht : tyK P t = some (q, s)) (h : match L x with
      | .ip cs => rdI q s cs fun r => K r []
      | .bp b p => match B b with
        | some (.box _ cs) => rdA q s (cs.drop p) fun r => K r []
        | some (.arr _ cs) => match (generalizing := false) q with
          | 0 => ∃ u, cs[p]? = some u /\ K (nrm (.iv u)) []
          | 1 => ∃ ds, (cs.drop p).take s = ds /\ ds.length = s /\ K (.agg (ds.map fun c => nrm (.iv c))) []
          | _ => p = 0 /\ s = cs.length /\ K (.aggI cs) []
        | _ => False
      | .rp b k i j => match B b with
        | some (.row _ _ k' l) => k' = k /\ ∃ cs, l[i]? = some cs /\ rdI q s (cs.drop j) fun r => K r []
        | _ => False
      | _ => False) : D9 P G ⟨dst, .load t x, ty, pos, after, gd⟩ c L B K := by
  have at_ : ∀ (a : Act) (w : World) {v u : Value}, a.eval x = u -> (Instr.loadAt t u).run P w = .ok v w -> (execOp a.eval ⟨dst, .load t x, ty, pos, after, gd⟩).run P w = .ok (.value v) w := fun a w v u hu h => by
    simp only [execOp, hu]
    exact G5 h
  split at h
  · rename_i cs hx
    obtain ⟨r, h1, h2⟩ := A68 ht h
    refine ⟨_, _, h1, Dv.pure_ fun V w0 n E σ a w hs hL _ => ?_⟩
    have hv := hL x
    rw [hx] at hv
    generalize hu : a.eval x = u at hv
    cases hv with
    | @ip b off _ f p1 p2 =>
      obtain ⟨v, h3, h4⟩ := h2 E _ w b off f (fun j u hu => hs.in_.cell _ _ (p1 j u hu)) p2
      exact ⟨v, at_ a w hu h3, h4⟩
  · rename_i b p hx
    split at h
    · rename_i b' cs hb
      obtain ⟨r, h1, h2⟩ := Av7 ht h
      refine ⟨_, _, h1, Dv.pure_ fun V w0 n E σ a w hs hL hB => ?_⟩
      have hv := hL x
      rw [hx] at hv
      generalize hu : a.eval x = u at hv
      cases hv
      obtain ⟨q1, q2⟩ := hB b _ hb
      obtain rfl : b' = b := q2
      obtain ⟨C, e, q3, q4⟩ := hs.holds _ q1
      obtain ⟨v, h3, h4⟩ := h2 E (vis V w0 w (Ac E σ.bk)) w (E.blk b') p e C q3 ⟨by simp [<- q4.1], fun j v d a b => by
        rw [List.getElem?_drop] at a b
        exact q4.2 _ v d a b⟩
      exact ⟨v, at_ a w hu h3, h4⟩
    · rename_i b' cs hb
      match q, ht, h with
      | 0, ht, ⟨u', h1, h2⟩ =>
        refine ⟨_, _, h2, Dv.pure_ fun V w0 n E σ a w hs hL hB => ?_⟩
        have hv := hL x
        rw [hx] at hv
        generalize hu : a.eval x = u at hv
        cases hv
        obtain ⟨q1, q2⟩ := hB b _ hb
        obtain rfl : b' = b := q2
        obtain ⟨C, e, q3, q4⟩ := hs.holds _ q1
        obtain ⟨ha, hz⟩ := Fv (w := w) ht
        have hp : p < C.size := by have := (List.getElem?_eq_some_iff.1 h1).1; rw [<- q4.len] at this; simpa using this
        have h0 : w.cell? ⟨E.blk b', p, none⟩ = some C[p] := by rw [q3.cell, Array.getElem?_eq_getElem hp]
        exact ⟨C[p], at_ a w hu (by simp [Instr.loadAt, Instr.sureAddr, loadVar, ha, load, Sem.run, h0]), (Bb.iv (q4.get (by rw [Array.getElem?_toList]; exact Array.getElem?_eq_getElem hp) h1)).nrm_⟩
      | 1, ht, ⟨ds, h1, h2, h3⟩ =>
        obtain ⟨r, h4, h5⟩ := A68 (K := fun r => K r []) ht (cs := cs.drop p) (show s <= (cs.drop p).length /\ K (.agg (((cs.drop p).take s).map fun c => nrm (.iv c))) [] from ⟨by rw [<- h2, <- h1, List.length_take]; exact Nat.min_le_right _ _, by rw [h1]; exact h3⟩)
        refine ⟨_, _, h4, Dv.pure_ fun V w0 n E σ a w hs hL hB => ?_⟩
        have hv := hL x
        rw [hx] at hv
        generalize hu : a.eval x = u at hv
        cases hv
        obtain ⟨q1, q2⟩ := hB b _ hb
        obtain rfl : b' = b := q2
        obtain ⟨C, e, q3, q4⟩ := hs.holds _ q1
        have hC : ∀ (j : Nat) u, (cs.drop p)[j]? = some u -> C.toList[p + j]? = some (C.toList[p + j]?.getD undef) /\ cs[p + j]? = some u := fun j u hj => by
          rw [List.getElem?_drop] at hj
          have hlt : p + j < C.toList.length := by rw [q4.len]; exact (List.getElem?_eq_some_iff.1 hj).1
          rw [List.getElem?_eq_getElem hlt]
          exact ⟨rfl, hj⟩
        obtain ⟨v, h6, h7⟩ := h5 E (vis V w0 w (Ac E σ.bk)) w (E.blk b') p (fun j => C.toList[p + j]?.getD undef) (fun j u hj => by rw [q3.cell, <- Array.getElem?_toList]; exact (hC j u hj).1) (fun j u hj => q4.get (hC j u hj).1 (hC j u hj).2)
        exact ⟨v, at_ a w hu h6, h7⟩
      | q + 2, ht, ⟨hp0, h1, h2⟩ =>
        subst hp0
        refine ⟨_, _, h2, Dv.pure_ fun V w0 n E σ a w hs hL hB => ?_⟩
        have hv := hL x
        rw [hx] at hv
        generalize hu : a.eval x = u at hv
        cases hv
        obtain ⟨q1, q2⟩ := hB b _ hb
        obtain rfl : b' = b := q2
        obtain ⟨C, e, q3, q4⟩ := hs.holds _ q1
        obtain ⟨ha, hz⟩ := Fv (w := w) ht
        have hl : (loadCells ⟨E.blk b', 0, none⟩ C.toList.length).run P w = .ok C w := run_loadCells_list (P := P) w ⟨E.blk b', 0, none⟩ C.toList fun j v hv => by
          rw [Hg, q3.cell, Nat.zero_add]
          simpa using hv
        rw [q4.len, <- h1] at hl
        exact ⟨.agg C, at_ a w hu (by simp [Instr.loadAt, Instr.sureAddr, loadVar, ha, hz, hl]), .aggI q4⟩
    · exact h.elim
  · rename_i b k i j hx
    split at h
    · rename_i b' e k' l hb
      obtain ⟨rfl, cs, hi, h⟩ := h
      obtain ⟨r, h1, h2⟩ := A68 ht h
      refine ⟨_, _, h1, Dv.pure_ fun V w0 n E σ a w hs hL hB => ?_⟩
      have hv := hL x
      rw [hx] at hv
      generalize hu : a.eval x = u at hv
      cases hv
      obtain ⟨q1, q2⟩ := hB b _ hb
      obtain rfl : b' = b := q2
      obtain ⟨q3, q4⟩ := hs.holds _ q1
      rcases q3.forms with ⟨_, e0⟩ | ⟨g, cc, hg, hg1, hg2⟩
      · rw [e0] at hi; simp at hi
      · have hgb : g = E.blk b' := q4 g (by rw [hg]; rfl)
        subst hgb
        rw [hg] at q3
        obtain ⟨vs, r1, r2, r3⟩ := q3.at_ hi
        obtain ⟨v, h3, h4⟩ := h2 E (vis V w0 w (Ac E σ.bk)) w (E.blk b') (i * k' + j) (fun jj => (vs[j + jj]?).getD undef) (fun jj u hjj => by
          rw [List.getElem?_drop] at hjj
          have hlt : j + jj < vs.length := by rw [r1.len]; exact (List.getElem?_eq_some_iff.1 hjj).1
          have := r3 (j + jj) _ (List.getElem?_eq_getElem hlt)
          rw [<- Nat.add_assoc] at this
          rw [this, List.getElem?_eq_getElem hlt]; rfl) fun jj u hjj => by
          rw [List.getElem?_drop] at hjj
          have hlt : j + jj < vs.length := by rw [r1.len]; exact (List.getElem?_eq_some_iff.1 hjj).1
          simp only [List.getElem?_eq_getElem hlt, Option.getD_some]
          exact r1.get (List.getElem?_eq_getElem hlt) hjj
        exact ⟨v, at_ a w hu h3, h4⟩
    · exact h.elim
  · exact h.elim
end
section
variable {P : Program} {G : World -> Prop} {c : Nat} {L : Operand -> AV} {B : Nat -> Option BA} {K : AV -> List BA -> Prop}
variable {dst : Option Tmp} {ty : TypeId} {pos : String} {after : Array Edge} {gd : Option (Nat × Bool)}
theorem Nk {E:Env} {X:World} {a:Act} {x:Operand} {d:AV} (hL:∀ x,Bb E X (a.eval x) (L x)) (hx:L x=d):Bb E X (a.eval x) d:=hx ▸ hL x
theorem Cy {E:Env} {X:World} {a:Act} {x:Operand} {v:Value} (hL:∀ x,Bb E X (a.eval x) (L x)) (hx:nrm (L x)=.val v):a.eval x=v:=by
 have:=(hL x).nrm_
 rw [hx] at this
 generalize a.eval x=u at this
 cases this;rfl
theorem Cc3 {x : Operand} (h : match L x with
      | .ip cs => K (.ip cs) []
      | .bp b p => K (.bp b p) []
      | .rp b k i j => K (.rp b k i j) []
      | .fn f cs => K (.fn f cs) []
      | _ => False) : D9 P G ⟨dst, .nilCheck x, ty, pos, after, gd⟩ c L B K := by
  split at h
  case h_5 => exact h.elim
  all_goals
    rename_i hx
    refine ⟨_, _, h, Dv.pure_ fun V w0 n E σ a w _ hL _ => ⟨a.eval x, ?_, Nk hL hx⟩⟩
    have := Nk hL hx
    generalize hu : a.eval x = u at this
    cases this <;> (simp only [execOp, hu]; rfl)
theorem Av0 {op:BinOp} {t tz:TypeId} {x y:Operand} {a:Act} {w:World} {p q r:Value} (hx:a.eval x=p) (hy:a.eval y=q) (h:(do eqGuard op t x y p q;binOp op t p q:Sem Value).run P w=.ok r w) :
  (execOp a.eval ⟨dst,.binOp op t x y tz,ty,pos,after,gd⟩).run P w=.ok (.value r) w:=by
 simp only [execOp,hx,hy]
 exact G5 h
theorem Ac3 {E:Env} {X:World} {v:Value} {d:AV} {u:Value} (h:Bb E X v d):Gf d=some u->v=u:=by
 induction h generalizing u with
 | any=>simp [Gf]
 | val=>simp [Gf]
 | iv h=>cases h<;>simp [Gf]
 | ip f h1 h2=>simp [Gf]
 | bp=>simp [Gf]
 | rp=>simp [Gf]
 | own h=>simp [Gf]
 | mv=>simp [Gf]
 | aggI h=>simp [Gf]
 | tup h1 h2=>simp [Gf]
 | fn h1 h2=>simp [Gf]
 | @agg vs cs h1 h2 ih =>
  intro he
  simp only [Gf,Option.map_eq_some_iff] at he
  obtain ⟨l,hl,rfl⟩:=he
  have key:∀ (cs:List AV) (l:List Value),Gf.valAs cs=some l->l.length=cs.length/\∀ (j:Nat) d,cs[j]? = some d->∃ u,l[j]? = some u/\Gf d=some u:=by
   intro cs
   induction cs with
   | nil=>intro l h;simp [Gf.valAs] at h;subst h;exact ⟨rfl,fun j d h=>by simp at h⟩
   | cons c cs ih =>
    intro l h
    simp only [Gf.valAs] at h
    split at h
    ·rename_i v l' e1 e2
     obtain rfl:=Option.some.inj h
     obtain ⟨i1,i2⟩:=ih l' e2
     refine ⟨by simp [i1],fun j d hd=>?_⟩
     cases j with
     | zero=>simp at hd;subst hd;exact ⟨v,rfl,e1⟩
     | succ j=>exact i2 j d (by simpa using hd)
    ·cases h
  obtain ⟨k1,k2⟩:=key cs l hl
  congr 1
  apply Array.ext_getElem?
  intro j
  by_cases hj:j < vs.size
  ·have hj2:j < cs.length:=by omega
   obtain ⟨u,u1,u2⟩:=k2 j _ (List.getElem?_eq_getElem hj2)
   rw [Array.getElem?_eq_getElem hj,ih j _ _ (Array.getElem?_eq_getElem hj) (List.getElem?_eq_getElem hj2) u2]
   simpa using u1.symm
  ·rw [Array.getElem?_eq_none (by omega),Array.getElem?_eq_none (by simp;omega)]
theorem Ah6 {d:AV} {u:Value} (h:Gf (nrm d)=some u):Gf d=some u:=by
 cases d with
 | iv i=>cases i<;>exact h
 | _=>exact h
theorem Cd0 {op:BinOp} {t tz:TypeId} {x y:Operand} (h:By P op t x y (L x) (L y) fun r=>K r []):D9 P G ⟨dst,.binOp op t x y tz,ty,pos,after,gd⟩ c L B K:=by
 have done:∀ {p q r:Value},K (.val r) []->nrm (L x)=.val p->nrm (L y)=.val q->(∀ w,(do eqGuard op t x y p q;binOp op t p q:Sem Value).run P w=.ok r w)->D9 P G ⟨dst,.binOp op t x y tz,ty,pos,after,gd⟩ c L B K:=fun hK hx hy hr =>
  ⟨_,_,hK,Dv.pure_ fun V w0 n E σ a w _ hL _=>⟨_,Av0 (Cy hL hx) (Cy hL hy) (hr w),.val⟩⟩
 unfold By at h
 split at h
 case h_10 =>
  split at h
  ·rename_i p q hp hq
   obtain ⟨r,h1,h2⟩:=h
   exact ⟨_,_,h2,Dv.pure_ fun V w0 n E σ a w _ hL _=>⟨_,Av0 (Ac3 (hL x) (Ah6 hp)) (Ac3 (hL y) (Ah6 hq)) (h1 w),.val⟩⟩
  ·exact h.elim
 case h_7 | h_8 | h_9 =>
  rename_i hx hy
  obtain ⟨rfl,m,rfl,h⟩:=h
  exact done h hx hy fun w=>by simp [eqGuard,binOp,Op.intArith]
 all_goals
  rename_i hx hy
  obtain ⟨rfl,h⟩:=h
  refine done h hx hy fun w=>?_
  simp [eqGuard,binOp,Op.intCmp]
  try rfl
theorem Cy6 {op:UnOp} {t:TypeId} {x:Operand} (h:match op,nrm (L x) with
  | .not,.val (.bool b)=>K (.val (.bool !b)) []
  | .neg,.val (.int k m)=>∃ m',k.wrap (0 - m)=m'/\K (.val (.int k m')) []
  | _,_=>False):D9 P G ⟨dst,.unOp op t x,ty,pos,after,gd⟩ c L B K:=by
 split at h
 ·rename_i b hx
  exact ⟨_,_,h,Dv.pure_ fun V w0 n E σ a w _ hL _=>⟨_,by simp only [execOp,Cy hL hx];exact G5 (by simp [Op.unary]),.val⟩⟩
 ·rename_i k m hx
  obtain ⟨m',rfl,h⟩:=h
  exact ⟨_,_,h,Dv.pure_ fun V w0 n E σ a w _ hL _=>⟨_,by simp only [execOp,Cy hL hx];exact G5 (by simp [Op.unary,Op.intArith]),.val⟩⟩
 ·exact h.elim
theorem Br0 {b x y:Operand} (h:match nrm (L b) with
  | .val (.bool true)=>K (L x) []
  | .val (.bool false)=>K (L y) []
  | _=>False):D9 P G ⟨dst,.pick b x y,ty,pos,after,gd⟩ c L B K:=by
 split at h
 ·rename_i hb
  exact ⟨_,_,h,Dv.pure_ fun V w0 n E σ a w _ hL _=>⟨a.eval x,by simp [execOp,Cy hL hb,asBool],hL x⟩⟩
 ·rename_i hb
  exact ⟨_,_,h,Dv.pure_ fun V w0 n E σ a w _ hL _=>⟨a.eval y,by simp [execOp,Cy hL hb,asBool],hL y⟩⟩
 ·exact h.elim
theorem Zu {t:TypeId} {k:IntKind} (h:Sr P t=some k):P.underlying t=some (.int k):=by
 unfold Sr at h
 split at h
 ·rename_i k' hu
  obtain rfl:=Option.some.inj h
  exact hu
 ·cases h
theorem Br4 {s d:TypeId} {x:Operand} (h:Ro P s d (nrm (L x)) fun r=>K r []):D9 P G ⟨dst,.convert s d x,ty,pos,after,gd⟩ c L B K:=by
 unfold Ro at h
 split at h
 ·rename_i q m hx
  split at h
  ·rename_i k' k hs hd
   obtain ⟨m',rfl,h⟩:=h
   exact ⟨_,_,h,Dv.pure_ fun V w0 n E σ a w _ hL _=>⟨_,by simp only [execOp,Cy hL hx];exact G5 (by simp [convert,run_underlying (Zu hs),run_underlying (Zu hd),Conv.intToInt]),.val⟩⟩
  ·exact h.elim
 ·rename_i hx
  obtain ⟨h1,h2,h⟩:=h
  obtain ⟨e,h3,h4⟩:=U6 h1
  exact ⟨_,_,h,Dv.pure_ fun V w0 n E σ a w _ hL _=>⟨_,by simp only [execOp,Cy hL hx];exact G5 (run_convert_bytes_nil w s e h3 h4 0 0 d (Qt h2)),.val⟩⟩
 ·rename_i z hx
  obtain ⟨h1,h2,hz,h⟩:=h
  obtain ⟨e,h3,h4⟩:=U6 h2
  refine ⟨_,_,h,fun V w0 n E σ a w hs hG hL _ N Q hN=>?_⟩
  have hrun:(execOp a.eval ⟨dst,.convert s d x,ty,pos,after,gd⟩).run P w=.ok (.value (.slice (some ⟨w.heap.size,0,none⟩) z.size (grownCap w z.size 0 e))) (Lib.bytesWorld w e z):=by
   simp only [execOp,Cy hL hx]
   exact G5 (Lib.run_convert_string_bytes w s d e z (Qt h1) h3 h4)
  unfold Oper.wp
  rw [hrun]
  have hbel:Below w.heap.size w (Lib.bytesWorld w e z):=⟨rfl,rfl,rfl,by rw [Lib.bytesWorld_size];omega,fun k hk=>Lib.bytesWorld_at_old w e z k hk⟩
  refine hN _ _ E ⟨hbel,⟨Env.same_refl _ _ _,.inl rfl⟩,List.nodup_nil,(fun _ h=>by cases h),(fun _ h=>by cases h),.iv ?_⟩
  have hlen:(L4 z).length=z.size:=(List.length_map _).trans (Array.length_toList)
  have hsz:=Lib.bytesWorld_size w e z
  have:=Cs.sl (X:=vis V w0 (Lib.bytesWorld w e z) (Ac E []++Ac E σ.bk)) (b:=w.heap.size) (off:=0) (c:=grownCap w z.size 0 e) (k:=1) (l:=byR (L4 z)) (fun i _=>.int .u8 ((L4 z).getD i 0:Nat)) (by rw [E9];omega) (by simp only [byR,List.length_map,hlen];exact grownCap_ge w z.size 0 e) (by simp only [byR,List.length_map,hlen];omega) (grownCap_le_maxLen w z.size 0 e (by unfold maxLen;omega)) (fun cs hcs=>by
    simp only [byR,List.mem_map] at hcs
    obtain ⟨_,_,rfl⟩:=hcs;rfl) (fun i j cs u hi hj=>?_) (fun i j cs u hi hj=>?_)
  ·simpa [byR,hlen] using this
  ·simp only [byR,List.getElem?_map,Option.map_eq_some_iff] at hi
   obtain ⟨q,hq,rfl⟩:=hi
   obtain rfl:j=0:=by have:=(List.getElem?_eq_some_iff.1 hj).1;simpa using this
   have hlt:=(List.getElem?_eq_some_iff.1 hq).1
   have hw0:=hs.low.size
   rw [Gx (by simp only;omega),if_neg (fun hm=>by
    rcases List.mem_append.1 hm with hm | hm
    ·cases hm
    ·have:=hs.lt _ hm;simp at this)]
   have:=Lib.bytesWorld_cell w e z i (by omega)
   simp only [Nat.zero_add,Nat.mul_one,Nat.add_zero]
   rw [this]
   simp only [L4,List.length_map] at hlt
   simp [L4,List.getD,List.getElem?_map,List.getElem?_eq_getElem hlt]
  ·simp only [byR,List.getElem?_map,Option.map_eq_some_iff] at hi
   obtain ⟨q,hq,rfl⟩:=hi
   obtain rfl:j=0:=by have:=(List.getElem?_eq_some_iff.1 hj).1;simpa using this
   simp at hj
   subst hj
   have hlt:q < 256:=by
    simp only [L4,List.getElem?_map,Option.map_eq_some_iff] at hq
    obtain ⟨b,_,rfl⟩:=hq
    exact b.toNat_lt
   rw [show (L4 z).getD i 0=q by simp [List.getD,hq]]
   refine .val ?_
   show (Lit.int .u8 (q:Int)).wf=true
   simp [Lit.wf,IntKind.max,IntKind.min,IntKind.signed,IntKind.bits]
   omega
 ·rename_i k l hx
  obtain ⟨h1,h2,rfl,bs,rfl,h⟩:=h
  obtain ⟨e,h3,h4⟩:=U6 h1
  refine ⟨_,_,h,Dv.pure_ fun V w0 n E σ a w hs hL _=>⟨_,?_,.val⟩⟩
  have hv:=(hL x).nrm_
  rw [hx] at hv
  generalize hu:a.eval x=v at hv
  simp only [execOp,hu]
  refine G5 ?_
  cases hv with
  | iv hv =>
   obtain ⟨A,cc,rfl,⟨hl1,hl2⟩,_,hcell⟩:=hv.to_sl
   by_cases hne:bs=[]
   ·subst hne
    rw [run_convert_bytes_string w s d e A _ _ h3 h4 (Qt h2)]
    cases A with
    | none=>simp [Conv.bytesToString,Zw,strOfNums];rfl
    | some A =>
     rw [run_bytesToString w A _ cc [] (by simp [byR,loadCells,loadCellsFrom])]
     rfl
   ·obtain ⟨b,off,rfl,_,hc⟩:=hcell (by simpa [byR] using hne)
    refine run_convert_bytes_arg w s e h3 h4 b off _ cc (bs.map fun (b:Nat)=>(b:Int)) (by simp [byR]) (fun i hi=>?_) d (Qt h2)
    have hib:i < bs.length:=by simpa [byR] using hi
    obtain ⟨vs,r1,r2,r3⟩:=hc i [IV.val (.int .u8 (bs[i]:Nat))] (by simp [byR,List.getElem?_map,List.getElem?_eq_getElem hib])
    match vs,r1,r3 with
    | [u],⟨r4,_⟩,r3 =>
     cases r4
     have:=hs.in_.cell _ _ (r3 0 _ rfl)
     simp only [Nat.mul_one,Nat.add_zero] at this
     rw [this]
     simp [List.getD,List.getElem?_map,List.getElem?_eq_getElem hib]
 ·exact h.elim
theorem Br3 {f:FuncId} {first caps:Array Operand} (h:first=#[]/\K (.fn f (caps.toList.map L)) []):D9 P G ⟨dst,.makeFunc (.func f) first caps,ty,pos,after,gd⟩ c L B K:=by
 obtain ⟨rfl,h⟩:=h
 refine ⟨_,_,h,Dv.pure_ fun V w0 n E σ a w _ hL _=>⟨.func (.func f) #[] (caps.map a.eval),by simp only [execOp];exact G5 (by simp [Instr.makeFunc]),.fn (by simp) fun j v d h1 h2=>?_⟩⟩
 rw [Array.getElem?_map,Option.map_eq_some_iff] at h1
 rw [List.getElem?_map,Option.map_eq_some_iff] at h2
 obtain ⟨y,e1,rfl⟩:=h1
 obtain ⟨y',e2,rfl⟩:=h2
 rw [Array.getElem?_toList,e1] at e2
 obtain rfl:=Option.some.inj e2
 exact hL y
theorem Aj7 {t:TypeId} {f:Nat} {x:Operand} (h:match tyF P t f with
  | some (off,_,s)=>s≠0/\match L x with
   | .ip cs=>K (.ip (cs.drop off)) []
   | .bp b p=>K (.bp b (p+off)) []
   | .rp b k i j=>K (.rp b k i (j+off)) []
   | _=>False
  | none=>False):D9 P G ⟨dst,.fieldAddr t x f,ty,pos,after,gd⟩ c L B K:=by
 split at h
 ·rename_i off q s hF
  obtain ⟨fs,fd,f1,f2,f3,f4⟩:=Au4 hF
  obtain ⟨hs0,h⟩:=h
  have run:∀ (a:Act) (w:World) {b p:Nat},a.eval x=.pointer (some ⟨b,p,none⟩)->(execOp a.eval ⟨dst,.fieldAddr t x f,ty,pos,after,gd⟩).run P w=.ok (.value (.pointer (some ⟨b,p+off,none⟩))) w:=fun a w b p hu=>by
   obtain ⟨_,hz⟩:=Fv (w:=w) f4
   simp only [execOp,hu]
   exact G5 (by simp [Instr.fieldAt,run_underlying f1,f2,Instr.sureAddr,fieldPlace,hz,hs0,f3,Hg])
  split at h
  ·rename_i cs hx
   refine ⟨_,_,h,Dv.pure_ fun V w0 n E σ a w _ hL _=>?_⟩
   have:=Nk hL hx
   generalize hu:a.eval x=u at this
   cases this with
   | @ip b o _ g p1 p2 =>
    refine ⟨_,run a w hu,.ip (fun j=>g (off+j)) (fun j u hj=>?_) fun j u hj=>?_⟩
    ·rw [List.getElem?_drop] at hj
     rw [Nat.add_assoc];exact p1 _ u hj
    ·rw [List.getElem?_drop] at hj
     exact p2 _ u hj
  ·rename_i b p hx
   refine ⟨_,_,h,Dv.pure_ fun V w0 n E σ a w _ hL _=>?_⟩
   have:=Nk hL hx
   generalize hu:a.eval x=u at this
   cases this
   exact ⟨_,run a w hu,.bp⟩
  ·rename_i b k i j hx
   refine ⟨_,_,h,Dv.pure_ fun V w0 n E σ a w _ hL _=>?_⟩
   have:=Nk hL hx
   generalize hu:a.eval x=u at this
   cases this
   exact ⟨_,run a w hu,by rw [Nat.add_assoc];exact .rp⟩
  ·exact h.elim
 ·exact h.elim
theorem Bi8 {t:TypeId} {f:Nat} {x:Operand} (h:match tyF P t f,L x with
  | some (off,q,s),.agg cs=>rdA q s (cs.drop off) fun r=>K r []
  | _,_=>False):D9 P G ⟨dst,.field t x f,ty,pos,after,gd⟩ c L B K:=by
 split at h
 ·rename_i off q s cs hF hx
  obtain ⟨fs,fd,f1,f2,f3,f4⟩:=Au4 hF
  have run:∀ (w:World) (a:Act) (vs:Array Value) {v:Value},a.eval x=.agg vs->(part fd.type vs off).run P w=.ok v w->(execOp a.eval ⟨dst,.field t x f,ty,pos,after,gd⟩).run P w=.ok (.value v) w:=fun w a vs v hu hp=>by
   simp only [execOp,hu]
   exact G5 (by simp [Instr.field,run_underlying f1,f2,asAgg,f3,hp])
  match q,f4,h with
  | 0,f4,h =>
   cases hd:cs.drop off with
   | nil=>rw [hd] at h;exact h.elim
   | cons d ds =>
    rw [hd] at h
    refine ⟨_,_,h,Dv.pure_ fun V w0 n E σ a w _ hL _=>?_⟩
    obtain ⟨ha,hz⟩:=Fv (w:=w) f4
    have:=Nk hL hx
    generalize hu:a.eval x=u at this
    cases this with
    | @agg vs _ p1 p2 =>
     have hoff:off < cs.length:=by
      have:=congrArg List.length hd
      simp at this;omega
     have hv:vs[off]? = some (vs[off]'(by omega)):=Array.getElem?_eq_getElem _
     refine ⟨_,run w a vs hu (v:=vs[off]'(by omega)) (by simp [part,ha,hv]),p2 off _ _ hv ?_⟩
     have:=congrArg (fun l=>l[0]?) hd
     simpa using this
  | 1,f4,h =>
   refine ⟨_,_,h.2,Dv.pure_ fun V w0 n E σ a w _ hL _=>?_⟩
   obtain ⟨ha,hz⟩:=Fv (w:=w) f4
   have:=Nk hL hx
   generalize hu:a.eval x=u at this
   cases this with
   | @agg vs _ p1 p2 =>
    have hlen:=h.1
    rw [List.length_drop] at hlen
    refine ⟨_,run w a vs hu (v:=.agg (vs.extract off (off+s))) (by simp [part,ha,hz]),.agg (by simp;omega) fun j v d a b=>?_⟩
    have hj:j < s:=by
     have:=(List.getElem?_eq_some_iff.1 b).1
     simp at this;omega
    rw [List.getElem?_take_of_lt hj,List.getElem?_drop] at b
    rw [Array.getElem?_extract] at a
    split at a
    ·exact p2 _ v d a b
    ·cases a
  | _+2,_,h=>exact h.elim
 ·exact h.elim
theorem B53 {x:Operand} {i:Nat} (h:match L x with
  | .tup cs=>i < cs.length/\K (cs.getD i .any) []
  | _=>False):D9 P G ⟨dst,.extract x i,ty,pos,after,gd⟩ c L B K:=by
 split at h
 ·rename_i cs hx
  refine ⟨_,_,h.2,Dv.pure_ fun V w0 n E σ a w _ hL _=>?_⟩
  have:=Nk hL hx
  generalize hu:a.eval x=u at this
  cases this with
  | @tup vs _ p1 p2 =>
   have hv:vs[i]? = some (vs[i]'(by omega)):=Array.getElem?_eq_getElem _
   refine ⟨vs[i]'(by omega),by simp only [execOp,hu];exact G5 (by simp [Instr.extract,hv]),p2 i _ _ hv ?_⟩
   rw [List.getD_eq_getElem?_getD,List.getElem?_eq_getElem h.1];rfl
 ·exact h.elim
theorem Cc7 {t:TypeId} {x:Operand} (h:Ce P t B (L x) fun r=>K r []):D9 P G ⟨dst,.call { callee:=.builtin .len,args:=#[x],argTypes:=#[t] },ty,pos,after,gd⟩ c L B K:=by
 have run:∀ (a:Act) (w:World) {v:Value} {m:Int},a.eval x=v->(Builtin.len_ #[t] ty #[v]).run P w=.ok (.int .i64 m) w->(execOp a.eval ⟨dst,.call { callee:=.builtin .len,args:=#[x],argTypes:=#[t] },ty,pos,after,gd⟩).run P w=.ok (.value (.int .i64 m)) w:=fun a w v m hu hr=>by
  simp [execOp,resolve,invoke,builtin,hu,hr]
 have slr:∀ {A:Option Addr} {m cc:Nat} (w:World),(Ep P t).isSome=true->(Builtin.len_ #[t] ty #[.slice A m cc]).run P w=.ok (.int .i64 (m:Nat)) w:=fun w hs=>by
  obtain ⟨⟨e,k,y⟩,hq⟩:=Option.isSome_iff_exists.1 hs
  simp [Builtin.len_,run_underlying (Li hq).1,goInt]
 unfold Ce at h
 split at h
 ·rename_i k l hx
  refine ⟨_,_,h.2,Dv.pure_ fun V w0 n E σ a w _ hL _=>?_⟩
  have:=(hL x).nrm_
  rw [hx] at this
  generalize hu:a.eval x=u at this
  cases this with
  | iv hr =>
   obtain ⟨A,cc,rfl,_⟩:=hr.to_sl
   exact ⟨_,run a w hu (slr w h.1),.val⟩
 ·rename_i b hx
  split at h
  ·rename_i b' e k l hb
   refine ⟨_,_,h.2,Dv.pure_ fun V w0 n E σ a w hs hL hB=>?_⟩
   have:=(hL x).nrm_
   rw [hx] at this
   generalize hu:a.eval x=u at this
   cases this with
   | @own _ A m cc he =>
    obtain ⟨q1,q2⟩:=hB b _ hb
    obtain rfl:b'=b:=q2
    obtain ⟨q3,_⟩:=hs.holds _ q1
    rw [he] at q3
    obtain ⟨A',c',e2⟩:=q3.form
    injection e2 with _ e3 _
    subst e3
    exact ⟨_,run a w hu (slr w h.1),.val⟩
  ·exact h.elim
 ·rename_i hx
  exact ⟨_,_,h.2,Dv.pure_ fun V w0 n E σ a w _ hL _=>⟨_,run a w (Cy hL hx) (by simpa using slr (A:=none) (m:=0) (cc:=0) w h.1),.val⟩⟩
 ·rename_i s hx
  refine ⟨_,_,h.2,Dv.pure_ fun V w0 n E σ a w _ hL _=>⟨_,run a w (Cy hL hx) ?_,.val⟩⟩
  have hs:=h.1
  unfold Kt at hs
  split at hs
  ·rename_i hu
   simp [Builtin.len_,run_underlying hu,goInt]
  ·cases hs
 ·exact h.elim
theorem Cc8 {t : TypeId} {x : Operand} (h : match nrm (L x) with
      | .val (.slice none 0 0) => (Ep P t).isSome = true /\ K (.val (.int .i64 0)) []
      | _ => False) : D9 P G ⟨dst, .call { callee := .builtin .cap, args := #[x], argTypes := #[t] }, ty, pos, after, gd⟩ c L B K := by
  split at h
  · rename_i hx
    obtain ⟨hs, h⟩ := h
    obtain ⟨⟨e, k, y⟩, hq⟩ := Option.isSome_iff_exists.1 hs
    refine ⟨_, _, h, Dv.pure_ fun V w0 n E σ a w _ hL _ => ⟨.int .i64 0, ?_, .val⟩⟩
    simp [execOp, resolve, invoke, builtin, Cy hL hx, Builtin.cap_, run_underlying (Li hq).1, goInt]
  · exact h.elim
theorem Cc6 {x y : Operand} {at_ : Array TypeId} (h : match nrm (L x), nrm (L y) with
      | .val (.int k p), .val (.int _ q) => ∃ m, max p q = m /\ K (.val (.int k m)) []
      | _, _ => False) : D9 P G ⟨dst, .call { callee := .builtin .max, args := #[x, y], argTypes := at_ }, ty, pos, after, gd⟩ c L B K := by
  split at h
  · rename_i k p j q hx hy
    obtain ⟨m, rfl, h⟩ := h
    refine ⟨_, _, h, Dv.pure_ fun V w0 n E σ a w _ hL _ => ⟨.int k (if q > p then q else p), ?_, ?_⟩⟩
    · simp [execOp, resolve, invoke, builtin, Cy hL hx, Cy hL hy, Builtin.max_, Builtin.max2]
    · rw [show max p q = if q > p then q else p by split <;> omega]
      exact .val
  · exact h.elim
theorem Cc5 {x y : Operand} {at_ : Array TypeId} (h : match nrm (L x), nrm (L y) with
      | .val (.int k p), .val (.int _ q) => ∃ m, min p q = m /\ K (.val (.int k m)) []
      | _, _ => False) : D9 P G ⟨dst, .call { callee := .builtin .min, args := #[x, y], argTypes := at_ }, ty, pos, after, gd⟩ c L B K := by
  split at h
  · rename_i k p j q hx hy
    obtain ⟨m, rfl, h⟩ := h
    refine ⟨_, _, h, Dv.pure_ fun V w0 n E σ a w _ hL _ => ⟨.int k (if q < p then q else p), ?_, ?_⟩⟩
    · simp [execOp, resolve, invoke, builtin, Cy hL hx, Cy hL hy, Builtin.min_, Builtin.min2]
    · rw [show min p q = if q < p then q else p by split <;> omega]
      exact .val
  · exact h.elim
end
section
variable {P : Program} {G : World -> Prop} {c : Nat} {L : Operand -> AV} {B : Nat -> Option BA} {K : AV -> List BA -> Prop}
variable {dst : Option Tmp} {ty : TypeId} {pos : String} {after : Array Edge} {gd : Option (Nat × Bool)}
theorem Cs.part {X:World} {A:Option Addr} {m cc k:Nat} {l:List (List IV)} (h:Cs X (.slice A m cc) (.sl k l)) {i j d:Nat} (hij:i<=j) (hj:j<=l.length) (A':Option Addr) (hA:i < j->A'=A.map (·.add (i*k))) (hd:j - i<=d) (hd2:d<=cc) :
  Cs X (.slice A' (j - i) d) (.sl k ((l.take j).drop i)):=by
 obtain ⟨A0,c0,e,⟨h1,h2⟩,h3,h4⟩:=h.to_sl
 injection e with e1 e2 e3
 subst e1 e2 e3
 have hlen:((l.take j).drop i).length=j - i:=by rw [List.length_drop,List.length_take];omega
 refine Cs.of_sl ⟨_,_,by rw [hlen],⟨by rw [hlen];exact hd,by rw [hlen];omega⟩,by omega,fun hne=>?_⟩
 have hlt:i < j:=by
  have:=List.length_pos_iff.2 hne
  omega
 have hne0:l≠[]:=by intro e;rw [e] at hj;simp at hj;omega
 obtain ⟨b,off,rfl,hb,h5⟩:=h4 hne0
 rw [hA hlt]
 refine ⟨b,off+i*k,by simp [Hg],hb,fun q x hx=>?_⟩
 rw [List.getElem?_drop] at hx
 have hq:i+q < j:=by
  have:=(List.getElem?_eq_some_iff.1 hx).1
  rw [List.length_take] at this;omega
 rw [List.getElem?_take_of_lt hq] at hx
 obtain ⟨cs,p1,p2,p3⟩:=h5 _ x hx
 refine ⟨cs,p1,p2,fun jj u hu=>?_⟩
 have:=p3 jj u hu
 rw [Nat.add_mul] at this
 rw [show off+i*k+q*k+jj=off+(i*k+q*k)+jj by omega]
 exact this
theorem Bi6 {t:TypeId} {x:Operand} {lo hi mx:Option Operand} (h:match Ep P t,nrm (L x) with
  | some (_,k,_),.iv (.sl k' l) =>
   k=k'/\∃ i j:Nat,(match lo with | none=>i=0 | some p=>L p=.val (.int .i64 i))/\(match hi with | none=>j=l.length | some p=>L p=.val (.int .i64 j))/\i<=j/\j<=l.length/\mxQ L mx hi j l.length (K (.iv (.sl k ((l.take j).drop i))) [])
  | _,_=>False):D9 P G ⟨dst,.slice t x lo hi mx,ty,pos,after,gd⟩ c L B K:=by
 split at h
 ·rename_i e k y k' l ht hx
  obtain ⟨rfl,i,j,hlo,hhi,hij,hj,hK⟩:=h
  obtain ⟨hu,inf,hi2,hi3,_⟩:=Li ht
  have hK':K (.iv (.sl k ((l.take j).drop i))) []:=by
   unfold mxQ at hK
   split at hK
   ·exact hK
   ·obtain ⟨_,m,_,_,_,h⟩:=hK;exact h
  refine ⟨_,_,hK',Dv.pure_ fun V w0 n E σ a w _ hL _=>?_⟩
  have:=(hL x).nrm_
  rw [hx] at this
  generalize hxv:a.eval x=u at this
  cases this with
  | iv hr =>
   obtain ⟨A,cc,rfl,⟨h1,h2⟩,h3,h4⟩:=hr.to_sl
   have hlo':lo.map a.eval=none/\i=0\/lo.map a.eval=some (.int .i64 i):=by
    cases lo with
    | none=>exact .inl ⟨rfl,hlo⟩
    | some p=>exact .inr (by
      have:=Cy hL (x:=p) (v:=.int .i64 i) (by rw [hlo];rfl)
      simp [this])
   have hhi':hi.map a.eval=none/\j=l.length\/hi.map a.eval=some (.int .i64 j):=by
    cases hi with
    | none=>exact .inl ⟨rfl,hhi⟩
    | some p=>exact .inr (by
      have:=Cy hL (x:=p) (v:=.int .i64 j) (by rw [hhi];rfl)
      simp [this])
   have hmx:∃ m:Nat,j<=m/\m<=cc/\((mx=none/\m=cc)\/(mx.map a.eval=some (.int .i64 m)/\mx.isSome=true/\hi.isSome=true)):=by
    unfold mxQ at hK
    split at hK
    ·exact ⟨cc,by omega,Nat.le_refl _,.inl ⟨rfl,rfl⟩⟩
    ·rename_i p
     obtain ⟨e0,m,e1,e2,e3,_⟩:=hK
     exact ⟨m,e2,by omega,.inr ⟨by
      have:=Cy hL (x:=p) (v:=.int .i64 m) (by rw [e1];rfl)
      simp [this],rfl,e0⟩⟩
   obtain ⟨m,hm1,hm2,hm⟩:=hmx
   refine ⟨.slice (if m=i then A else A.map (·.add (i*k))) (j - i) (m - i),?_,.iv (hr.part hij hj _ (fun hne=>by rw [if_neg (by omega)]) (by omega) (by omega))⟩
   have hb:(Instr.sliceBounds true l.length cc (lo.map a.eval) (hi.map a.eval) (mx.map a.eval)).run P w=.ok (i,j,m) w:=by
    have i1:(0:Int)<=(i:Int)/\(i:Int)<=(j:Int):=by omega
    have i2:(0:Int)<=(j:Int)/\(j:Int)<=(m:Int):=by omega
    have i6:(0:Int)<=(m:Int)/\(m:Int)<=(cc:Int):=by omega
    have i3:i<=j:=hij
    have i4:j<=m:=hm1
    have i5:l.length<=cc:=h1
    rcases hm with ⟨rfl,rfl⟩ | ⟨e3,e4,e5⟩
    ·rcases hlo' with ⟨e1,rfl⟩ | e1<;>rcases hhi' with ⟨e2,rfl⟩ | e2<;>rw [e1,e2]<;>simp [Instr.sliceBounds,Instr.sliceBound,asIntOf,i1,i2,i3,i4,i5]
    ·rcases hhi' with ⟨e2,rfl⟩ | e2
     ·cases hi<;>simp at e2 e5
     ·rcases hlo' with ⟨e1,rfl⟩ | e1<;>rw [e1,e2,e3]<;>simp [Instr.sliceBounds,Instr.sliceBound,asIntOf,i1,i2,i3,i4,i5,i6,hm2]
   simp only [execOp,hxv]
   refine G5 ?_
   simp [Instr.sliceAt,Instr.slice,run_underlying hu,hb,sizeOf,typeInfo,hi2,hi3]
 ·exact h.elim
theorem Aj6 {t:TypeId} {x i:Operand} (h:match nrm (L i) with
  | .val (.int _ m)=>match Ep P t with
   | some (_,k,_)=>match nrm (L x) with
    | .iv (.sl k' l)=>k=k'/\0<=m/\∃ cs,l[m.toNat]? = some cs/\K (.ip cs) []
    | .own b=>match B b with
     | some (.row _ _ k' l)=>k=k'/\0<=m/\m.toNat < l.length/\K (.rp b k m.toNat 0) []
     | _=>False
    | _=>False
   | none=>match Wb P t,L x with
    | some (n,_,k),.bp b p=>0<=m/\m < (n:Int)/\0 < k/\K (.bp b (p+m.toNat*k)) []
    | some (n,_,k),.ip cs=>0<=m/\m < (n:Int)/\0 < k/\K (.ip (cs.drop (m.toNat*k))) []
    | _,_=>False
  | _=>False):D9 P G ⟨dst,.indexAddr t x i,ty,pos,after,gd⟩ c L B K:=by
 split at h
 ·rename_i kk m hi
  split at h
  ·rename_i e k y ht
   obtain ⟨hu,inf,hi2,hi3,_⟩:=Li ht
   have run:∀ (a:Act) (w:World) {A:Addr} {len cc:Nat},a.eval i=.int kk m->a.eval x=.slice (some A) len cc->0<=m->m < (len:Int)->(execOp a.eval ⟨dst,.indexAddr t x i,ty,pos,after,gd⟩).run P w=.ok (.value (.pointer (some (A.add (m.toNat*k))))) w:=fun a w A len cc h1 h2 h3 h4=>by
    simp only [execOp,h1,h2]
    refine G5 ?_
    have h5:¬ (m < 0):=by omega
    simp [Instr.indexAt,asIntOf,run_underlying hu,h3,h4,sizeOf,typeInfo,hi2,hi3]
   split at h
   ·rename_i k' l hx
    obtain ⟨rfl,h0,cs,hcs,hK⟩:=h
    refine ⟨_,_,hK,Dv.pure_ fun V w0 n E σ a w hs hL _=>?_⟩
    have:=(hL x).nrm_
    rw [hx] at this
    generalize hxv:a.eval x=u at this
    cases this with
    | iv hr =>
     obtain ⟨A,cc,rfl,⟨h1,h2⟩,h3,h4⟩:=hr.to_sl
     have hlt:=(List.getElem?_eq_some_iff.1 hcs).1
     obtain ⟨b,off,rfl,hb,h5⟩:=h4 (by intro e;rw [e] at hcs;simp at hcs)
     obtain ⟨vs,p1,p2,p3⟩:=h5 _ cs hcs
     refine ⟨_,run a w (Cy hL hi) hxv h0 (by omega),?_⟩
     rw [Hg]
     refine .ip (fun j=>(vs[j]?).getD undef) (fun j u hj=>?_) fun j u hj=>?_
     ·have hj':j < vs.length:=by rw [p1.len];exact (List.getElem?_eq_some_iff.1 hj).1
      rw [List.getElem?_eq_getElem hj']
      exact p3 j _ (List.getElem?_eq_getElem hj')
     ·have hj':j < vs.length:=by rw [p1.len];exact (List.getElem?_eq_some_iff.1 hj).1
      simp only [List.getElem?_eq_getElem hj',Option.getD_some]
      exact p1.get (List.getElem?_eq_getElem hj') hj
   ·rename_i b hx
    split at h
    ·rename_i b' e' k' l hb
     obtain ⟨rfl,h0,hlt,hK⟩:=h
     refine ⟨_,_,hK,Dv.pure_ fun V w0 n E σ a w hs hL hB=>?_⟩
     have:=(hL x).nrm_
     rw [hx] at this
     generalize hxv:a.eval x=u at this
     cases this with
     | @own _ A mm cc he =>
      obtain ⟨q1,q2⟩:=hB b _ hb
      obtain rfl:b'=b:=q2
      obtain ⟨q3,q4⟩:=hs.holds _ q1
      rw [he] at q3 q4
      rcases q3.forms with ⟨_,e0⟩ | ⟨g,c2,hg,_,_⟩
      ·rw [e0] at hlt;simp at hlt
      ·injection hg with g1 g2 g3
       subst g1 g2 g3
       obtain rfl:g=E.blk b':=q4 g rfl
       refine ⟨_,run a w (Cy hL hi) hxv h0 (by omega),?_⟩
       rw [Hg]
       have:=Bb.rp (E:=E) (X:=vis V w0 w (Ac E σ.bk)) (b:=b') (k:=k) (i:=m.toNat) (j:=0)
       simpa using this
    ·exact h.elim
   ·exact h.elim
  ·split at h
   ·rename_i n q k b p ht hx
    obtain ⟨h0,h1,hk,hK⟩:=h
    refine ⟨_,_,hK,Dv.pure_ fun V w0 n' E σ a w hs hL _=>?_⟩
    obtain ⟨e,hu,hz⟩:=Xc ht
    obtain ⟨_,hz⟩:=Fv (w:=w) hz
    have:=Nk hL hx
    generalize hxv:a.eval x=u at this
    cases this
    refine ⟨.pointer (some ⟨E.blk b,p+m.toNat*k,none⟩),?_,.bp⟩
    simp only [execOp,Cy hL hi,hxv]
    refine G5 ?_
    simp [Instr.indexAt,asIntOf,run_underlying hu,Instr.sureAddr,h0,h1,hz,Hg]
   ·rename_i n q k cs ht hx
    obtain ⟨h0,h1,hk,hK⟩:=h
    refine ⟨_,_,hK,Dv.pure_ fun V w0 n' E σ a w hs hL _=>?_⟩
    obtain ⟨e,hu,hz⟩:=Xc ht
    obtain ⟨_,hz⟩:=Fv (w:=w) hz
    have:=Nk hL hx
    generalize hxv:a.eval x=u at this
    cases this with
    | @ip b o _ g p1 p2 =>
     refine ⟨.pointer (some ⟨b,o+m.toNat*k,none⟩),?_,.ip (fun j=>g (m.toNat*k+j)) (fun j u hj=>?_) fun j u hj=>?_⟩
     ·simp only [execOp,Cy hL hi,hxv]
      refine G5 ?_
      simp [Instr.indexAt,asIntOf,run_underlying hu,Instr.sureAddr,h0,h1,hz,Hg]
     ·rw [List.getElem?_drop] at hj
      rw [Nat.add_assoc];exact p1 _ u hj
     ·rw [List.getElem?_drop] at hj
      exact p2 _ u hj
   ·exact h.elim
 ·exact h.elim
theorem Bi7 {t:TypeId} {x i:Operand} (h:match nrm (L i),L x with
  | .val (.int _ m),.aggI cs=>match Wb P t with
   | some (n,0,1)=>0<=m/\m < (n:Int)/\∃ u,cs[m.toNat]? = some u/\K (nrm (.iv u)) []
   | _=>False
  | .val (.int _ m),.val (.string s)=>Kt P t=true/\0<=m/\∃ b,s[m.toNat]? = some b/\K (.val (.int .u8 (b.toNat:Nat))) []
  | _,_=>False):D9 P G ⟨dst,.index t x i,ty,pos,after,gd⟩ c L B K:=by
 split at h
 ·rename_i kk m cs hi hx
  split at h
  ·rename_i n ht
   obtain ⟨h0,h1,u,hu',hK⟩:=h
   refine ⟨_,_,hK,Dv.pure_ fun V w0 n' E σ a w hs hL _=>?_⟩
   have:=Nk hL hx
   generalize hxv:a.eval x=u' at this
   cases this with
   | @aggI vs _ hr =>
    obtain ⟨e,hu,hz⟩:=Xc ht
    obtain ⟨ha,hz⟩:=Fv (w:=w) hz
    have hlt:=(List.getElem?_eq_some_iff.1 hu').1
    rw [<-hr.len] at hlt
    have hv:vs[m.toNat]? = some (vs[m.toNat]'(by simpa using hlt)):=Array.getElem?_eq_getElem _
    refine ⟨vs[m.toNat]'(by simpa using hlt),?_,(Bb.iv (hr.get (by rw [Array.getElem?_toList];exact hv) hu')).nrm_⟩
    simp only [execOp,Cy hL hi,hxv]
    refine G5 ?_
    simp [Instr.index,asIntOf,run_underlying hu,h0,h1,hz,part,ha,hv]
  ·exact h.elim
 ·rename_i kk m s hi hx
  obtain ⟨ht,h0,b,hb,hK⟩:=h
  refine ⟨_,_,hK,Dv.pure_ fun V w0 n' E σ a w hs hL _=>⟨_,?_,.val⟩⟩
  unfold Kt at ht
  split at ht
  ·rename_i hu
   simp only [execOp,Cy hL hi,Cy hL (x:=x) (v:=.string s) (by rw [hx];rfl)]
   refine G5 ?_
   simp [Instr.index,asIntOf,run_underlying hu,h0,hb]
  ·cases ht
 ·exact h.elim
theorem Br5 {f : FuncId} {fo : Operand} {args : Array Operand} {at_ : Array TypeId} {caps : List AV} (hfo : L fo = .fn f caps) (hen : ∀ vs (w : World), (callFunc f vs).run P w = .ok (.enter f vs) w) (h : Bo P G B f (args.toList.map L ++ caps) c K) :
    D9 P G ⟨dst, .call { callee := .value fo, args, argTypes := at_ }, ty, pos, after, gd⟩ c L B K := by
  obtain ⟨r, nb, args', hc, hsm, hK⟩ := h
  simp only [Bool.and_eq_true] at hsm
  refine ⟨_, _, hK, fun V w0 n E σ a w hs hG hL hB N Q hN => ?_⟩
  have hfv := Nk hL hfo
  generalize hfe : a.eval fo = u at hfv
  cases hfv with
  | @fn _ vs _ p1 p2 =>
    have hexec : (execOp a.eval ⟨dst, .call { callee := .value fo, args, argTypes := at_ }, ty, pos, after, gd⟩).run P w = .ok (.enter f (args.map a.eval ++ vs)) w := by
      simp [execOp, resolve, hfe, Deferred.ofValue, invoke, hen]
    have hargs : At E (vis V w0 w (Ac E σ.bk)) (args.map a.eval ++ vs).toList (args.toList.map L ++ caps) := by
      refine ⟨by simp [p1], fun j v d e1 e2 => ?_⟩
      by_cases hj : j < args.size
      · rw [List.getElem?_append_left (by simpa using hj), List.getElem?_map, Option.map_eq_some_iff] at e2
        obtain ⟨y, e3, rfl⟩ := e2
        rw [Array.getElem?_toList, Array.getElem?_append_left (by simpa using hj), Array.getElem?_map, Option.map_eq_some_iff] at e1
        obtain ⟨y', e4, rfl⟩ := e1
        rw [Array.getElem?_toList, e4] at e3
        obtain rfl := Option.some.inj e3
        exact hL _
      · rw [List.getElem?_append_right (by simp; omega)] at e2
        rw [Array.getElem?_toList, Array.getElem?_append_right (by simp; omega)] at e1
        simp only [List.length_map, Array.length_toList] at e2
        simp only [Array.size_map] at e1
        exact p2 _ v d e1 e2
    unfold Oper.wp
    rw [hexec, Oper.upon_enter]
    have hlt := hs.lt
    have h0 := hs.low.size
    -- what the callee gives, seen by the caller
    have fin : ∀ {gs : List Nat} (Vc : World), Vc = vis V w0 w gs -> (∀ g ∈ gs, g < w.heap.size) -> (∀ (E' : Env) (w' : World) (v : Value), (∀ b ∈ nb, b.holds E' (vis Vc w w' (Ac E' nb)) w' w.heap.size) -> Bb E' (vis Vc w w' (Ac E' nb)) v r -> (Ext (vis Vc w w' (Ac E' nb)) (vis V w0 w' (Ac E' nb ++ gs))) ->
          (∀ b ∈ nb, b.holds E' (vis V w0 w' (Ac E' nb ++ Ac E σ.bk)) w' w.heap.size) /\ Bb E' (vis V w0 w' (Ac E' nb ++ Ac E σ.bk)) v r) -> A7 P G f args' r nb -> At E Vc (args.map a.eval ++ vs).toList args' ->
        Calls P f (args.map a.eval ++ vs) w fun
          | .returned v, w'' => N (a.put dst v) w''
          | .panicked chain, w'' => Q (.panic chain) a w''
          | .outgrown, _ => LetsOut Q := fun {gs} Vc hVc hgs hfl hcall hav => by
      subst hVc
      refine (hcall.2 _ w E _ (Rs hs.ext hs.low) hG hav).mono ?_
      rintro e w' ⟨v, E', rfl, hb, hnd, hnew, hh, hv⟩
      obtain ⟨hh2, hv2⟩ := hfl E' w' v hh hv (B71 hgs h0 hb hnew)
      have ho := Xo (E := E) (E' := E') (c := c) hsm.2
      refine hN v w' (Env.join E E' c) ⟨hb, ⟨Env.join_same E E' c, .inr rfl⟩, by rw [ho]; exact hnd, by rw [ho]; exact hnew, fun b hb' => ?_, by rw [ho]; exact hv2.sh hsm.1⟩
      obtain ⟨b0, hb0, rfl⟩ := A58 hb'
      rw [ho]
      exact BA.holds_base (BA.sh_holds (hh2 b0 hb0) (Rz hsm.2 b0 hb0)) h0
    rcases hc with ⟨hsub, hcall⟩ | ⟨hl, hfr, hfb, hsub, hcall⟩
    · refine fin (gs := Ac E σ.bk) _ rfl hlt (fun E' w' v hh hv hx => ⟨fun b hb => ?_, hv.mono hx⟩) hcall (hsub _ _ _ hargs)
      exact BA.holds_ext (Env.same_refl 0 0 E') hx (fun _ _ => rfl) b.off_none (hh b hb)
    · refine fin (gs := []) _ rfl (fun _ h => by cases h) (fun E' w' v hh hv hx => ⟨fun b hb => BA.flat_holds hfb hb (hh b hb), hv.flat hfr⟩) hcall (hsub _ _ _ ⟨by rw [Lg]; exact hargs.1, fun j v d e1 e2 => ?_⟩)
      rw [Lh, Option.map_eq_some_iff] at e2
      obtain ⟨d', e3, rfl⟩ := e2
      exact hs.view hB hl (hargs.2 j v d' e1 e3)
end
end Go.Proofs.YthlgnjlpakimaaaGreatDoor
