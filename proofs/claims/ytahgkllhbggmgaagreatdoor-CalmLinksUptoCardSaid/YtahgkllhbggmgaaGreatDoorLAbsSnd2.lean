/- The formula of an operation is enough: kind by kind. No program is known here. -/
import Derived.Test.YtahgkllhbggmgaaGreatDoorLMarks
import Derived.OrdersIn
import Derived.OwnWalkIn
import Derived.Scope
import Derived.Laws.IdiomCopy
import Derived.MapKept
import Derived.Laws.BytesArg
import Derived.Lib.ConvBytes
set_option linter.all false
set_option linter.unnecessarySimpa false
set_option linter.unusedSimpArgs false
set_option linter.unusedVariables false
namespace Go.Proofs.YtahgkllhbggmgaaGreatDoor
open Go.ChangeShapes Go.WideShapes Go.ChangeAt Go.RowKit
inductive IV where
 | val (v:Value)
 | sl (k:Nat) (l:List (List IV))
 | pt (cs:List IV)
instance:Inhabited IV:=⟨.val undef⟩
def okV:Value->Prop
 | .int k n=>(Lit.int k n).wf=true
 | .string s=>s.size<=maxLen
 | .agg _=>False
 | .tuple _=>False
 | _=>True
theorem Bw4 {v:Value} (h:okV v):v.oneCell'=true:=by
 cases v<;>first | rfl | exact h.elim
inductive C7 (X:World):Value->IV->Prop
 | val {v:Value} : okV v->C7 X v (.val v)
 | nil {A:Option Addr} {c k:Nat} : c<=maxLen->C7 X (.slice A 0 c) (.sl k [])
 | sl {b off c k:Nat} {l:List (List IV)} (f:Nat->Nat->Value):b < X.heap.size->l.length<=c->l.length<=1073741824->c<=maxLen->(∀ cs∈l,cs.length=k) ->
   (∀ i j cs u,l[i]? = some cs->cs[j]? = some u->X.cell? ⟨b,off+i*k+j,none⟩=some (f i j)) ->
   (∀ i j cs u,l[i]? = some cs->cs[j]? = some u->C7 X (f i j) u)->C7 X (.slice (some ⟨b,off,none⟩) l.length c) (.sl k l)
 | pt {b off:Nat} {cs:List IV} (f:Nat->Value):(∀ j u,cs[j]? = some u->X.cell? ⟨b,off+j,none⟩=some (f j))->(∀ j u,cs[j]? = some u->C7 X (f j) u)->C7 X (.pointer (some ⟨b,off,none⟩)) (.pt cs)
theorem C7.ext {X X':World} (he:Ext X X') {v:Value} {i:IV} (h:C7 X v i):C7 X' v i:=by
 induction h with
 | val h=>exact .val h
 | nil h=>exact .nil h
 | sl f h0 h1 h2 h3 h4 h5 _ ih=>exact .sl f (Nat.lt_of_lt_of_le h0 he.size) h1 h2 h3 h4 (fun i j cs u a b=>he.cell _ _ (h5 i j cs u a b)) ih
 | pt f h1 _ ih=>exact .pt f (fun j u a=>he.cell _ _ (h1 j u a)) ih
theorem C7.one {X:World} {v:Value} {i:IV} (h:C7 X v i):v.oneCell'=true:=by
 cases h with
 | val h=>exact Bw4 h
 | nil _=>rfl
 | sl _=>rfl
 | pt _=>rfl
def Av (X:World):List Value->List IV->Prop
 | [],[]=>True
 | v :: vs,i :: is=>C7 X v i/\Av X vs is
 | _,_=>False
theorem Av.len {X:World} : ∀ {vs:List Value} {is:List IV},Av X vs is->vs.length=is.length
 | [],[],_=>rfl
 | _ :: _,_ :: _,h=>congrArg (·+1) (Av.len h.2)
 | [],_ :: _,h=>h.elim
 | _ :: _,[],h=>h.elim
theorem Av.get {X:World} : ∀ {vs:List Value} {is:List IV},Av X vs is->∀ {j:Nat} {v:Value} {i:IV},vs[j]? = some v->is[j]? = some i->C7 X v i
 | _ :: _,_ :: _,h,0,_,_,a,b=>by simp at a b;subst a b;exact h.1
 | _ :: _,_ :: _,h,j+1,_,_,a,b=>Av.get h.2 (j:=j) (by simpa using a) (by simpa using b)
 | [],_,_,j,_,_,a,_=>by simp at a
 | _ :: _,[],h,_,_,_,_,_=>h.elim
theorem Av.of {X:World} : ∀ {vs:List Value} {is:List IV},vs.length=is.length->(∀ (j:Nat) (v:Value) (i:IV),vs[j]? = some v->is[j]? = some i->C7 X v i)->Av X vs is
 | [],[],_,_=>trivial
 | v :: vs,i :: is,hl,h=>⟨h 0 v i rfl rfl,Av.of (by simpa using hl) fun j v i a b=>h (j+1) v i (by simpa using a) (by simpa using b)⟩
 | [],_ :: _,hl,_=>by simp at hl
 | _ :: _,[],hl,_=>by simp at hl
theorem Av.ext {X X':World} (he:Ext X X') {vs:List Value} {is:List IV} (h:Av X vs is):Av X' vs is:=Av.of h.len fun _ _ _ a b=>(h.get a b).ext he
theorem Av.one {X:World} {vs:List Value} {is:List IV} (h:Av X vs is):∀ u∈vs,u.oneCell'=true:=by
 intro u hu
 obtain ⟨j,hj⟩:=List.mem_iff_getElem?.1 hu
 have hlt:=(List.getElem?_eq_some_iff.1 hj).1
 rw [h.len] at hlt
 exact (h.get hj (List.getElem?_eq_getElem hlt)).one
section
variable {X : World} {v : Value} {k : Nat} {l : List (List IV)}
theorem C7.to_sl (h:C7 X v (.sl k l)):Sl (Av X) k X X.heap.size v l:=by
 cases h with
 | nil h=>exact Sl.nil_ h _
 | @sl b off c _ _ f h0 h1 h2 h3 h4 h5 h6 =>
  refine ⟨_,c,rfl,⟨h1,h2⟩,h3,fun hne=>⟨b,off,rfl,h0,fun i cs hx=>?_⟩⟩
  refine ⟨(List.range cs.length).map (f i),Av.of (by simp) fun j v u a b=>?_,by simp [h4 cs (List.mem_of_getElem? hx)],fun j u hu=>?_⟩
  ·have hj:=(List.getElem?_eq_some_iff.1 b).1
   rw [List.getElem?_map,List.getElem?_range hj] at a
   obtain rfl:=Option.some.inj a
   exact h6 i j cs u hx b
  ·obtain ⟨hj,e⟩:=List.getElem?_eq_some_iff.1 hu
   simp only [List.length_map,List.length_range] at hj
   simp only [List.getElem_map,List.getElem_range] at e
   subst e
   exact h5 i j cs _ hx (List.getElem?_eq_getElem hj)
theorem C7.of_sl (h:Sl (Av X) k X X.heap.size v l):C7 X v (.sl k l):=by
 obtain ⟨A,c,rfl,⟨h1,h2⟩,h3,h4⟩:=h
 by_cases hne:l=[]
 ·subst hne
  exact .nil h3
 ·obtain ⟨b,off,rfl,hb,h5⟩:=h4 hne
  refine .sl (fun i j=>(X.cell? ⟨b,off+i*k+j,none⟩).getD undef) hb h1 h2 h3 (fun cs hcs=>?_) (fun i j cs u hx hu=>?_) (fun i j cs u hx hu=>?_)
  ·obtain ⟨i,hi⟩:=List.mem_iff_getElem?.1 hcs
   obtain ⟨vs,a1,a2,_⟩:=h5 i cs hi
   rw [<-a1.len,a2]
  ·obtain ⟨vs,a1,a2,a3⟩:=h5 i cs hx
   have hj:=(List.getElem?_eq_some_iff.1 hu).1
   rw [<-a1.len] at hj
   rw [a3 j _ (List.getElem?_eq_getElem hj)]
   rfl
  ·obtain ⟨vs,a1,a2,a3⟩:=h5 i cs hx
   have hj:=(List.getElem?_eq_some_iff.1 hu).1
   rw [<-a1.len] at hj
   simp only [a3 j _ (List.getElem?_eq_getElem hj),Option.getD_some]
   exact a1.get (List.getElem?_eq_getElem hj) hu
theorem C7.of_typed {α:Type} {R:List Value->α->Prop} {enc:α->List IV} (hR:∀ cs x,R cs x->Av X cs (enc x)) {l:List α} {B:Nat} (h:Sl R k X B v l) (hB:B<=X.heap.size):C7 X v (.sl k (l.map enc)):=by
 refine C7.of_sl ?_
 obtain ⟨A,c,rfl,h1,h3,h4⟩:=h
 refine ⟨A,c,by rw [List.length_map],by rw [List.length_map];exact h1,h3,fun hne=>?_⟩
 obtain ⟨b,off,rfl,hb,h5⟩:=h4 (fun e=>hne (by rw [e];rfl))
 refine ⟨b,off,rfl,Nat.lt_of_lt_of_le hb hB,fun i cs hx=>?_⟩
 rw [List.getElem?_map,Option.map_eq_some_iff] at hx
 obtain ⟨y,hy,rfl⟩:=hx
 obtain ⟨vs,a1,a2,a3⟩:=h5 i y hy
 exact ⟨vs,hR _ _ a1,a2,a3⟩
theorem C7.to_typed {α:Type} {R:List Value->α->Prop} {enc:α->List IV} {l:List α} (h:C7 X v (.sl k (l.map enc))) (hR:∀ cs x,x∈l->Av X cs (enc x)->R cs x):Sl R k X X.heap.size v l:=by
 obtain ⟨A,c,rfl,h1,h3,h4⟩:=h.to_sl
 rw [List.length_map] at h1 ⊢
 refine ⟨A,c,rfl,h1,h3,fun hne=>?_⟩
 obtain ⟨b,off,rfl,hb,h5⟩:=h4 (fun e=>hne (List.map_eq_nil_iff.1 e))
 refine ⟨b,off,rfl,hb,fun i y hy=>?_⟩
 obtain ⟨vs,a1,a2,a3⟩:=h5 i (enc y) (by rw [List.getElem?_map,hy];rfl)
 exact ⟨vs,hR _ _ (List.mem_of_getElem? hy) a1,a2,a3⟩
end
inductive AV where
 | any
 | val (v:Value)
 | iv (i:IV)
 | ip (cs:List IV)
 | bp (b o:Nat)
 | rp (b k i j:Nat)
 | own (b:Nat)
 | mv (b:Nat)
 | agg (cs:List AV)
 | aggI (cs:List IV)
 | tup (vs:List AV)
 | fn (f:FuncId) (caps:List AV)
instance:Inhabited AV:=⟨.any⟩
structure Env where
 blk:Nat->Nat
 row:Nat->Value
inductive Au (E:Env) (X:World):Value->AV->Prop
 | any {v:Value} : Au E X v .any
 | val {v:Value} : Au E X v (.val v)
 | iv {v:Value} {i:IV} : C7 X v i->Au E X v (.iv i)
 | ip {b off:Nat} {cs:List IV} (f:Nat->Value):(∀ j u,cs[j]? = some u->X.cell? ⟨b,off+j,none⟩=some (f j))->(∀ j u,cs[j]? = some u->C7 X (f j) u)->Au E X (.pointer (some ⟨b,off,none⟩)) (.ip cs)
 | bp {b o:Nat} : Au E X (.pointer (some ⟨E.blk b,o,none⟩)) (.bp b o)
 | rp {b k i j:Nat} : Au E X (.pointer (some ⟨E.blk b,i*k+j,none⟩)) (.rp b k i j)
 | own {b:Nat} {A:Option Addr} {n c:Nat} : E.row b=.slice A n c->Au E X (.slice A n c) (.own b)
 | mv {b:Nat} : Au E X (.map (some (E.blk b))) (.mv b)
 | aggI {vs:Array Value} {cs:List IV} : Av X vs.toList cs->Au E X (.agg vs) (.aggI cs)
 | agg {vs:Array Value} {cs:List AV} : vs.size=cs.length->(∀ (j:Nat) v c,vs[j]? = some v->cs[j]? = some c->Au E X v c)->Au E X (.agg vs) (.agg cs)
 | tup {vs:Array Value} {cs:List AV} : vs.size=cs.length->(∀ (j:Nat) v c,vs[j]? = some v->cs[j]? = some c->Au E X v c)->Au E X (.tuple vs) (.tup cs)
 | fn {f:FuncId} {vs:Array Value} {cs:List AV} : vs.size=cs.length->(∀ (j:Nat) v c,vs[j]? = some v->cs[j]? = some c->Au E X v c)->Au E X (.func (.func f) #[] vs) (.fn f cs)
def AV.off (lo hi:Nat):AV->Bool
 | .bp b _=>decide (b < lo) || decide (hi<=b)
 | .rp b _ _ _=>decide (b < lo) || decide (hi<=b)
 | .own b=>decide (b < lo) || decide (hi<=b)
 | .mv b=>decide (b < lo) || decide (hi<=b)
 | .agg cs=>offs lo hi cs
 | .tup cs=>offs lo hi cs
 | .fn _ cs=>offs lo hi cs
 | _=>true
where offs (lo hi:Nat):List AV->Bool
 | []=>true
 | c :: cs=>AV.off lo hi c&&offs lo hi cs
def Env.same (lo hi:Nat) (E E':Env):Prop:=∀ b,(b < lo\/hi<=b)->E'.blk b=E.blk b/\E'.row b=E.row b
theorem Env.same_refl (lo hi:Nat) (E:Env):Env.same lo hi E E:=fun _ _=>⟨rfl,rfl⟩
theorem Pa {lo hi:Nat} : ∀ {cs:List AV},AV.off.offs lo hi cs=true->∀ {j:Nat} {c:AV},cs[j]? = some c->c.off lo hi=true
 | [],_,j,c,h=>by simp at h
 | d :: cs,h,0,c,e=>by
  simp only [AV.off.offs,Bool.and_eq_true] at h
  simp at e;subst e;exact h.1
 | d :: cs,h,j+1,c,e=>by
  simp only [AV.off.offs,Bool.and_eq_true] at h
  exact Pa h.2 (by simpa using e)
theorem Au.ext {E E':Env} {X X':World} {lo hi:Nat} (hE:Env.same lo hi E E') (he:Ext X X') {v:Value} {a:AV} (h:Au E X v a):a.off lo hi=true->Au E' X' v a:=by
 induction h with
 | any=>exact fun _=>.any
 | val=>exact fun _=>.val
 | iv h=>exact fun _=>.iv (h.ext he)
 | ip f h1 h2=>exact fun _=>.ip f (fun j u hu=>he.cell _ _ (h1 j u hu)) fun j u hu=>(h2 j u hu).ext he
 | @bp b o =>
  intro hb
  simp only [AV.off,Bool.or_eq_true,decide_eq_true_eq] at hb
  rw [<-(hE b hb).1]
  exact .bp
 | @rp b k i j =>
  intro hb
  simp only [AV.off,Bool.or_eq_true,decide_eq_true_eq] at hb
  rw [<-(hE b hb).1]
  exact .rp
 | @own b A n c h =>
  intro hb
  simp only [AV.off,Bool.or_eq_true,decide_eq_true_eq] at hb
  exact .own ((hE b hb).2.trans h)
 | @mv b =>
  intro hb
  simp only [AV.off,Bool.or_eq_true,decide_eq_true_eq] at hb
  rw [<-(hE b hb).1]
  exact .mv
 | aggI h=>exact fun _=>.aggI (h.ext he)
 | agg h1 _ ih=>exact fun hb=>.agg h1 fun j v c a b=>ih j v c a b (Pa hb b)
 | tup h1 _ ih=>exact fun hb=>.tup h1 fun j v c a b=>ih j v c a b (Pa hb b)
 | fn h1 _ ih=>exact fun hb=>.fn h1 fun j v c a b=>ih j v c a b (Pa hb b)
theorem off_none (lo:Nat):∀ a:AV,a.off lo lo=true:=by
 have key:∀ n (a:AV),SizeOf.sizeOf a<=n->a.off lo lo=true:=by
  intro n
  induction n with
  | zero=>intro a h;cases a<;>simp at h
  | succ n ih =>
   have hs:∀ cs:List AV,SizeOf.sizeOf cs<=n->AV.off.offs lo lo cs=true:=by
    intro cs
    induction cs with
    | nil=>exact fun _=>rfl
    | cons c cs ihs =>
     intro h
     simp only [List.cons.sizeOf_spec] at h
     simp only [AV.off.offs,Bool.and_eq_true]
     exact ⟨ih c (by omega),ihs (by omega)⟩
   intro a h
   cases a with
   | any=>rfl
   | val v=>rfl
   | iv i=>rfl
   | ip cs=>rfl
   | bp b o=>simp only [AV.off,Bool.or_eq_true,decide_eq_true_eq];omega
   | rp b k i j=>simp only [AV.off,Bool.or_eq_true,decide_eq_true_eq];omega
   | own b=>simp only [AV.off,Bool.or_eq_true,decide_eq_true_eq];omega
   | mv b=>simp only [AV.off,Bool.or_eq_true,decide_eq_true_eq];omega
   | aggI cs=>rfl
   | agg cs=>simp only [AV.agg.sizeOf_spec] at h;exact hs cs (by omega)
   | tup cs=>simp only [AV.tup.sizeOf_spec] at h;exact hs cs (by omega)
   | fn f cs=>simp only [AV.fn.sizeOf_spec] at h;exact hs cs (by omega)
 exact fun a=>key _ a (Nat.le_refl _)
theorem Au.mono {E:Env} {X X':World} (he:Ext X X') {v:Value} {a:AV} (h:Au E X v a):Au E X' v a:=h.ext (Env.same_refl 0 0 E) he (off_none 0 a)
def An (E:Env) (X:World) (vs:List Value) (cs:List AV):Prop:=vs.length=cs.length/\∀ (j:Nat) v c,vs[j]? = some v->cs[j]? = some c->Au E X v c
theorem An.nil {E:Env} {X:World} : An E X [] []:=⟨rfl,fun j v c h=>by simp at h⟩
theorem An.cons {E:Env} {X:World} {v:Value} {vs:List Value} {c:AV} {cs:List AV} (h:Au E X v c) (hs:An E X vs cs):An E X (v :: vs) (c :: cs) :=
 ⟨by simp [hs.1],fun j u d a b=>by
  cases j with
  | zero=>simp at a b;subst a b;exact h
  | succ j=>exact hs.2 j u d (by simpa using a) (by simpa using b)⟩
theorem An.cons_iff {E:Env} {X:World} {vs:List Value} {c:AV} {cs:List AV} : An E X vs (c :: cs)↔∃ v vs',vs=v :: vs'/\Au E X v c/\An E X vs' cs:=by
 constructor
 ·rintro ⟨h1,h2⟩
  cases vs with
  | nil=>simp at h1
  | cons v vs=>exact ⟨v,vs,rfl,h2 0 v c rfl rfl,by simpa using h1,fun j u d a b=>h2 (j+1) u d (by simpa using a) (by simpa using b)⟩
 ·rintro ⟨v,vs',rfl,h,hs⟩
  exact An.cons h hs
theorem An.nil_iff {E:Env} {X:World} {vs:List Value} : An E X vs []↔vs=[]:=⟨fun h=>List.eq_nil_of_length_eq_zero h.1,fun h=>h ▸ An.nil⟩
theorem An.ext {E E':Env} {X X':World} {lo hi:Nat} (hE:Env.same lo hi E E') (he:Ext X X') {vs:List Value} {cs:List AV} (h:An E X vs cs) (hb:AV.off.offs lo hi cs=true):An E' X' vs cs :=
 ⟨h.1,fun j v c a b=>(h.2 j v c a b).ext hE he (Pa hb b)⟩
theorem An.mono {E:Env} {X X':World} (he:Ext X X') {vs:List Value} {cs:List AV} (h:An E X vs cs):An E X' vs cs:=⟨h.1,fun j v c a b=>(h.2 j v c a b).mono he⟩
theorem Av.as {E:Env} {X:World} {vs:List Value} {is:List IV} (h:Av X vs is):An E X vs (is.map AV.iv) :=
 ⟨by rw [List.length_map];exact h.len,fun j v c a b=>by
  rw [List.getElem?_map,Option.map_eq_some_iff] at b
  obtain ⟨i,hi,rfl⟩:=b
  exact .iv (h.get a hi)⟩
theorem An.ofVals {E:Env} {X:World} (vs:List Value):An E X vs (vs.map AV.val) :=
 ⟨by simp,fun j v c a b=>by
  rw [List.getElem?_map,a] at b
  obtain rfl:=Option.some.inj b
  exact .val⟩
def FW (ro:Option Nat):Fence:={ Fence.wide with round:=ro }
section
variable {P : Program}
theorem Ft {ro:Option Nat} {o:Oper} {a:Act} {w:World} {N:Act->World->Prop} {Q:Exit->Act->World->Prop} (hd:∀ c,o.op≠.defer c) (h:o.wp P a w N Q):o.wpIn (FW ro) 0 P a w N Q:=by
 refine ⟨fun _ _=>trivial,?_⟩
 rw [Oper.semAt_plain _ _ _ hd]
 unfold Oper.wp at h
 generalize (execOp a.eval o).run P w=r at *
 cases r with
 | ok x w' =>
  cases x<;>simp only [Oper.upon] at h<;>simp only [Oper.uponIn] <;>
   first
    | exact h
    | exact ⟨fun e=>(by cases e),callsIn_wide.2 h⟩
    | exact ⟨fun e=>(by cases e),fun c cs _=>let ⟨v,w',r,s⟩:=h c cs;⟨v,w',r,stepsIn_wide.2 s⟩⟩
    | exact h.elim
 | halt x w'=>cases x<;>simp only [Oper.upon] at h<;>simp only [Oper.uponIn]<;>exact h
theorem Aj3 {F:Fence} {n:Nat} {o:Oper} {a:Act} {w:World} {K:Act->World->Prop} {Q:Exit->Act->World->Prop} (h:o.wpIn F n P a w K (Av6 K Q)):o.wpIn F n P a w K Q:=by
 unfold Oper.wpIn at *
 refine ⟨h.1,?_⟩
 have h:=h.2
 generalize (o.semAt F.round a.eval).run P w=r at *
 cases r with
 | ok n w' =>
  cases n<;>simp only [Oper.uponIn] at h ⊢ <;>
   first
    | exact h
    | exact ⟨h.1,CallsIn.mono h.2 (fun e w'' he=>by cases e<;>exact he)⟩
    | exact ⟨h.1,RowsIn.mono h.2 (fun _ _ he=>he)⟩
    | exact ⟨h.1,RoundIn.mono h.2 (fun e w'' he=>by cases e<;>exact he)⟩
 | halt x w'=>cases x<;>simp only [Oper.uponIn] at h ⊢<;>exact h
theorem Aj4 {F:Fence} {n:Nat} {ops:Array Oper} {i:Nat} {o:Oper} {a:Act} {w:World} {K:Act->World->Prop} {Q:Exit->Act->World->Prop} (ho:ops[i]? = some o) (h:wpListIn F n P ops (Av6 K Q) [o] a w):wpOpIn F n P ops Q i K a w:=by
 unfold wpOpIn
 simp only [ho]
 unfold wpListIn at h
 split
 ·rename_i hw
  rw [if_pos hw] at h
  exact Aj3 h
 ·rename_i hw
  rw [if_neg hw] at h
  exact h
theorem Jy {F:Fence} {n:Nat} {Q:Exit->Act->World->Prop} {a:Act} {w:World} {c:Code} (h:c.wpIn F n P (Exit.noGoto Q) a w):(Code.scope c).wpIn F n P Q a w:=by
 intro b k cs hro hb hr
 have s1:StepsIn (Machine.fenced P F) P (lone (b.atR a (.code (.scope c) :: k)) cs w) (lone (b.atR a (.code c :: .inScope c :: k)) cs w):=.one (fenced_calm hb hr rfl) (step_lone_go (by simp [stepG,stepG.exec,Frame.atR]))
 obtain ⟨e,a₁,w₁,hq,harr⟩:=h b (.inScope c :: k) cs hro hb hr
 cases e with
 | normal=>exact ⟨.normal,a₁,w₁,hq,s1.trans (StepsIn.trans harr (.one (fenced_calm hb hr rfl) (step_lone_go (by simp [stepG,stepG.exec,Frame.atR]))))⟩
 | exit id =>
  have hx:exitTo id (.inScope c :: k)=exitTo id k:=by simp [exitTo]
  exact ⟨.exit id,a₁,w₁,hq,fun k' hk=>s1.trans (harr.1 k' (by rw [hx];exact hk)),fun hr' hk=>let ⟨k₁,h1,h2⟩:=harr.2 hr' (by rw [hx];exact hk);⟨k₁,h1,s1.trans h2⟩⟩
 | goto l=>exact hq.elim
 | ret=>exact ⟨_,a₁,w₁,hq,.of_steps s1 harr⟩
 | panic ch=>exact ⟨_,a₁,w₁,hq,.of_steps s1 harr⟩
 | outgrown=>exact ⟨_,a₁,w₁,hq,.of_steps s1 harr⟩
theorem Nj {F:Fence} {n:Nat} {id:Nat} {Q:Exit->Act->World->Prop} {a:Act} {w:World} {ops:Array Oper} (hm:P.follows .mixedOrders=true) (hord:Ss ops=true)
  (Inv:(Nat->Bool)->Act->World->Prop) (h0:Inv (fun _=>false) a w.drew)
  (hstep:∀ (i:Nat) (o:Oper) (S:Nat->Bool) (a:Act) (w:World),ops[i]? = some o->S i=false->(∀ e∈o.after,Region.binds .any e=true->S e.on=true)->(∀ (k:Nat) (o':Oper),ops[k]? = some o'->S k=true->∀ e∈o'.after,Region.binds .any e=true->S e.on=true)->Inv S a w->wpListIn F n P ops (Av6 (Inv fun j=>S j || decide (j=i)) Q) [o] a w)
  (hend:∀ (S:Nat->Bool) (a:Act) (w:World),(∀ i,i < ops.size->S i=true)->Inv S a w->Q .normal a w):(Code.region id ops true).wpIn F n P Q a w:=by
 refine wpIn_region_any hm ?_
 have key:∀ (fuel:Nat) (listed:Array Bool) (a:Act) (w:World) (S:Nat->Bool),listed.size=ops.size->(∀ j,j < ops.size->S j=listed.getD j false)->Nl (fun j=>!S j) ops.size<=fuel->(∀ (k:Nat) (o':Oper),ops[k]? = some o'->S k=true->∀ e∈o'.after,Region.binds .any e=true->S e.on=true)->Inv S a w->wpAnyIn F n P .any ops Q fuel listed a w:=by
  intro fuel
  have hget:∀ (listed:Array Bool) (j:Nat),listed.size=ops.size->j < ops.size->listed.getD j true=listed.getD j false:=by
   intro listed j hs hj
   simp [Array.getD,hs,hj]
  have hready:∀ (listed:Array Bool) (S:Nat->Bool),listed.size=ops.size->(∀ j,j < ops.size->S j=listed.getD j false)->Region.ready .any ops listed=[]->∀ i,i < ops.size->S i=true:=by
   intro listed S hs hS hr i hi
   cases hSi:S i with
   | true=>rfl
   | false =>
    exfalso
    obtain ⟨k,k1,k2,k3⟩:=A33 (f:=fun j=>!S j) (n:=ops.size) ⟨i,hi,by simp [hSi]⟩
    have hk:k∈Region.ready .any ops listed:=by
     unfold Region.ready
     rw [List.mem_filter,List.mem_range]
     refine ⟨k1,?_⟩
     rw [Bool.and_eq_true,hget listed k hs k1,<-hS k k1]
     refine ⟨by simpa using k2,?_⟩
     have ho:ops[k]? = some ops[k]:=Array.getElem?_eq_getElem k1
     have hlk:=List.all_eq_true.1 hord k (List.mem_range.2 k1)
     rw [ho] at hlk ⊢
     simp only [Option.map_some,Option.getD_some] at hlk ⊢
     rw [Array.all_eq_true_iff_forall_mem] at hlk ⊢
     intro e he
     rw [Bool.or_eq_true]
     by_cases hb:Region.binds .any e=true
     ·right
      have h1:e.on < k:=by simpa [hb] using hlk e he
      rw [<-hS e.on (by omega)]
      have:=k3 e.on h1
      simpa using this
     ·left
      simpa using hb
    rw [hr] at hk
    cases hk
  induction fuel with
  | zero =>
   intro listed a w S hs hS hc _ hi
   have hall:∀ i,i < ops.size->S i=true:=fun i hi'=>by
    have:=Yn (f:=fun j=>!S j) (by omega) i hi'
    simpa using this
   refine ⟨?_,hend S a w hall hi⟩
   unfold Region.ready
   rw [List.filter_eq_nil_iff]
   intro i hi'
   rw [List.mem_range] at hi'
   rw [hget listed i hs hi',<-hS i hi',hall i hi']
   simp
  | succ fuel ih =>
   intro listed a w S hs hS hc hcl hi
   refine ⟨fun hr=>hend S a w (hready listed S hs hS hr) hi,fun i hir=>?_⟩
   unfold Region.ready at hir
   rw [List.mem_filter,List.mem_range,Bool.and_eq_true] at hir
   obtain ⟨hisz,hun,haf⟩:=hir
   have ho:ops[i]? = some ops[i]:=Array.getElem?_eq_getElem hisz
   have hSi:S i=false:=by
    rw [hget listed i hs hisz,<-hS i hisz] at hun
    simpa using hun
   have hdeps:∀ e∈ops[i].after,Region.binds .any e=true->S e.on=true:=by
    rw [ho] at haf
    simp only [Option.map_some,Option.getD_some] at haf
    rw [Array.all_eq_true_iff_forall_mem] at haf
    intro e he hb
    have h1:=haf e he
    rw [hb] at h1
    have hlk:=List.all_eq_true.1 hord i (List.mem_range.2 hisz)
    rw [ho] at hlk
    simp only [Option.map_some,Option.getD_some] at hlk
    rw [Array.all_eq_true_iff_forall_mem] at hlk
    have h2:e.on < i:=by simpa [hb] using hlk e he
    rw [hS e.on (by omega)]
    simpa using h1
   refine wpOpIn_mono (fun a' w' h=>ih (listed.setIfInBounds i true) a' w' (fun j=>S j || decide (j=i)) (by simpa using hs) (fun j hj=>?_) ?_ (fun k o' hk hSk e he hb=>?_) h) (Aj4 ho (hstep i _ S a w ho hSi hdeps hcl hi))
   ·rw [hS j hj]
    by_cases e:j=i
    ·subst e;simp [Array.getD,hs,hj]
    ·simp [Array.getD,hs,hj,e,Array.getElem_setIfInBounds,Ne.symm e]
   ·have:=An6 (f:=fun j=>!(S j || decide (j=i))) (g:=fun j=>!S j) (fun j h=>by simp at h ⊢;exact h.1) (k:=i) (by simp) (by simp [hSi]) ops.size hisz
    omega
   ·rw [Bool.or_eq_true,decide_eq_true_eq] at hSk ⊢
    rcases hSk with hSk | rfl
    ·exact .inl (hcl k o' hk hSk e he hb)
    ·rw [ho] at hk
     obtain rfl:=Option.some.inj hk
     exact .inl (hdeps e he hb)
 exact key ops.size (Array.replicate ops.size false) a w.drew (fun _=>false) (by simp) (fun j hj=>by simp [Array.getD,hj]) (by
  have:∀ n,Nl (fun _=>!false) n<=n:=by
   intro n
   induction n with
   | zero=>exact Nat.le_refl _
   | succ n ih=>unfold Nl;simp at ih ⊢;omega
  exact this _) (fun _ _ _ h=>nomatch h) h0
end
def Ll:Obj->Bool
 | .deferred _=>true
 | .loop _=>true
 | _=>false
theorem Al9 {o:Obj} (h:Ll o=true):o.isCells=false:=by cases o<;>first | rfl | cases h
theorem Qd {W W':World} {row:Option Nat} {a:Addr} {v:Value} (h:W.cell? a=some v) (hg:W.grownBy W' row) (hr:∀ r,row=some r->∃ o:Obj,W.heap[r]? = some o/\Ll o=true):W'.cell? a=some v :=
 cell_kept h hg fun r e=>let ⟨o,h1,h2⟩:=hr r e;⟨o,h1,Al9 h2⟩
theorem Tp {B:Nat} {I:World->Prop} (hI:∀ (A C:World) (row:Option Nat),I A->A.grownBy C row->(∀ r,row=some r->B<=r/\∃ o:Obj,A.heap[r]? = some o/\Ll o=true)->I C):∀ (Ds:List Nat) (W:World),Ec B Ds W->I W->I (shut Ds W)
 | [],_,_,h=>h
 | D :: Ds,W,hm,h=>Tp hI Ds _ hm.tail (hI W _ (some D) h (grownBy_putObj' _ _ _) fun r e=>by cases e;exact ⟨(hm.at_ D (List.mem_cons_self ..)).1,_,(hm.at_ D (List.mem_cons_self ..)).2,rfl⟩)
structure Far where
 l:List (Nat×Obj)
 nd:(l.map (·.1)).Nodup
 act:∀ p∈l,Ll p.2=false
inductive BA where
 | box (b:Nat) (cs:List AV)
 | arr (b:Nat) (cs:List IV)
 | row (b e k:Nat) (l:List (List IV))
 | mp (b:Nat) (k:IntKind) (kv:List (Int×Value))
 | opq (b:Nat) (F:Far)
 | rowN (b e k:Nat) (l:List (List IV)) (i j c:Nat)
def G4 (l:List (List IV)) (i j c:Nat):List (List AV):=l.mapIdx fun n cs=>if n=i then (cs.map AV.iv).set j (.own c) else cs.map AV.iv
def BA.id:BA->Nat
 | .box b _=>b
 | .arr b _=>b
 | .row b _ _ _=>b
 | .mp b _ _=>b
 | .opq b _=>b
 | .rowN b _ _ _ _ _ _=>b
def BA.owned (E:Env):BA->List Nat
 | .box b _=>[E.blk b]
 | .arr b _=>[E.blk b]
 | .row b _ _ _=>(E.row b).ownBlock.toList
 | .mp b _ _=>[E.blk b]
 | .opq _ F=>F.l.map (·.1)
 | .rowN b _ _ _ _ _ _=>(E.row b).ownBlock.toList
def BA.holds (E:Env) (X w:World) (base:Nat):BA->Prop
 | .box b cs=>∃ (C:Array Value) (t:TypeId),Blk w (E.blk b) t C/\An E X C.toList cs
 | .arr b cs=>∃ (C:Array Value) (t:TypeId),Blk w (E.blk b) t C/\Av X C.toList cs
 | .row b e k l=>Ai (Av X) k w base e (E.row b) l/\∀ g,(E.row b).ownBlock=some g->g=E.blk b
 | .mp b k kv=>∃ (es:Array MapEntry) (clock:Nat),w.heap[E.blk b]? = some (.map es clock)/\es.toList.map (fun e=>(e.key,e.val))=kv.map fun x=>(.int k x.1,x.2)
 | .opq _ F=>∀ p∈F.l,w.heap[p.1]? = some p.2
 | .rowN b e k l i j c=>Ai (An E X) k w base e (E.row b) (G4 l i j c)/\∀ g,(E.row b).ownBlock=some g->g=E.blk b
def BA.off (lo hi:Nat):BA->Bool
 | .box b cs=>(decide (b < lo) || decide (hi<=b))&&AV.off.offs lo hi cs
 | .arr b _=>decide (b < lo) || decide (hi<=b)
 | .row b _ _ _=>decide (b < lo) || decide (hi<=b)
 | .mp b _ _=>decide (b < lo) || decide (hi<=b)
 | .opq b _=>decide (b < lo) || decide (hi<=b)
 | .rowN b _ _ _ _ _ c=>(decide (b < lo) || decide (hi<=b))&&(decide (c < lo) || decide (hi<=c))
def J9 (lo hi:Nat):List BA->Bool
 | []=>true
 | b :: bs=>b.off lo hi&&J9 lo hi bs
def Ac (E:Env):List BA->List Nat
 | []=>[]
 | b :: bs=>b.owned E++Ac E bs
theorem Am (E:Env):∀ (a b:List BA),Ac E (a++b)=Ac E a++Ac E b
 | [],_=>rfl
 | x :: a,b=>by simp [Ac,Am E a b]
theorem BA.owned_same {lo hi:Nat} {E E':Env} (hE:Env.same lo hi E E') {b:BA} (h:b.off lo hi=true):b.owned E'=b.owned E:=by
 cases b<;>simp only [BA.off,Bool.and_eq_true,Bool.or_eq_true,decide_eq_true_eq] at h<;>simp only [BA.owned]
 ·rw [(hE _ h.1).1]
 ·rw [(hE _ h).1]
 ·rw [(hE _ h).2]
 ·rw [(hE _ h).1]
 ·rw [(hE _ h.1).2]
theorem Me {lo hi:Nat} {E E':Env} (hE:Env.same lo hi E E'):∀ {bs:List BA},J9 lo hi bs=true->Ac E' bs=Ac E bs
 | [],_=>rfl
 | b :: bs,h=>by
  simp only [J9,Bool.and_eq_true] at h
  simp only [Ac]
  rw [BA.owned_same hE h.1,Me hE h.2]
theorem Ba2 (cs:List AV):AV.off.offs 0 0 cs=true:=by
 induction cs with
 | nil=>rfl
 | cons c cs ih=>simp only [AV.off.offs,Bool.and_eq_true];exact ⟨off_none 0 c,ih⟩
theorem BA.off_none (b:BA):b.off 0 0=true:=by
 cases b with
 | box b cs=>simp only [BA.off,Bool.and_eq_true,Bool.or_eq_true,decide_eq_true_eq];exact ⟨by omega,Ba2 cs⟩
 | arr b cs=>simp only [BA.off,Bool.or_eq_true,decide_eq_true_eq];omega
 | row b e k l=>simp only [BA.off,Bool.or_eq_true,decide_eq_true_eq];omega
 | mp b k kv=>simp only [BA.off,Bool.or_eq_true,decide_eq_true_eq];omega
 | opq b F=>simp only [BA.off,Bool.or_eq_true,decide_eq_true_eq];omega
 | rowN b e k l i j c=>simp only [BA.off,Bool.and_eq_true,Bool.or_eq_true,decide_eq_true_eq];omega
theorem Ua {E E':Env} {X X':World} (hx:Ext X X') {l:List (List IV)} {i j c c' m:Nat} (hc:E'.row c'=E.row c) {x x':List AV} {cs:List Value} (p:(G4 l i j c)[m]? = some x) (q:(G4 l i j c')[m]? = some x') (h:An E X cs x):An E' X' cs x':=by
 unfold G4 at p q
 rw [List.getElem?_mapIdx,Option.map_eq_some_iff] at p q
 obtain ⟨ds,d1,rfl⟩:=p
 obtain ⟨ds',d2,rfl⟩:=q
 rw [d1] at d2
 obtain rfl:=Option.some.inj d2
 have one:∀ {v:Value} {d:IV},Au E X v (.iv d)->Au E' X' v (.iv d):=fun h=>by cases h with | iv h=>exact .iv (h.ext hx)
 split at h
 ·rename_i e
  rw [if_pos e]
  refine ⟨by rw [h.1,List.length_set,List.length_set],fun n v a e1 e2=>?_⟩
  by_cases hn:j=n
  ·subst hn
   have hlt:=(List.getElem?_eq_some_iff.1 e2).1
   rw [List.length_set] at hlt
   have h2:=h.2 j v (.own c) e1 (by rw [List.getElem?_set_self hlt])
   rw [List.getElem?_set_self hlt] at e2
   obtain rfl:=Option.some.inj e2
   cases h2 with
   | own h3=>exact .own (hc.trans h3)
  ·rw [List.getElem?_set_ne hn,List.getElem?_map,Option.map_eq_some_iff] at e2
   obtain ⟨d,e3,rfl⟩:=e2
   exact one (h.2 n v (.iv d) e1 (by rw [List.getElem?_set_ne hn,List.getElem?_map,e3];rfl))
 ·rename_i e
  rw [if_neg e]
  refine ⟨h.1,fun n v a e1 e2=>?_⟩
  have e3:=e2
  rw [List.getElem?_map,Option.map_eq_some_iff] at e3
  obtain ⟨d,_,rfl⟩:=e3
  exact one (h.2 n v _ e1 e2)
def Ya (l:List (List IV)) (i j:Nat) (x:IV):List (List IV):=l.mapIdx fun n cs=>if n=i then cs.set j x else cs
theorem A27 {l:List (List IV)} {i j:Nat} {x:IV} : (Ya l i j x).length=l.length:=by simp [Ya]
theorem A23 {E:Env} {X X':World} (hx:Ext X X') {l:List (List IV)} {i j c m:Nat} {d0:IV} (hc:∀ v,Au E X v (.own c)->C7 X' v d0) {x:List AV} {x':List IV} {cs:List Value} (p:(G4 l i j c)[m]? = some x) (q:(Ya l i j d0)[m]? = some x') (h:An E X cs x):Av X' cs x':=by
 unfold G4 at p
 unfold Ya at q
 rw [List.getElem?_mapIdx,Option.map_eq_some_iff] at p q
 obtain ⟨ds,d1,rfl⟩:=p
 obtain ⟨ds',d2,rfl⟩:=q
 rw [d1] at d2
 obtain rfl:=Option.some.inj d2
 split at h
 ·rename_i e
  rw [if_pos e]
  refine Av.of (by rw [h.1];simp) fun n v a e1 e2=>?_
  by_cases hn:j=n
  ·subst hn
   have hlt:=(List.getElem?_eq_some_iff.1 e2).1
   rw [List.length_set] at hlt
   rw [List.getElem?_set_self hlt] at e2
   obtain rfl:=Option.some.inj e2
   exact hc v (h.2 j v (.own c) e1 (by rw [List.getElem?_set_self (by simpa using hlt)]))
  ·rw [List.getElem?_set_ne hn] at e2
   have:=h.2 n v (.iv a) e1 (by rw [List.getElem?_set_ne hn,List.getElem?_map,e2];rfl)
   cases this with | iv h=>exact h.ext hx
 ·rename_i e
  rw [if_neg e]
  refine Av.of (by rw [h.1];simp) fun n v a e1 e2=>?_
  have:=h.2 n v (.iv a) e1 (by rw [List.getElem?_map,e2];rfl)
  cases this with | iv h=>exact h.ext hx
theorem Av.ivs {E:Env} {X:World} {cs:List Value} {ds:List IV} : Av X cs ds↔An E X cs (ds.map AV.iv):=by
 constructor
 ·intro h
  refine ⟨by rw [h.len];simp,fun n v a e1 e2=>?_⟩
  rw [List.getElem?_map,Option.map_eq_some_iff] at e2
  obtain ⟨d,e3,rfl⟩:=e2
  exact .iv (h.get e1 e3)
 ·intro h
  refine Av.of (by rw [h.1];simp) fun n v a e1 e2=>?_
  have:=h.2 n v (.iv a) e1 (by rw [List.getElem?_map,e2];rfl)
  cases this with | iv h=>exact h
theorem Ei {l:List (List IV)} {i j c m:Nat} : (G4 l i j c)[m]? = (l[m]?).map fun cs=>if m=i then (cs.map AV.iv).set j (.own c) else cs.map AV.iv:=by simp [G4]
theorem Dr {l:List (List IV)} {i j c:Nat} : (G4 l i j c).length=l.length:=by simp [G4]
def Am0 (w:World) (gs:List Nat):World:={ w with heap:=w.heap.mapIdx fun i o=>if i∈gs then .cells #[] 0 else o }
theorem Y3 (w:World) (gs:List Nat):(Am0 w gs).heap.size=w.heap.size:=by simp [Am0]
theorem Ax3 (w:World) (gs:List Nat) (p:Addr):(Am0 w gs).cell? p=if p.block∈gs then none else w.cell? p:=by
 unfold World.cell? Am0
 simp only [Array.getElem?_mapIdx]
 by_cases h:p.block∈gs
 ·rw [if_pos h]
  cases w.heap[p.block]? with
  | none=>rfl
  | some o=>simp [h]
 ·rw [if_neg h]
  cases w.heap[p.block]? with
  | none=>rfl
  | some o=>simp [h]
def vis (V w0 w:World) (gs:List Nat):World:=Ak6 V w0 (Am0 w gs)
theorem Ff (V w0 w:World) (gs:List Nat):(vis V w0 w gs).heap.size=w.heap.size:=by unfold vis;rw [Bm4,Y3]
theorem Mq {V w0 w:World} {gs:List Nat} {p:Addr} (h:p.block < w0.heap.size) (h':p.block < w.heap.size):(vis V w0 w gs).cell? p=V.cell? p:=Bx0 h (by rw [Y3];exact h')
theorem Gz {V w0 w:World} {gs:List Nat} {p:Addr} (h:w0.heap.size<=p.block):(vis V w0 w gs).cell? p=if p.block∈gs then none else w.cell? p:=by
 unfold vis;rw [Bx1 h,Ax3]
theorem Ns {V w0 w:World} {gs:List Nat} {p:Addr} {u:Value} (h:(vis V w0 w gs).cell? p=some u):p.block < w.heap.size/\(p.block < w0.heap.size/\V.cell? p=some u\/w0.heap.size<=p.block/\p.block∉gs/\w.cell? p=some u):=by
 have hlt:=World.block_lt_of_cell? _ p h
 rw [Ff] at hlt
 refine ⟨hlt,?_⟩
 by_cases hp:p.block < w0.heap.size
 ·exact .inl ⟨hp,by rw [<-h,Mq hp hlt]⟩
 ·rw [Gz (Nat.not_lt.1 hp)] at h
  by_cases hg:p.block∈gs
  ·rw [if_pos hg] at h;cases h
  ·rw [if_neg hg] at h
   exact .inr ⟨Nat.not_lt.1 hp,hg,h⟩
theorem D1 {V w0 w w':World} {gs gs':List Nat} (hs:w.heap.size<=w'.heap.size) (h:∀ p u,w0.heap.size<=p.block->p.block < w.heap.size->p.block∉gs->w.cell? p=some u->p.block∉gs'/\w'.cell? p=some u):Ext (vis V w0 w gs) (vis V w0 w' gs') :=
 ⟨by rw [Ff,Ff];exact hs,fun p u hp=>by
  obtain ⟨h1,h2⟩:=Ns hp
  rcases h2 with ⟨h2,h3⟩ | ⟨h2,h3,h4⟩
  ·rw [Mq h2 (Nat.lt_of_lt_of_le h1 hs)];exact h3
  ·obtain ⟨h5,h6⟩:=h p u h2 h1 h3 h4
   rw [Gz h2,if_neg h5];exact h6⟩
theorem R8 {V w0 w:World} {gs:List Nat} (hV:Ext V w0) (hb:Below w0.heap.size w0 w):Ext (vis V w0 w gs) w :=
 ⟨by rw [Ff];exact Nat.le_refl _,fun p u hp=>by
  rcases (Ns hp).2 with ⟨_,h2⟩ | ⟨_,_,h2⟩
  ·exact Ao hb (hV.cell p u h2)
  ·exact h2⟩
theorem Ur {V w0 w:World} {gs:List Nat} (hV:Ext V w0) (hb:Below w0.heap.size w0 w):Ext V (vis V w0 w gs) :=
 ⟨by rw [Ff];exact Nat.le_trans hV.size hb.size,fun p u hp=>by
  have hlt:=Nat.lt_of_lt_of_le (World.block_lt_of_cell? V p hp) hV.size
  rw [Mq hlt (Nat.lt_of_lt_of_le hlt hb.size)];exact hp⟩
theorem B62 {V w0 w:World} {gs:List Nat} (hg:∀ g∈gs,w0.heap.size<=g) {p:Addr} {u:Value} (hp:(vis V w0 w gs).cell? p=some u):p.block∉gs:=by
 intro hm
 rcases (Ns hp).2 with ⟨h1,_⟩ | ⟨_,h1,_⟩
 ·have:=hg _ hm;omega
 ·exact h1 hm
structure Ab where
 fr:List (Nat×AV)
 bk:List BA
def look:List (Nat×AV)->Nat->AV
 | [],_=>.any
 | (j,a) :: r,i=>if i=j then a else look r i
def Lc (lo hi:Nat):List (Nat×AV)->Bool
 | []=>true
 | (_,a) :: r=>a.off lo hi&&Lc lo hi r
theorem Q8 {lo hi:Nat} : ∀ {fr:List (Nat×AV)},Lc lo hi fr=true->∀ i,(look fr i).off lo hi=true
 | [],_,_=>rfl
 | (j,a) :: r,h,i=>by
  simp only [Lc,Bool.and_eq_true] at h
  simp only [look]
  split
  ·exact h.1
  ·exact Q8 h.2 i
structure Nd where
 n:Nat
 fx:List Nat
 rnd:Bool:=false
structure Fm where
 nd:Nd
 fix:Nat->Value
 ds:List Nat
 hold:Nat->Option Obj
 lo:Nat
def Fm.fine (m:Fm) (w0:World):Prop:=m.ds.Nodup/\∀ D∈m.ds,w0.heap.size<=D/\m.hold D=some (.deferred (some []))
structure Fm.le (m m':Fm):Prop where
 nd:m'.nd=m.nd
 fix:m'.fix=m.fix
 lo:m.lo<=m'.lo
 ds:m.nd.rnd=true->m'.ds=m.ds
 hold:∀ g o,m.hold g=some o->m'.hold g=some o
theorem Fm.le.refl (m:Fm):Fm.le m m:=⟨rfl,rfl,Nat.le_refl _,fun _=>rfl,fun _ _ h=>h⟩
theorem Fm.le.trans {m m' m'':Fm} (h:Fm.le m m') (h':Fm.le m' m''):Fm.le m m'':=⟨h'.nd.trans h.nd,h'.fix.trans h.fix,Nat.le_trans h.lo h'.lo,fun e=>(h'.ds (by rw [h.nd];exact e)).trans (h.ds e),fun g o hg=>h'.hold g o (h.hold g o hg)⟩
structure St (V w0:World) (n:Fm) (E:Env) (σ:Ab) (a:Act) (w:World):Prop where
 ext:Ext V w0
 low:Below w0.heap.size w0 w
 apart:(Ac E σ.bk).Nodup
 base:∀ g∈Ac E σ.bk,w0.heap.size<=g
 holds:∀ b∈σ.bk,b.holds E (vis V w0 w (Ac E σ.bk)) w w0.heap.size
 slots:∀ i,Au E (vis V w0 w (Ac E σ.bk)) (a.tmps.getD i undef) (look σ.fr i)
 size:a.tmps.size=n.nd.n/\∀ i∈n.nd.fx,a.tmps.getD i undef=n.fix i
 defers:a.defers=G8 n.ds/\n.fine w0
 hold:n.lo<=w.heap.size/\∀ g o,n.hold g=some o->w.heap[g]? = some o/\g∉Ac E σ.bk
section
variable {V w0 : World} {n : Fm} {E : Env} {σ : Ab} {a : Act} {w : World}
theorem BA.holds_ext {E E':Env} {lo hi:Nat} (hE:Env.same lo hi E E') {X X' w w':World} (he:Ext X X') {b:BA} {base:Nat} (hw:∀ g∈b.owned E,w'.heap[g]? = w.heap[g]?) (hb:b.off lo hi=true) (h:b.holds E X w base):b.holds E' X' w' base:=by
 cases b with
 | box b cs =>
  simp only [BA.off,Bool.and_eq_true,Bool.or_eq_true,decide_eq_true_eq] at hb
  obtain ⟨C,t,h1,h2⟩:=h
  refine ⟨C,t,?_,h2.ext hE he hb.2⟩
  rw [(hE b hb.1).1]
  exact (hw _ (by simp [BA.owned])).trans h1
 | arr b cs =>
  simp only [BA.off,Bool.or_eq_true,decide_eq_true_eq] at hb
  obtain ⟨C,t,h1,h2⟩:=h
  refine ⟨C,t,?_,h2.ext he⟩
  rw [(hE b hb).1]
  exact (hw _ (by simp [BA.owned])).trans h1
 | row b e k l =>
  simp only [BA.off,Bool.or_eq_true,decide_eq_true_eq] at hb
  obtain ⟨h1,h2⟩:=h
  refine ⟨?_,by rw [(hE b hb).1,(hE b hb).2];exact h2⟩
  rw [(hE b hb).2]
  obtain ⟨xs,⟨h3,h4⟩,h5,h6⟩:=h1
  refine ⟨xs,⟨h3,h4.elim Or.inl fun ⟨g,cap,cur,e1,e2,e3,r⟩=>.inr ⟨g,cap,cur,e1,e2,?_,r⟩⟩,h5.mono fun _ _ h=>h.ext he,h6⟩
  exact (hw g (by simp [BA.owned,e1,Value.ownBlock])).trans e3
 | mp b k kv =>
  simp only [BA.off,Bool.or_eq_true,decide_eq_true_eq] at hb
  obtain ⟨es,c,h1,h2⟩:=h
  refine ⟨es,c,?_,h2⟩
  rw [(hE b hb).1]
  exact (hw _ (by simp [BA.owned])).trans h1
 | opq b F=>exact fun p hp=>(hw _ (List.mem_map_of_mem hp)).trans (h p hp)
 | rowN b e k l i j c =>
  simp only [BA.off,Bool.and_eq_true,Bool.or_eq_true,decide_eq_true_eq] at hb
  obtain ⟨h1,h2⟩:=h
  refine ⟨?_,by rw [(hE b hb.1).1,(hE b hb.1).2];exact h2⟩
  rw [(hE b hb.1).2]
  obtain ⟨xs,⟨h3,h4⟩,h5,h6⟩:=h1
  refine ⟨xs,⟨h3,h4.elim Or.inl fun ⟨g,cap,cur,e1,e2,e3,r⟩=>.inr ⟨g,cap,cur,e1,e2,?_,r⟩⟩,h5.rel rfl fun m x x' cs a b h=>?_,h6⟩
  ·exact (hw g (by simp [BA.owned,e1,Value.ownBlock])).trans e3
  ·exact Ua he (hE c hb.2).2 a b h
theorem BA.owned_lt {E:Env} {X w:World} {base:Nat} {b:BA} (h:b.holds E X w base):∀ g∈b.owned E,g < w.heap.size:=by
 intro g hg
 cases b with
 | box b cs =>
  obtain ⟨C,t,h1,h2⟩:=h
  simp only [BA.owned,List.mem_singleton] at hg
  subst hg;exact h1.lt
 | arr b cs =>
  obtain ⟨C,t,h1,h2⟩:=h
  simp only [BA.owned,List.mem_singleton] at hg
  subst hg;exact h1.lt
 | row b e k l =>
  simp only [BA.owned,Option.mem_toList] at hg
  exact (h.1.lt g hg).2
 | mp b k kv =>
  obtain ⟨es,c,h1,h2⟩:=h
  simp only [BA.owned,List.mem_singleton] at hg
  subst hg;exact (Array.getElem?_eq_some_iff.1 h1).1
 | opq b F =>
  obtain ⟨p,hp,rfl⟩:=List.mem_map.1 hg
  exact (Array.getElem?_eq_some_iff.1 (h p hp)).1
 | rowN b e k l i j c =>
  simp only [BA.owned,Option.mem_toList] at hg
  exact (h.1.lt g hg).2
theorem Bk {E:Env} : ∀ {bs:List BA} {g:Nat},g∈Ac E bs↔∃ b∈bs,g∈b.owned E
 | [],g=>by simp [Ac]
 | b :: bs,g=>by simp [Ac,Bk]
theorem Jn {lo hi:Nat} : ∀ {bs:List BA},J9 lo hi bs=true->∀ b∈bs,b.off lo hi=true
 | [],_,b,h=>by cases h
 | c :: bs,h,b,hb=>by
  simp only [J9,Bool.and_eq_true] at h
  rcases List.mem_cons.1 hb with rfl | hb
  ·exact h.1
  ·exact Jn h.2 b hb
theorem St.lt (h:St V w0 n E σ a w):∀ g∈Ac E σ.bk,g < w.heap.size:=fun g hg=>by
 obtain ⟨b,hb,hg⟩:=Bk.1 hg
 exact BA.owned_lt (h.holds b hb) g hg
theorem St.in_ (h:St V w0 n E σ a w):Ext (vis V w0 w (Ac E σ.bk)) w:=R8 h.ext h.low
theorem Ai2 {a:Act} {d:Nat} (v:Value) (i:Nat) (hd:d < a.tmps.size):(a.put (some d) v).tmps.getD i undef=if i=d then v else a.tmps.getD i undef:=by
 simp only [Act.put,Array.getD_eq_getD_getElem?,Array.getElem?_setIfInBounds]
 by_cases h:i=d
 ·subst h;simp [hd]
 ·simp [h,Ne.symm h]
def Ee (dst:Option Tmp) (r:AV) (fr:List (Nat×AV)):List (Nat×AV) :=
 match dst with
 | some d=>(d,r) :: fr
 | none=>fr
theorem St.put (h:St V w0 n E σ a w) {dst:Option Tmp} (hd:∀ d,dst=some d->d < n.nd.n/\d∉n.nd.fx) {v:Value} {r:AV} (hv:Au E (vis V w0 w (Ac E σ.bk)) v r):St V w0 n E ⟨Ee dst r σ.fr,σ.bk⟩ (a.put dst v) w:=by
 refine ⟨h.ext,h.low,h.apart,h.base,h.holds,fun i=>?_,?_,?_,h.hold⟩
 ·cases dst with
  | none=>exact h.slots i
  | some d =>
   rw [Ai2 v i (by rw [h.size.1];exact (hd d rfl).1)]
   simp only [Ee,look]
   split
   ·exact hv
   ·exact h.slots i
 ·cases dst with
  | none=>exact h.size
  | some d =>
   refine ⟨by simp only [Act.put,Array.size_setIfInBounds];exact h.size.1,fun i hi=>?_⟩
   rw [Ai2 v i (by rw [h.size.1];exact (hd d rfl).1),if_neg (fun e:i=d=>(hd d rfl).2 (e ▸ hi))]
   exact h.size.2 i hi
 ·cases dst with
  | none=>exact h.defers
  | some d=>exact h.defers
theorem St.add {lo hi:Nat} {E':Env} {nb:List BA} {w':World} (h:St V w0 n E σ a w) (hb:Below w.heap.size w w') (hE:Env.same lo hi E E') (h1:Lc lo hi σ.fr=true) (h2:J9 lo hi σ.bk=true)
  (hnd:(Ac E' nb).Nodup) (hnew:∀ g∈Ac E' nb,w.heap.size<=g) (hh:∀ b∈nb,b.holds E' (vis V w0 w' (Ac E' nb++Ac E σ.bk)) w' w0.heap.size):St V w0 n E' ⟨σ.fr,nb++σ.bk⟩ a w':=by
 have ho:Ac E' (nb++σ.bk)=Ac E' nb++Ac E σ.bk:=by rw [Am,Me hE h2]
 have hx:Ext (vis V w0 w (Ac E σ.bk)) (vis V w0 w' (Ac E' nb++Ac E σ.bk)):=D1 hb.size fun p u _ h4 h5 h6=>⟨fun hm=>by
  rcases List.mem_append.1 hm with hm | hm
  ·have:=hnew _ hm;omega
  ·exact h5 hm,Ao hb h6⟩
 refine ⟨h.ext,h.low.trans (hb.mono h.low.size),?_,?_,?_,?_,h.size,h.defers,Nat.le_trans h.hold.1 hb.size,fun g o hg=>?hold⟩
 case hold =>
  obtain ⟨q1,q2⟩:=h.hold.2 g o hg
  have hlt:=(Array.getElem?_eq_some_iff.1 q1).1
  refine ⟨(hb.block g hlt).trans q1,fun hm=>?_⟩
  rw [ho] at hm
  rcases List.mem_append.1 hm with hm | hm
  ·have:=hnew _ hm;omega
  ·exact q2 hm
 ·rw [ho]
  refine List.nodup_append.2 ⟨hnd,h.apart,fun g hg g' hg' e=>?_⟩
  subst e
  have:=hnew _ hg
  have:=h.lt _ hg'
  omega
 ·intro g hg
  rw [ho] at hg
  rcases List.mem_append.1 hg with hg | hg
  ·have:=hnew _ hg
   have:=h.low.size
   omega
  ·exact h.base g hg
 ·intro b hbm
  simp only [ho]
  rcases List.mem_append.1 hbm with hbm | hbm
  ·exact hh b hbm
  ·exact BA.holds_ext hE hx (fun g hg=>hb.block g (h.lt g (Bk.2 ⟨b,hbm,hg⟩))) (Jn h2 b hbm) (h.holds b hbm)
 ·intro i
  simp only [ho]
  exact (h.slots i).ext hE hx (Q8 h1 i)
theorem Tx:∀ (fr:List (Nat×AV)),Lc 0 0 fr=true
 | []=>rfl
 | (_,c) :: r=>by simp only [Lc,Bool.and_eq_true];exact ⟨off_none 0 c,Tx r⟩
theorem Ty:∀ (bk:List BA),J9 0 0 bk=true
 | []=>rfl
 | b :: r=>by simp only [J9,Bool.and_eq_true];exact ⟨b.off_none,Ty r⟩
theorem St.next {w':World} (h:St V w0 n E σ a w) (hb:Below w.heap.size w w'):St V w0 n E σ a w' :=
 h.add (lo:=0) (hi:=0) (nb:=[]) hb (Env.same_refl 0 0 E) (Tx _) (Ty _) List.nodup_nil (fun _ hg=>by cases hg) (fun _ hg=>by cases hg)
theorem St.drew (h:St V w0 n E σ a w):St V w0 n E σ a w.drew:=h.next ((Below.refl _ w).drew)
theorem Bf8 {w':World} {gs gs':List Nat} (hgs:∀ g∈gs,g < w.heap.size) (h0:w0.heap.size<=w.heap.size) (hb:Below w.heap.size w w') (hg':∀ g∈gs',w.heap.size<=g):Ext (vis (vis V w0 w gs) w w' gs') (vis V w0 w' (gs'++gs)) :=
 ⟨by rw [Ff,Ff];exact Nat.le_refl _,fun p u hp=>by
  obtain ⟨h1,h2⟩:=Ns hp
  rcases h2 with ⟨h2,h3⟩ | ⟨h2,h3,h4⟩
  ·rcases (Ns h3).2 with ⟨h5,h6⟩ | ⟨h5,h6,h7⟩
   ·rw [Mq h5 h1];exact h6
   ·rw [Gz h5,if_neg (fun hm=>by
     rcases List.mem_append.1 hm with hm | hm
     ·have:=hg' _ hm;omega
     ·exact h6 hm)]
    exact Ao hb h7
  ·rw [Gz (Nat.le_trans h0 h2),if_neg (fun hm=>by
    rcases List.mem_append.1 hm with hm | hm
    ·exact h3 hm
    ·have:=hgs _ hm;omega)]
   exact h4⟩
theorem St.turn {fr:List (Nat×AV)} {pre post:List BA} {x y:BA} {w':World} (h:St V w0 n E ⟨fr,pre++x :: post⟩ a w) (ho:y.owned E=x.owned E) (hlow:Below w0.heap.size w0 w') (hs:w.heap.size<=w'.heap.size)
  (hk:∀ g,g∉x.owned E->g < w.heap.size->w'.heap[g]? = w.heap[g]?) (hy:y.holds E (vis V w0 w (Ac E (pre++x :: post))) w' w0.heap.size):St V w0 n E ⟨fr,pre++y :: post⟩ a w':=by
 have e:Ac E (pre++y :: post)=Ac E (pre++x :: post):=by simp only [Am,Ac,ho]
 have hap:=h.apart
 have hx:Ext (vis V w0 w (Ac E (pre++x :: post))) (vis V w0 w' (Ac E (pre++x :: post))):=D1 hs fun p u _ h2 h3 h4=>⟨h3,by
  rw [World.cell?_of_block (hk p.block (fun hm=>h3 (Bk.2 ⟨x,by simp,hm⟩)) h2)];exact h4⟩
 have key:∀ b∈pre++post,b.holds E (vis V w0 w' (Ac E (pre++x :: post))) w' w0.heap.size:=by
  intro b hb
  have hbm:b∈pre++x :: post:=by
   rcases List.mem_append.1 hb with hb | hb
   ·exact List.mem_append_left _ hb
   ·exact List.mem_append_right _ (List.mem_cons_of_mem _ hb)
  refine BA.holds_ext (Env.same_refl 0 0 E) hx (fun g hg=>hk g (fun hm=>?_) (h.lt g (Bk.2 ⟨b,hbm,hg⟩))) b.off_none (h.holds b hbm)
  simp only [Am,Ac] at hap
  obtain ⟨_,h2,h3⟩:=List.nodup_append.1 hap
  obtain ⟨_,_,h4⟩:=List.nodup_append.1 h2
  rcases List.mem_append.1 hb with hb | hb
  ·exact h3 g (Bk.2 ⟨b,hb,hg⟩) g (List.mem_append_left _ hm) rfl
  ·exact h4 g hm g (Bk.2 ⟨b,hb,hg⟩) rfl
 refine ⟨h.ext,hlow,by rw [e];exact hap,by rw [e];exact h.base,?_,fun i=>?_,h.size,h.defers,Nat.le_trans h.hold.1 hs,fun g o hg=>?hold⟩
 case hold =>
  obtain ⟨q1,q2⟩:=h.hold.2 g o hg
  exact ⟨(hk g (fun hm=>q2 (Bk.2 ⟨x,by simp,hm⟩)) (Array.getElem?_eq_some_iff.1 q1).1).trans q1,by rw [e];exact q2⟩
 ·intro b hb
  simp only [e]
  rcases List.mem_append.1 hb with hb | hb
  ·exact key b (List.mem_append_left _ hb)
  ·rcases List.mem_cons.1 hb with rfl | hb
   ·have:=BA.holds_ext (Env.same_refl 0 0 E) hx (w:=w') (w':=w') (fun _ _=>rfl) b.off_none hy
    exact this
   ·exact key b (List.mem_append_right _ hb)
 ·simp only [e]
  exact (h.slots i).mono hx
theorem An.set_ {E:Env} {X:World} {vs:List Value} {cs:List AV} (h:An E X vs cs) {u:Value} {c:AV} (hu:Au E X u c) (o:Nat):An E X (vs.set o u) (cs.set o c) :=
 ⟨by rw [List.length_set,List.length_set];exact h.1,fun j v d a b=>by
  rw [List.getElem?_set] at a b
  by_cases e:o=j
  ·subst e
   simp only [if_true] at a b
   split at a
   ·split at b
    ·obtain rfl:=Option.some.inj a
     obtain rfl:=Option.some.inj b
     exact hu
    ·cases b
   ·cases a
  ·rw [if_neg e] at a b
   exact h.2 j v d a b⟩
theorem Av.set_ {X:World} {vs:List Value} {cs:List IV} (h:Av X vs cs) {u:Value} {c:IV} (hu:C7 X u c) (o:Nat):Av X (vs.set o u) (cs.set o c):=by
 refine Av.of (by rw [List.length_set,List.length_set];exact h.len) fun j v d a b=>?_
 rw [List.getElem?_set] at a b
 by_cases e:o=j
 ·subst e
  simp only [if_true] at a b
  split at a
  ·split at b
   ·obtain rfl:=Option.some.inj a
    obtain rfl:=Option.some.inj b
    exact hu
   ·cases b
  ·cases a
 ·rw [if_neg e] at a b
  exact h.get a b
theorem St.set_box {fr:List (Nat×AV)} {pre post:List BA} {b:Nat} {cs:List AV} (h:St V w0 n E ⟨fr,pre++.box b cs :: post⟩ a w) (o:Nat) {u:Value} {c:AV} (hu:Au E (vis V w0 w (Ac E (pre++.box b cs :: post))) u c) :
  St V w0 n E ⟨fr,pre++.box b (cs.set o c) :: post⟩ a (w.setCell ⟨E.blk b,o,none⟩ u):=by
 obtain ⟨C,t,hB,hC⟩:=h.holds (.box b cs) (by simp)
 refine h.turn (y:=.box b (cs.set o c)) rfl (h.low.setCell (h.base _ (Bk.2 ⟨.box b cs,by simp,by simp [BA.owned]⟩)) u) (by simp) (fun g hg _=>Below.heap_setCell _ _ _ _ (by simpa [BA.owned] using hg)) ⟨C.setIfInBounds o u,t,hB.set_ o u,?_⟩
 rw [Array.toList_setIfInBounds]
 exact hC.set_ hu o
theorem St.set_arr {fr:List (Nat×AV)} {pre post:List BA} {b:Nat} {cs:List IV} (h:St V w0 n E ⟨fr,pre++.arr b cs :: post⟩ a w) (o:Nat) {u:Value} {c:IV} (hu:C7 (vis V w0 w (Ac E (pre++.arr b cs :: post))) u c) :
  St V w0 n E ⟨fr,pre++.arr b (cs.set o c) :: post⟩ a (w.setCell ⟨E.blk b,o,none⟩ u):=by
 obtain ⟨C,t,hB,hC⟩:=h.holds (.arr b cs) (by simp)
 refine h.turn (y:=.arr b (cs.set o c)) rfl (h.low.setCell (h.base _ (Bk.2 ⟨.arr b cs,by simp,by simp [BA.owned]⟩)) u) (by simp) (fun g hg _=>Below.heap_setCell _ _ _ _ (by simpa [BA.owned] using hg)) ⟨C.setIfInBounds o u,t,hB.set_ o u,?_⟩
 rw [Array.toList_setIfInBounds]
 exact hC.set_ hu o
theorem St.set_row {fr:List (Nat×AV)} {pre post:List BA} {b e k:Nat} {l:List (List IV)} (h:St V w0 n E ⟨fr,pre++.row b e k l :: post⟩ a w) {i j:Nat} {x:List IV} (hi:l[i]? = some x) (hj:j < k) {u:Value} {c:IV} (hu:C7 (vis V w0 w (Ac E (pre++.row b e k l :: post))) u c) :
  St V w0 n E ⟨fr,pre++.row b e k (l.set i (x.set j c)) :: post⟩ a (w.setCell ⟨E.blk b,i*k+j,none⟩ u):=by
 obtain ⟨hO,hB⟩:=h.holds (.row b e k l) (by simp)
 rcases hO.forms with ⟨_,hl⟩ | ⟨g,cc,hg,hg1,hg2⟩
 ·rw [hl] at hi;simp at hi
 ·have hgb:g=E.blk b:=hB g (by rw [hg];rfl)
  subst hgb
  have hm:E.blk b∈Ac E (pre++.row b e k l :: post):=Bk.2 ⟨.row b e k l,by simp,by simp [BA.owned,hg,Value.ownBlock]⟩
  refine h.turn (y:=.row b e k (l.set i (x.set j c))) rfl (h.low.setCell (h.base _ hm) u) (by simp) (fun g' hg' _=>Below.heap_setCell _ _ _ _ (fun e=>hg' (by simp [BA.owned,hg,Value.ownBlock,e]))) ⟨?_,hB⟩
  rw [hg] at hO ⊢
  have:=Ai.set_ (x':=x.set j c) hO hi hj (u:=u) fun cs hc _=>hc.set_ hu j
  exact this
theorem St.set_cells {fr:List (Nat×AV)} {pre post:List BA} {x y:BA} {b e k:Nat} {L L':List (List AV)} (h:St V w0 n E ⟨fr,pre++x :: post⟩ a w) (hx:∀ X w base,x.holds E X w base->Ai (An E X) k w base e (E.row b) L/\∀ g,(E.row b).ownBlock=some g->g=E.blk b) (ox:x.owned E=(E.row b).ownBlock.toList) (oy:y.owned E=(E.row b).ownBlock.toList)
  (hy:∀ X w base,Ai (An E X) k w base e (E.row b) L'->(∀ g,(E.row b).ownBlock=some g->g=E.blk b)->y.holds E X w base) {i j:Nat} {z:List AV} (hi:L[i]? = some z) (hj:j < k) {u:Value} {c:AV} (hL:L'=L.set i (z.set j c)) (hu:Au E (vis V w0 w (Ac E (pre++x :: post))) u c):St V w0 n E ⟨fr,pre++y :: post⟩ a (w.setCell ⟨E.blk b,i*k+j,none⟩ u):=by
 obtain ⟨hO,hB⟩:=hx _ _ _ (h.holds x (by simp))
 rcases hO.forms with ⟨_,hl⟩ | ⟨g,cc,hg,hg1,hg2⟩
 ·rw [hl] at hi;simp at hi
 ·have hgb:g=E.blk b:=hB g (by rw [hg];rfl)
  subst hgb
  have hm:E.blk b∈Ac E (pre++x :: post):=Bk.2 ⟨x,by simp,by rw [ox];simp [hg,Value.ownBlock]⟩
  refine h.turn (y:=y) (oy.trans ox.symm) (h.low.setCell (h.base _ hm) u) (by simp) (fun g' hg' _=>Below.heap_setCell _ _ _ _ (fun e=>hg' (by rw [ox];simp [hg,Value.ownBlock,e]))) (hy _ _ _ ?_ hB)
  rw [hL,hg]
  rw [hg] at hO
  have:=Ai.set_ (x':=z.set j c) hO hi hj (u:=u) fun cs hc _=>hc.set_ hu j
  rw [show L.length=(L.set i (z.set j c)).length by simp] at this ⊢
  exact this
theorem Bn5 {l:List (List IV)} {i j c m p:Nat} {cs:List IV} {d:IV} (hm:l[m]? = some cs) (hne:¬ (m=i/\p=j)):∃ z,(G4 l i j c)[m]? = some z/\G4 (l.set m (cs.set p d)) i j c=(G4 l i j c).set m (z.set p (.iv d)):=by
 refine ⟨_,by rw [Ei,hm];rfl,List.ext_getElem? fun q=>?_⟩
 rw [Ei,List.getElem?_set,List.getElem?_set,Ei,Dr]
 by_cases hq:m=q
 ·subst hq
  have hlt:=(List.getElem?_eq_some_iff.1 hm).1
  rw [if_pos rfl,if_pos rfl,if_pos hlt,if_pos hlt]
  simp only [Option.map_some,Option.some.injEq]
  split
  ·rename_i e
   have:¬ p=j:=fun e2=>hne ⟨e,e2⟩
   rw [List.map_set,List.set_comm _ _ this]
  ·rw [List.map_set]
 ·rw [if_neg hq,if_neg hq]
theorem Bn6 {l:List (List IV)} {i j c:Nat} {cs:List IV} (hi:l[i]? = some cs):(l.map (List.map AV.iv))[i]? = some (cs.map AV.iv)/\G4 l i j c=(l.map (List.map AV.iv)).set i ((cs.map AV.iv).set j (.own c)):=by
 refine ⟨by rw [List.getElem?_map,hi];rfl,List.ext_getElem? fun q=>?_⟩
 rw [Ei,List.getElem?_set,List.getElem?_map,List.length_map]
 by_cases hq:i=q
 ·subst hq
  have hlt:=(List.getElem?_eq_some_iff.1 hi).1
  rw [if_pos rfl,if_pos hlt,hi]
  simp
 ·rw [if_neg hq]
  cases l[q]? with
  | none=>rfl
  | some ds=>simp only [Option.map_some];rw [if_neg (fun e=>hq e.symm)]
theorem Bn7 {l:List (List IV)} {i j c:Nat} {cs:List IV} {d:IV} (hi:l[i]? = some cs):∃ z,(G4 l i j c)[i]? = some z/\(l.set i (cs.set j d)).map (List.map AV.iv)=(G4 l i j c).set i (z.set j (.iv d)):=by
 refine ⟨_,by rw [Ei,hi];rfl,List.ext_getElem? fun q=>?_⟩
 rw [List.getElem?_map,List.getElem?_set,List.getElem?_set,Ei,Dr]
 by_cases hq:i=q
 ·subst hq
  have hlt:=(List.getElem?_eq_some_iff.1 hi).1
  rw [if_pos rfl,if_pos rfl,if_pos hlt,if_pos hlt]
  simp [List.map_set]
 ·rw [if_neg hq,if_neg hq]
  cases l[q]? with
  | none=>rfl
  | some ds=>simp only [Option.map_some];rw [if_neg (fun e=>hq e.symm)]
theorem Ax1 {l:List (List IV)} {i j c c2:Nat} (hi:i < l.length):∃ z,(G4 l i j c)[i]? = some z/\G4 l i j c2=(G4 l i j c).set i (z.set j (.own c2)):=by
 have hg:=List.getElem?_eq_getElem hi
 refine ⟨_,by rw [Ei,hg];rfl,List.ext_getElem? fun q=>?_⟩
 rw [Ei,List.getElem?_set,Ei,Dr]
 by_cases hq:i=q
 ·subst hq
  rw [if_pos rfl,if_pos hi,hg]
  simp
 ·rw [if_neg hq]
  cases l[q]? with
  | none=>rfl
  | some ds=>simp only [Option.map_some];rw [if_neg (fun e=>hq e.symm),if_neg (fun e=>hq e.symm)]
theorem Zx {b e k:Nat} {l:List (List IV)} {E:Env} (X w:World) (base:Nat) (h:(BA.row b e k l).holds E X w base):Ai (An E X) k w base e (E.row b) (l.map (List.map AV.iv))/\∀ g,(E.row b).ownBlock=some g->g=E.blk b :=
 ⟨h.1.rel (by simp) fun m x x' cs p q hh=>by
  rw [List.getElem?_map,p] at q
  obtain rfl:=Option.some.inj q
  exact Av.ivs.1 hh,h.2⟩
theorem Bd7 {b e k:Nat} {l:List (List IV)} {E:Env} (X w:World) (base:Nat) (h:Ai (An E X) k w base e (E.row b) (l.map (List.map AV.iv))) (hB:∀ g,(E.row b).ownBlock=some g->g=E.blk b):(BA.row b e k l).holds E X w base :=
 ⟨h.rel (by simp) fun m x x' cs p q hh=>by
  rw [List.getElem?_map,q] at p
  obtain rfl:=Option.some.inj p
  exact Av.ivs.2 hh,hB⟩
end
-- what is asked of types
def tyK (P:Program) (t:TypeId):Option (Nat×Nat) :=
 match P.underlying t,P.info? t with
 | some (.struct _),some i=>some (1,i.size)
 | some (.array _ _),some i=>some (2,i.size)
 | some _,some i=>some (0,i.size)
 | _,_=>none
def Cq (P:Program) (t:TypeId):Option (TypeId×Nat×Nat) :=
 match P.underlying t with
 | some (.slice e)=>(P.info? e).map fun i=>(e,i.size,i.bytes)
 | _=>none
def Ra (P:Program) (t:TypeId):Option (Nat×Nat×Nat) :=
 match P.underlying t with
 | some (.array n e)=>(tyK P e).map fun x=>(n,x.1,x.2)
 | _=>none
def Fu (P:Program) (t:TypeId):Bool :=
 match P.underlying t with
 | some .string=>true
 | _=>false
def tyF (P:Program) (t:TypeId) (f:Nat):Option (Nat×Nat×Nat) :=
 match P.underlying t with
 | some (.struct fs)=>match fs[f]? with
  | some fd=>(tyK P fd.type).map fun x=>(fd.offset,x.1,x.2)
  | none=>none
 | _=>none
def tyZ (P:Program) (t:TypeId):Option (Nat×List Value) :=
 match tyK P t,(P.info? t).bind (·.zero) with
 | some (k,_),some z=>some (k,z.cells.toList)
 | _,_=>none
def M2 (P:Program) (t:TypeId):Option (List Value×List (Nat×Nat)) :=
 match P.underlying t,(P.info? t).bind (·.zero) with
 | some (.struct fs),some z=>(fs.toList.mapM fun f=>(P.info? f.type).map fun i=>(f.offset,i.size)).map fun l=>(z.cells.toList,l)
 | some (.array n e),some z=>(P.info? e).map fun i=>(z.cells.toList,(List.range n).map fun k=>(k*i.size,i.size))
 | _,_=>none
def Qf (P:Program) (t:TypeId):Option (IntKind×Value) :=
 match P.underlying t with
 | some (.map kt et)=>match P.underlying kt,tyK P et,(P.info? et).bind (·.zero) with
  | some (.int k),some (0,1),some z=>some (k,z)
  | _,_,_=>none
 | _=>none
def Jq:List (Int×Value)->Int->Option Value
 | [],_=>none
 | (i,v) :: r,m=>if m=i then some v else Jq r m
def Kw:List (Int×Value)->Int->Value->List (Int×Value)
 | [],m,u=>[(m,u)]
 | (i,v) :: r,m,u=>if m=i then (i,u) :: r else (i,v) :: Kw r m u
theorem A17 {m n:Int} {u:Value} : ∀ {kv:List (Int×Value)},Jq (Kw kv m u) n=if n=m then some u else Jq kv n
 | []=>rfl
 | (i,v) :: r=>by
  by_cases e:m=i
  ·subst e
   simp only [Kw,if_true,Jq]
   split<;>rfl
  ·simp only [Kw,if_neg e,Jq,A17 (kv:=r)]
   by_cases e2:n=i
   ·subst e2;simp [Ne.symm e]
   ·simp [e2]
theorem Sz {k:IntKind} {m:Int} : ∀ {es:List MapEntry} {kv:List (Int×Value)} (i:Nat),es.map (fun e=>(e.key,e.val))=kv.map (fun x=>(Value.int k x.1,x.2)) ->
  (Instr.findNow (.int k) (.int k m) es i=some none/\Jq kv m=none/\∀ u,Kw kv m u=kv++[(m,u)]) \/
  (∃ j u,Instr.findNow (.int k) (.int k m) es i=some (some (i+j,u))/\Jq kv m=some u/\(∃ e,es[j]? = some e/\e.key=.int k m)/\∀ (key u':Value),key=.int k m->(es.modify j fun e=>{ e with key:=key,val:=u' }).map (fun e=>(e.key,e.val))=(Kw kv m u').map fun x=>(Value.int k x.1,x.2))
 | [],[],_,_=>.inl ⟨rfl,rfl,fun _=>rfl⟩
 | [],_ :: _,_,h=>by simp at h
 | _ :: _,[],_,h=>by simp at h
 | e :: es,(a,v) :: kv,i,h=>by
  simp only [List.map_cons,List.cons.injEq,Prod.mk.injEq] at h
  obtain ⟨⟨h1,h2⟩,h3⟩:=h
  by_cases ea:m=a
  ·subst ea
   refine .inr ⟨0,e.val,by simp [Instr.findNow,h1,Instr.sameNow],by simp [Jq,h2],⟨e,rfl,h1⟩,fun key u' hk=>?_⟩
   subst hk
   simp [Kw,h3]
  ·have hs:Instr.sameNow (.int k) (.int k m) e.key=some false:=by rw [h1];simp [Instr.sameNow,ea]
   rcases Sz (k:=k) (m:=m) (i+1) h3 with ⟨h4,h5,h6⟩ | ⟨j,u,h4,h5,h6,h7⟩
   ·exact .inl ⟨by simp only [Instr.findNow,hs,h4],by simp [Jq,ea,h5],fun u=>by simp [Kw,ea,h6]⟩
   ·refine .inr ⟨j+1,u,by simp only [Instr.findNow,hs,h4];congr 3;omega,by simp [Jq,ea,h5],by simpa using h6,fun key u' hk=>?_⟩
    simp [Kw,ea,h1,h2,h7 key u' hk]
def Lf (P:Program) (t:TypeId):Bool :=
 match P.underlying t with
 | some (.slice e)=>match P.underlying e with
  | some (.int .u8)=>true
  | _=>false
 | _=>false
theorem J1 {P:Program} {t:TypeId} (h:Lf P t=true):∃ e,P.underlying t=some (.slice e)/\P.underlying e=some (.int .u8):=by
 unfold Lf at h
 split at h
 ·rename_i e h1
  split at h
  ·rename_i h2
   exact ⟨e,h1,h2⟩
  ·cases h
 ·cases h
theorem Eu {P:Program} {t:TypeId} (h:Fu P t=true):P.underlying t=some .string:=by
 unfold Fu at h
 split at h
 ·assumption
 ·cases h
def Uy (bs:List Nat):ByteArray:=strOfNums (bs.map fun (b:Nat)=>(b:Int))
def byR (bs:List Nat):List (List IV):=bs.map fun (b:Nat)=>[IV.val (.int .u8 b)]
def Ka (s:ByteArray):List Nat:=s.data.toList.map UInt8.toNat
def Nu (P:Program) (t:TypeId):Option IntKind :=
 match P.underlying t with
 | some (.int k)=>some k
 | _=>none
section
variable {P : Program} {w : World} {t : TypeId}
theorem D5 {k s:Nat} (h:tyK P t=some (k,s)):(isAgg t).run P w=.ok (decide (k≠0)) w/\(sizeOf t).run P w=.ok s w:=by
 unfold tyK at h
 cases hu:P.underlying t with
 | none=>rw [hu] at h;simp at h
 | some d =>
  cases hi:P.info? t with
  | none=>rw [hu,hi] at h;cases d<;>simp at h
  | some i =>
   rw [hu,hi] at h
   have h2:(sizeOf t).run P w=.ok i.size w:=by simp [sizeOf,typeInfo,hi]
   rw [h2]
   cases d<;>simp at h<;>obtain ⟨rfl,rfl⟩:=h<;>simp [isAgg,run_underlying hu]
theorem C3 {e k y:Nat} (h:Cq P t=some (e,k,y)):P.underlying t=some (.slice e)/\∃ i,P.info? e=some i/\i.size=k/\i.bytes=y:=by
 unfold Cq at h
 split at h
 ·rename_i e' hu
  simp only [Option.map_eq_some_iff,Prod.mk.injEq] at h
  obtain ⟨i,hi,rfl,rfl,rfl⟩:=h
  exact ⟨hu,i,hi,rfl,rfl⟩
 ·cases h
theorem M3 {n q k:Nat} (h:Ra P t=some (n,q,k)):∃ e,P.underlying t=some (.array n e)/\tyK P e=some (q,k):=by
 unfold Ra at h
 split at h
 ·rename_i n' e hu
  simp only [Option.map_eq_some_iff,Prod.mk.injEq] at h
  obtain ⟨⟨q',k'⟩,hi,rfl,rfl,rfl⟩:=h
  exact ⟨e,hu,hi⟩
 ·cases h
theorem Vw {f off k s:Nat} (h:tyF P t f=some (off,k,s)):∃ fs fd,P.underlying t=some (.struct fs)/\fs[f]? = some fd/\fd.offset=off/\tyK P fd.type=some (k,s):=by
 unfold tyF at h
 split at h
 ·rename_i fs hu
  split at h
  ·rename_i fd hf
   simp only [Option.map_eq_some_iff,Prod.mk.injEq] at h
   obtain ⟨⟨k',s'⟩,hk,rfl,rfl,rfl⟩:=h
   exact ⟨fs,fd,hu,hf,rfl,hk⟩
  ·cases h
 ·cases h
theorem M0 {k:IntKind} {z:Value} (h:Qf P t=some (k,z)):∃ kt et,P.underlying t=some (.map kt et)/\P.underlying kt=some (.int k)/\(zeroValue et).run P w=.ok z w:=by
 unfold Qf at h
 split at h
 ·rename_i kt et hu
  split at h
  ·rename_i k' z' h1 h2 h3
   simp only [Option.some.injEq,Prod.mk.injEq] at h
   obtain ⟨rfl,rfl⟩:=h
   obtain ⟨i,hi,hz⟩:=Option.bind_eq_some_iff.1 h3
   exact ⟨kt,et,hu,h1,by simp [zeroValue,typeInfo,hi,hz]⟩
  ·cases h
 ·cases h
theorem A45 {k:Nat} {zs:List Value} (h:tyZ P t=some (k,zs)):∃ z,(zeroValue t).run P w=.ok z w/\z.cells.toList=zs/\∃ s,tyK P t=some (k,s):=by
 unfold tyZ at h
 split at h
 ·rename_i k' s' z hk hz
  simp only [Option.some.injEq,Prod.mk.injEq] at h
  obtain ⟨rfl,rfl⟩:=h
  obtain ⟨i,hi,hz⟩:=Option.bind_eq_some_iff.1 hz
  exact ⟨z,by simp [zeroValue,typeInfo,hi,hz],rfl,s',hk⟩
 ·cases h
end
-- operands
def nrm:AV->AV
 | .iv (.val v)=>.val v
 | .iv (.pt cs)=>.ip cs
 | a=>a
def ev (fr:List (Nat×AV)):Operand->AV
 | .tmp t=>look fr t
 | .const v=>match v with
  | .agg cs=>.agg (cs.toList.map AV.val)
  | v=>.val v
 | .global g=>.val (.pointer (some ⟨g,0,none⟩))
 | .func f=>.fn f []
theorem Au.nrm_ {E:Env} {X:World} {v:Value} {c:AV} (h:Au E X v c):Au E X v (nrm c):=by
 cases h with
 | iv h =>
  cases h with
  | val h=>exact .val
  | nil h=>exact .iv (.nil h)
  | sl f h0 h1 h2 h3 h4 h5 h6=>exact .iv (.sl f h0 h1 h2 h3 h4 h5 h6)
  | pt f h1 h2=>exact .ip f h1 h2
 | any=>exact .any
 | val=>exact .val
 | ip f h1 h2=>exact .ip f h1 h2
 | bp=>exact .bp
 | rp=>exact .rp
 | own h=>exact .own h
 | mv=>exact .mv
 | agg h1 h2=>exact .agg h1 h2
 | aggI h=>exact .aggI h
 | tup h1 h2=>exact .tup h1 h2
 | fn h1 h2=>exact .fn h1 h2
theorem Au.agg_vals {E:Env} {X:World} (cs:Array Value):Au E X (.agg cs) (.agg (cs.toList.map AV.val)) :=
 .agg (by simp) fun j v c a b=>by
  rw [List.getElem?_map,Array.getElem?_toList,a] at b
  simp at b;subst b;exact .val
theorem St.ev {V w0:World} {n:Fm} {E:Env} {σ:Ab} {a:Act} {w:World} (h:St V w0 n E σ a w) (x:Operand):Au E (vis V w0 w (Ac E σ.bk)) (a.eval x) (ev σ.fr x):=by
 cases x with
 | tmp t=>exact h.slots t
 | const v=>cases v<;>first | exact .val | exact Au.agg_vals _
 | global g=>exact .val
 | func f=>exact .fn rfl fun j v c a b=>by simp at a
def Vp:AV->Bool
 | .val (.agg _)=>false
 | .val (.tuple _)=>false
 | .val _=>true
 | .iv _=>true
 | .ip _=>true
 | .bp _ _=>true
 | .rp _ _ _ _=>true
 | .own _=>true
 | .mv _=>true
 | .fn _ _=>true
 | _=>false
theorem Au.sing_ {E:Env} {X:World} {v:Value} {c:AV} (h:Au E X v c) (hs:Vp c=true):v.oneCell'=true/\v.cells=#[v]:=by
 cases h with
 | any=>simp [Vp] at hs
 | val=>cases v<;>first | exact ⟨rfl,rfl⟩ | simp [Vp] at hs
 | iv h=>cases h with
  | val h=>cases v<;>first | exact ⟨rfl,rfl⟩ | exact h.elim
  | nil h=>exact ⟨rfl,rfl⟩
  | sl f=>exact ⟨rfl,rfl⟩
  | pt f=>exact ⟨rfl,rfl⟩
 | ip f h1 h2=>exact ⟨rfl,rfl⟩
 | bp=>exact ⟨rfl,rfl⟩
 | rp=>exact ⟨rfl,rfl⟩
 | own h=>exact ⟨rfl,rfl⟩
 | mv=>exact ⟨rfl,rfl⟩
 | agg h1 h2=>simp [Vp] at hs
 | aggI h=>simp [Vp] at hs
 | tup h1 h2=>simp [Vp] at hs
 | fn h1 h2=>exact ⟨rfl,rfl⟩
def Af4:List AV->Bool
 | []=>true
 | c :: cs=>Vp c&&Af4 cs
theorem Zt:∀ {cs:List AV},Af4 cs=true->∀ {j:Nat} {c:AV},cs[j]? = some c->Vp c=true
 | [],_,j,c,h=>by simp at h
 | d :: cs,h,0,c,e=>by
  simp only [Af4,Bool.and_eq_true] at h
  simp at e;subst e;exact h.1
 | d :: cs,h,j+1,c,e=>by
  simp only [Af4,Bool.and_eq_true] at h
  exact Zt h.2 (by simpa using e)
def Bc:AV->List AV
 | .agg cs=>cs
 | .aggI cs=>cs.map AV.iv
 | c=>[c]
def okC:AV->Bool
 | .agg cs=>Af4 cs
 | .aggI _=>true
 | c=>Vp c
theorem Au.cells {E:Env} {X:World} {v:Value} {c:AV} (h:Au E X v c) (hs:okC c=true):An E X v.cells.toList (Bc c)/\∀ u∈v.cells.toList,u.oneCell'=true:=by
 have one:Vp c=true->An E X v.cells.toList [c]/\∀ u∈v.cells.toList,u.oneCell'=true:=fun hs=>by
  obtain ⟨h1,h2⟩:=h.sing_ hs
  rw [h2]
  exact ⟨An.cons h An.nil,fun u hu=>by simp at hu;subst hu;exact h1⟩
 cases h with
 | any=>simp [okC,Vp] at hs
 | val=>exact one hs
 | iv h=>exact one hs
 | ip f h1 h2=>exact one hs
 | bp=>exact one hs
 | rp=>exact one hs
 | own h=>exact one hs
 | mv=>exact one hs
 | tup h1 h2=>simp [okC,Vp] at hs
 | fn h1 h2=>exact one hs
 | @agg vs cs h1 h2 =>
  refine ⟨⟨by simpa [Value.cells,Bc] using h1,fun j v c a b=>h2 j v c (by simpa [Value.cells] using a) b⟩,fun u hu=>?_⟩
  obtain ⟨j,hj⟩:=List.mem_iff_getElem?.1 hu
  have hlt:=(List.getElem?_eq_some_iff.1 hj).1
  have hj':vs[j]? = some u:=by simpa [Value.cells] using hj
  have hlt':j < cs.length:=by rw [<-h1];exact (Array.getElem?_eq_some_iff.1 hj').1
  exact ((h2 j u _ hj' (List.getElem?_eq_getElem hlt')).sing_ (Zt hs (List.getElem?_eq_getElem hlt'))).1
 | @aggI vs cs h=>exact ⟨h.as,fun u hu=>h.one u hu⟩
def toI:AV->Option IV
 | .val v=>some (.val v)
 | .iv i=>some i
 | .ip cs=>some (.pt cs)
 | _=>none
def okA:AV->Prop
 | .val v=>okV v
 | _=>True
def toIs:List AV->Option (List IV)
 | []=>some []
 | c :: cs=>match toI c,toIs cs with
  | some i,some is=>some (i :: is)
  | _,_=>none
def J8:List AV->Prop
 | []=>True
 | c :: cs=>okA c/\J8 cs
theorem Au.toI {E:Env} {X:World} {v:Value} {c:AV} {i:IV} (h:Au E X v c) (hi:toI c=some i) (ho:okA c):C7 X v i:=by
 cases h<;>simp [Go.Proofs.YtahgkllhbggmgaaGreatDoor.toI] at hi
 ·subst hi;exact .val ho
 ·subst hi;assumption
 ·rename_i f h1 h2;subst hi;exact .pt f h1 h2
theorem An.toIs {E:Env} {X:World} : ∀ {vs:List Value} {cs:List AV} {is:List IV},An E X vs cs->toIs cs=some is->J8 cs->Av X vs is
 | vs,[],is,h,hi,_=>by
  simp [Go.Proofs.YtahgkllhbggmgaaGreatDoor.toIs] at hi
  subst hi
  rw [An.nil_iff.1 h]
  trivial
 | vs,c :: cs,is,h,hi,ho=>by
  obtain ⟨v,vs',rfl,h1,h2⟩:=An.cons_iff.1 h
  simp only [Go.Proofs.YtahgkllhbggmgaaGreatDoor.toIs] at hi
  split at hi
  ·rename_i i is' e1 e2
   obtain rfl:=Option.some.inj hi
   exact ⟨h1.toI e1 ho.1,An.toIs h2 e2 ho.2⟩
  ·cases hi
-- blocks by name
def C8 (b:Nat):List BA->Option BA
 | []=>none
 | x :: r=>if x.id=b then some x else C8 b r
def Cg (b:Nat) (y:List BA):List BA->List BA
 | []=>[]
 | x :: r=>if x.id=b then y++r else x :: Cg b y r
theorem Do {b:Nat} {x:BA} : ∀ {bk:List BA},C8 b bk=some x->∃ pre post,bk=pre++x :: post/\x.id=b/\∀ y,Cg b y bk=pre++(y++post)
 | [],h=>by cases h
 | z :: r,h=>by
  simp only [C8] at h
  by_cases e:z.id=b
  ·rw [if_pos e] at h
   obtain rfl:=Option.some.inj h
   exact ⟨[],r,rfl,e,fun y=>by simp [Cg,e]⟩
  ·rw [if_neg e] at h
   obtain ⟨pre,post,h1,h2,h3⟩:=Do h
   exact ⟨z :: pre,post,by rw [h1];rfl,h2,fun y=>by simp [Cg,e,h3 y]⟩
theorem Ga {b:Nat} {x:BA} {bk:List BA} (h:C8 b bk=some x):x∈bk/\x.id=b:=by
 obtain ⟨pre,post,e,h2,_⟩:=Do h
 exact ⟨by rw [e];simp,h2⟩
def Et {α:Type} (cs:List α) (o:Nat):List α->List α
 | []=>cs
 | d :: ds=>Et (cs.set o d) (o+1) ds
def A7 (P:Program) (G:World->Prop) (f:FuncId) (args:List AV) (r:AV) (nb:List BA):Prop :=
 (∀ (vs:Array Value) (w:World),(callFunc f vs).run P w=.ok (.enter f vs) w) /\
 ∀ (V w:World) (E:Env) (vs:Array Value),Ext V w->G w->An E V vs.toList args->Calls P f vs w fun e w'=>∃ v E',e=.returned v/\Below w.heap.size w w'/\(Ac E' nb).Nodup/\(∀ g∈Ac E' nb,w.heap.size<=g) /\
  (∀ b∈nb,b.holds E' (vis V w w' (Ac E' nb)) w' w.heap.size)/\Au E' (vis V w w' (Ac E' nb)) v r
def cid (dst:Option Tmp):Nat :=
 match dst with
 | some d=>100*(d+1)
 | none=>0
def AV.sh (c:Nat):AV->AV
 | .bp b o=>.bp (b+c) o
 | .rp b k i j=>.rp (b+c) k i j
 | .own b=>.own (b+c)
 | .mv b=>.mv (b+c)
 | .agg cs=>.agg (shs c cs)
 | .tup cs=>.tup (shs c cs)
 | .fn f cs=>.fn f (shs c cs)
 | a=>a
where shs (c:Nat):List AV->List AV
 | []=>[]
 | a :: l=>AV.sh c a :: shs c l
def AV.small:AV->Bool
 | .bp b _=>Nat.blt b 100
 | .rp b _ _ _=>Nat.blt b 100
 | .own b=>Nat.blt b 100
 | .mv b=>Nat.blt b 100
 | .agg cs=>smalls cs
 | .tup cs=>smalls cs
 | .fn _ cs=>smalls cs
 | _=>true
where smalls:List AV->Bool
 | []=>true
 | a :: l=>AV.small a&&smalls l
def BA.sh (c:Nat):BA->BA
 | .box b cs=>.box (b+c) (AV.sh.shs c cs)
 | .arr b cs=>.arr (b+c) cs
 | .row b e k l=>.row (b+c) e k l
 | .mp b k kv=>.mp (b+c) k kv
 | .opq b F=>.opq (b+c) F
 | .rowN b e k l i j d=>.rowN (b+c) e k l i j (d+c)
def BA.small:BA->Bool
 | .box b cs=>Nat.blt b 100&&AV.small.smalls cs
 | .arr b _=>Nat.blt b 100
 | .row b _ _ _=>Nat.blt b 100
 | .mp b _ _=>Nat.blt b 100
 | .opq b _=>Nat.blt b 100
 | .rowN b _ _ _ _ _ d=>Nat.blt b 100&&Nat.blt d 100
def shB (c:Nat):List BA->List BA
 | []=>[]
 | b :: bs=>b.sh c :: shB c bs
def Kr:List BA->Bool
 | []=>true
 | b :: bs=>b.small&&Kr bs
def Env.join (E E':Env) (c:Nat):Env:=⟨fun b=>if c<=b/\b < c+100 then E'.blk (b - c) else E.blk b,fun b=>if c<=b/\b < c+100 then E'.row (b - c) else E.row b⟩
theorem Env.join_same (E E':Env) (c:Nat):Env.same c (c+100) E (Env.join E E' c):=fun b hb=>by
 have:¬ (c<=b/\b < c+100):=by omega
 simp only [Env.join,if_neg this];exact ⟨trivial,trivial⟩
theorem Env.join_sh (E E':Env) (c:Nat) {b:Nat} (h:b < 100):(Env.join E E' c).blk (b+c)=E'.blk b/\(Env.join E E' c).row (b+c)=E'.row b:=by
 have h1:c<=b+c/\b+c < c+100:=by omega
 simp only [Env.join,if_pos h1,Nat.add_sub_cancel];exact ⟨trivial,trivial⟩
theorem S9 {c:Nat} : ∀ {cs:List AV} {j:Nat},(AV.sh.shs c cs)[j]? = (cs[j]?).map (AV.sh c)
 | [],j=>by simp [AV.sh.shs]
 | _ :: _,0=>by simp [AV.sh.shs]
 | _ :: cs,j+1=>by simp only [AV.sh.shs,List.getElem?_cons_succ];exact S9
theorem S8 {c:Nat} : ∀ {cs:List AV},(AV.sh.shs c cs).length=cs.length
 | []=>rfl
 | _ :: cs=>congrArg Nat.succ (S8 (cs:=cs))
theorem Kq:∀ {cs:List AV},AV.small.smalls cs=true->∀ {j:Nat} {c:AV},cs[j]? = some c->c.small=true
 | [],_,j,c,h=>by simp at h
 | d :: cs,h,0,c,e=>by
  simp only [AV.small.smalls,Bool.and_eq_true] at h
  simp at e;subst e;exact h.1
 | d :: cs,h,j+1,c,e=>by
  simp only [AV.small.smalls,Bool.and_eq_true] at h
  exact Kq h.2 (by simpa using e)
theorem Bs {a b:Nat} : Nat.blt a b=true↔a < b:=by simp [Nat.blt_eq]
theorem Au.sh {E E':Env} {X:World} {c:Nat} {v:Value} {a:AV} (h:Au E' X v a):a.small=true->Au (Env.join E E' c) X v (a.sh c):=by
 induction h with
 | any=>exact fun _=>.any
 | val=>exact fun _=>.val
 | iv h=>exact fun _=>.iv h
 | ip f h1 h2=>exact fun _=>.ip f h1 h2
 | @bp b o=>exact fun hb=>by rw [<-(Env.join_sh E E' c (Bs.1 hb)).1];exact .bp
 | @rp b k i j=>exact fun hb=>by rw [<-(Env.join_sh E E' c (Bs.1 hb)).1];exact .rp
 | @own b A n cc h=>exact fun hb=>.own ((Env.join_sh E E' c (Bs.1 hb)).2.trans h)
 | @mv b=>exact fun hb=>by rw [<-(Env.join_sh E E' c (Bs.1 hb)).1];exact .mv
 | aggI h=>exact fun _=>.aggI h
 | agg h1 h2 ih =>
  exact fun hb=>.agg (by rw [S8];exact h1) fun j v d a b=>by
   rw [S9,Option.map_eq_some_iff] at b
   obtain ⟨d',hd,rfl⟩:=b
   exact ih j v d' a hd (Kq hb hd)
 | tup h1 h2 ih =>
  exact fun hb=>.tup (by rw [S8];exact h1) fun j v d a b=>by
   rw [S9,Option.map_eq_some_iff] at b
   obtain ⟨d',hd,rfl⟩:=b
   exact ih j v d' a hd (Kq hb hd)
 | fn h1 h2 ih =>
  exact fun hb=>.fn (by rw [S8];exact h1) fun j v d a b=>by
   rw [S9,Option.map_eq_some_iff] at b
   obtain ⟨d',hd,rfl⟩:=b
   exact ih j v d' a hd (Kq hb hd)
theorem An.sh {E E':Env} {X:World} {c:Nat} {vs:List Value} {cs:List AV} (h:An E' X vs cs) (hs:AV.small.smalls cs=true):An (Env.join E E' c) X vs (AV.sh.shs c cs) :=
 ⟨by rw [S8];exact h.1,fun j v d a b=>by
  rw [S9,Option.map_eq_some_iff] at b
  obtain ⟨d',hd,rfl⟩:=b
  exact (h.2 j v d' a hd).sh (Kq hs hd)⟩
theorem BA.sh_owned {E E':Env} {c:Nat} {b:BA} (h:b.small=true):(b.sh c).owned (Env.join E E' c)=b.owned E':=by
 cases b with
 | box b cs=>simp only [BA.small,Bool.and_eq_true] at h;simp only [BA.sh,BA.owned,(Env.join_sh E E' c (Bs.1 h.1)).1]
 | arr b cs=>simp only [BA.sh,BA.owned,(Env.join_sh E E' c (Bs.1 h)).1]
 | row b e k l=>simp only [BA.sh,BA.owned,(Env.join_sh E E' c (Bs.1 h)).2]
 | mp b k kv=>simp only [BA.sh,BA.owned,(Env.join_sh E E' c (Bs.1 h)).1]
 | opq b F=>rfl
 | rowN b e k l i j d=>simp only [BA.small,Bool.and_eq_true] at h;simp only [BA.sh,BA.owned,(Env.join_sh E E' c (Bs.1 h.1)).2]
theorem X5 {E E':Env} {c:Nat} : ∀ {bs:List BA},Kr bs=true->Ac (Env.join E E' c) (shB c bs)=Ac E' bs
 | [],_=>rfl
 | b :: bs,h=>by
  simp only [Kr,Bool.and_eq_true] at h
  simp only [shB,Ac,BA.sh_owned h.1,X5 h.2]
theorem A54 {c:Nat} : ∀ {bs:List BA} {x:BA},x∈shB c bs->∃ b∈bs,x=b.sh c
 | b :: bs,x,h=>by
  simp only [shB] at h
  rcases List.mem_cons.1 h with rfl | h
  ·exact ⟨b,by simp,rfl⟩
  ·obtain ⟨b',h1,h2⟩:=A54 h
   exact ⟨b',List.mem_cons_of_mem _ h1,h2⟩
theorem Rc:∀ {bs:List BA},Kr bs=true->∀ b∈bs,b.small=true
 | [],_,b,h=>by cases h
 | c :: bs,h,b,hb=>by
  simp only [Kr,Bool.and_eq_true] at h
  rcases List.mem_cons.1 hb with rfl | hb
  ·exact h.1
  ·exact Rc h.2 b hb
theorem BA.sh_holds {E E':Env} {X w:World} {base c:Nat} {b:BA} (h:b.holds E' X w base) (hs:b.small=true):(b.sh c).holds (Env.join E E' c) X w base:=by
 cases b with
 | box b cs =>
  simp only [BA.small,Bool.and_eq_true] at hs
  obtain ⟨C,t,h1,h2⟩:=h
  exact ⟨C,t,by rw [(Env.join_sh E E' c (Bs.1 hs.1)).1];exact h1,h2.sh hs.2⟩
 | arr b cs =>
  obtain ⟨C,t,h1,h2⟩:=h
  exact ⟨C,t,by rw [(Env.join_sh E E' c (Bs.1 hs)).1];exact h1,h2⟩
 | row b e k l =>
  obtain ⟨h1,h2⟩:=h
  obtain ⟨e1,e2⟩:=Env.join_sh E E' c (Bs.1 hs)
  exact ⟨by rw [e2];exact h1,by rw [e1,e2];exact h2⟩
 | mp b k kv =>
  obtain ⟨es,cl,h1,h2⟩:=h
  exact ⟨es,cl,by rw [(Env.join_sh E E' c (Bs.1 hs)).1];exact h1,h2⟩
 | opq b F=>exact h
 | rowN b e k l i j d =>
  simp only [BA.small,Bool.and_eq_true] at hs
  obtain ⟨h1,h2⟩:=h
  obtain ⟨e1,e2⟩:=Env.join_sh E E' c (Bs.1 hs.1)
  exact ⟨by rw [e2];exact h1.rel (by simp [Dr]) fun m x x' cs p q hh=>Ua (Ext.refl _) (Env.join_sh E E' c (Bs.1 hs.2)).2 p q hh,by rw [e1,e2];exact h2⟩
theorem BA.holds_base {E:Env} {X w:World} {base base':Nat} {b:BA} (h:b.holds E X w base) (hb:base'<=base):b.holds E X w base':=by
 cases b with
 | box b cs=>exact h
 | arr b cs=>exact h
 | row b e k l=>exact ⟨h.1.base hb,h.2⟩
 | mp b k kv=>exact h
 | opq b F=>exact h
 | rowN b e k l i j d=>exact ⟨h.1.base hb,h.2⟩
-- what is lent to a callee that reads alone
def Jz (B:Nat->Option BA):AV->AV
 | .own b=>match B b with
  | some (.row _ _ k l)=>.iv (.sl k l)
  | some (.rowN _ _ k l i j c)=>match B c with
   | some (.row _ _ k' m)=>.iv (.sl k (Ya l i j (.sl k' m)))
   | _=>.any
  | _=>.any
 | .bp b o=>match B b with
  | some (.arr _ cs)=>.ip (cs.drop o)
  | some (.box _ cs)=>match toIs cs with
   | some is=>.ip (is.drop o)
   | none=>.any
  | _=>.any
 | .agg cs=>.agg (viewAs cs)
 | .tup cs=>.tup (viewAs cs)
 | .fn f cs=>.fn f (viewAs cs)
 | a=>a
where viewAs:List AV->List AV
 | []=>[]
 | a :: l=>Jz B a :: viewAs l
def Aw7 (B:Nat->Option BA):Prop:=∀ b b' cs,B b=some (BA.box b' cs)->J8 cs
def Aj9:List BA->Prop
 | []=>True
 | .box _ cs :: r=>J8 cs/\Aj9 r
 | _ :: r=>Aj9 r
theorem A15:∀ {bk:List BA},Aj9 bk->Aw7 fun b=>C8 b bk
 | [],_,b,b',cs,h=>by cases h
 | x :: r,ho,b,b',cs,h=>by
  simp only [C8] at h
  have hr:Aj9 r:=by cases x<;>first | exact ho | exact ho.2
  split at h
  ·obtain rfl:=Option.some.inj h
   exact ho.1
  ·exact A15 hr b b' cs h
def K3:AV->Bool
 | .any=>true
 | .val _=>true
 | .iv (.val _)=>true
 | .iv (.sl _ [])=>true
 | .own _=>true
 | .agg cs=>flats cs
 | .tup cs=>flats cs
 | _=>false
where flats:List AV->Bool
 | []=>true
 | a :: l=>K3 a&&flats l
def B38 (nb:List BA):Prop:=∀ b∈nb,∃ i e k l,b=.row i e k l/\∀ cs∈l,∀ x∈cs,∃ v,x=.val v
theorem Ki {B:Nat->Option BA} : ∀ {cs:List AV} {j:Nat},(Jz.viewAs B cs)[j]? = (cs[j]?).map (Jz B)
 | [],j=>by simp [Jz.viewAs]
 | _ :: _,0=>by simp [Jz.viewAs]
 | _ :: cs,j+1=>by simp only [Jz.viewAs,List.getElem?_cons_succ];exact Ki
theorem Kh {B:Nat->Option BA} : ∀ {cs:List AV},(Jz.viewAs B cs).length=cs.length
 | []=>rfl
 | _ :: cs=>congrArg Nat.succ (Kh (cs:=cs))
theorem Ud:∀ {cs:List AV},K3.flats cs=true->∀ {j:Nat} {c:AV},cs[j]? = some c->K3 c=true
 | [],_,j,c,h=>by simp at h
 | d :: cs,h,0,c,e=>by
  simp only [K3.flats,Bool.and_eq_true] at h
  simp at e;subst e;exact h.1
 | d :: cs,h,j+1,c,e=>by
  simp only [K3.flats,Bool.and_eq_true] at h
  exact Ud h.2 (by simpa using e)
theorem Au.flat {E:Env} {X X':World} {v:Value} {a:AV} (h:Au E X v a):K3 a=true->Au E X' v a:=by
 induction h with
 | any=>exact fun _=>.any
 | val=>exact fun _=>.val
 | iv h =>
  exact fun hf=>by
   cases h with
   | val h=>exact .iv (.val h)
   | nil h=>exact .iv (.nil h)
   | @sl b off c k l f h0 h1 h2 h3 h4 h5 h6 =>
    cases l with
    | nil=>exact .iv (.nil h3)
    | cons=>simp [K3] at hf
   | pt f=>simp [K3] at hf
 | ip f h1 h2=>exact fun hf=>by simp [K3] at hf
 | bp=>exact fun hf=>by simp [K3] at hf
 | rp=>exact fun hf=>by simp [K3] at hf
 | own h=>exact fun _=>.own h
 | mv=>exact fun hf=>by simp [K3] at hf
 | aggI h=>exact fun hf=>by simp [K3] at hf
 | agg h1 h2 ih=>exact fun hf=>.agg h1 fun j v c a b=>ih j v c a b (Ud hf b)
 | tup h1 h2 ih=>exact fun hf=>.tup h1 fun j v c a b=>ih j v c a b (Ud hf b)
 | fn h1 h2 ih=>exact fun hf=>by simp [K3] at hf
theorem Av.flat {X X':World} {vs:List Value} {is:List IV} (h:Av X vs is) (hf:∀ x∈is,∃ v,x=.val v):Av X' vs is :=
 Av.of h.len fun j v i a b=>by
  obtain ⟨u,rfl⟩:=hf i (List.mem_of_getElem? b)
  have:=h.get a b
  cases this with
  | val h=>exact .val h
theorem Bh.mono_memE {α:Type} {R R':List Value->α->Prop} {k:Nat} : ∀ {xs:List Value} {l:List α},(∀ cs x,x∈l->R cs x->R' cs x)->Bh R k xs l->Bh R' k xs l
 | _,[],_,h=>h
 | _,x :: _,hR,⟨cs,rest,e,hk,h1,h⟩=>⟨cs,rest,e,hk,hR _ _ (by simp) h1,Bh.mono_memE (fun cs y hy=>hR cs y (List.mem_cons_of_mem _ hy)) h⟩
theorem BA.flat_holds {E:Env} {X X' w:World} {base:Nat} {nb:List BA} (hf:B38 nb) {b:BA} (hb:b∈nb) (h:b.holds E X w base):b.holds E X' w base:=by
 obtain ⟨i,e,k,l,rfl,hl⟩:=hf b hb
 obtain ⟨⟨xs,h1,h2,h3⟩,h4⟩:=h
 exact ⟨⟨xs,h1,Bh.mono_memE (fun cs x hx h=>h.flat (hl x hx)) h2,h3⟩,h4⟩
section
variable {V w0 : World} {n : Fm} {E : Env} {σ : Ab} {a : Act} {w : World}
theorem St.own_view (h:St V w0 n E σ a w) {k e base:Nat} {v:Value} {l:List (List IV)} (h3:Ai (Av (vis V w0 w [])) k w base e v l) (hb:∀ g,v.ownBlock=some g->w0.heap.size<=g):C7 (vis V w0 w []) v (.sl k l):=by
 refine C7.of_sl ?_
 obtain ⟨A',c',hv',p1,p2,p3⟩:=h3.sl
 refine ⟨A',c',hv',p1,p2,fun hne=>?_⟩
 obtain ⟨g,off,hA,q1,q2⟩:=p3 hne
 refine ⟨g,off,hA,by rw [Ff];exact q1,fun i x hx'=>?_⟩
 obtain ⟨cs,r1,r2,r3⟩:=q2 i x hx'
 refine ⟨cs,r1,r2,fun j u hu=>?_⟩
 rcases h3.forms with ⟨e1,e2⟩ | ⟨g',c2,e1,e2,_⟩
 ·exact absurd e2 hne
 ·rw [e1] at hv'
  injection hv' with hv1
  rw [hA] at hv1
  injection hv1 with hv2
  injection hv2 with hv3
  rw [Gz (hv3 ▸ hb g' (by rw [e1];rfl)),if_neg (by simp)]
  exact r3 j u hu
theorem St.row_view (h:St V w0 n E σ a w) {b e k:Nat} {l:List (List IV)} (hm:BA.row b e k l∈σ.bk):C7 (vis V w0 w []) (E.row b) (.sl k l):=by
 obtain ⟨h3,_⟩:=h.holds _ hm
 have hx:Ext (vis V w0 w (Ac E σ.bk)) (vis V w0 w []):=D1 (Nat.le_refl _) fun p u _ _ _ h4=>⟨by simp,h4⟩
 exact h.own_view (h3.mono fun _ _ h=>h.ext hx) fun g hg=>h.base g (Bk.2 ⟨_,hm,by simp [BA.owned,hg]⟩)
theorem St.view (h:St V w0 n E σ a w) {B:Nat->Option BA} (hB:∀ b x,B b=some x->x∈σ.bk/\x.id=b) (hl:Aw7 B) {v:Value} {c:AV} (hv:Au E (vis V w0 w (Ac E σ.bk)) v c):Au E (vis V w0 w []) v (Jz B c):=by
 have hx:Ext (vis V w0 w (Ac E σ.bk)) (vis V w0 w []):=D1 (Nat.le_refl _) fun p u _ _ _ h4=>⟨by simp,h4⟩
 have blkc:∀ {g:Nat} {t:TypeId} {C:Array Value},w0.heap.size<=g->Blk w g t C->∀ (j:Nat) u,C[j]? = some u->(vis V w0 w []).cell? ⟨g,j,none⟩=some u:=fun hg hB j u hu=>by
  rw [Gz hg,if_neg (by simp),hB.cell];exact hu
 induction hv with
 | any=>exact .any
 | val=>exact .val
 | iv h=>exact .iv (h.ext hx)
 | ip f h1 h2=>exact (Au.ip f h1 h2).mono hx
 | aggI h=>exact .aggI (h.ext hx)
 | rp=>exact .rp
 | mv=>exact .mv
 | @bp b o =>
  simp only [Jz]
  cases hb:B b with
  | none=>exact .any
  | some x =>
   obtain ⟨h1,h2⟩:=hB b x hb
   have hh:=h.holds x h1
   cases x with
   | row b' e k l=>exact .any
   | mp b' k kv=>exact .any
   | opq b' F=>exact .any
   | rowN b' e k l i j c=>exact .any
   | arr b' cs =>
    obtain rfl:b'=b:=h2
    obtain ⟨C,t,h3,h4⟩:=hh
    have hg:=h.base (E.blk b') (Bk.2 ⟨_,h1,by simp [BA.owned]⟩)
    refine .ip (fun j=>(C[o+j]?).getD undef) (fun j u hu=>?_) (fun j u hu=>?_)
    ·rw [List.getElem?_drop] at hu
     have hj:o+j < C.size:=by
      have:=(List.getElem?_eq_some_iff.1 hu).1
      rw [<-h4.len] at this;simpa using this
     rw [Array.getElem?_eq_getElem hj]
     exact blkc hg h3 _ _ (Array.getElem?_eq_getElem hj)
    ·rw [List.getElem?_drop] at hu
     have hj:o+j < C.size:=by
      have:=(List.getElem?_eq_some_iff.1 hu).1
      rw [<-h4.len] at this;simpa using this
     simp only [Array.getElem?_eq_getElem hj,Option.getD_some]
     exact (h4.get (j:=o+j) (by rw [Array.getElem?_toList,Array.getElem?_eq_getElem hj]) hu).ext hx
   | box b' cs =>
    obtain rfl:b'=b:=h2
    simp only
    cases hi:toIs cs with
    | none=>exact .any
    | some is =>
     obtain ⟨C,t,h3,h4⟩:=hh
     have h5:=An.toIs h4 hi (hl _ _ _ hb)
     have hg:=h.base (E.blk b') (Bk.2 ⟨_,h1,by simp [BA.owned]⟩)
     refine .ip (fun j=>(C[o+j]?).getD undef) (fun j u hu=>?_) (fun j u hu=>?_)
     ·rw [List.getElem?_drop] at hu
      have hj:o+j < C.size:=by
       have:=(List.getElem?_eq_some_iff.1 hu).1
       rw [<-h5.len] at this;simpa using this
      rw [Array.getElem?_eq_getElem hj]
      exact blkc hg h3 _ _ (Array.getElem?_eq_getElem hj)
     ·rw [List.getElem?_drop] at hu
      have hj:o+j < C.size:=by
       have:=(List.getElem?_eq_some_iff.1 hu).1
       rw [<-h5.len] at this;simpa using this
      simp only [Array.getElem?_eq_getElem hj,Option.getD_some]
      exact (h5.get (j:=o+j) (by rw [Array.getElem?_toList,Array.getElem?_eq_getElem hj]) hu).ext hx
 | @own b A m cc he =>
  simp only [Jz]
  cases hb:B b with
  | none=>exact .any
  | some x =>
   obtain ⟨h1,h2⟩:=hB b x hb
   have hh:=h.holds x h1
   cases x with
   | arr b' cs=>exact .any
   | box b' cs=>exact .any
   | mp b' k kv=>exact .any
   | opq b' F=>exact .any
   | row b' e k l =>
    obtain rfl:b'=b:=h2
    rw [<-he]
    exact .iv (h.row_view h1)
   | rowN b' e k l i j d =>
    obtain rfl:b'=b:=h2
    simp only
    cases hd:B d with
    | none=>exact .any
    | some y =>
     obtain ⟨q1,q2⟩:=hB d y hd
     cases y with
     | row d' e' k' m' =>
      obtain rfl:d'=d:=q2
      rw [<-he]
      refine .iv (h.own_view (hh.1.rel (by rw [Dr,A27]) fun n x x' cs p q hh2=>A23 hx (fun v hv=>?_) p q hh2) fun g hg=>h.base g (Bk.2 ⟨_,h1,by simp [BA.owned,hg]⟩))
      cases hv with
      | own hr=>rw [<-hr];exact h.row_view q1
     | _=>exact .any
 | agg h1 h2 ih =>
  exact .agg (by rw [Kh];exact h1) fun j v d a b=>by
   rw [Ki,Option.map_eq_some_iff] at b
   obtain ⟨d',hd,rfl⟩:=b
   exact ih j v d' a hd
 | tup h1 h2 ih =>
  exact .tup (by rw [Kh];exact h1) fun j v d a b=>by
   rw [Ki,Option.map_eq_some_iff] at b
   obtain ⟨d',hd,rfl⟩:=b
   exact ih j v d' a hd
 | fn h1 h2 ih =>
  exact .fn (by rw [Kh];exact h1) fun j v d a b=>by
   rw [Ki,Option.map_eq_some_iff] at b
   obtain ⟨d',hd,rfl⟩:=b
   exact ih j v d' a hd
end
def Sbs (xs ys:List AV):Prop:=∀ (E:Env) (X:World) (vs:List Value),An E X vs xs->An E X vs ys
theorem Sbs.rfl_ (l:List AV):Sbs l l:=fun _ _ _ h=>h
theorem Sbs.cons_ {x:AV} {l m:List AV} (h:Sbs l m):Sbs (x :: l) (x :: m):=fun E X vs hv=>by
 obtain ⟨v,vs',rfl,h1,h2⟩:=An.cons_iff.1 hv
 exact An.cons h1 (h _ _ _ h2)
theorem Sbs.of_ {x y:AV} {l m:List AV} (hx:∀ (E:Env) (X:World) (v:Value),Au E X v x->Au E X v y) (h:Sbs l m):Sbs (x :: l) (y :: m):=fun E X vs hv=>by
 obtain ⟨v,vs',rfl,h1,h2⟩:=An.cons_iff.1 hv
 exact An.cons (hx _ _ _ h1) (h _ _ _ h2)
def AsI (cs:List AV) (is:List IV):Prop:=∀ (E:Env) (X:World) (vs:List Value),An E X vs cs->Av X vs is
theorem AsI.of {cs:List AV} {is:List IV} (h:toIs cs=some is) (ho:J8 cs):AsI cs is:=fun _ _ _ h'=>h'.toIs h ho
theorem Bv6 {k:Nat} : ∀ (E:Env) (X:World) (v:Value),Au E X v (.val (.slice none 0 0))->Au E X v (.iv (.sl k [])):=fun _ _ _ h=>by
 cases h;exact .iv (.nil (by unfold maxLen;omega))
def rdI (q s:Nat) (cs:List IV) (K:AV->Prop):Prop :=
 match q with
 | 0=>match cs with
  | c :: _=>K (nrm (.iv c))
  | []=>False
 | 1=>s<=cs.length/\K (.agg ((cs.take s).map fun c=>nrm (.iv c)))
 | _=>s<=cs.length/\K (.aggI (cs.take s))
def rdA (q s:Nat) (cs:List AV) (K:AV->Prop):Prop :=
 match q with
 | 0=>match cs with
  | c :: _=>K c
  | []=>False
 | 1=>s<=cs.length/\K (.agg (cs.take s))
 | _=>False
def Ay (P:Program) (G:World->Prop) (B:Nat->Option BA) (f:FuncId) (args:List AV) (c:Nat) (K:AV->List BA->Prop):Prop :=
 ∃ r nb args',((Sbs args args'/\A7 P G f args' r nb)\/(Aw7 B/\K3 r=true/\B38 nb/\Sbs (Jz.viewAs B args) args'/\A7 P G f args' r nb))/\(r.small&&Kr nb)=true/\K (r.sh c) (shB c nb)
def Gd:AV->Option Value
 | .val v=>some v
 | .iv (.val v)=>some v
 | .agg cs=>(valAs cs).map fun l=>.agg l.toArray
 | _=>none
where valAs:List AV->Option (List Value)
 | []=>some []
 | c :: cs=>match Gd c,valAs cs with
  | some v,some l=>some (v :: l)
  | _,_=>none
def Bv (P:Program) (t:TypeId) (B:Nat->Option BA) (x:AV) (K:AV->Prop):Prop :=
 match nrm x with
 | .iv (.sl _ l)=>(Cq P t).isSome=true/\K (.val (.int .i64 (l.length:Nat)))
 | .own b=>match B b with
  | some (.row _ _ _ l)=>(Cq P t).isSome=true/\K (.val (.int .i64 (l.length:Nat)))
  | some (.rowN _ _ _ l _ _ _)=>(Cq P t).isSome=true/\K (.val (.int .i64 (l.length:Nat)))
  | _=>False
 | .val (.slice none 0 0)=>(Cq P t).isSome=true/\K (.val (.int .i64 0))
 | .val (.string s)=>Fu P t=true/\K (.val (.int .i64 (s.size:Nat)))
 | _=>False
def R4 (P:Program) (s d:TypeId) (u:AV) (K:AV->Prop):Prop :=
 match u with
 | .val (.int _ m)=>match Nu P s,Nu P d with
  | some _,some k=>∃ m',k.wrap m=m'/\K (.val (.int k m'))
  | _,_=>False
 | .val (.slice none 0 0)=>Lf P s=true/\Fu P d=true/\K (.val (.string ByteArray.empty))
 | .val (.string z)=>Fu P s=true/\Lf P d=true/\z.size<=1048576/\K (.iv (.sl 1 (byR (Ka z))))
 | .iv (.sl k l)=>Lf P s=true/\Fu P d=true/\k=1/\∃ bs:List Nat,l=byR bs/\K (.val (.string (Uy bs)))
 | _=>False
def Bd (P:Program) (op:BinOp) (t:TypeId) (x y:Operand) (u v:AV) (K:AV->Prop):Prop :=
 match op,nrm u,nrm v with
 | .lss,.val (.int k a),.val (.int k' b)=>k=k'/\K (.val (.bool (decide (a < b))))
 | .leq,.val (.int k a),.val (.int k' b)=>k=k'/\K (.val (.bool (decide (a<=b))))
 | .gtr,.val (.int k a),.val (.int k' b)=>k=k'/\K (.val (.bool (decide (b < a))))
 | .geq,.val (.int k a),.val (.int k' b)=>k=k'/\K (.val (.bool (decide (b<=a))))
 | .eql,.val (.int k a),.val (.int k' b)=>k=k'/\K (.val (.bool (decide (a=b))))
 | .neq,.val (.int k a),.val (.int k' b)=>k=k'/\K (.val (.bool (decide (a≠b))))
 | .add,.val (.int k a),.val (.int k' b)=>k=k'/\∃ m,k.wrap (a+b)=m/\K (.val (.int k m))
 | .sub,.val (.int k a),.val (.int k' b)=>k=k'/\∃ m,k.wrap (a - b)=m/\K (.val (.int k m))
 | .mul,.val (.int k a),.val (.int k' b)=>k=k'/\∃ m,k.wrap (a*b)=m/\K (.val (.int k m))
 | op,u,v=>match Gd u,Gd v with
  | some p,some q=>∃ r,(∀ w,(do eqGuard op t x y p q;binOp op t p q:Sem Value).run P w=.ok r w)/\K (.val r)
  | _,_=>False
def R2 (places:List (Nat×Nat)) (cells:List AV):List (Nat×AV)->Option (List AV)
 | []=>some cells
 | (i,v) :: rest=>match places[i]? with
  | none=>none
  | some (off,size)=>if (Bc v).length=size/\okC v=true/\off+size<=cells.length then R2 places (Et cells off (Bc v)) rest else none
def mxQ (L:Operand->AV) (mx hi:Option Operand) (j n:Nat) (K:Prop):Prop :=
 match mx with
 | none=>K
 | some p=>hi.isSome=true/\∃ m:Nat,L p=.val (.int .i64 m)/\j<=m/\m<=n/\K
def qop (P:Program) (G:World->Prop) (L:Operand->AV) (B:Nat->Option BA) (o:Oper) (c:Nat) (K:AV->List BA->Prop):Prop :=
 match o.op with
 | .move x=>K (L x) []
 | .assign x=>K (L x) []
 | .pick c x y=>match nrm (L c) with
  | .val (.bool true)=>K (L x) []
  | .val (.bool false)=>K (L y) []
  | _=>False
 | .alloc e=>match tyZ P e with
  | some (2,zs)=>(∀ v∈zs,okV v)/\K (.bp c 0) [.arr c (zs.map IV.val)]
  | some (_,zs)=>K (.bp c 0) [.box c (zs.map AV.val)]
  | none=>False
 | .box _ x=>match L x with
  | .aggI cs=>K (.bp c 0) [.arr c cs]
  | u=>okC u=true/\K (.bp c 0) [.box c (Bc u)]
 | .load t x=>match tyK P t with
  | some (q,s)=>match L x with
   | .ip cs=>rdI q s cs fun r=>K r []
   | .bp b p=>match B b with
    | some (.box _ cs)=>rdA q s (cs.drop p) fun r=>K r []
    | some (.arr _ cs)=>match q with
     | 0=>∃ u,cs[p]? = some u/\K (nrm (.iv u)) []
     | 1=>∃ ds,(cs.drop p).take s=ds/\ds.length=s/\K (.agg (ds.map fun c=>nrm (.iv c))) []
     | _=>p=0/\s=cs.length/\K (.aggI cs) []
    | _=>False
   | .rp b k i j=>match B b with
    | some (.row _ _ k' l)=>k'=k/\∃ cs,l[i]? = some cs/\rdI q s (cs.drop j) fun r=>K r []
    | some (.rowN _ _ k' l i' j' c')=>k'=k/\q=0/\∃ cs u,l[i]? = some cs/\cs[j]? = some u/\((i=i'/\j=j'/\K (.own c') [])\/(¬ (i=i'/\j=j')/\K (nrm (.iv u)) []))
    | _=>False
   | _=>False
  | none=>False
 | .nilCheck x=>match L x with
  | .ip cs=>K (.ip cs) []
  | .bp b p=>K (.bp b p) []
  | .rp b k i j=>K (.rp b k i j) []
  | .fn f cs=>K (.fn f cs) []
  | _=>False
 | .binOp op t x y _=>Bd P op t x y (L x) (L y) fun r=>K r []
 | .unOp op _ x=>match op,nrm (L x) with
  | .not,.val (.bool b)=>K (.val (.bool !b)) []
  | .neg,.val (.int k m)=>∃ m',k.wrap (0 - m)=m'/\K (.val (.int k m')) []
  | _,_=>False
 | .convert s d x=>R4 P s d (nrm (L x)) fun r=>K r []
 | .makeFunc (.func f) first caps=>first=#[]/\K (.fn f (caps.toList.map L)) []
 | .slice t x lo hi mx=>match Cq P t,nrm (L x) with
  | some (_,k,_),.iv (.sl k' l) =>
   k=k'/\∃ i j:Nat,(match lo with | none=>i=0 | some p=>L p=.val (.int .i64 i))/\(match hi with | none=>j=l.length | some p=>L p=.val (.int .i64 j))/\i<=j/\j<=l.length/\mxQ L mx hi j l.length (K (.iv (.sl k ((l.take j).drop i))) [])
  | some (_,k,_),.own b=>match B b,lo,hi,mx with
   | some (.row _ _ k' l),some p,none,none=>k=k'/\∃ i:Nat,L p=.val (.int .i64 i)/\i<=l.length/\K .any []
   | _,_,_,_=>False
  | _,_=>False
 | .fieldAddr t x f=>match tyF P t f with
  | some (off,_,s)=>s≠0/\match L x with
   | .ip cs=>K (.ip (cs.drop off)) []
   | .bp b p=>K (.bp b (p+off)) []
   | .rp b k i j=>K (.rp b k i (j+off)) []
   | _=>False
  | none=>False
 | .field t x f=>match tyF P t f,L x with
  | some (off,q,s),.agg cs=>rdA q s (cs.drop off) fun r=>K r []
  | _,_=>False
 | .indexAddr t x i=>match nrm (L i) with
  | .val (.int _ m)=>match Cq P t with
   | some (_,k,_)=>match nrm (L x) with
    | .iv (.sl k' l)=>k=k'/\0<=m/\∃ cs,l[m.toNat]? = some cs/\K (.ip cs) []
    | .own b=>match B b with
     | some (.row _ _ k' l)=>k=k'/\0<=m/\m.toNat < l.length/\K (.rp b k m.toNat 0) []
     | some (.rowN _ _ k' l _ _ _)=>k=k'/\0<=m/\m.toNat < l.length/\K (.rp b k m.toNat 0) []
     | _=>False
    | _=>False
   | none=>match Ra P t,L x with
    | some (n,_,k),.bp b p=>0<=m/\m < (n:Int)/\0 < k/\K (.bp b (p+m.toNat*k)) []
    | some (n,_,k),.ip cs=>0<=m/\m < (n:Int)/\0 < k/\K (.ip (cs.drop (m.toNat*k))) []
    | _,_=>False
  | _=>False
 | .index t x i=>match nrm (L i),L x with
  | .val (.int _ m),.aggI cs=>match Ra P t with
   | some (n,0,1)=>0<=m/\m < (n:Int)/\∃ u,cs[m.toNat]? = some u/\K (nrm (.iv u)) []
   | _=>False
  | .val (.int _ m),.val (.string s)=>Fu P t=true/\0<=m/\∃ b,s[m.toNat]? = some b/\K (.val (.int .u8 (b.toNat:Nat))) []
  | _,_=>False
 | .build t parts=>match M2 P t with
  | some (zs,places)=>match R2 places (zs.map AV.val) (parts.toList.map fun p=>(p.1,L p.2)) with
   | some cs=>K (.agg cs) []
   | none=>False
  | none=>False
 | .extract x i=>match L x with
  | .tup cs=>i < cs.length/\K (cs.getD i .any) []
  | _=>False
 | .buildSlice t len parts=>match Cq P t with
  | some (e,k,_)=>(tyZ P e).isSome=true/\∃ l:List (List IV),l.length=len/\0 < k/\len*k<=16777216/\(∀ (i:Nat) (cs:List IV),l[i]? = some cs->cs.length=k/\∃ x,parts[i]? = some (i,x)/\okC (L x)=true/\AsI (Bc (L x)) cs)/\parts.size=len/\(K (.own c) [.row c e k l]\/K (.iv (.sl k l)) [])
  | none=>False
 | .makeMap t r=>match Qf P t with
  | some (k,_)=>(match r with | none=>True | some x=>∃ q m,nrm (L x)=.val (.int q m))/\K (.mv c) [.mp c k []]
  | none=>False
 | .lookup t x i ok=>match Qf P t,L x,nrm (L i) with
  | some (k,z),.mv b,.val (.int k' m)=>match B b with
   | some (.mp _ k'' kv)=>ok=false/\k'=k/\k''=k/\∃ u,(Jq kv m).getD z=u/\K (.val u) []
   | _=>False
  | _,_,_=>False
 | .call { callee:=.value f,args,argTypes:=_ }=>match L f with
  | .fn f caps=>Ay P G B f (args.toList.map L++caps) c K
  | _=>False
 | .call { callee:=.builtin .len,args,argTypes }=>match args.toList,argTypes.toList with
  | [x],[t]=>Bv P t B (L x) fun r=>K r []
  | _,_=>False
 | .call { callee:=.builtin .cap,args,argTypes }=>match args.toList,argTypes.toList with
  | [x],[t]=>match nrm (L x) with
   | .val (.slice none 0 0)=>(Cq P t).isSome=true/\K (.val (.int .i64 0)) []
   | _=>False
  | _,_=>False
 | .call { callee:=.builtin .max,args,argTypes:=_ }=>match args.toList with
  | [x,y]=>match nrm (L x),nrm (L y) with
   | .val (.int k p),.val (.int _ q)=>∃ m,max p q=m/\K (.val (.int k m)) []
   | _,_=>False
  | _=>False
 | .call { callee:=.builtin .min,args,argTypes:=_ }=>match args.toList with
  | [x,y]=>match nrm (L x),nrm (L y) with
   | .val (.int k p),.val (.int _ q)=>∃ m,min p q=m/\K (.val (.int k m)) []
   | _,_=>False
  | _=>False
 | _=>False
def Gl (o:Oper):Bool :=
 match o.op with
 | .alloc _=>true
 | .box _ _=>true
 | .buildSlice _ _ _=>true
 | .makeMap _ _=>true
 | .call { callee:=.value _,args:=_,argTypes:=_ }=>true
 | .call { callee:=.builtin .append,args:=_,argTypes:=_ }=>true
 | _=>false
def Res (o:Oper) (V w0:World) (E:Env) (σ:Ab) (w:World) (c:Nat) (nb:List BA) (r:AV) (v:Value) (w':World) (E':Env):Prop :=
 Below w.heap.size w w'/\(Env.same c (c+100) E E'/\(E'=E\/Gl o=true))/\(Ac E' nb).Nodup/\(∀ g∈Ac E' nb,w.heap.size<=g)/\(∀ b∈nb,b.holds E' (vis V w0 w' (Ac E' nb++Ac E σ.bk)) w' w0.heap.size)/\Au E' (vis V w0 w' (Ac E' nb++Ac E σ.bk)) v r
def Dm (P:Program) (G:World->Prop) (o:Oper) (c:Nat) (L:Operand->AV) (B:Nat->Option BA) (r:AV) (nb:List BA):Prop :=
 ∀ (V w0:World) (n:Fm) (E:Env) (σ:Ab) (a:Act) (w:World),St V w0 n E σ a w->G w->(∀ x,Au E (vis V w0 w (Ac E σ.bk)) (a.eval x) (L x))->(∀ b x,B b=some x->x∈σ.bk/\x.id=b) ->
  ∀ (N:Act->World->Prop) (Q:Exit->Act->World->Prop),(∀ v w' E',Res o V w0 E σ w c nb r v w' E'->N (a.put o.dst v) w')->o.wp P a w N Q
section
variable {P : Program} {G : World -> Prop} {o : Oper} {c : Nat} {L : Operand -> AV} {B : Nat -> Option BA} {r : AV} {nb : List BA}
theorem Dm.pure_ (h:∀ (V w0:World) (n:Fm) (E:Env) (σ:Ab) (a:Act) (w:World),St V w0 n E σ a w->(∀ x,Au E (vis V w0 w (Ac E σ.bk)) (a.eval x) (L x))->(∀ b x,B b=some x->x∈σ.bk/\x.id=b) ->
  ∃ v,(execOp a.eval o).run P w=.ok (.value v) w/\Au E (vis V w0 w (Ac E σ.bk)) v r):Dm P G o c L B r []:=by
 intro V w0 n E σ a w hs hG hL hB N Q hN
 obtain ⟨v,h1,h2⟩:=h V w0 n E σ a w hs hL hB
 unfold Oper.wp
 rw [h1]
 exact hN v w E ⟨Below.refl _ _,⟨Env.same_refl _ _ _,.inl rfl⟩,List.nodup_nil,(fun _ h=>by cases h),(fun _ h=>by cases h),h2⟩
theorem Ca {s:Sem Value} {v:Value} {w w':World} (h:s.run P w=.ok v w'):(do return Next.value (<- s):Sem Next).run P w=.ok (.value v) w':=by
 simp [h]
theorem Dm.box_ {b:BA} (hm:Gl o=true) (hb:b.id=c) (h:∀ (V w0:World) (n:Fm) (E:Env) (σ:Ab) (a:Act) (w:World),St V w0 n E σ a w->(∀ x,Au E (vis V w0 w (Ac E σ.bk)) (a.eval x) (L x)) ->
  ∃ (C:Array Value) (t:TypeId),(execOp a.eval o).run P w=.ok (.value (.pointer (some ⟨w.heap.size,0,none⟩))) (w.alloc (.cells C t)) /\
   ((∃ cs,b=.box c cs/\An E (vis V w0 w (Ac E σ.bk)) C.toList cs/\AV.off.offs c (c+100) cs=true)\/(∃ cs,b=.arr c cs/\Av (vis V w0 w (Ac E σ.bk)) C.toList cs))):Dm P G o c L B (.bp c 0) [b]:=by
 intro V w0 n E σ a w hs hG hL _ N Q hN
 obtain ⟨C,t,h1,h2⟩:=h V w0 n E σ a w hs hL
 unfold Oper.wp
 rw [h1]
 have hE:Env.same c (c+100) E ⟨fun b=>if b=c then w.heap.size else E.blk b,E.row⟩:=fun b hb=>by
  have:¬ b=c:=by omega
  simp [this]
 have hbel:=Ap (o:=.cells C t) (Below.refl _ w)
 have ho:Ac ⟨fun b=>if b=c then w.heap.size else E.blk b,E.row⟩ [b]=[w.heap.size]:=by
  rcases h2 with ⟨cs,rfl,_⟩ | ⟨cs,rfl,_⟩<;>simp [Ac,BA.owned]
 have hx:Ext (vis V w0 w (Ac E σ.bk)) (vis V w0 (w.alloc (.cells C t)) ([w.heap.size]++Ac E σ.bk)):=D1 hbel.size fun p u _ h4 h5 h6=>⟨fun hm=>by
  rcases List.mem_append.1 hm with hm | hm
  ·simp at hm;omega
  ·exact h5 hm,Ao hbel h6⟩
 refine hN _ _ ⟨fun b=>if b=c then w.heap.size else E.blk b,E.row⟩ ⟨hbel,⟨hE,.inr hm⟩,by rw [ho];simp,fun g hg=>by rw [ho] at hg;simp at hg;omega,fun b' hb'=>?_,?_⟩
 ·rw [ho]
  simp only [List.mem_singleton] at hb'
  subst hb'
  rcases h2 with ⟨cs,rfl,h3,h4⟩ | ⟨cs,rfl,h3⟩
  ·exact ⟨C,t,by simp;exact Blk.new _ _ _,h3.ext hE hx h4⟩
  ·exact ⟨C,t,by simp;exact Blk.new _ _ _,h3.ext hx⟩
 ·have:=Au.bp (E:=⟨fun b=>if b=c then w.heap.size else E.blk b,E.row⟩) (X:=vis V w0 (w.alloc (.cells C t)) (Ac ⟨fun b=>if b=c then w.heap.size else E.blk b,E.row⟩ [b]++Ac E σ.bk)) (b:=c) (o:=0)
  simpa using this
theorem Ae0 {X:World} {f:Nat->Value} {cs:List IV} {s:Nat} (hs:s<=cs.length) (h:∀ j u,cs[j]? = some u->C7 X (f j) u):Av X ((List.range s).map f) (cs.take s):=by
 refine Av.of (by simp [hs]) fun j v i a b=>?_
 have hj:j < s:=by
  have:=(List.getElem?_eq_some_iff.1 a).1
  simpa using this
 rw [List.getElem?_map,List.getElem?_range hj] at a
 obtain rfl:=Option.some.inj a
 rw [List.getElem?_take_of_lt hj] at b
 exact h j i b
theorem Av.nrms {E:Env} {X:World} {vs:List Value} {is:List IV} (h:Av X vs is):An E X vs (is.map fun c=>nrm (.iv c)) :=
 ⟨by rw [List.length_map];exact h.len,fun j v c a b=>by
  rw [List.getElem?_map,Option.map_eq_some_iff] at b
  obtain ⟨i,hi,rfl⟩:=b
  exact (Au.iv (h.get a hi)).nrm_⟩
theorem A69 {q s t:Nat} (ht:tyK P t=some (q,s)) {cs:List IV} {K:AV->Prop} (h:rdI q s cs K):∃ r,K r/\∀ (E:Env) (X w:World) (b off:Nat) (f:Nat->Value),(∀ (j:Nat) u,cs[j]? = some u->w.cell? ⟨b,off+j,none⟩=some (f j))->(∀ (j:Nat) u,cs[j]? = some u->C7 X (f j) u) ->
  ∃ v,(Instr.loadAt t (.pointer (some ⟨b,off,none⟩))).run P w=.ok v w/\Au E X v r:=by
 have many:s<=cs.length->q≠0->∀ (w:World) (b off:Nat) (f:Nat->Value),(∀ (j:Nat) u,cs[j]? = some u->w.cell? ⟨b,off+j,none⟩=some (f j))->(Instr.loadAt t (.pointer (some ⟨b,off,none⟩))).run P w=.ok (.agg ((List.range s).map f).toArray) w:=fun hs hq w b off f h1=>by
  obtain ⟨ha,hz⟩:=D5 (w:=w) ht
  have hl:=run_loadCells (P:=P) w ⟨b,off,none⟩ s f fun j hj=>by
   rw [Dq]
   exact h1 j _ (List.getElem?_eq_getElem (by omega))
  simp [Instr.loadAt,Instr.sureAddr,loadVar,ha,hz,hq,hl]
 match q,ht,h,many with
 | 0,ht,h,_ =>
  cases cs with
  | nil=>exact h.elim
  | cons c cs =>
   refine ⟨_,h,fun E X w b off f h1 h2=>⟨f 0,?_,(Au.iv (h2 0 c rfl)).nrm_⟩⟩
   obtain ⟨ha,hz⟩:=D5 (w:=w) ht
   have h0:=h1 0 c rfl
   simp only [Nat.add_zero] at h0
   simp [Instr.loadAt,Instr.sureAddr,loadVar,ha,load,Sem.run,h0]
 | 1,_,h,many=>exact ⟨_,h.2,fun E X w b off f h1 h2=>⟨_,many h.1 (by omega) w b off f h1,.agg (by simp [h.1]) fun j v d a b=>(Ae0 h.1 h2).nrms.2 j v d (by simpa using a) b⟩⟩
 | q+2,_,h,many=>exact ⟨_,h.2,fun E X w b off f h1 h2=>⟨_,many h.1 (by omega) w b off f h1,.aggI (by simpa using Ae0 h.1 h2)⟩⟩
theorem B22 {q s t:Nat} (ht:tyK P t=some (q,s)) {cs:List AV} {K:AV->Prop} (h:rdA q s cs K):∃ r,K r/\∀ (E:Env) (X w:World) (g p:Nat) (e:TypeId) (C:Array Value),Blk w g e C->An E X (C.toList.drop p) cs ->
  ∃ v,(Instr.loadAt t (.pointer (some ⟨g,p,none⟩))).run P w=.ok v w/\Au E X v r:=by
 match q,ht,h with
 | 0,ht,h =>
  cases cs with
  | nil=>exact h.elim
  | cons c cs =>
   refine ⟨_,h,fun E X w g p e C hB hC=>?_⟩
   obtain ⟨ha,hz⟩:=D5 (w:=w) ht
   have hlen:=hC.1
   have hp:p < C.size:=by simp at hlen;omega
   have h0:w.cell? ⟨g,p,none⟩=some C[p]:=by rw [hB.cell,Array.getElem?_eq_getElem hp]
   refine ⟨C[p],?_,hC.2 0 _ c (by rw [List.getElem?_drop,Array.getElem?_toList];simp [hp]) rfl⟩
   simp [Instr.loadAt,Instr.sureAddr,loadVar,ha,load,Sem.run,h0]
 | 1,ht,h =>
  refine ⟨_,h.2,fun E X w g p e C hB hC=>?_⟩
  obtain ⟨ha,hz⟩:=D5 (w:=w) ht
  have hlen:=hC.1
  have hl:(loadCells ⟨g,p,none⟩ ((C.toList.drop p).take s).length).run P w=.ok ((C.toList.drop p).take s).toArray w:=run_loadCells_list (P:=P) w ⟨g,p,none⟩ ((C.toList.drop p).take s) fun j v hv=>by
   rw [Dq,hB.cell]
   have hj:=(List.getElem?_eq_some_iff.1 hv).1
   rw [List.getElem?_take_of_lt (by simp at hj;omega),List.getElem?_drop,Array.getElem?_toList] at hv
   exact hv
  have hsl:((C.toList.drop p).take s).length=s:=by rw [List.length_take,hlen];exact Nat.min_eq_left h.1
  rw [hsl] at hl
  refine ⟨_,by simp [Instr.loadAt,Instr.sureAddr,loadVar,ha,hz,hl];rfl,.agg (by simp only [List.size_toArray,hsl];rw [List.length_take];exact (Nat.min_eq_left h.1).symm) fun j v d a b=>?_⟩
  have a':((C.toList.drop p).take s)[j]? = some v:=by simpa using a
  have hj:j < s:=by have:=(List.getElem?_eq_some_iff.1 a').1;omega
  rw [List.getElem?_take_of_lt hj] at a' b
  exact hC.2 j v d a' b
end
section
variable {P : Program} {G : World -> Prop} {c : Nat} {L : Operand -> AV} {B : Nat -> Option BA} {K : AV -> List BA -> Prop}
def D9 (P:Program) (G:World->Prop) (o:Oper) (c:Nat) (L:Operand->AV) (B:Nat->Option BA) (K:AV->List BA->Prop):Prop:=∃ r nb,K r nb/\Dm P G o c L B r nb
variable {dst : Option Tmp} {ty : TypeId} {pos : String} {after : Array Edge} {gd : Option (Nat × Bool)}
theorem Cd1 {x:Operand} (h:K (L x) []):D9 P G ⟨dst,.move x,ty,pos,after,gd⟩ c L B K :=
 ⟨_,_,h,Dm.pure_ fun V w0 n E σ a w _ hL _=>⟨a.eval x,rfl,hL x⟩⟩
theorem Bo9 {x:Operand} (h:K (L x) []):D9 P G ⟨dst,.assign x,ty,pos,after,gd⟩ c L B K :=
 ⟨_,_,h,Dm.pure_ fun V w0 n E σ a w _ hL _=>⟨a.eval x,rfl,hL x⟩⟩
theorem B43 {e q:TypeId} {zs:List Value} (hz:tyZ P e=some (q,zs)) (h:(q=2/\(∀ v∈zs,okV v)/\K (.bp c 0) [.arr c (zs.map IV.val)])\/K (.bp c 0) [.box c (zs.map AV.val)]):D9 P G ⟨dst,.alloc e,ty,pos,after,gd⟩ c L B K:=by
 have run:∀ (a:Act) (w:World),∃ C:Array Value,C.toList=zs/\(execOp a.eval ⟨dst,.alloc e,ty,pos,after,gd⟩).run P w=.ok (.value (.pointer (some ⟨w.heap.size,0,none⟩))) (w.alloc (.cells C e)):=fun a w=>by
  obtain ⟨z,h1,h2,_⟩:=A45 (w:=w) hz
  exact ⟨z.cells,h2,by
   simp only [execOp,Instr.alloc,newVar,newRow,newObj]
   simp only [Sem.run_bind,Sem.run_pure,h1,Result.andThen_ok,Sem.run]
   rfl⟩
 rcases h with ⟨_,h1,h2⟩ | h2
 ·refine ⟨_,_,h2,Dm.box_ rfl rfl fun V w0 n E σ a w _ _=>?_⟩
  obtain ⟨C,h3,h4⟩:=run a w
  refine ⟨C,e,h4,.inr ⟨_,rfl,?_⟩⟩
  rw [h3]
  refine Av.of (by simp) fun j v i a b=>?_
  rw [List.getElem?_map,a] at b
  obtain rfl:=Option.some.inj b
  exact .val (h1 v (List.mem_of_getElem? a))
 ·refine ⟨_,_,h2,Dm.box_ rfl rfl fun V w0 n E σ a w _ _=>?_⟩
  obtain ⟨C,h3,h4⟩:=run a w
  refine ⟨C,e,h4,.inl ⟨_,rfl,?_,?_⟩⟩
  ·rw [h3]
   exact ⟨by simp,fun j v i a b=>by
    rw [List.getElem?_map,a] at b
    obtain rfl:=Option.some.inj b
    exact .val⟩
  ·clear hz h2 run h3 h4
   induction zs with
   | nil=>rfl
   | cons z zs ih=>simp only [List.map_cons,AV.off.offs,AV.off,Bool.true_and];exact ih
theorem Av7 {lo hi:Nat} {u:AV} (h:u.off lo hi=true):AV.off.offs lo hi (Bc u)=true:=by
 have one:AV.off.offs lo hi [u]=true:=by simp only [AV.off.offs,Bool.and_eq_true];exact ⟨h,trivial⟩
 cases u with
 | agg cs=>exact h
 | aggI cs =>
  simp only [Bc]
  induction cs with
  | nil=>rfl
  | cons z zs ih=>simp only [List.map_cons,AV.off.offs,AV.off,Bool.true_and];exact ih rfl (by rfl)
 | _=>exact one
theorem D46 {e:TypeId} {x:Operand} (hf:(L x).off c (c+100)=true) (h:match L x with
  | .aggI cs=>K (.bp c 0) [.arr c cs]
  | u=>okC u=true/\K (.bp c 0) [.box c (Bc u)]):D9 P G ⟨dst,.box e x,ty,pos,after,gd⟩ c L B K:=by
 have run:∀ (a:Act) (w:World),(execOp a.eval ⟨dst,.box e x,ty,pos,after,gd⟩).run P w=.ok (.value (.pointer (some ⟨w.heap.size,0,none⟩))) (w.alloc (.cells (a.eval x).cells e)):=fun a w=>by
  simp only [execOp,Instr.box,newVar,newRow,newObj]
  simp only [Sem.run_bind,Sem.run_pure,Result.andThen_ok,Sem.run]
  rfl
 have gen:okC (L x)=true->K (.bp c 0) [.box c (Bc (L x))]->D9 P G ⟨dst,.box e x,ty,pos,after,gd⟩ c L B K:=fun h1 h2 =>
  ⟨_,_,h2,Dm.box_ rfl rfl fun V w0 n E σ a w _ hL=>⟨_,e,run a w,.inl ⟨_,rfl,((hL x).cells h1).1,Av7 hf⟩⟩⟩
 split at h
 ·rename_i cs hx
  refine ⟨_,_,h,Dm.box_ rfl rfl fun V w0 n E σ a w _ hL=>⟨_,e,run a w,.inr ⟨_,rfl,?_⟩⟩⟩
  have:=hL x
  rw [hx] at this
  generalize a.eval x=v at this
  cases this with
  | aggI h=>exact h
 ·exact gen h.1 h.2
theorem Cd2 {t : TypeId} {x : Operand} {q s : Nat} (ht : tyK P t = some (q, s)) (h : match L x with
      | .ip cs => rdI q s cs fun r => K r []
      | .bp b p => match B b with
        | some (.box _ cs) => rdA q s (cs.drop p) fun r => K r []
        | some (.arr _ cs) => match (generalizing := false) q with
          | 0 => ∃ u, cs[p]? = some u /\ K (nrm (.iv u)) []
          | 1 => ∃ ds, (cs.drop p).take s = ds /\ ds.length = s /\ K (.agg (ds.map fun c => nrm (.iv c))) []
          | _ => p = 0 /\ s = cs.length /\ K (.aggI cs) []
        | _ => False
      | .rp b k i j => match B b with
        | some (.row _ _ k' l) => k' = k /\ ∃ cs, l[i]? = some cs /\ rdI q s (cs.drop j) fun r => K r []
        | some (.rowN _ _ k' l i' j' c') => k' = k /\ q = 0 /\ ∃ cs u, l[i]? = some cs /\ cs[j]? = some u /\ ((i = i' /\ j = j' /\ K (.own c') []) \/ (¬ (i = i' /\ j = j') /\ K (nrm (.iv u)) []))
        | _ => False
      | _ => False) : D9 P G ⟨dst, .load t x, ty, pos, after, gd⟩ c L B K := by
  have at_ : ∀ (a : Act) (w : World) {v u : Value}, a.eval x = u -> (Instr.loadAt t u).run P w = .ok v w -> (execOp a.eval ⟨dst, .load t x, ty, pos, after, gd⟩).run P w = .ok (.value v) w := fun a w v u hu h => by
    simp only [execOp, hu]
    exact Ca h
  split at h
  · rename_i cs hx
    obtain ⟨r, h1, h2⟩ := A69 ht h
    refine ⟨_, _, h1, Dm.pure_ fun V w0 n E σ a w hs hL _ => ?_⟩
    have hv := hL x
    rw [hx] at hv
    generalize hu : a.eval x = u at hv
    cases hv with
    | @ip b off _ f p1 p2 =>
      obtain ⟨v, h3, h4⟩ := h2 E _ w b off f (fun j u hu => hs.in_.cell _ _ (p1 j u hu)) p2
      exact ⟨v, at_ a w hu h3, h4⟩
  · rename_i b p hx
    split at h
    · rename_i b' cs hb
      obtain ⟨r, h1, h2⟩ := B22 ht h
      refine ⟨_, _, h1, Dm.pure_ fun V w0 n E σ a w hs hL hB => ?_⟩
      have hv := hL x
      rw [hx] at hv
      generalize hu : a.eval x = u at hv
      cases hv
      obtain ⟨q1, q2⟩ := hB b _ hb
      obtain rfl : b' = b := q2
      obtain ⟨C, e, q3, q4⟩ := hs.holds _ q1
      obtain ⟨v, h3, h4⟩ := h2 E (vis V w0 w (Ac E σ.bk)) w (E.blk b') p e C q3 ⟨by simp [<- q4.1], fun j v d a b => by
        rw [List.getElem?_drop] at a b
        exact q4.2 _ v d a b⟩
      exact ⟨v, at_ a w hu h3, h4⟩
    · rename_i b' cs hb
      match q, ht, h with
      | 0, ht, ⟨u', h1, h2⟩ =>
        refine ⟨_, _, h2, Dm.pure_ fun V w0 n E σ a w hs hL hB => ?_⟩
        have hv := hL x
        rw [hx] at hv
        generalize hu : a.eval x = u at hv
        cases hv
        obtain ⟨q1, q2⟩ := hB b _ hb
        obtain rfl : b' = b := q2
        obtain ⟨C, e, q3, q4⟩ := hs.holds _ q1
        obtain ⟨ha, hz⟩ := D5 (w := w) ht
        have hp : p < C.size := by have := (List.getElem?_eq_some_iff.1 h1).1; rw [<- q4.len] at this; simpa using this
        have h0 : w.cell? ⟨E.blk b', p, none⟩ = some C[p] := by rw [q3.cell, Array.getElem?_eq_getElem hp]
        exact ⟨C[p], at_ a w hu (by simp [Instr.loadAt, Instr.sureAddr, loadVar, ha, load, Sem.run, h0]), (Au.iv (q4.get (by rw [Array.getElem?_toList]; exact Array.getElem?_eq_getElem hp) h1)).nrm_⟩
      | 1, ht, ⟨ds, h1, h2, h3⟩ =>
        obtain ⟨r, h4, h5⟩ := A69 (K := fun r => K r []) ht (cs := cs.drop p) (show s <= (cs.drop p).length /\ K (.agg (((cs.drop p).take s).map fun c => nrm (.iv c))) [] from ⟨by rw [<- h2, <- h1, List.length_take]; exact Nat.min_le_right _ _, by rw [h1]; exact h3⟩)
        refine ⟨_, _, h4, Dm.pure_ fun V w0 n E σ a w hs hL hB => ?_⟩
        have hv := hL x
        rw [hx] at hv
        generalize hu : a.eval x = u at hv
        cases hv
        obtain ⟨q1, q2⟩ := hB b _ hb
        obtain rfl : b' = b := q2
        obtain ⟨C, e, q3, q4⟩ := hs.holds _ q1
        have hC : ∀ (j : Nat) u, (cs.drop p)[j]? = some u -> C.toList[p + j]? = some (C.toList[p + j]?.getD undef) /\ cs[p + j]? = some u := fun j u hj => by
          rw [List.getElem?_drop] at hj
          have hlt : p + j < C.toList.length := by rw [q4.len]; exact (List.getElem?_eq_some_iff.1 hj).1
          rw [List.getElem?_eq_getElem hlt]
          exact ⟨rfl, hj⟩
        obtain ⟨v, h6, h7⟩ := h5 E (vis V w0 w (Ac E σ.bk)) w (E.blk b') p (fun j => C.toList[p + j]?.getD undef) (fun j u hj => by rw [q3.cell, <- Array.getElem?_toList]; exact (hC j u hj).1) (fun j u hj => q4.get (hC j u hj).1 (hC j u hj).2)
        exact ⟨v, at_ a w hu h6, h7⟩
      | q + 2, ht, ⟨hp0, h1, h2⟩ =>
        subst hp0
        refine ⟨_, _, h2, Dm.pure_ fun V w0 n E σ a w hs hL hB => ?_⟩
        have hv := hL x
        rw [hx] at hv
        generalize hu : a.eval x = u at hv
        cases hv
        obtain ⟨q1, q2⟩ := hB b _ hb
        obtain rfl : b' = b := q2
        obtain ⟨C, e, q3, q4⟩ := hs.holds _ q1
        obtain ⟨ha, hz⟩ := D5 (w := w) ht
        have hl : (loadCells ⟨E.blk b', 0, none⟩ C.toList.length).run P w = .ok C w := run_loadCells_list (P := P) w ⟨E.blk b', 0, none⟩ C.toList fun j v hv => by
          rw [Dq, q3.cell, Nat.zero_add]
          simpa using hv
        rw [q4.len, <- h1] at hl
        exact ⟨.agg C, at_ a w hu (by simp [Instr.loadAt, Instr.sureAddr, loadVar, ha, hz, hl]), .aggI q4⟩
    · exact h.elim
  · rename_i b k i j hx
    split at h
    · rename_i b' e k' l hb
      obtain ⟨rfl, cs, hi, h⟩ := h
      obtain ⟨r, h1, h2⟩ := A69 ht h
      refine ⟨_, _, h1, Dm.pure_ fun V w0 n E σ a w hs hL hB => ?_⟩
      have hv := hL x
      rw [hx] at hv
      generalize hu : a.eval x = u at hv
      cases hv
      obtain ⟨q1, q2⟩ := hB b _ hb
      obtain rfl : b' = b := q2
      obtain ⟨q3, q4⟩ := hs.holds _ q1
      rcases q3.forms with ⟨_, e0⟩ | ⟨g, cc, hg, hg1, hg2⟩
      · rw [e0] at hi; simp at hi
      · have hgb : g = E.blk b' := q4 g (by rw [hg]; rfl)
        subst hgb
        rw [hg] at q3
        obtain ⟨vs, r1, r2, r3⟩ := q3.at_ hi
        obtain ⟨v, h3, h4⟩ := h2 E (vis V w0 w (Ac E σ.bk)) w (E.blk b') (i * k' + j) (fun jj => (vs[j + jj]?).getD undef) (fun jj u hjj => by
          rw [List.getElem?_drop] at hjj
          have hlt : j + jj < vs.length := by rw [r1.len]; exact (List.getElem?_eq_some_iff.1 hjj).1
          have := r3 (j + jj) _ (List.getElem?_eq_getElem hlt)
          rw [<- Nat.add_assoc] at this
          rw [this, List.getElem?_eq_getElem hlt]; rfl) fun jj u hjj => by
          rw [List.getElem?_drop] at hjj
          have hlt : j + jj < vs.length := by rw [r1.len]; exact (List.getElem?_eq_some_iff.1 hjj).1
          simp only [List.getElem?_eq_getElem hlt, Option.getD_some]
          exact r1.get (List.getElem?_eq_getElem hlt) hjj
        exact ⟨v, at_ a w hu h3, h4⟩
    · rename_i b' e k' l i' j' c' hb
      obtain ⟨rfl, rfl, cs, u0, hi, hj, h⟩ := h
      obtain ⟨r, h1, h2⟩ : ∃ r, K r [] /\ ∀ (E : Env) (X : World) (v : Value) (z : List AV), (G4 l i' j' c')[i]? = some z -> (∀ d, z[j]? = some d -> Au E X v d) -> Au E X v r := by
        rcases h with ⟨rfl, rfl, hK⟩ | ⟨hne, hK⟩
        · refine ⟨_, hK, fun E X v z hz hv => hv _ ?_⟩
          rw [Ei, hi] at hz
          simp only [Option.map_some, if_true, Option.some.injEq] at hz
          subst hz
          rw [List.getElem?_set_self (by simpa using (List.getElem?_eq_some_iff.1 hj).1)]
        · refine ⟨_, hK, fun E X v z hz hv => (hv (.iv u0) ?_).nrm_⟩
          rw [Ei, hi] at hz
          simp only [Option.map_some, Option.some.injEq] at hz
          subst hz
          split
          · rename_i e
            rw [List.getElem?_set_ne (fun e2 => hne ⟨e, e2.symm⟩), List.getElem?_map, hj]; rfl
          · rw [List.getElem?_map, hj]; rfl
      refine ⟨_, _, h1, Dm.pure_ fun V w0 n E σ a w hs hL hB => ?_⟩
      have hv := hL x
      rw [hx] at hv
      generalize hu : a.eval x = u at hv
      cases hv
      obtain ⟨q1, q2⟩ := hB b _ hb
      obtain rfl : b' = b := q2
      obtain ⟨q3, q4⟩ := hs.holds _ q1
      rcases q3.forms with ⟨_, e0⟩ | ⟨g, cc, hg, hg1, hg2⟩
      · have f1 := congrArg List.length e0
        rw [Dr] at f1
        have f2 := (List.getElem?_eq_some_iff.1 hi).1
        simp only [List.length_nil] at f1
        omega
      · have hgb : g = E.blk b' := q4 g (by rw [hg]; rfl)
        subst hgb
        rw [hg] at q3
        obtain ⟨z, hz, hzl⟩ : ∃ z, (G4 l i' j' c')[i]? = some z /\ z.length = cs.length := ⟨_, by rw [Ei, hi]; rfl, by split <;> simp⟩
        obtain ⟨vs, r1, r2, r3⟩ := q3.at_ hz
        have hlt : j < vs.length := by rw [r1.1, hzl]; exact (List.getElem?_eq_some_iff.1 hj).1
        obtain ⟨ha, _⟩ := D5 (w := w) ht
        have h0 := r3 j _ (List.getElem?_eq_getElem hlt)
        exact ⟨vs[j], at_ a w hu (by simp [Instr.loadAt, Instr.sureAddr, loadVar, ha, load, Sem.run, h0]), h2 E _ _ _ hz fun d hd => r1.2 j _ d (List.getElem?_eq_getElem hlt) hd⟩
    · exact h.elim
  · exact h.elim
end
end Go.Proofs.YtahgkllhbggmgaaGreatDoor
