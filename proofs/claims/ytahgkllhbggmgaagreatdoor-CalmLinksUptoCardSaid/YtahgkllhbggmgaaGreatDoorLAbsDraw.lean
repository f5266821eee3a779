/- A region that draws its order: one walk of the text's order serves every order, if operations that touch one block, or one slot, are bound to an order. No program is known here. -/
import Derived.Test.YtahgkllhbggmgaaGreatDoorLAbsAp
set_option linter.all false
set_option linter.unnecessarySimpa false
set_option linter.unusedSimpArgs false
set_option linter.unusedVariables false
namespace Go.Proofs.YtahgkllhbggmgaaGreatDoor
open Go.ChangeShapes Go.WideShapes Go.ChangeAt Go.RowKit
-- other names for the blocks
def AV.ren (ρ:Nat->Nat):AV->AV
 | .bp b o=>.bp (ρ b) o
 | .rp b k i j=>.rp (ρ b) k i j
 | .own b=>.own (ρ b)
 | .mv b=>.mv (ρ b)
 | .agg cs=>.agg (rens ρ cs)
 | .tup cs=>.tup (rens ρ cs)
 | .fn f cs=>.fn f (rens ρ cs)
 | a=>a
where rens (ρ:Nat->Nat):List AV->List AV
 | []=>[]
 | a :: l=>AV.ren ρ a :: rens ρ l
def BA.ren (ρ:Nat->Nat):BA->BA
 | .box b cs=>.box (ρ b) (AV.ren.rens ρ cs)
 | .arr b cs=>.arr (ρ b) cs
 | .row b e k l=>.row (ρ b) e k l
 | .mp b k kv=>.mp (ρ b) k kv
 | .opq b F=>.opq (ρ b) F
 | .rowN b e k l i j c=>.rowN (ρ b) e k l i j (ρ c)
def Env.ren (E:Env) (ρ:Nat->Nat):Env:=⟨fun b=>E.blk (ρ b),fun b=>E.row (ρ b)⟩
theorem Si {ρ:Nat->Nat} : ∀ {cs:List AV} {j:Nat},(AV.ren.rens ρ cs)[j]? = (cs[j]?).map (AV.ren ρ)
 | [],j=>by simp [AV.ren.rens]
 | _ :: _,0=>by simp [AV.ren.rens]
 | _ :: cs,j+1=>by simp only [AV.ren.rens,List.getElem?_cons_succ];exact Si
theorem Mb {ρ:Nat->Nat} : ∀ {cs:List AV},(AV.ren.rens ρ cs).length=cs.length
 | []=>rfl
 | _ :: cs=>congrArg Nat.succ (Mb (cs:=cs))
theorem Au.ren {E:Env} {X:World} {ρ:Nat->Nat} : ∀ (m:Nat) (c:AV),SizeOf.sizeOf c<=m->∀ {v:Value},Au E X v (c.ren ρ)->Au (E.ren ρ) X v c:=by
 intro m
 induction m with
 | zero=>intro c h;cases c<;>simp at h
 | succ m ih =>
  have list:∀ (cs:List AV),SizeOf.sizeOf cs<=m->∀ {vs:Array Value},(∀ (j:Nat) v d,vs[j]? = some v->(AV.ren.rens ρ cs)[j]? = some d->Au E X v d)->∀ (j:Nat) v c,vs[j]? = some v->cs[j]? = some c->Au (E.ren ρ) X v c:=by
   intro cs hcs vs h j v c a b
   refine ih c ?_ (h j v _ a (by rw [Si,b];rfl))
   have:=List.sizeOf_lt_of_mem (List.mem_of_getElem? b)
   omega
  intro c hc v h
  cases c with
  | any=>exact .any
  | val u=>cases h;exact .val
  | iv i=>cases h with | iv h=>exact .iv h
  | ip cs=>cases h with | ip f h1 h2=>exact .ip f h1 h2
  | bp b o=>cases h;exact .bp (E:=E.ren ρ)
  | rp b k i j=>cases h;exact .rp (E:=E.ren ρ)
  | own b=>cases h with | own h=>exact .own (E:=E.ren ρ) h
  | mv b=>cases h;exact .mv (E:=E.ren ρ)
  | aggI cs=>cases h with | aggI h=>exact .aggI h
  | agg cs =>
   simp only [AV.agg.sizeOf_spec] at hc
   cases h with
   | agg h1 h2=>exact .agg (by rw [h1,Mb]) (list cs (by omega) h2)
  | tup cs =>
   simp only [AV.tup.sizeOf_spec] at hc
   cases h with
   | tup h1 h2=>exact .tup (by rw [h1,Mb]) (list cs (by omega) h2)
  | fn f cs =>
   simp only [AV.fn.sizeOf_spec] at hc
   cases h with
   | fn h1 h2=>exact .fn (by rw [h1,Mb]) (list cs (by omega) h2)
theorem Au.ren_ {E:Env} {X:World} {ρ:Nat->Nat} {c:AV} {v:Value} (h:Au E X v (c.ren ρ)):Au (E.ren ρ) X v c:=Au.ren _ c (Nat.le_refl _) h
theorem BA.ren_owned {E:Env} {ρ:Nat->Nat} (b:BA):b.owned (E.ren ρ)=(b.ren ρ).owned E:=by cases b<;>rfl
theorem BA.ren_holds {E:Env} {X w:World} {base:Nat} {ρ:Nat->Nat} {b:BA} (h:(b.ren ρ).holds E X w base):b.holds (E.ren ρ) X w base:=by
 cases b with
 | box b cs =>
  obtain ⟨C,t,h1,h2,h3⟩:=h
  exact ⟨C,t,h1,by rw [h2,Mb],fun j v c a b=>(h3 j v _ a (by rw [Si,b];rfl)).ren_⟩
 | arr b cs=>exact h
 | row b e k l=>exact h
 | mp b k kv=>exact h
 | opq b F=>exact h
 | rowN b e k l i j c=>exact ⟨h.1.rel (by rw [Dr,Dr]) fun m x x' cs p q hh=>Ua (c:=ρ c) (c':=c) (E':=E.ren ρ) (Ext.refl _) rfl p q hh,h.2⟩
theorem BA.owned_cells {E:Env} {X w:World} {base:Nat} {b:BA} (h:b.holds E X w base):∀ g∈b.owned E,∃ o:Obj,w.heap[g]? = some o/\Ll o=false:=by
 intro g hg
 cases b with
 | box b cs =>
  obtain ⟨C,t,h1,h2⟩:=h
  simp only [BA.owned,List.mem_singleton] at hg
  subst hg;exact ⟨_,h1,rfl⟩
 | arr b cs =>
  obtain ⟨C,t,h1,h2⟩:=h
  simp only [BA.owned,List.mem_singleton] at hg
  subst hg;exact ⟨_,h1,rfl⟩
 | row b e k l =>
  simp only [BA.owned,Option.mem_toList] at hg
  obtain ⟨⟨xs,⟨h3,h4⟩,_⟩,_⟩:=h
  rcases h4 with ⟨e1,_⟩ | ⟨g',cap,cur,e1,e2,e3,_⟩
  ·rw [e1] at hg;cases hg
  ·rw [e1] at hg
   obtain rfl:g'=g:=Option.some.inj hg
   exact ⟨_,e3,rfl⟩
 | mp b k kv =>
  obtain ⟨es,c,h1,h2⟩:=h
  simp only [BA.owned,List.mem_singleton] at hg
  subst hg;exact ⟨_,h1,rfl⟩
 | opq b F =>
  obtain ⟨p,hp,rfl⟩:=List.mem_map.1 hg
  exact ⟨_,h p hp,F.act p hp⟩
 | rowN b e k l i j c =>
  simp only [BA.owned,Option.mem_toList] at hg
  obtain ⟨⟨xs,⟨h3,h4⟩,_⟩,_⟩:=h
  rcases h4 with ⟨e1,_⟩ | ⟨g',cap,cur,e1,e2,e3,_⟩
  ·rw [e1] at hg;cases hg
  ·rw [e1] at hg
   obtain rfl:g'=g:=Option.some.inj hg
   exact ⟨_,e3,rfl⟩
structure StB (V w0:World) (E:Env) (bk:List BA) (w:World):Prop where
 ext:Ext V w0
 low:Below w0.heap.size w0 w
 apart:(Ac E bk).Nodup
 base:∀ g∈Ac E bk,w0.heap.size<=g
 holds:∀ b∈bk,b.holds E (vis V w0 w (Ac E bk)) w w0.heap.size
def bxB:List (Nat×List AV)->List BA
 | []=>[]
 | (b,cs) :: r=>.box b cs :: bxB r
def bxS (ρ:Nat->Nat) (c:Nat):List (Nat×List AV)->List BA
 | []=>[]
 | (b,cs) :: r=>.box (ρ b) (AV.sh.shs c cs) :: bxS ρ c r
def Gi (ρ:Nat->Nat):List BA->List BA
 | []=>[]
 | b :: r=>b.ren ρ :: Gi ρ r
def X3:List (Nat×List AV)->Bool
 | []=>true
 | (_,cs) :: r=>AV.small.smalls cs&&X3 r
def Br0 (B:List BA) (b:Nat):Bool:=B.any fun x=>Nat.beq x.id b&&(match x with | .box _ _=>true | _=>false)
def T8 (B:List BA):List (Nat×List AV)->Bool
 | []=>true
 | (b,_) :: r=>Br0 B b&&T8 B r
def Bj0 (B:List BA) (b:Nat):Bool:=B.any fun x=>Nat.beq x.id b&&(match x with | .row _ _ _ _=>true | _=>false)
def Xb (B:List BA):List BA->Bool
 | []=>true
 | .row b _ _ _ :: r=>Bj0 B b&&Xb B r
 | _ :: _=>false
def Py (P:Program) (G:World->Prop) (f:FuncId) (args:List AV) (r:AV) (B nb:List BA) (bx:List (Nat×List AV)) (kr:List BA):Prop :=
 (∀ (vs:Array Value) (w:World),(callFunc f vs).run P w=.ok (.enter f vs) w) /\
 ∀ (V w0 w:World) (E:Env) (vs:Array Value) (F:Far),StB V w0 E (B++[.opq 99 F]) w->(∀ w',Below w0.heap.size w0 w'->G w')->An E (vis V w0 w (Ac E (B++[.opq 99 F]))) vs.toList args ->
  Calls P f vs w fun e w'=>∃ v E',e=.returned v/\StB V w0 E' ((nb++(bxB bx++kr))++[.opq 99 F]) w'/\(∀ x∈bx,E'.blk x.1=E.blk x.1)/\(∀ x∈kr,E'.row x.id=E.row x.id)/\Au E' (vis V w0 w' (Ac E' ((nb++(bxB bx++kr))++[.opq 99 F]))) v r/\w.heap.size<=w'.heap.size /\
   (∀ g,g∉Ac E B->g < w.heap.size->w'.heap[g]? = w.heap[g]?)/\(∀ g∈Ac E' (nb++(bxB bx++kr)),g∈Ac E B\/w.heap.size<=g)
def Bg3 (P:Program) (G:World->Prop) (f:FuncId) (args:List AV) (c:Nat) (bk:List BA) (K:AV->List BA->Prop):Prop :=
 ∃ args' r B nb bx kr ρ pre post,Py P G f args' r B nb bx kr/\AV.ren.rens ρ args'=args/\bk=pre++(Gi ρ B++post)/\(r.small&&Kr nb&&X3 bx&&T8 B bx&&Xb B kr)=true/\K (r.sh c) ((shB c nb++(bxS ρ c bx++Gi ρ kr))++(pre++post))
theorem A03 {E:Env} {ρ:Nat->Nat} : ∀ {B:List BA},Ac E (Gi ρ B)=Ac (E.ren ρ) B
 | []=>rfl
 | b :: r=>by simp only [Gi,Ac,A03 (B:=r),BA.ren_owned]
theorem Mc {ρ:Nat->Nat} : ∀ {B:List BA} {b:BA},b∈B->b.ren ρ∈Gi ρ B
 | c :: r,b,h=>by
  rcases List.mem_cons.1 h with rfl | h
  ·simp [Gi]
  ·exact List.mem_cons_of_mem _ (Mc h)
theorem Bd9 {B:List BA} {b:Nat} (h:Br0 B b=true):∃ cs,BA.box b cs∈B:=by
 unfold Br0 at h
 rw [List.any_eq_true] at h
 obtain ⟨x,hx,h⟩:=h
 rw [Bool.and_eq_true] at h
 obtain ⟨h1,h2⟩:=h
 cases x with
 | box b' cs =>
  have:b'=b:=Nat.eq_of_beq_eq_true h1
  subst this
  exact ⟨cs,hx⟩
 | _=>cases h2
theorem B80 {B:List BA} {b:Nat} (h:Bj0 B b=true):∃ e k l,BA.row b e k l∈B:=by
 unfold Bj0 at h
 rw [List.any_eq_true] at h
 obtain ⟨x,hx,h⟩:=h
 rw [Bool.and_eq_true] at h
 obtain ⟨h1,h2⟩:=h
 cases x with
 | row b' e k l =>
  have:b'=b:=Nat.eq_of_beq_eq_true h1
  subst this
  exact ⟨e,k,l,hx⟩
 | _=>cases h2
theorem Rg {B:List BA} : ∀ {kr:List BA},Xb B kr=true->∀ x∈kr,∃ b e k l e' k' l',x=.row b e k l/\BA.row b e' k' l'∈B
 | .row b e k l :: r,h,x,hx=>by
  simp only [Xb,Bool.and_eq_true] at h
  rcases List.mem_cons.1 hx with rfl | hx
  ·obtain ⟨e',k',l',hm⟩:=B80 h.1
   exact ⟨b,e,k,l,e',k',l',rfl,hm⟩
  ·exact Rg h.2 x hx
 | .box _ _ :: _,h,_,_=>by cases h
 | .arr _ _ :: _,h,_,_=>by cases h
 | .mp _ _ _ :: _,h,_,_=>by cases h
 | .opq _ _ :: _,h,_,_=>by cases h
 | .rowN _ _ _ _ _ _ _ :: _,h,_,_=>by cases h
theorem A04 {ρ:Nat->Nat} : ∀ {B:List BA} {y:BA},y∈Gi ρ B->∃ b∈B,y=b.ren ρ
 | c :: r,y,h=>by
  simp only [Gi] at h
  rcases List.mem_cons.1 h with rfl | h
  ·exact ⟨c,by simp,rfl⟩
  ·obtain ⟨b,h1,h2⟩:=A04 h
   exact ⟨b,List.mem_cons_of_mem _ h1,h2⟩
theorem A05 {E E':Env} {ρ:Nat->Nat} : ∀ {kr:List BA},(∀ x∈kr,∃ b e k l,x=.row b e k l/\E'.row (ρ b)=E.row b)->Ac E' (Gi ρ kr)=Ac E kr
 | [],_=>rfl
 | x :: r,h=>by
  obtain ⟨b,e,k,l,rfl,h1⟩:=h x (by simp)
  simp only [Gi,Ac,BA.ren,BA.owned,h1,A05 (kr:=r) fun x hx=>h x (List.mem_cons_of_mem _ hx)]
section
variable {P : Program} {G : World -> Prop} {L : Operand -> AV} {bk : List BA} {K : AV -> List BA -> Prop}
variable {V w0 : World} {n : Fm} {E : Env} {fr : List (Nat × AV)} {a : Act} {w : World}
theorem Cc3 (h:St V w0 n E ⟨fr,bk⟩ a w) {R:List BA} (hs:List.Sublist (Ac E R) (Ac E bk)) (hR:∀ b∈R,b∈bk):∃ F:Far,F.l.map (·.1)=Ac E R/\∀ p∈F.l,w.heap[p.1]? = some p.2:=by
 have hc:∀ g∈Ac E R,∃ o:Obj,w.heap[g]? = some o/\Ll o=false:=fun g hg=>by
  obtain ⟨b,hb,hg⟩:=Bk.1 hg
  exact BA.owned_cells (h.holds b (hR b hb)) g hg
 refine ⟨⟨(Ac E R).map fun g=>(g,(w.heap[g]?).getD (.cells #[] 0)),?_,fun p hp=>?_⟩,?_,fun p hp=>?_⟩
 ·rw [List.map_map]
  have:((fun p:Nat×Obj=>p.1) ∘ fun g=>(g,(w.heap[g]?).getD (.cells #[] 0)))=id:=rfl
  rw [this,List.map_id]
  exact h.apart.sublist hs
 ·obtain ⟨g,hg,rfl⟩:=List.mem_map.1 hp
  obtain ⟨o,h1,h2⟩:=hc g hg
  simp only [h1,Option.getD_some]
  exact h2
 ·rw [List.map_map]
  exact List.map_id _
 ·obtain ⟨g,hg,rfl⟩:=List.mem_map.1 hp
  obtain ⟨o,h1,h2⟩:=hc g hg
  simp only [h1,Option.getD_some]
theorem Ao3 {E E':Env} {ρ:Nat->Nat} {c:Nat} : ∀ {bx:List (Nat×List AV)},(∀ x∈bx,E'.blk (ρ x.1)=E.blk x.1)->Ac E' (bxS ρ c bx)=Ac E (bxB bx)
 | [],_=>rfl
 | (b,cs) :: r,h=>by
  simp only [bxS,bxB,Ac,BA.owned,h (b,cs) (by simp),Ao3 (bx:=r) fun x hx=>h x (List.mem_cons_of_mem _ hx)]
theorem B48 {ρ:Nat->Nat} {c:Nat} : ∀ {bx:List (Nat×List AV)} {y:BA},y∈bxS ρ c bx->∃ x∈bx,y=.box (ρ x.1) (AV.sh.shs c x.2)/\BA.box x.1 x.2∈bxB bx
 | (b,cs) :: r,y,h=>by
  simp only [bxS] at h
  rcases List.mem_cons.1 h with rfl | h
  ·exact ⟨(b,cs),by simp,rfl,by simp [bxB]⟩
  ·obtain ⟨x,h1,h2,h3⟩:=B48 h
   exact ⟨x,List.mem_cons_of_mem _ h1,h2,List.mem_cons_of_mem _ h3⟩
theorem X2:∀ {bx:List (Nat×List AV)},X3 bx=true->∀ x∈bx,AV.small.smalls x.2=true
 | (b,cs) :: r,h,x,hx=>by
  simp only [X3,Bool.and_eq_true] at h
  rcases List.mem_cons.1 hx with rfl | hx
  ·exact h.1
  ·exact X2 h.2 x hx
theorem Vm {B:List BA} : ∀ {bx:List (Nat×List AV)},T8 B bx=true->∀ x∈bx,∃ cs,BA.box x.1 cs∈B
 | (b,cs) :: r,h,x,hx=>by
  simp only [T8,Bool.and_eq_true] at h
  rcases List.mem_cons.1 hx with rfl | hx
  ·exact Bd9 h.1
  ·exact Vm h.2 x hx
variable {dst : Option Tmp} {ty : TypeId} {pos : String} {after : Array Edge} {gd : Option (Nat × Bool)}
theorem Cc9 {f:FuncId} {fo:Operand} {args:Array Operand} {at_:Array TypeId} {caps:List AV} (hfo:L fo=.fn f caps) (h:Bg3 P G f (args.toList.map L++caps) (cid dst) bk K) :
  Upd P G ⟨dst,.call { callee:=.value fo,args,argTypes:=at_ },ty,pos,after,gd⟩ L bk K:=by
 obtain ⟨args',r,B,nb,bx,kr,ρ,pre,post,⟨hen,hcall⟩,hargs',rfl,hsm,hK⟩:=h
 simp only [Bool.and_eq_true] at hsm
 obtain ⟨⟨⟨⟨hs1,hs2⟩,hs3⟩,hs4⟩,hs5⟩:=hsm
 refine ⟨_,_,hK,fun V w0 n E a w fr F0 hs hL hfr hG N Q hN ro=>Ft (fun _ h=>by cases h) ?_⟩
 obtain ⟨hf1,hf2⟩:=hfr rfl
 have hfv:=hL fo
 rw [hfo] at hfv
 generalize hfe:a.eval fo=u at hfv
 cases hfv with
 | @fn _ vs _ p1 p2 =>
  have hexec:(execOp a.eval ⟨dst,.call { callee:=.value fo,args,argTypes:=at_ },ty,pos,after,gd⟩).run P w=.ok (.enter f (args.map a.eval++vs)) w:=by
   simp [execOp,resolve,hfe,Deferred.ofValue,invoke,hen]
  have e0:(pre++(Gi ρ B++post))++F0=pre++(Gi ρ B++(post++F0)):=by simp only [List.append_assoc]
  rw [e0] at hs hL hf2
  have hargs:An E (vis V w0 w (Ac E (pre++(Gi ρ B++(post++F0))))) (args.map a.eval++vs).toList (args.toList.map L++caps):=by
   refine ⟨by simp [p1],fun j v d e1 e2=>?_⟩
   by_cases hj:j < args.size
   ·rw [List.getElem?_append_left (by simpa using hj),List.getElem?_map,Option.map_eq_some_iff] at e2
    obtain ⟨y,e3,rfl⟩:=e2
    rw [Array.getElem?_toList,Array.getElem?_append_left (by simpa using hj),Array.getElem?_map,Option.map_eq_some_iff] at e1
    obtain ⟨y',e4,rfl⟩:=e1
    rw [Array.getElem?_toList,e4] at e3
    obtain rfl:=Option.some.inj e3
    exact hL _
   ·rw [List.getElem?_append_right (by simp;omega)] at e2
    rw [Array.getElem?_toList,Array.getElem?_append_right (by simp;omega)] at e1
    simp only [List.length_map,Array.length_toList] at e2
    simp only [Array.size_map] at e1
    have h3:=p2 _ v d e1 e2
    rwa [e0] at h3
  unfold Oper.wp
  rw [hexec,Oper.upon_enter]
  -- what is somebody else's
  have hsubl:List.Sublist (Ac E (pre++(post++F0))) (Ac E (pre++(Gi ρ B++(post++F0)))):=by
   simp only [Am]
   exact (List.Sublist.refl _).append (List.sublist_append_right _ _)
  obtain ⟨F,hF1,hF2⟩:=Cc3 hs (R:=pre++(post++F0)) hsubl fun b hb=>by
   simp only [List.mem_append] at hb ⊢
   rcases hb with hb | hb
   ·exact .inl hb
   ·exact .inr (.inr hb)
  have hoE:∀ (E1:Env),Ac E1 [.opq 99 F]=Ac E (pre++(post++F0)):=fun E1=>by simp [Ac,BA.owned,hF1]
  have hoB:Ac (E.ren ρ) B=Ac E (Gi ρ B):=A03.symm
  have ho1:Ac (E.ren ρ) (B++[.opq 99 F])=Ac E (Gi ρ B)++Ac E (pre++(post++F0)):=by rw [Am,hoE,hoB]
  have hmem:∀ g,g∈Ac E (Gi ρ B)++Ac E (pre++(post++F0))↔g∈Ac E (pre++(Gi ρ B++(post++F0))):=fun g=>by
   simp only [Am,List.mem_append]
   constructor
   ·rintro (h | h | h)
    ·exact .inr (.inl h)
    ·exact .inl h
    ·exact .inr (.inr h)
   ·rintro (h | h | h)
    ·exact .inr (.inl h)
    ·exact .inl h
    ·exact .inr (.inr h)
  have hx:Ext (vis V w0 w (Ac E (pre++(Gi ρ B++(post++F0))))) (vis V w0 w (Ac (E.ren ρ) (B++[.opq 99 F]))):=D1 (Nat.le_refl _) fun p u _ _ h3 h4=>⟨fun hm=>h3 ((hmem _).1 (ho1 ▸ hm)),h4⟩
  have hst:StB V w0 (E.ren ρ) (B++[.opq 99 F]) w:=by
   refine ⟨hs.ext,hs.low,?_,fun g hg=>hs.base g ((hmem g).1 (ho1 ▸ hg)),fun b hb=>?_⟩
   ·rw [ho1]
    have:=hs.apart
    simp only [Am] at this ⊢
    exact (List.perm_append_comm_assoc _ _ _).nodup_iff.1 this
   ·rcases List.mem_append.1 hb with hb | hb
    ·exact BA.holds_ext (Env.same_refl 0 0 _) hx (fun _ _=>rfl) b.off_none (BA.ren_holds (hs.holds (b.ren ρ) (List.mem_append_right _ (List.mem_append_left _ (Mc hb)))))
    ·rw [List.mem_singleton.1 hb]
     exact hF2
  have hav:An (E.ren ρ) (vis V w0 w (Ac (E.ren ρ) (B++[.opq 99 F]))) (args.map a.eval++vs).toList args':=by
   rw [<-hargs'] at hargs
   exact ⟨by rw [hargs.1,Mb],fun j v d e1 e2=>((hargs.2 j v _ e1 (by rw [Si,e2];rfl)).ren_).mono hx⟩
  refine (hcall V w0 w (E.ren ρ) _ F hst hG hav).mono ?_
  rintro e w' ⟨v,E',rfl,hst',hpin,hpin2,hv,hsz,hkeep,hnew⟩
  obtain ⟨c,hc⟩ : ∃ c,cid dst=c:=⟨_,rfl⟩
  simp only [hc] at hf1 hf2 hN
  have hblk:∀ x∈bx,(Env.join E E' c).blk (ρ x.1)=E'.blk x.1:=fun x hx=>by
   obtain ⟨cs,hm⟩:=Vm hs4 x hx
   have h1:=Jn hf2 _ (List.mem_append_right _ (List.mem_append_left _ (Mc (ρ:=ρ) hm)))
   simp only [BA.ren,BA.off,Bool.and_eq_true,Bool.or_eq_true,decide_eq_true_eq] at h1
   rw [((Env.join_same E E' c) _ h1.1).1,hpin x hx]
   rfl
  have hrow:∀ x∈kr,∃ b e k l,x=.row b e k l/\(Env.join E E' c).row (ρ b)=E'.row b:=fun x hx=>by
   obtain ⟨b,e,k,l,e',k',l',rfl,hm⟩:=Rg hs5 x hx
   have h1:=Jn hf2 _ (List.mem_append_right _ (List.mem_append_left _ (Mc (ρ:=ρ) hm)))
   simp only [BA.ren,BA.off,Bool.or_eq_true,decide_eq_true_eq] at h1
   refine ⟨b,e,k,l,rfl,?_⟩
   have h2:E'.row b=E.row (ρ b):=hpin2 _ hx
   rw [((Env.join_same E E' c) _ h1).2,h2]
  have hon:Ac (Env.join E E' c) (shB c nb++(bxS ρ c bx++Gi ρ kr))=Ac E' (nb++(bxB bx++kr)):=by rw [Am,Am,Am,Am,X5 hs2,Ao3 hblk,A05 hrow]
  have hof:Ac E' ((nb++(bxB bx++kr))++[.opq 99 F])=Ac (Env.join E E' c) (shB c nb++(bxS ρ c bx++Gi ρ kr))++Ac E (pre++(post++F0)):=by rw [Am,hon,hoE]
  have hst2:=hst'.holds
  have hap2:=hst'.apart
  rw [hof] at hst2 hap2 hv
  have hsw:=St.swap (nb:=shB c nb++(bxS ρ c bx++Gi ρ kr)) hs (w':=w') (E':=Env.join E E' c) (lo:=c) (hi:=c+100) (fun g hg=>hkeep g (hoB ▸ hg)) hsz hst'.low (Env.join_same E E' c) hf1 (by
   have:∀ {l:List BA},(∀ b∈l,b.off c (c+100)=true)->J9 c (c+100) l=true:=fun {l}=>by
    induction l with
    | nil=>exact fun _=>rfl
    | cons b l ih=>exact fun h=>by simp only [J9,Bool.and_eq_true];exact ⟨h b (by simp),ih fun x hx=>h x (List.mem_cons_of_mem _ hx)⟩
   exact this fun b hb=>Jn hf2 b (by
    simp only [List.mem_append] at hb ⊢
    rcases hb with hb | hb
    ·exact .inl hb
    ·exact .inr (.inr hb))) (List.nodup_append.1 hap2).1 (fun g hg=>hoB ▸ hnew g (hon ▸ hg)) (fun b hb=>?_)
  ·refine hN v w' (Env.join E E' c) ?_ ?_
   ·have e1:((shB c nb++(bxS ρ c bx++Gi ρ kr))++(pre++post))++F0=(shB c nb++(bxS ρ c bx++Gi ρ kr))++(pre++(post++F0)):=by simp only [List.append_assoc]
    rw [e1]
    exact hsw
   ·have e1:((shB c nb++(bxS ρ c bx++Gi ρ kr))++(pre++post))++F0=(shB c nb++(bxS ρ c bx++Gi ρ kr))++(pre++(post++F0)):=by simp only [List.append_assoc]
    have e2:Ac (Env.join E E' c) (pre++(post++F0))=Ac E (pre++(post++F0)):=Me (Env.join_same E E' c) (by
     have:∀ {l:List BA},(∀ b∈l,b.off c (c+100)=true)->J9 c (c+100) l=true:=fun {l}=>by
      induction l with
      | nil=>exact fun _=>rfl
      | cons b l ih=>exact fun h=>by simp only [J9,Bool.and_eq_true];exact ⟨h b (by simp),ih fun x hx=>h x (List.mem_cons_of_mem _ hx)⟩
     exact this fun b hb=>Jn hf2 b (by
      simp only [List.mem_append] at hb ⊢
      rcases hb with hb | hb
      ·exact .inl hb
      ·exact .inr (.inr hb)))
    rw [e1,Am,e2]
    exact hv.sh hs1
  ·rcases List.mem_append.1 hb with hb | hb
   ·obtain ⟨b0,hb0,rfl⟩:=A54 hb
    exact BA.sh_holds (hst2 b0 (List.mem_append_left _ (List.mem_append_left _ hb0))) (Rc hs2 b0 hb0)
   ·rcases List.mem_append.1 hb with hb | hb
    ·obtain ⟨x,hx,rfl,hxm⟩:=B48 hb
     obtain ⟨C,t,h1,h2⟩:=hst2 (.box x.1 x.2) (List.mem_append_left _ (List.mem_append_right _ (List.mem_append_left _ hxm)))
     exact ⟨C,t,by rw [hblk x hx];exact h1,h2.sh (X2 hs3 x hx)⟩
    ·obtain ⟨x,hx,rfl⟩:=A04 hb
     obtain ⟨b,e,k,l,e',k',l',rfl,hm⟩:=Rg hs5 x hx
     obtain ⟨b',_,_,_,e1,hr1⟩:=hrow _ hx
     injection e1 with e1
     subst e1
     obtain ⟨h1,h2⟩:=hst2 (.row b e k l) (List.mem_append_left _ (List.mem_append_right _ (List.mem_append_right _ hx)))
     have h3:=Jn hf2 _ (List.mem_append_right _ (List.mem_append_left _ (Mc (ρ:=ρ) hm)))
     simp only [BA.ren,BA.off,Bool.or_eq_true,decide_eq_true_eq] at h3
     have h4:=(hs.holds ((BA.row b e' k' l').ren ρ) (List.mem_append_right _ (List.mem_append_left _ (Mc hm)))).2
     refine ⟨by rw [hr1];exact h1,fun g hg=>?_⟩
     rw [((Env.join_same E E' c) _ h3).2] at hg
     rw [((Env.join_same E E' c) _ h3).1]
     exact h4 g hg
end
def Az (P:Program) (G:World->Prop) (L:Operand->AV) (bk:List BA) (o:Oper) (K:AV->List BA->Prop):Prop :=
 match o.op with
 | .store t x y=>Aj P t (L x) (L y) bk fun bk'=>K .any bk'
 | .mapUpdate t x i y=>Ak5 P t (L x) (L i) (L y) bk fun bk'=>K .any bk'
 | .call { callee:=.builtin .append,args,argTypes }=>match args.toList,argTypes.toList with
  | [x,y],[t,t']=>t'=t/\Ag P t (L x) (L y) (cid o.dst) bk K
  | _,_=>False
 | .call { callee:=.value fo,args,.. }=>match L fo with
  | .fn f caps=>Ay P G (fun b=>C8 b bk) f (args.toList.map L++caps) (cid o.dst) (fun r nb=>K r (nb++bk))\/Bg3 P G f (args.toList.map L++caps) (cid o.dst) bk K
  | _=>False
 | _=>qop P G L (fun b=>C8 b bk) o (cid o.dst) fun r nb=>K r (nb++bk)
def C9 (o:Oper) (σ:Ab):Prop:=Gl o=true->(Lc (cid o.dst) (cid o.dst+100) σ.fr&&J9 (cid o.dst) (cid o.dst+100) σ.bk)=true
def vop (P:Program) (G:World->Prop) (σ:Ab) (o:Oper) (K:AV->List BA->Prop):Prop:=C9 o σ/\Az P G (ev σ.fr) σ.bk o K
section
variable {P : Program} {G : World -> Prop} {σ : Ab}
theorem Bl1 {lo hi:Nat} {fr:List (Nat×AV)} (h:Lc lo hi fr=true) (x:Operand):(ev fr x).off lo hi=true:=by
 cases x with
 | tmp t=>exact Q8 h t
 | const v =>
  cases v<;>first | rfl | skip
  rename_i cs
  show AV.off.offs lo hi _=true
  generalize cs.toList=l
  induction l with
  | nil=>rfl
  | cons z zs ih=>simp only [List.map_cons,AV.off.offs,AV.off,Bool.true_and];exact ih
 | global g=>rfl
 | func f=>rfl
variable {L : Operand -> AV} {bk : List BA}
theorem Ah9 {o:Oper} {B:Nat->Option BA} {c:Nat} {K:AV->List BA->Prop} (h:qop P G L B o c K):∀ d,o.op≠.defer d:=fun d e=>by
 obtain ⟨dst,op,ty,pos,after,gd⟩:=o
 simp only at e
 subst e
 exact h
theorem Qq {o:Oper} {K:AV->List BA->Prop} (hf:Gl o=true->∀ x,(L x).off (cid o.dst) (cid o.dst+100)=true) (h:qop P G L (fun b=>C8 b bk) o (cid o.dst) fun r nb=>K r (nb++bk)):Upd P G o L bk K:=by
 obtain ⟨r,nb,hK,hq⟩:=Au0 hf h
 have hnd0:=Ah9 h
 refine ⟨r,nb++bk,hK,fun V w0 n E a w fr F hs hL hfr hG N Q hN ro=>Ft hnd0 <| hq V w0 n E ⟨fr,bk++F⟩ a w hs (hG w hs.low) hL (fun b x hb=>⟨List.mem_append_left _ (Ga hb).1,(Ga hb).2⟩) N Q fun v w' E' ⟨hb,⟨hE,hm⟩,hnd,hnew,hh,hv⟩=>?_⟩
 have hst:St V w0 n E' ⟨fr,nb++(bk++F)⟩ a w'/\Ac E' (bk++F)=Ac E (bk++F):=by
  rcases hm with rfl | hm
  ·exact ⟨hs.add (lo:=0) (hi:=0) hb (Env.same_refl 0 0 E') (Tx _) (Ty _) hnd hnew hh,rfl⟩
  ·have:=hfr hm
   exact ⟨hs.add hb hE this.1 this.2 hnd hnew hh,Me hE this.2⟩
 exact hN v w' E' (by rw [List.append_assoc];exact hst.1) (by rw [List.append_assoc,Am,hst.2];exact hv)
theorem Ad0 {o:Oper} {K:AV->List BA->Prop} (hf:Gl o=true->∀ x,(L x).off (cid o.dst) (cid o.dst+100)=true) (h:Az P G L bk o K):Upd P G o L bk K:=by
 unfold Az at h
 split at h
 ·rename_i t x y ho
  obtain ⟨dst,op,ty,pos,after,gd⟩:=o
  simp only at ho
  subst ho
  exact By7 h
 ·rename_i t x i y ho
  obtain ⟨dst,op,ty,pos,after,gd⟩:=o
  simp only at ho
  subst ho
  exact D41 h
 ·rename_i args at_ ho
  obtain ⟨dst,op,ty,pos,after,gd⟩:=o
  simp only at ho
  subst ho
  split at h
  ·rename_i x y t t' h1 h2
   obtain ⟨rfl,h⟩:=h
   obtain rfl:args=#[x,y]:=by rw [<-Array.toArray_toList (xs:=args),h1]
   obtain rfl:at_=#[t',t']:=by rw [<-Array.toArray_toList (xs:=at_),h2]
   exact An0 h
  ·exact h.elim
 ·rename_i fo args at_ ho
  obtain ⟨dst,op,ty,pos,after,gd⟩:=o
  simp only at ho
  subst ho
  split at h
  ·rename_i f caps hfo
   rcases h with h | h
   ·refine Qq hf ?_
    show match L fo with
     | .fn f caps=>_
     | _=>False
    rw [hfo]
    exact h
   ·exact Cc9 hfo h
  ·exact h.elim
 ·exact Qq hf h
theorem Ca1 {c:Nat} {B:Nat->Option BA} {o:Oper} {K:AV->List BA->Prop} (hm:Gl o=true) (h:qop P G L B o c K):∃ r nb,K r nb:=by
 obtain ⟨dst,op,ty,pos,after,gd⟩:=o
 unfold qop at h
 cases op with
 | alloc e =>
  simp only at h
  split at h
  ·exact ⟨_,_,h.2⟩
  ·exact ⟨_,_,h⟩
  ·exact h.elim
 | box e x =>
  simp only at h
  split at h
  ·exact ⟨_,_,h⟩
  ·exact ⟨_,_,h.2⟩
 | makeMap t r =>
  simp only at h
  split at h
  ·exact ⟨_,_,h.2⟩
  ·exact h.elim
 | buildSlice t len parts =>
  simp only at h
  split at h
  ·obtain ⟨_,l,_,_,_,_,_,h | h⟩:=h
   ·exact ⟨_,_,h⟩
   ·exact ⟨_,_,h⟩
  ·exact h.elim
 | call cl =>
  obtain ⟨callee,args,at_⟩:=cl
  cases callee with
  | value fo =>
   simp only at h
   split at h
   ·obtain ⟨r,nb,_,_,_,h⟩:=h
    exact ⟨_,_,h⟩
   ·exact h.elim
  | invoke r m=>cases hm
  | builtin b =>
   simp only at h
   cases b<;>first | exact h.elim | cases hm
 | _=>cases hm
theorem B61 {o:Oper} {K:AV->List BA->Prop} (h:Az P G L bk o K):∃ r bk',K r bk'/\((Gl o=true->∀ x,(L x).off (cid o.dst) (cid o.dst+100)=true)->Cf9 P G o L bk r bk'):=by
 by_cases hf:Gl o=true->∀ x,(L x).off (cid o.dst) (cid o.dst+100)=true
 ·obtain ⟨r,bk',h1,h2⟩:=Ad0 hf h
  exact ⟨r,bk',h1,fun _=>h2⟩
 ·have hm:Gl o=true:=by
   cases hm:Gl o with
   | true=>rfl
   | false=>exact absurd (fun e=>by rw [hm] at e;cases e) hf
  unfold Az at h
  split at h
  ·rename_i t x y ho
   obtain ⟨dst,op,ty,pos,after,gd⟩:=o
   simp only at ho
   subst ho
   cases hm
  ·rename_i t x i y ho
   obtain ⟨dst,op,ty,pos,after,gd⟩:=o
   simp only at ho
   subst ho
   cases hm
  ·rename_i args at_ ho
   obtain ⟨dst,op,ty,pos,after,gd⟩:=o
   simp only at ho
   subst ho
   split at h
   ·rename_i x y t t' h1 h2
    obtain ⟨rfl,h⟩:=h
    obtain rfl:args=#[x,y]:=by rw [<-Array.toArray_toList (xs:=args),h1]
    obtain rfl:at_=#[t',t']:=by rw [<-Array.toArray_toList (xs:=at_),h2]
    obtain ⟨r,bk',h3,h4⟩:=An0 h
    exact ⟨r,bk',h3,fun _=>h4⟩
   ·exact h.elim
  ·split at h
   ·rename_i f caps hfo
    rcases h with ⟨r,nb,_,_,_,h⟩ | ⟨args',r,B,nb,bx,kr,ρ,pre,post,_,_,_,_,h⟩
    ·exact ⟨_,_,h,fun h=>absurd h hf⟩
    ·exact ⟨_,_,h,fun h=>absurd h hf⟩
   ·exact h.elim
  ·obtain ⟨r,nb,hK⟩:=Ca1 hm h
   exact ⟨_,_,hK,fun h=>absurd h hf⟩
theorem A42 {o:Oper} {K:AV->List BA->Prop} (h:vop P G σ o K):∃ r bk',K r bk'/\∀ (V w0:World) (n:Fm) (E:Env) (a:Act) (w:World),St V w0 n E σ a w->(∀ w',Below w0.heap.size w0 w'->G w')->∀ (N:Act->World->Prop) (Q:Exit->Act->World->Prop),
  (∀ v w' E',St V w0 n E' ⟨σ.fr,bk'⟩ a w'->Au E' (vis V w0 w' (Ac E' bk')) v r->N (a.put o.dst v) w')->∀ ro,o.wpIn (FW ro) 0 P a w N Q:=by
 obtain ⟨hf,h⟩:=h
 obtain ⟨r,bk',hK,hu⟩:=Ad0 (fun hm x=>Bl1 (Bool.and_eq_true _ _ ▸ hf hm).1 x) h
 refine ⟨r,bk',hK,fun V w0 n E a w hs hG N Q hN=>hu V w0 n E a w σ.fr [] (by simpa using hs) (fun x=>by simpa using hs.ev x) (fun hm=>by simpa using hf hm) hG N Q fun v w' E' h1 h2=>hN v w' E' (by simpa using h1) (by simpa using h2)⟩
def Hz (ops:List Oper) (fr:List (Nat×AV)) (j:Nat):AV :=
 match ops[j]? with
 | some o=>match o.dst with
  | some d=>nrm (look fr d)
  | none=>.any
 | none=>.any
def N6 (ops:List Oper) (fr:List (Nat×AV)) (g:Option (Nat×Bool)) (run skip:Prop):Prop :=
 match g with
 | none=>run
 | some (j,b)=>match Hz ops fr j with
  | .val (.bool x)=>(x=b->run)/\(x=!b->skip)
  | .val (.tuple _)=>skip
  | _=>False
def Be (P:Program) (G:World->Prop) (ops:List Oper):List Oper->Ab->(Ab->Prop)->Prop
 | [],σ,K=>K σ
 | o :: rest,σ,K=>N6 ops σ.fr o.guard (vop P G σ o fun r bk=>Be P G ops rest ⟨Ee o.dst r σ.fr,bk⟩ K) (Be P G ops rest ⟨Ee o.dst (.val undef) σ.fr,σ.bk⟩ K)
def A84 (d:Nat):List Nat->Bool
 | []=>false
 | i :: r=>Nat.beq i d || A84 d r
theorem Mh {d:Nat} : ∀ {l:List Nat},A84 d l=false->d∉l
 | [],_,h=>by cases h
 | i :: r,h,hm=>by
  simp only [A84,Bool.or_eq_false_iff] at h
  rcases List.mem_cons.1 hm with e | hm
  ·subst e;simp at h
  ·exact Mh h.2 hm
def Di (n:Nd):List Oper->Bool
 | []=>true
 | o :: r=>(match o.dst with
  | some d=>Nat.blt d n.n&&!A84 d n.fx
  | none=>true)&&Di n r
variable {V w0 : World} {n : Fm} {ro : Option Nat}
theorem Ub {ops:List Oper} {E:Env} {a:Act} {w:World} (hs:St V w0 n E σ a w) {o:Oper} {A B:Prop} (h:N6 ops σ.fr o.guard A B):(Region.wanted o (yielded ops.toArray a.tmps)=true/\A)\/(Region.wanted o (yielded ops.toArray a.tmps)=false/\B):=by
 unfold N6 at h
 unfold Region.wanted
 split at h
 ·rename_i hg
  rw [hg];exact .inl ⟨rfl,h⟩
 ·rename_i j b hg
  rw [hg]
  simp only
  split at h
  ·rename_i x hy
   have hyv:yielded ops.toArray a.tmps j=some x:=by
    unfold Hz at hy
    split at hy
    ·rename_i o' ho'
     split at hy
     ·rename_i d hd
      have hv:=(hs.slots d).nrm_
      rw [hy] at hv
      generalize hu:a.tmps.getD d undef=u at hv
      cases hv
      have:a.tmps[d]? = some (.bool x):=by
       rw [Array.getD_eq_getD_getElem?] at hu
       cases hdd:a.tmps[d]? with
       | none=>rw [hdd] at hu;simp [undef] at hu
       | some y=>rw [hdd] at hu;simp at hu;rw [hu]
      simp [yielded,ho',hd,this]
     ·cases hy
    ·cases hy
   rw [hyv]
   by_cases e:x=b
   ·subst e;exact .inl ⟨by simp,h.1 rfl⟩
   ·refine .inr ⟨by simpa using e,h.2 (by cases x<;>cases b<;>simp_all)⟩
  ·rename_i tt hy
   have hyv:yielded ops.toArray a.tmps j=none:=by
    unfold Hz at hy
    split at hy
    ·rename_i o' ho'
     split at hy
     ·rename_i d hd
      have hv:=(hs.slots d).nrm_
      rw [hy] at hv
      generalize hu:a.tmps.getD d undef=u at hv
      cases hv
      rw [Array.getD_eq_getD_getElem?] at hu
      cases hdd:a.tmps[d]? with
      | none=>simp [yielded,ho',hd,hdd]
      | some y =>
       rw [hdd] at hu
       simp at hu
       simp [yielded,ho',hd,hdd,hu]
     ·cases hy
    ·cases hy
   rw [hyv]
   exact .inr ⟨rfl,h⟩
  ·exact h.elim
theorem Bf5 {ops:List Oper} {Q:Exit->Act->World->Prop} (hG:∀ w',Below w0.heap.size w0 w'->G w'):∀ (l:List Oper) (σ:Ab) (K:Ab->Prop) (E:Env) (a:Act) (w:World),Di n.nd l=true->Be P G ops l σ K->St V w0 n E σ a w ->
  (∀ (E':Env) (σ':Ab) (a':Act) (w':World),K σ'->St V w0 n E' σ' a' w'->Q .normal a' w')->wpListIn (FW ro) 0 P ops.toArray Q l a w:=by
 intro l
 induction l with
 | nil=>exact fun σ K E a w _ h hs hQ=>hQ E σ a w h hs
 | cons o rest ih =>
  intro σ K E a w hd h hs hQ
  simp only [Di,Bool.and_eq_true] at hd
  have hdst:∀ d,o.dst=some d->d < n.nd.n/\d∉n.nd.fx:=fun d e=>by
   have:=hd.1
   rw [e] at this
   simp only [Bool.and_eq_true,Bool.not_eq_true'] at this
   exact ⟨Bs.1 this.1,Mh this.2⟩
  refine wpListIn_step fun K' hK'=>?_
  rcases Ub hs h with ⟨hw,hr⟩ | ⟨hw,hr⟩
  ·rw [if_pos hw]
   obtain ⟨r,bk',hK,hu⟩:=A42 hr
   refine hu V w0 n E a w hs hG K' Q (fun v w' E' hs' hv=>hK' _ _ (ih ⟨Ee o.dst r σ.fr,bk'⟩ K E' (a.put o.dst v) w' hd.2 hK (hs'.put hdst hv) hQ)) ro
  ·rw [if_neg (by rw [hw];simp)]
   refine ⟨fun _ _=>trivial,hK' _ _ (ih ⟨Ee o.dst (.val undef) σ.fr,σ.bk⟩ K E (a.put o.dst undef) w hd.2 hr (hs.put hdst .val) hQ)⟩
-- code
def Arr (V w0:World) (m:Fm) (K:Exit->Ab->Prop) (e:Exit) (a:Act) (w:World):Prop:=∃ m' E σ,Fm.le m m'/\K e σ/\St V w0 m' E σ a w
theorem Arr.more {V w0:World} {m m':Fm} {K:Exit->Ab->Prop} {e:Exit} {a:Act} {w:World} (h:Arr V w0 m' K e a w) (hl:Fm.le m m'):Arr V w0 m K e a w:=by
 obtain ⟨m2,E,σ,h1,h2⟩:=h
 exact ⟨m2,E,σ,hl.trans h1,h2⟩
def AW (P:Program) (G:World->Prop) (ro:Option Nat) (V w0:World) (n:Nd) (c:Code) (σ:Ab) (K:Exit->Ab->Prop):Prop :=
 (∀ w',Below w0.heap.size w0 w'->G w')->∀ m E a w,m.nd=n->St V w0 m E σ a w->c.wpIn (FW ro) 0 P (Arr V w0 m K) a w
end
section
variable {P : Program} {G : World -> Prop} {σ : Ab} {V w0 : World} {n : Nd} {ro : Option Nat} {K : Exit -> Ab -> Prop}
theorem AW.region {id:Nat} {l:List Oper} (hd:Di n l=true) (h:Be P G l l σ fun σ'=>K .normal σ'):AW P G ro V w0 n (.region id l.toArray false) σ K :=
 fun hG m E a w hn hs=>wpIn_region_lit (Bf5 hG l σ _ E a w (by rw [hn];exact hd) h hs fun E' σ' a' w' hK hs'=>⟨m,E',σ',Fm.le.refl m,hK,hs'⟩)
theorem AW.seq {x y:Code} (h:AW P G ro V w0 n x σ fun e σ'=>match e with
  | .normal=>AW P G ro V w0 n y σ' K
  | e=>K e σ'):AW P G ro V w0 n (.seq x y) σ K:=fun hG m E a w hn hs=>by
 refine wpIn_seq (wpIn_mono (h hG m E a w hn hs) ?_)
 rintro e a' w' ⟨m',E',σ',hm,hK,hs'⟩
 cases e with
 | normal=>exact wpIn_mono (hK hG m' E' a' w' (hm.nd.trans hn) hs') fun _ _ _ h=>h.more hm
 | _=>exact ⟨m',E',σ',hm,hK,hs'⟩
theorem AW.block {id:Nat} {c:Code} (h:AW P G ro V w0 n c σ fun e σ'=>match e with
  | .exit j=>if j=id then K .normal σ' else K (.exit j) σ'
  | e=>K e σ'):AW P G ro V w0 n (.block id c) σ K:=fun hG m E a w hn hs=>by
 refine wpIn_block (wpIn_mono (h hG m E a w hn hs) ?_)
 rintro e a' w' ⟨m',E',σ',hm,hK,hs'⟩
 cases e with
 | exit j =>
  simp only [Exit.inBlock]
  simp only at hK
  by_cases e:j=id
  ·rw [if_pos e];rw [if_pos e] at hK;exact ⟨m',E',σ',hm,hK,hs'⟩
  ·rw [if_neg e];rw [if_neg e] at hK;exact ⟨m',E',σ',hm,hK,hs'⟩
 | _=>exact ⟨m',E',σ',hm,hK,hs'⟩
theorem AW.exit {id:Nat} (h:K (.exit id) σ):AW P G ro V w0 n (.exit id) σ K:=fun _ m E _ _ _ hs=>wpIn_exit ⟨m,E,σ,Fm.le.refl m,h,hs⟩
theorem AW.ret (h:K .ret σ):AW P G ro V w0 n .ret σ K:=fun _ m E _ _ _ hs=>wpIn_ret ⟨m,E,σ,Fm.le.refl m,h,hs⟩
theorem AW.skip (h:K .normal σ):AW P G ro V w0 n .skip σ K:=fun _ m E _ _ _ hs=>wpIn_skip ⟨m,E,σ,Fm.le.refl m,h,hs⟩
theorem AW.label {l:Nat} (h:K .normal σ):AW P G ro V w0 n (.label l) σ K:=fun _ m E _ _ _ hs=>wpIn_label ⟨m,E,σ,Fm.le.refl m,h,hs⟩
theorem AW.cond {c:Operand} {x y:Code} {t:Bool} (hc:nrm (ev σ.fr c)=.val (.bool t)) (h1:t=true->AW P G ro V w0 n x σ K) (h2:t=false->AW P G ro V w0 n y σ K):AW P G ro V w0 n (.cond c x y) σ K:=fun hG m E a w hn hs=>by
 have hv:=(hs.ev c).nrm_
 rw [hc] at hv
 generalize hu:a.eval c=u at hv
 cases hv
 exact wpIn_cond_split hu (fun e=>h1 e hG m E a w hn hs) (fun e=>h2 e hG m E a w hn hs)
end
def leF (ρ:Nat->Nat) (fr:List (Nat×AV)):List (Nat×AV)->Prop
 | []=>True
 | (i,c) :: r=>look fr i=c.ren ρ/\leF ρ fr r
def leB (ρ:Nat->Nat) (bk:List BA):List BA->Prop
 | []=>True
 | b :: r=>C8 (ρ b.id) bk=some (b.ren ρ)/\leB ρ bk r
def Bw (ρ:Nat->Nat):List BA->List Nat
 | []=>[]
 | b :: r=>ρ b.id :: Bw ρ r
def LeS (ρ:Nat->Nat) (S σ:Ab):Prop:=leF ρ σ.fr S.fr/\leB ρ σ.bk S.bk/\(Bw ρ S.bk).Nodup
theorem Al4 {ρ:Nat->Nat} {fr:List (Nat×AV)} : ∀ {l:List (Nat×AV)},leF ρ fr l->∀ i,look l i=.any\/look fr i=(look l i).ren ρ
 | [],_,_=>.inl rfl
 | (j,c) :: r,h,i=>by
  simp only [look]
  by_cases e:i=j
  ·subst e
   rw [if_pos rfl]
   exact .inr h.1
  ·rw [if_neg e]
   exact Al4 h.2 i
theorem W5 {ρ:Nat->Nat} {bk:List BA} : ∀ {l:List BA},leB ρ bk l->∀ b∈l,C8 (ρ b.id) bk=some (b.ren ρ)
 | [],_,b,h=>by cases h
 | c :: l,h,b,hb=>by
  rcases List.mem_cons.1 hb with rfl | hb
  ·exact h.1
  ·exact W5 h.2 b hb
theorem A09 {E:Env} : ∀ {bk:List BA},(Ac E bk).Nodup->∀ {x y:BA},x∈bk->y∈bk->x≠y->∀ g,g∈x.owned E->g∉y.owned E
 | [],_,_,_,h,_,_,_,_=>by cases h
 | b :: bk,hn,x,y,hx,hy,hne,g,hg=>by
  simp only [Ac] at hn
  obtain ⟨n1,n2,n3⟩:=List.nodup_append.1 hn
  rcases List.mem_cons.1 hx with e1 | hx1
  ·rcases List.mem_cons.1 hy with e2 | hy1
   ·exact absurd (e1.trans e2.symm) hne
   ·exact fun h=>n3 g (e1 ▸ hg) g (Bk.2 ⟨y,hy1,h⟩) rfl
  ·rcases List.mem_cons.1 hy with e2 | hy1
   ·exact fun h=>n3 g (e2 ▸ h) g (Bk.2 ⟨x,hx1,hg⟩) rfl
   ·exact A09 n2 hx1 hy1 hne g hg
theorem BA.owned_nodup (E:Env) (b:BA):(b.owned E).Nodup:=by
 cases b with
 | box b cs=>simp [BA.owned]
 | arr b cs=>simp [BA.owned]
 | row b e k l=>simp only [BA.owned];cases (E.row b).ownBlock<;>simp
 | mp b k kv=>simp [BA.owned]
 | opq b F=>exact F.nd
 | rowN b e k l i j c=>simp only [BA.owned];cases (E.row b).ownBlock<;>simp
theorem BA.ren_id (ρ:Nat->Nat) (b:BA):(b.ren ρ).id=ρ b.id:=by cases b<;>rfl
theorem A22 {ρ:Nat->Nat} : ∀ {l:List BA} {i:Nat},i∈Bw ρ l↔∃ b∈l,ρ b.id=i
 | [],i=>by simp [Bw]
 | b :: l,i=>by simp [Bw,A22,eq_comm]
section
variable {V w0 : World} {n : Fm} {E : Env} {σ : Ab} {a : Act} {w : World}
theorem St.le {ρ:Nat->Nat} {S:Ab} (h:St V w0 n E σ a w) (hl:LeS ρ S σ):St V w0 n (E.ren ρ) S a w:=by
 obtain ⟨h1,h2,h3⟩:=hl
 have mem:∀ b∈S.bk,b.ren ρ∈σ.bk:=fun b hb=>(Ga (W5 h2 b hb)).1
 have sub:∀ g∈Ac (E.ren ρ) S.bk,g∈Ac E σ.bk:=fun g hg=>by
  obtain ⟨b,hb,hg⟩:=Bk.1 hg
  rw [BA.ren_owned] at hg
  exact Bk.2 ⟨_,mem b hb,hg⟩
 have hx:Ext (vis V w0 w (Ac E σ.bk)) (vis V w0 w (Ac (E.ren ρ) S.bk)):=D1 (Nat.le_refl _) fun p u _ _ h4 h5=>⟨fun hm=>h4 (sub _ hm),h5⟩
 refine ⟨h.ext,h.low,?_,fun g hg=>h.base g (sub g hg),fun b hb=>?_,fun i=>?_,h.size,h.defers,h.hold.1,fun g o hg=>⟨(h.hold.2 g o hg).1,fun hm=>(h.hold.2 g o hg).2 (sub g hm)⟩⟩
 ·have key:∀ l:List BA,(∀ b∈l,b.ren ρ∈σ.bk)->(Bw ρ l).Nodup->(Ac (E.ren ρ) l).Nodup:=by
   intro l
   induction l with
   | nil=>exact fun _ _=>List.nodup_nil
   | cons b l ih =>
    intro hm hn
    simp only [Bw] at hn
    obtain ⟨n1,n2⟩:=List.nodup_cons.1 hn
    simp only [Ac]
    refine List.nodup_append.2 ⟨BA.owned_nodup _ _,ih (fun b hb=>hm b (List.mem_cons_of_mem _ hb)) n2,fun g hg g' hg' e=>?_⟩
    subst e
    obtain ⟨c,hc,hg'⟩:=Bk.1 hg'
    rw [BA.ren_owned] at hg hg'
    refine A09 h.apart (hm b (by simp)) (hm c (List.mem_cons_of_mem _ hc)) (fun e=>n1 (A22.2 ⟨c,hc,?_⟩)) g hg hg'
    have:=congrArg BA.id e
    rw [BA.ren_id,BA.ren_id] at this
    exact this.symm
  exact key S.bk mem h3
 ·exact BA.ren_holds (BA.holds_ext (Env.same_refl 0 0 E) hx (fun _ _=>rfl) (BA.off_none _) (h.holds _ (mem b hb)))
 ·rcases Al4 h1 i with e | e
  ·rw [e];exact .any
  ·have:=h.slots i
   rw [e] at this
   exact (this.mono hx).ren_
end
section
variable {P : Program} {G : World -> Prop} {σ : Ab} {V w0 : World} {n : Nd} {ro : Option Nat} {K : Exit -> Ab -> Prop}
theorem AW.le {ρ:Nat->Nat} {S:Ab} {c:Code} (hl:LeS ρ S σ) (h:AW P G ro V w0 n c S K):AW P G ro V w0 n c σ K:=fun hG m E a w hn hs=>h hG m _ a w hn (hs.le hl)
theorem A16 {p:Nat->Prop} : (∃ m,p m)->∃ m,p m/\∀ k,p k->m<=k:=by
 rintro ⟨m,hm⟩
 induction m using Nat.strongRecOn with
 | _ m ih =>
  by_cases h:∃ k,k < m/\p k
  ·obtain ⟨k,h1,h2⟩:=h
   exact ih k h1 h2
  ·exact ⟨m,hm,fun k hk=>Nat.le_of_not_lt fun hlt=>h ⟨k,hlt,hk⟩⟩
theorem AW.loop {α:Type} (S:α->Ab) (μ:α->Nat) (x0:α) (ρ0:Nat->Nat) {c:Code} (h0:LeS ρ0 (S x0) σ)
  (round:∀ x,AW P G ro V w0 n c (S x) fun e σ'=>match e with
   | .normal=>∃ y ρ,LeS ρ (S y) σ'/\μ y < μ x
   | e=>K e σ'):AW P G ro V w0 n (.loop c) σ K:=fun hG m0 E a w hn hs=>by
 classical
 have hI:∀ (a:Act) (w:World),(∃ x m E,Fm.le m0 m/\St V w0 m E (S x) a w)->∃ k x m E,(Fm.le m0 m/\St V w0 m E (S x) a w)/\μ x=k/\∀ y m' E',Fm.le m0 m'/\St V w0 m' E' (S y) a w->k<=μ y:=fun a w h=>by
  have hex:∃ k,∃ x m E,(Fm.le m0 m/\St V w0 m E (S x) a w)/\μ x=k:=by
   obtain ⟨x,m,E,h⟩:=h
   exact ⟨_,x,m,E,h,rfl⟩
  obtain ⟨k,⟨x,m,E',h1,h2⟩,h3⟩:=A16 hex
  exact ⟨k,x,m,E',h1,h2,fun y m2 E2 h4=>h3 _ ⟨y,m2,E2,h4,rfl⟩⟩
 let m:Act->World->Nat:=fun a w=>if h:∃ x m E,Fm.le m0 m/\St V w0 m E (S x) a w then Classical.choose (hI a w h) else 0
 have hm:∀ a w,(∃ x m E,Fm.le m0 m/\St V w0 m E (S x) a w)->∃ x m2 E,(Fm.le m0 m2/\St V w0 m2 E (S x) a w)/\μ x=m a w:=fun a w h=>by
  obtain ⟨x,m2,E,h1,h2,_⟩:=Classical.choose_spec (hI a w h)
  exact ⟨x,m2,E,h1,by simp only [m,dif_pos h];exact h2⟩
 have hm2:∀ a w y m' E',Fm.le m0 m'/\St V w0 m' E' (S y) a w->m a w<=μ y:=fun a w y m' E' h=>by
  have hh:∃ x m E,Fm.le m0 m/\St V w0 m E (S x) a w:=⟨y,m',E',h⟩
  obtain ⟨_,_,_,_,_,h3⟩:=Classical.choose_spec (hI a w hh)
  simp only [m,dif_pos hh]
  exact h3 y m' E' h
 refine wpIn_loop (fun a w=>∃ x m E,Fm.le m0 m/\St V w0 m E (S x) a w) m ⟨x0,_,_,Fm.le.refl m0,hs.le h0⟩ fun a w hi=>?_
 obtain ⟨x,m1,E,⟨hle,h1⟩,h2⟩:=hm a w hi
 refine wpIn_mono (round x hG m1 E a w (hle.nd.trans hn) h1) ?_
 rintro e a' w' ⟨m',E',σ',hle',hK,hs'⟩
 cases e with
 | normal =>
  obtain ⟨y,ρ,hl,hlt⟩:=hK
  have h3:=hs'.le hl
  refine ⟨⟨y,_,_,hle.trans hle',h3⟩,?_⟩
  have:=hm2 a' w' y _ _ ⟨hle.trans hle',h3⟩
  show m a' w' < m a w
  omega
 | _=>exact ⟨m',E',σ',hle.trans hle',hK,hs'⟩
theorem AW.mono {K':Exit->Ab->Prop} {c:Code} (h:AW P G ro V w0 n c σ K) (hk:∀ e σ',K e σ'->K' e σ'):AW P G ro V w0 n c σ K':=fun hG m E a w hn hs =>
 wpIn_mono (h hG m E a w hn hs) fun _ _ _ ⟨m',E',σ',h1,h2,h3⟩=>⟨m',E',σ',h1,hk _ _ h2,h3⟩
theorem AW.adopt {c:Code} (i b e k:Nat) (hi:look σ.fr i=.val (.slice none 0 0)) (hf:(Lc b (b+1) σ.fr&&J9 b (b+1) σ.bk)=true) (h:AW P G ro V w0 n c ⟨(i,.own b) :: σ.fr,.row b e k [] :: σ.bk⟩ K):AW P G ro V w0 n c σ K:=fun hG m0 E a w hn hs=>by
 rw [Bool.and_eq_true] at hf
 have hE:Env.same b (b+1) E ⟨E.blk,fun x=>if x=b then .slice none 0 0 else E.row x⟩:=fun x hx=>by
  have:¬ x=b:=by omega
  simp [this]
 have ho:Ac ⟨E.blk,fun x=>if x=b then .slice none 0 0 else E.row x⟩ [.row b e k []]=[]:=by simp [Ac,BA.owned,Value.ownBlock]
 have hs2:=hs.add (E':=⟨E.blk,fun x=>if x=b then .slice none 0 0 else E.row x⟩) (nb:=[.row b e k []]) (Below.refl _ w) hE hf.1 hf.2 (by rw [ho];exact List.nodup_nil) (fun g hg=>by rw [ho] at hg;cases hg) (fun x hx=>by
  simp only [List.mem_singleton] at hx
  subst hx
  refine ⟨?_,fun g hg=>by simp [Value.ownBlock] at hg⟩
  simp only [if_true]
  exact Ai.nil_ _ _ _)
 refine h hG m0 _ a w hn ⟨hs2.ext,hs2.low,hs2.apart,hs2.base,hs2.holds,fun j=>?_,hs2.size,hs2.defers,hs2.hold⟩
 simp only [look]
 split
 ·rename_i e1
  subst e1
  have:=hs.slots j
  rw [hi] at this
  generalize a.tmps.getD j undef=u at this
  cases this
  exact .own (by simp)
 ·exact hs2.slots j
end
-- what is known of numbers that were read
def IV.ok:IV->Prop
 | .val v=>okV v
 | .sl k l=>l.length<=1073741824/\okR k l
 | .pt cs=>okC cs
where
 okR (k:Nat):List (List IV)->Prop
  | []=>True
  | cs :: l=>(cs.length=k/\okC cs)/\okR k l
 okC:List IV->Prop
  | []=>True
  | c :: cs=>IV.ok c/\okC cs
theorem A75:∀ {cs:List IV},(∀ (j:Nat) c,cs[j]? = some c->c.ok)->IV.ok.okC cs
 | [],_=>trivial
 | c :: cs,h=>⟨h 0 c rfl,A75 fun j d hd=>h (j+1) d (by simpa using hd)⟩
theorem Bl0 {k:Nat} : ∀ {l:List (List IV)},(∀ (i:Nat) cs,l[i]? = some cs->cs.length=k/\∀ (j:Nat) c,cs[j]? = some c->c.ok)->IV.ok.okR k l
 | [],_=>trivial
 | cs :: l,h=>⟨⟨(h 0 cs rfl).1,A75 (h 0 cs rfl).2⟩,Bl0 fun i ds hd=>h (i+1) ds (by simpa using hd)⟩
theorem C7.ok {X:World} {v:Value} {i:IV} (h:C7 X v i):i.ok:=by
 induction h with
 | val h=>exact h
 | nil h=>exact ⟨by simp,trivial⟩
 | sl f h0 h1 h2 h3 h4 h5 h6 ih=>exact ⟨h2,Bl0 fun i cs hi=>⟨h4 cs (List.mem_of_getElem? hi),fun j c hj=>ih i j cs c hi hj⟩⟩
 | pt f h1 h2 ih=>exact A75 fun j c hj=>ih j c hj
theorem Q7 {k:Nat} : ∀ {l:List (List IV)},IV.ok.okR k l->∀ cs∈l,cs.length=k/\IV.ok.okC cs
 | [],_,_,h=>by cases h
 | c :: l,h,cs,hm=>by
  rcases List.mem_cons.1 hm with rfl | hm
  ·exact h.1
  ·exact Q7 h.2 cs hm
def AV.okd:AV->Prop
 | .iv i=>i.ok
 | .ip cs=>IV.ok.okC cs
 | .agg cs=>okds cs
 | .fn _ cs=>okds cs
 | _=>True
where okds:List AV->Prop
 | []=>True
 | c :: cs=>AV.okd c/\okds cs
theorem Sn:∀ {cs:List AV},(∀ (j:Nat) c,cs[j]? = some c->c.okd)->AV.okd.okds cs
 | [],_=>trivial
 | c :: cs,h=>⟨h 0 c rfl,Sn fun j d hd=>h (j+1) d (by simpa using hd)⟩
theorem Au.okd {E:Env} {X:World} {v:Value} {c:AV} (h:Au E X v c):c.okd:=by
 induction h with
 | iv h=>exact h.ok
 | ip f h1 h2=>exact A75 fun j c hj=>(h2 j c hj).ok
 | agg h1 h2 ih=>exact Sn fun j c hj=>ih j _ c (Array.getElem?_eq_getElem (by rw [h1];exact (List.getElem?_eq_some_iff.1 hj).1)) hj
 | fn h1 h2 ih=>exact Sn fun j c hj=>ih j _ c (Array.getElem?_eq_getElem (by rw [h1];exact (List.getElem?_eq_some_iff.1 hj).1)) hj
 | _=>trivial
-- whole functions
def Uo:Nat->List AV->List (Nat×AV)
 | _,[]=>[]
 | i,c :: cs=>(i,c) :: Uo (i+1) cs
theorem Un:∀ (cs:List AV) (s i:Nat),look (Uo s cs) i=if s<=i then (cs[i - s]?).getD .any else .any
 | [],s,i=>by simp [Uo,look]
 | c :: cs,s,i=>by
  simp only [Uo,look]
  by_cases e:i=s
  ·subst e;simp
  ·rw [if_neg e,Un cs (s+1) i]
   by_cases h:s+1<=i
   ·rw [if_pos h,if_pos (by omega),show i - s=(i - (s+1))+1 by omega,List.getElem?_cons_succ]
   ·rw [if_neg h,if_neg (by omega)]
def Nn (P:Program) (σ:Ab):List ResultVar->(List AV->Prop)->Prop
 | [],K=>K []
 | .tmp t :: r,K=>Nn P σ r fun l=>K (look σ.fr t :: l)
 | .cell d t :: r,K=>match look σ.fr d with
  | .bp b p=>match C8 b σ.bk,tyK P t with
   | some (.box _ cs),some (q,s)=>rdA q s (cs.drop p) fun u=>Nn P σ r fun l=>K (u :: l)
   | some (.arr _ cs),some (2,s)=>p=0/\s=cs.length/\Nn P σ r fun l=>K (.aggI cs :: l)
   | _,_=>False
  | _=>False
def Aj7:List AV->AV
 | [c]=>c
 | cs=>.tup cs
section
variable {P : Program} {G : World -> Prop}
def Xe (tmps:Array Value):ResultVar->Sem Value
 | .tmp t=>pure (tmps.getD t undef)
 | .cell d t=>do loadVar t (<- asAddr (tmps.getD d undef))
theorem Sf {V w0:World} {n:Fm} {E:Env} {σ:Ab} {a:Act} {w:World} (hs:St V w0 n E σ a w):∀ (rs:List ResultVar) (K:List AV->Prop),Nn P σ rs K->∃ l,K l/\∃ vs:List Value,(rs.mapM (Xe a.tmps)).run P w=.ok vs w/\An E (vis V w0 w (Ac E σ.bk)) vs l
 | [],K,h=>⟨[],h,[],rfl,An.nil⟩
 | .tmp t :: r,K,h=>by
  obtain ⟨l,h1,vs,h2,h3⟩:=Sf hs r _ h
  exact ⟨_,h1,a.tmps.getD t undef :: vs,by simp [List.mapM_cons,Xe,h2],An.cons (hs.slots t) h3⟩
 | .cell d t :: r,K,h=>by
  simp only [Nn] at h
  split at h
  case h_2=>exact h.elim
  rename_i b p hd
  have hv:=hs.slots d
  rw [hd] at hv
  generalize hu:a.tmps.getD d undef=u at hv
  cases hv
  have load:∀ {v:Value},(Instr.loadAt t (.pointer (some ⟨E.blk b,p,none⟩))).run P w=.ok v w->(loadVar t ⟨E.blk b,p,none⟩).run P w=.ok v w:=fun h=>by
   simpa [Instr.loadAt,Instr.sureAddr] using h
  split at h
  ·rename_i b' cs q s hb ht
   obtain ⟨u,hK,hr⟩:=B22 ht h
   obtain ⟨l,h1,vs,h2,h3⟩:=Sf hs r _ hK
   obtain ⟨q1,q2⟩:=Ga hb
   obtain rfl:b'=b:=q2
   obtain ⟨C,e,hB,hC⟩:=hs.holds _ q1
   obtain ⟨v,hv1,hv2⟩:=hr E (vis V w0 w (Ac E σ.bk)) w (E.blk b') p e C hB ⟨by simp [<-hC.1],fun j v d a b=>by
    rw [List.getElem?_drop] at a b
    exact hC.2 _ v d a b⟩
   exact ⟨_,h1,v :: vs,by simp [List.mapM_cons,Xe,h2,hu,asAddr,load hv1],An.cons hv2 h3⟩
  ·rename_i b' cs s hb ht
   obtain ⟨rfl,h0,h⟩:=h
   obtain ⟨l,h1,vs,h2,h3⟩:=Sf hs r _ h
   obtain ⟨q1,q2⟩:=Ga hb
   obtain rfl:b'=b:=q2
   obtain ⟨C,e,hB,hC⟩:=hs.holds _ q1
   obtain ⟨ha,hz⟩:=D5 (w:=w) ht
   have hl:(loadCells ⟨E.blk b',0,none⟩ C.toList.length).run P w=.ok C w:=run_loadCells_list (P:=P) w ⟨E.blk b',0,none⟩ C.toList fun j v hv=>by
    rw [Dq,hB.cell,Nat.zero_add]
    simpa using hv
   rw [hC.len,<-h0] at hl
   exact ⟨_,h1,.agg C :: vs,by simp [List.mapM_cons,Xe,h2,hu,asAddr,load (v:=.agg C) (by simp [Instr.loadAt,Instr.sureAddr,loadVar,ha,hz,hl])],An.cons (.aggI hC) h3⟩
  ·exact h.elim
def Fm.bare (m:Fm):Fm:=⟨m.nd,m.fix,[],fun _=>none,0⟩
theorem St.other {V w0:World} {m:Fm} {E:Env} {σ:Ab} {a:Act} {w w':World} {row:Option Nat} (h:St V w0 m E σ a w) (hg:w.grownBy w' row) (hr:∀ r,row=some r->w0.heap.size<=r/\∃ o:Obj,w.heap[r]? = some o/\Ll o=true):St V w0 m.bare E σ { a with defers:=[] } w':=by
 have hx:Ext (vis V w0 w (Ac E σ.bk)) (vis V w0 w' (Ac E σ.bk)):=D1 hg.size fun p u _ _ h3 h4=>⟨h3,Qd h4 hg fun r e=>(hr r e).2⟩
 have hs:∀ b∈σ.bk,∀ g∈b.owned E,w'.heap[g]? = w.heap[g]? := fun b hb g hgm=>by
  obtain ⟨o,ho,hc⟩:=BA.owned_cells (h.holds b hb) g hgm
  refine hg.block g (Array.getElem?_eq_some_iff.1 ho).1 fun e=>?_
  obtain ⟨_,o',ho',hc'⟩:=hr g e.symm
  rw [ho] at ho'
  obtain rfl:=Option.some.inj ho'
  rw [hc] at hc';cases hc'
 exact ⟨h.ext,h.low.grown hg h.low.size fun g e=>(hr g e).1,h.apart,h.base,fun b hb=>BA.holds_ext (Env.same_refl 0 0 E) hx (hs b hb) b.off_none (h.holds b hb),fun i=>(h.slots i).mono hx,h.size,⟨rfl,List.nodup_nil,fun D hD=>by cases hD⟩,Nat.zero_le _,fun g o e=>by cases e⟩
theorem St.forget {V w0:World} {m:Fm} {E:Env} {σ:Ab} {a:Act} {w:World} (h:St V w0 m E σ a w):St V w0 m.bare E σ { a with defers:=[] } w :=
 ⟨h.ext,h.low,h.apart,h.base,h.holds,h.slots,h.size,⟨rfl,List.nodup_nil,fun D hD=>by cases hD⟩,Nat.zero_le _,fun g o e=>by cases e⟩
theorem St.marks {V w0:World} {m:Fm} {E:Env} {σ:Ab} {a:Act} {w:World} (h:St V w0 m E σ a w):Ec w0.heap.size m.ds w:=⟨h.defers.2.1,fun D hD=>⟨(h.defers.2.2 D hD).1,(h.hold.2 D _ (h.defers.2.2 D hD).2).1⟩⟩
theorem St.shut {V w0:World} {m:Fm} {E:Env} {σ:Ab} {a:Act} {w:World} (h:St V w0 m E σ a w):St V w0 m.bare E σ { a with defers:=[] } (shut m.ds w) :=
 Tp (I:=fun W=>St V w0 m.bare E σ { a with defers:=[] } W) (fun _ _ _ hs hg hr=>hs.other hg hr) m.ds w h.marks h.forget
theorem Bk2:∀ {q s:Nat} {cs:List AV} {K K':AV->Prop},rdA q s cs K->(∀ u,K u->K' u)->rdA q s cs K'
 | 0,_,_ :: _,_,_,h,hk=>hk _ h
 | 0,_,[],_,_,h,_=>(show False from h).elim
 | 1,_,_,_,_,h,hk=>⟨h.1,hk _ h.2⟩
 | _+2,_,_,_,_,h,_=>(show False from h).elim
theorem Q4 {P:Program} {σ:Ab} : ∀ {rs:List ResultVar} {K K':List AV->Prop},Nn P σ rs K->(∀ l,K l->K' l)->Nn P σ rs K'
 | [],_,_,h,hk=>hk _ h
 | .tmp t :: r,_,_,h,hk=>Q4 (rs:=r) h fun l=>hk _
 | .cell d t :: r,K,K',h,hk=>by
  simp only [Nn] at h ⊢
  split at h
  case h_2=>exact h.elim
  split at h
  ·exact Bk2 h fun u=>fun h=>Q4 (rs:=r) h fun l=>hk _
  ·exact ⟨h.1,h.2.1,Q4 (rs:=r) h.2.2 fun l=>hk _⟩
  ·exact h.elim
theorem A7.ofS {f : FuncId} {fn : Func} {c : Code} {n : Nat} {rs : List ResultVar} {args : List AV} {r : AV} {nb : List BA} (hf : P.funcs[f]? = some fn) (hb : fn.body = some c) (hname : (fn.name == "runtime.NumGoroutine") = false) (hn : fn.ntmps = n) (hres : fn.results.toList = rs) (hal : args.length <= n)
  (hG:∀ w w',G w->Below w.heap.size w w'->G w')
  (h:AV.okd.okds args->∀ V w0,AW P G none V w0 ⟨n,[],false⟩ c ⟨Uo 0 args,[]⟩ fun e σ=>(e=.ret\/e=.normal)/\Nn P σ rs fun l=>∃ ρ,(∀ (E:Env) (X:World) (v:Value),Au E X v (Aj7 l)->Au E X v (r.ren ρ))/\leB ρ σ.bk nb/\(Bw ρ nb).Nodup):A7 P G f args r nb:=by
 refine ⟨fun vs w=>?_,fun V w E vs hV hGw hargs=>?_⟩
 ·have hname' : ¬ fn.name = "runtime.NumGoroutine" := by simpa using hname
  simp [callFunc,program,Sem.run,hf,hname',hb]
 have hok:AV.okd.okds args:=Sn fun j c hj=>(hargs.2 j _ c (List.getElem?_eq_getElem (by rw [hargs.1];exact (List.getElem?_eq_some_iff.1 hj).1)) hj).okd
 have hsz:vs.size=args.length:=by simpa using hargs.1
 have hs:St V w ⟨⟨n,[],false⟩,fun _=>undef,[],fun _=>none,0⟩ E ⟨Uo 0 args,[]⟩ { tmps:=vs++Array.replicate (fn.ntmps - vs.size) undef,defers:=[] } w:=by
  have hx:Ext V (vis V w w []):=Ur hV (Below.refl _ w)
  refine ⟨hV,Below.refl _ w,List.nodup_nil,(fun g hg=>by cases hg),(fun b hb=>by cases hb),fun i=>?_,⟨(by simp [hn,hsz];omega),fun i hi=>by cases hi⟩,⟨rfl,List.nodup_nil,fun D hD=>by cases hD⟩,Nat.zero_le _,fun g o e=>by cases e⟩
  rw [Un]
  simp only [Nat.zero_le,if_true,Nat.sub_zero]
  by_cases hi:i < args.length
  ·rw [List.getElem?_eq_getElem hi]
   have:vs[i]? = some (vs[i]'(by omega)):=Array.getElem?_eq_getElem _
   have h2:=hargs.2 i (vs[i]'(by omega)) _ (by rw [Array.getElem?_toList];exact this) (List.getElem?_eq_getElem hi)
   rw [Array.getD_eq_getD_getElem?,Array.getElem?_append_left (by omega),this]
   exact h2.mono hx
  ·rw [List.getElem?_eq_none (by omega)]
   exact .any
 refine (callsIn_wide (n:=0)).1 (callsIn_of_wp_marks (F:=FW none) hf hb trivial (wpIn_mono (h hok V w (fun w' hb'=>hG w w' hGw hb') ⟨⟨n,[],false⟩,fun _=>undef,[],fun _=>none,0⟩ E _ w rfl hs) ?_) rfl)
 rintro e a' w2 ⟨m',E',σ',_,⟨he,hr⟩,hs2⟩
 have hmk:=hs2.marks
 have hdf:=hs2.defers.1
 have hs':=hs2.shut
 have htm:({ a' with defers:=[] } : Act).tmps=a'.tmps:=rfl
 generalize hw':shut m'.ds w2=w' at hs'
 obtain ⟨l,⟨ρ,h1,h2,h3⟩,vs',h4,h5⟩:=Sf hs' rs _ hr
 -- what is handed over
 have hfin:=hs'.le (S:=⟨[],nb⟩) (ρ:=ρ) ⟨trivial,h2,h3⟩
 have hsub:Ext (vis V w w' (Ac E' σ'.bk)) (vis V w w' (Ac (E'.ren ρ) nb)):=D1 (Nat.le_refl _) fun p u _ _ q4 q5=>⟨fun hm=>q4 (by
  obtain ⟨b,hb,hg⟩:=Bk.1 hm
  rw [BA.ren_owned] at hg
  exact Bk.2 ⟨_,(Ga (W5 h2 b hb)).1,hg⟩),q5⟩
 have hv:∃ v,(results fn a'.tmps).run P w'=.ok v w'/\Au E' (vis V w w' (Ac E' σ'.bk)) v (Aj7 l):=by
  have hmap:(fn.results.mapM (Xe a'.tmps)).run P w'=.ok vs'.toArray w':=by
   rw [Array.mapM_eq_mapM_toList,hres]
   simp [h4]
  refine ⟨if h:vs'.toArray.size=1 then vs'.toArray[0] else .tuple vs'.toArray,?_,?_⟩
  ·have hfun:results fn a'.tmps=(fn.results.mapM (Xe a'.tmps) >>= fun vs=>pure (if h:vs.size=1 then vs[0] else .tuple vs)):=by
    unfold results
    congr 1
   rw [hfun,Sem.run_bind,hmap]
   rfl
  ·have hlen:=h5.1
   match l,vs',h5,hlen with
   | [c],[v],h5,_=>exact h5.2 0 v c rfl rfl
   | [],[],h5,_=>exact .tup rfl fun j v c a b=>by simp at a
   | c :: d :: l,v :: u :: vs',h5,_ =>
    have:¬ (v :: u :: vs').toArray.size=1:=by simp
    rw [dif_neg this]
    exact .tup (by simpa using h5.1) fun j v c a b=>h5.2 j v c (by simpa using a) b
 obtain ⟨v,hv1,hv2⟩:=hv
 have hpost:∃ v E'',Ending.returned v=.returned v/\True/\(results fn a'.tmps).run P w'=.ok v w'/\E''=E'.ren ρ/\Au E'' (vis V w w' (Ac E'' nb)) v r:=by
  replace hv2:=h1 _ _ _ hv2
  exact ⟨v,_,rfl,trivial,hv1,rfl,(hv2.mono hsub).ren_⟩
 obtain ⟨v,E'',_,_,hv1,rfl,hv3⟩:=hpost
 subst hw'
 have hend:=N3 (F:=FW none) (n:=0) (P:=P) (fn:=fn) (tmps:=a'.tmps) (R:=fun e w'=>∃ v E',e=.returned v/\Below w.heap.size w w'/\(Ac E' nb).Nodup/\(∀ g∈Ac E' nb,w.heap.size<=g) /\
  (∀ b∈nb,b.holds E' (vis V w w' (Ac E' nb)) w' w.heap.size)/\Au E' (vis V w w' (Ac E' nb)) v r) m'.ds w2 hmk ⟨v,hv1,v,_,rfl,hs'.low,hfin.apart,hfin.base,hfin.holds,hv3⟩
 rw [<-hdf] at hend
 rcases he with rfl | rfl
 ·exact hend
 ·exact hend
theorem A7.of {f : FuncId} {fn : Func} {c : Code} {n : Nat} {rs : List ResultVar} {args : List AV} {r : AV} {nb : List BA} (hf : P.funcs[f]? = some fn) (hb : fn.body = some c) (hname : (fn.name == "runtime.NumGoroutine") = false) (hn : fn.ntmps = n) (hres : fn.results.toList = rs) (hal : args.length <= n)
  (hG:∀ w w',G w->Below w.heap.size w w'->G w')
  (h:AV.okd.okds args->∀ V w0,AW P G none V w0 ⟨n,[],false⟩ c ⟨Uo 0 args,[]⟩ fun e σ=>(e=.ret\/e=.normal)/\Nn P σ rs fun l=>∃ ρ,Aj7 l=r.ren ρ/\leB ρ σ.bk nb/\(Bw ρ nb).Nodup):A7 P G f args r nb :=
 A7.ofS hf hb hname hn hres hal hG fun hok V w0=>AW.mono (h hok V w0) fun _ _ ⟨h1,h2⟩=>⟨h1,Q4 h2 fun _ ⟨ρ,e,h3⟩=>⟨ρ,fun _ _ _ hv=>e ▸ hv,h3⟩⟩
end
structure F7 where
 sl:List (Nat×Nat)
 pre:List Nat
 rd:List Nat
 cs:List Nat
 out:Nat
def Cm (o:Oper):List Nat:=o.after.toList.filterMap fun e=>if Region.binds .any e then some e.on else none
def bef (acc:List Nat):List (List Nat)->List Nat
 | []=>acc
 | ds :: r=>bef (acc++[ds.foldl (fun s d=>s|||2 ^ d|||acc.getD d 0) 0]) r
theorem Y9 {acc:List Nat} {j:Nat} : ∀ (ds:List Nat) (s:Nat),(ds.foldl (fun s d=>s|||2 ^ d|||acc.getD d 0) s).testBit j=true->s.testBit j=true\/∃ d∈ds,j=d\/(acc.getD d 0).testBit j=true
 | [],s,h=>.inl h
 | d :: ds,s,h=>by
  rcases Y9 ds _ h with h | ⟨d',h1,h2⟩
  ·simp only [Nat.testBit_or,Bool.or_eq_true,Nat.testBit_two_pow,decide_eq_true_eq] at h
   rcases h with (h | h) | h
   ·exact .inl h
   ·exact .inr ⟨d,by simp,.inl h.symm⟩
   ·exact .inr ⟨d,by simp,.inr h⟩
  ·exact .inr ⟨d',List.mem_cons_of_mem _ h1,h2⟩
theorem Tb:∀ (r:List (List Nat)) (acc:List Nat) (i:Nat),i < acc.length->(bef acc r).getD i 0=acc.getD i 0
 | [],acc,i,h=>rfl
 | ds :: r,acc,i,h=>by
  simp only [bef]
  rw [Tb r _ i (by simp;omega)]
  simp [List.getD_eq_getElem?_getD,List.getElem?_append_left h]
theorem Az7:∀ (r:List (List Nat)) (acc:List Nat) (i j:Nat),((bef acc r).getD (acc.length+i) 0).testBit j=true->i < r.length->(∀ d∈r.getD i [],d < acc.length+i)->∃ d∈r.getD i [],j=d\/((bef acc r).getD d 0).testBit j=true
 | [],acc,i,j,_,hi,_=>by simp at hi
 | ds :: r,acc,0,j,h,_,hd=>by
  simp only [bef,Nat.add_zero] at h
  rw [Tb r _ acc.length (by simp)] at h
  simp only [List.getD_eq_getElem?_getD,List.getElem?_append_right (Nat.le_refl _),Nat.sub_self,List.getElem?_cons_zero,Option.getD_some] at h
  rcases Y9 ds 0 h with h | ⟨d,h1,h2⟩
  ·simp at h
  ·refine ⟨d,h1,h2.elim Or.inl fun h=>.inr ?_⟩
   have hlt:=hd d h1
   simp only [Nat.add_zero] at hlt
   simp only [bef]
   rw [Tb r _ d (by simp;omega)]
   simpa [List.getD_eq_getElem?_getD,List.getElem?_append_left hlt] using h
 | ds :: r,acc,i+1,j,h,hi,hd=>by
  have h':=Az7 r (acc++[ds.foldl (fun s d=>s|||2 ^ d|||acc.getD d 0) 0]) i j (by
   simp only [bef] at h
   simpa [Nat.add_assoc,Nat.add_comm 1 i] using h) (by simpa using hi) (fun d hdm=>by
   have:=hd d (by simpa using hdm)
   simp;omega)
  simpa [bef] using h'
def D8 (m:Nat):List F7->List Nat
 | []=>[]
 | h :: r=>m :: D8 (m+h.out) r
def outs (bs:List Nat) (hs:List F7) (i:Nat):List Nat:=List.range' (bs.getD i 0) ((hs[i]?.map (·.out)).getD 0)
def M5 (m:Nat):List F7->Nat
 | []=>m
 | h :: r=>M5 (m+h.out) r
def U1:List Nat->Bool
 | []=>true
 | x :: r=>!r.contains x&&U1 r
def Ax2 (m:Nat) (ops:List Oper) (hs:List F7) (A bs:List Nat) (i:Nat) (o:Oper) (h:F7):Bool :=
 (Cm o).all (fun d=>decide (d < i)) &&
 h.sl.all (fun p=>(A.getD i 0).testBit p.2&&((ops[p.2]?).bind (·.dst)==some p.1)) &&
 (List.range ops.length).all (fun j=>match (ops[j]?).bind (·.dst) with
  | some d=>!h.pre.contains d || j==i || (A.getD j 0).testBit i
  | none=>true) &&
 (h.cs++h.rd).all (fun t=>decide (t < bs.getD i 0)&&(decide (t < m) || (List.range i).any fun j=>(outs bs hs j).contains t&&(A.getD i 0).testBit j)) &&
 (List.range ops.length).all (fun j=>j==i || h.cs.all fun t=>!(((hs[j]?).map fun g=>g.cs++g.rd).getD []).contains t || (A.getD i 0).testBit j) &&
 U1 (h.cs++h.rd) &&
 (match o.guard with
  | none=>true
  | some (j,_)=>(A.getD i 0).testBit j&&((ops[j]?).bind (·.dst)).isSome)
def Fq (ops:List Oper):List Nat:=ops.filterMap (·.dst)
def Ay7 (n:Nd) (m:Nat) (ops:List Oper) (hs:List F7):Bool :=
 let A:=bef [] (ops.map Cm)
 let bs:=D8 m hs
 hs.length==ops.length&&U1 (Fq ops)&&Di n ops&&Ss ops.toArray&&(List.range ops.length).all (fun i=>match ops[i]?,hs[i]? with
  | some o,some h=>Ax2 m ops hs A bs i o h
  | _,_=>false)
def Js (sl:List (Nat×Nat)) (rs:List AV):List (Nat×AV) :=
 match sl with
 | []=>[]
 | (d,j) :: r=>(d,rs.getD j .any) :: Js r rs
def G3 (pre ds:List Nat):List (Nat×AV) :=
 match ds with
 | []=>[]
 | d :: r=>if pre.contains d then G3 pre r else (d,.any) :: G3 pre r
def Cy (ts:List Nat) (toks:List BA):List BA :=
 match ts with
 | []=>[]
 | t :: r=>toks.getD t (.arr 0 []) :: Cy r toks
def Vt:List Oper->List AV->List (Nat×AV)->List (Nat×AV)
 | [],_,fr=>fr
 | o :: r,rs,fr=>match o.dst,rs with
  | some d,x :: rs=>(d,x) :: Vt r rs fr
  | none,_ :: rs=>Vt r rs fr
  | _,[]=>fr
def N7 (rs:List AV) (g:Option (Nat×Bool)) (run skip:Prop):Prop :=
 match g with
 | none=>run
 | some (j,b)=>match nrm (rs.getD j .any) with
  | .val (.bool true)=>(match b with | true=>run | false=>skip)
  | .val (.bool false)=>(match b with | true=>skip | false=>run)
  | .val (.tuple _)=>skip
  | _=>False
def Bi4 (x:AV) (b:Bool):Prop:=x=.val (.bool !b)\/∃ t,x=.val (.tuple t)
theorem Bb8 {rs:List AV} {g:Option (Nat×Bool)} {run skip:Prop} (h:N7 rs g run skip):(run/\(g=none\/∃ j b,g=some (j,b)/\nrm (rs.getD j .any)=.val (.bool b)))\/(skip/\∃ j b,g=some (j,b)/\Bi4 (nrm (rs.getD j .any)) b):=by
 unfold N7 at h
 split at h
 ·exact .inl ⟨h,.inl rfl⟩
 ·rename_i j b
  split at h
  ·rename_i e
   cases b
   ·exact .inr ⟨h,j,_,rfl,.inl e⟩
   ·exact .inl ⟨h,.inr ⟨j,_,rfl,e⟩⟩
  ·rename_i e
   cases b
   ·exact .inl ⟨h,.inr ⟨j,_,rfl,e⟩⟩
   ·exact .inr ⟨h,j,_,rfl,.inl e⟩
  ·rename_i tt e
   exact .inr ⟨h,j,_,rfl,.inr ⟨tt,e⟩⟩
  ·exact h.elim
def Aq (P:Program) (G:World->Prop) (ds:List Nat) (fr0:List (Nat×AV)):List Oper->List F7->List BA->List AV->(List BA->List AV->Prop)->Prop
 | [],_,toks,rs,K=>K toks rs
 | _ :: _,[],_,_,_=>False
 | o :: r,h :: hs,toks,rs,K=>N7 rs o.guard (Az P G (ev (Js h.sl rs++G3 h.pre ds++fr0)) (Cy h.cs toks++Cy h.rd toks) o fun x bk' =>
   bk'=bk'.take h.out++Cy h.rd toks/\(bk'.take h.out).length=h.out/\Aq P G ds fr0 r hs (toks++bk'.take h.out) (rs++[x]) K) (h.out=0/\h.cs=[]/\Aq P G ds fr0 r hs toks (rs++[.val undef]) K)
def Y7 (toks:List BA) (fr0:List (Nat×AV)) (ops:List Oper) (rs:List AV) (hs:List F7) (bs:List Nat):Prop :=
 ∀ (i:Nat) (o:Oper),ops[i]? = some o->Gl o=true->Lc (cid o.dst) (cid o.dst+100) fr0=true/\(∀ (j:Nat) x,j≠i->((bef [] (ops.map Cm)).getD j 0).testBit i=false->rs[j]? = some x->x.off (cid o.dst) (cid o.dst+100)=true) /\
  ∀ (t:Nat) b,t∉outs bs hs i->(∀ j,t∈outs bs hs j->((bef [] (ops.map Cm)).getD j 0).testBit i=false)->toks[t]? = some b->b.off (cid o.dst) (cid o.dst+100)=true
theorem N0:∀ {l:List Nat},U1 l=true->l.Nodup
 | [],_=>List.nodup_nil
 | x :: r,h=>by
  simp only [U1,Bool.and_eq_true,Bool.not_eq_true',List.contains_eq_mem,decide_eq_false_iff_not] at h
  exact List.nodup_cons.2 ⟨h.1,N0 h.2⟩
theorem S4:∀ (hs:List F7) (m:Nat),m<=M5 m hs
 | [],m=>Nat.le_refl _
 | h :: r,m=>Nat.le_trans (by omega) (S4 r (m+h.out))
theorem Mk:∀ (hs:List F7) (m i:Nat) (h:F7),hs[i]? = some h->∃ b,(D8 m hs)[i]? = some b/\m<=b/\b+h.out<=M5 m hs
 | [],_,i,h,e=>by simp at e
 | g :: r,m,0,h,e=>by
  simp at e;subst e
  exact ⟨m,rfl,Nat.le_refl _,S4 r _⟩
 | g :: r,m,i+1,h,e=>by
  obtain ⟨b,h1,h2,h3⟩:=Mk r (m+g.out) i h (by simpa using e)
  exact ⟨b,by simpa [D8] using h1,by omega,h3⟩
theorem Yw:∀ (hs:List F7) (m i j:Nat) (g:F7) (b c:Nat),i < j->hs[i]? = some g->(D8 m hs)[i]? = some b->(D8 m hs)[j]? = some c->b+g.out<=c
 | [],_,i,_,_,_,_,_,e,_,_=>by simp at e
 | h :: r,m,0,j,g,b,c,hij,e,e1,e2=>by
  simp at e;subst e
  simp [D8] at e1;subst e1
  obtain ⟨j',rfl⟩ : ∃ j',j=j'+1:=⟨j - 1,by omega⟩
  simp only [D8,List.getElem?_cons_succ] at e2
  have key:∀ (r:List F7) (m j c:Nat),(D8 m r)[j]? = some c->m<=c:=by
   intro r
   induction r with
   | nil=>intro m j c h;simp [D8] at h
   | cons h r ih =>
    intro m j c h
    cases j with
    | zero=>simp [D8] at h;omega
    | succ j=>simp only [D8,List.getElem?_cons_succ] at h;have:=ih _ _ _ h;omega
  exact key r _ j' c e2
 | h :: r,m,i+1,j,g,b,c,hij,e,e1,e2=>by
  obtain ⟨j',rfl⟩ : ∃ j',j=j'+1:=⟨j - 1,by omega⟩
  exact Yw r (m+h.out) i j' g b c (by omega) (by simpa using e) (by simpa [D8] using e1) (by simpa [D8] using e2)
theorem Pg {m:Nat} {hs:List F7} {i t:Nat} {h:F7} {b:Nat} (e:hs[i]? = some h) (eb:(D8 m hs)[i]? = some b):t∈outs (D8 m hs) hs i↔b<=t/\t < b+h.out:=by
 unfold outs
 rw [List.mem_range'_1,List.getD_eq_getElem?_getD,eb,e]
 simp
theorem Q6 {m:Nat} {hs:List F7} {i t:Nat} (e:hs[i]? = none):t∉outs (D8 m hs) hs i:=by
 unfold outs
 rw [List.mem_range'_1,e]
 simp
theorem Mf {m:Nat} {hs:List F7} {i j t:Nat} (hi:t∈outs (D8 m hs) hs i) (hj:t∈outs (D8 m hs) hs j):i=j:=by
 cases ei:hs[i]? with
 | none=>exact absurd hi (Q6 ei)
 | some g =>
  cases ej:hs[j]? with
  | none=>exact absurd hj (Q6 ej)
  | some h =>
   obtain ⟨b,b1,b2,b3⟩:=Mk hs m i g ei
   obtain ⟨c,c1,c2,c3⟩:=Mk hs m j h ej
   rw [Pg ei b1] at hi
   rw [Pg ej c1] at hj
   rcases Nat.lt_trichotomy i j with h' | h' | h'
   ·have:=Yw hs m i j g b c h' ei b1 c1;omega
   ·exact h'
   ·have:=Yw hs m j i h c b h' ej c1 b1;omega
theorem Vy {m:Nat} {hs:List F7} {i t:Nat} (hi:t∈outs (D8 m hs) hs i):m<=t:=by
 cases ei:hs[i]? with
 | none=>exact absurd hi (Q6 ei)
 | some g =>
  obtain ⟨b,b1,b2,_⟩:=Mk hs m i g ei
  rw [Pg ei b1] at hi;omega
theorem Zv {rs:List AV} {k:Nat} : ∀ {sl:List (Nat×Nat)},(∀ p∈sl,p.2 < k)->Js sl (rs.take k)=Js sl rs
 | [],_=>rfl
 | (d,j) :: r,h=>by
  simp only [Js]
  have hj:j < k:=h (d,j) (by simp)
  rw [Zv fun p hp=>h p (List.mem_cons_of_mem _ hp),List.getD_eq_getElem?_getD,List.getElem?_take_of_lt hj,<-List.getD_eq_getElem?_getD]
theorem Tq {toks:List BA} {k:Nat} : ∀ {ts:List Nat},(∀ t∈ts,t < k)->Cy ts (toks.take k)=Cy ts toks
 | [],_=>rfl
 | t :: r,h=>by
  simp only [Cy]
  rw [Tq fun p hp=>h p (List.mem_cons_of_mem _ hp),List.getD_eq_getElem?_getD,List.getElem?_take_of_lt (h t (by simp)),<-List.getD_eq_getElem?_getD]
theorem Rf {toks:List BA} : ∀ (k b:Nat),b+k<=toks.length->Cy (List.range' b k) toks=(toks.drop b).take k
 | 0,b,_=>by simp [Cy]
 | k+1,b,h=>by
  rw [List.range'_succ]
  simp only [Cy]
  rw [Rf k (b+1) (by omega),List.drop_eq_getElem_cons (by omega:b < toks.length),List.take_succ_cons,List.getD_eq_getElem?_getD,List.getElem?_eq_getElem (by omega)]
  rfl
theorem Se (ts:List Nat) (toks:List BA):Cy ts toks=ts.map fun t=>toks.getD t (.arr 0 []):=by
 induction ts with
 | nil=>rfl
 | cons t r ih=>simp [Cy,ih]
section
variable {P : Program} {G : World -> Prop}
def Dy7 (P:Program) (G:World->Prop) (ds:List Nat) (fr0:List (Nat×AV)) (toks:List BA) (rs:List AV) (o:Oper) (h:F7) (i b:Nat):Prop :=
 ∃ x,rs[i]? = some x/\(((o.guard=none\/∃ j c,o.guard=some (j,c)/\nrm ((rs.take i).getD j .any)=.val (.bool c))/\((Gl o=true->∀ y,(ev (Js h.sl (rs.take i)++G3 h.pre ds++fr0) y).off (cid o.dst) (cid o.dst+100)=true) ->
  Cf9 P G o (ev (Js h.sl (rs.take i)++G3 h.pre ds++fr0)) (Cy h.cs (toks.take b)++Cy h.rd (toks.take b)) x ((toks.drop b).take h.out++Cy h.rd (toks.take b)))) \/
  ((∃ j c,o.guard=some (j,c)/\Bi4 (nrm ((rs.take i).getD j .any)) c)/\x=.val undef/\h.out=0/\h.cs=[]))
theorem Wq {ds:List Nat} {fr0:List (Nat×AV)} : ∀ (r:List Oper) (hr:List F7) (toks:List BA) (rs:List AV) (K:List BA->List AV->Prop),Aq P G ds fr0 r hr toks rs K->hr.length=r.length ->
  ∃ toks' rs',K toks' rs'/\(∃ e,toks'=toks++e)/\(∃ e,rs'=rs++e)/\rs'.length=rs.length+r.length/\toks'.length=M5 toks.length hr /\
   ∀ (i:Nat) o h b,r[i]? = some o->hr[i]? = some h->(D8 toks.length hr)[i]? = some b->Dy7 P G ds fr0 toks' rs' o h (rs.length+i) b
 | [],[],toks,rs,K,h,_=>⟨toks,rs,h,⟨[],by simp⟩,⟨[],by simp⟩,by simp,rfl,fun i o h b e=>by simp at e⟩
 | [],_ :: _,_,_,_,_,hl=>by simp at hl
 | _ :: _,[],_,_,_,_,hl=>by simp at hl
 | o :: r,h :: hr,toks,rs,K,hv,hl=>by
  simp only [Aq] at hv
  rcases Bb8 hv with ⟨hv,hg⟩ | ⟨⟨s1,s2,s3⟩,hg⟩
  case inr =>
   obtain ⟨toks',rs',k1,⟨e1,k2⟩,⟨e2,k3⟩,k4,k5,k6⟩:=Wq r hr _ _ K s3 (by simpa using hl)
   refine ⟨toks',rs',k1,⟨e1,k2⟩,⟨[.val undef]++e2,by rw [k3,List.append_assoc]⟩,by rw [k4];simp;omega,by rw [k5];simp [M5,s1],fun i o' h' b' a1 a2 a3=>?_⟩
   cases i with
   | zero =>
    simp at a1 a2
    subst a1 a2
    simp [D8] at a3
    subst a3
    have t3:rs'.take rs.length=rs:=by rw [k3,List.append_assoc,List.take_left]
    refine ⟨.val undef,by rw [k3];simp,.inr ⟨?_,rfl,s1,s2⟩⟩
    simp only [Nat.add_zero,t3]
    exact hg
   | succ i =>
    have:=k6 i o' h' b' (by simpa using a1) (by simpa using a2) (by simpa [D8,s1] using a3)
    simpa [Nat.add_assoc,Nat.add_comm 1 i] using this
  obtain ⟨x,bk',⟨h1,h2,h3⟩,hu⟩:=B61 hv
  obtain ⟨toks',rs',k1,⟨e1,k2⟩,⟨e2,k3⟩,k4,k5,k6⟩:=Wq r hr _ _ K h3 (by simpa using hl)
  have hlen:(toks++bk'.take h.out).length=toks.length+h.out:=by rw [List.length_append,h2]
  refine ⟨toks',rs',k1,⟨bk'.take h.out++e1,by rw [k2,List.append_assoc]⟩,⟨[x]++e2,by rw [k3,List.append_assoc]⟩,by rw [k4];simp;omega,by rw [k5,hlen];rfl,fun i o' h' b' a1 a2 a3=>?_⟩
  cases i with
  | zero =>
   simp at a1 a2
   subst a1 a2
   simp [D8] at a3
   subst a3
   have t1:toks'.take toks.length=toks:=by rw [k2,List.append_assoc,List.take_left]
   have t2:(toks'.drop toks.length).take h.out=bk'.take h.out:=by
    rw [k2,List.append_assoc,List.drop_left,List.take_append_of_le_length (by omega),List.take_of_length_le (by omega)]
   have t3:rs'.take rs.length=rs:=by rw [k3,List.append_assoc,List.take_left]
   refine ⟨x,by rw [k3];simp,.inl ?_⟩
   simp only [Nat.add_zero,t1,t2,t3]
   rw [<-h1]
   exact ⟨hg,hu⟩
  | succ i =>
   have:=k6 i o' h' b' (by simpa using a1) (by simpa using a2) (by rw [hlen];simpa [D8] using a3)
   simpa [Nat.add_assoc,Nat.add_comm 1 i] using this
end
theorem B91 (E:Env) {bk bk':List BA} (h:bk.Perm bk'):(Ac E bk).Perm (Ac E bk'):=by
 induction h with
 | nil=>exact List.Perm.refl _
 | cons x _ ih=>exact ih.append_left _
 | swap x y l=>simp only [Ac,<-List.append_assoc];exact List.perm_append_comm.append_right _
 | trans _ _ i1 i2=>exact i1.trans i2
section
variable {V w0 : World} {n : Fm} {E : Env} {a : Act} {w : World}
theorem St.perm {fr:List (Nat×AV)} {bk bk':List BA} (h:St V w0 n E ⟨fr,bk⟩ a w) (hp:bk.Perm bk'):St V w0 n E ⟨fr,bk'⟩ a w:=by
 have ho:=B91 E hp
 have hx:Ext (vis V w0 w (Ac E bk)) (vis V w0 w (Ac E bk')):=D1 (Nat.le_refl _) fun p u _ _ h4 h5=>⟨fun hm=>h4 (ho.mem_iff.2 hm),h5⟩
 exact ⟨h.ext,h.low,ho.nodup_iff.1 h.apart,fun g hg=>h.base g (ho.mem_iff.2 hg),fun b hb=>BA.holds_ext (Env.same_refl 0 0 E) hx (fun _ _=>rfl) b.off_none (h.holds b (hp.mem_iff.2 hb)),fun i=>(h.slots i).mono hx,h.size,h.defers,h.hold.1,fun g o hg=>⟨(h.hold.2 g o hg).1,fun hm=>(h.hold.2 g o hg).2 (ho.mem_iff.2 hm)⟩⟩
theorem St.frame {fr fr':List (Nat×AV)} {bk:List BA} (h:St V w0 n E ⟨fr,bk⟩ a w) (hf:∀ i,look fr' i=.any\/look fr' i=look fr i):St V w0 n E ⟨fr',bk⟩ a w :=
 ⟨h.ext,h.low,h.apart,h.base,h.holds,fun i=>by
  rcases hf i with e | e
  ·rw [e];exact .any
  ·rw [e];exact h.slots i,h.size,h.defers,h.hold⟩
theorem Jo (i:Nat):∀ (a b:List (Nat×AV)),(∀ p∈a,p.1≠i)->look (a++b) i=look b i
 | [],_,_=>rfl
 | (j,c) :: a,b,h=>by
  simp only [List.cons_append,look]
  rw [if_neg (Ne.symm (h (j,c) (by simp))),Jo i a b fun p hp=>h p (List.mem_cons_of_mem _ hp)]
theorem N2 (i:Nat) {c:AV} : ∀ (a b:List (Nat×AV)),(∀ p∈a,p.1=i->p.2=c)->(∃ p∈a,p.1=i)->look (a++b) i=c
 | [],_,_,⟨p,hp,_⟩=>by cases hp
 | (j,d) :: a,b,h,⟨p,hp,e⟩=>by
  simp only [List.cons_append,look]
  by_cases hj:i=j
  ·rw [if_pos hj];exact h (j,d) (by simp) hj.symm
  ·rw [if_neg hj]
   refine N2 i a b (fun q hq=>h q (List.mem_cons_of_mem _ hq)) ⟨p,?_,e⟩
   rcases List.mem_cons.1 hp with rfl | hp
   ·exact absurd e.symm hj
   ·exact hp
end
def By (ops:List Oper) (j:Nat):Option Nat:=(ops[j]?).bind (·.dst)
theorem Hg:∀ {ops:List Oper},(Fq ops).Nodup->∀ {i j d:Nat},By ops i=some d->By ops j=some d->i=j
 | [],_,i,_,_,h,_=>by simp [By] at h
 | o :: r,hn,i,j,d,hi,hj=>by
  unfold Fq at hn
  have mem:∀ {k:Nat},By r k=some d->d∈Fq r:=fun {k} h=>by
   unfold By at h
   obtain ⟨o',h1,h2⟩:=Option.bind_eq_some_iff.1 h
   exact List.mem_filterMap.2 ⟨o',List.mem_of_getElem? h1,h2⟩
  have hr:(Fq r).Nodup:=by
   simp only [List.filterMap_cons] at hn
   split at hn
   ·exact hn
   ·exact (List.nodup_cons.1 hn).2
  have no:o.dst=some d->d∉Fq r:=fun e=>by
   simp only [List.filterMap_cons,e] at hn
   exact (List.nodup_cons.1 hn).1
  cases i with
  | zero =>
   cases j with
   | zero=>rfl
   | succ j =>
    have h1:o.dst=some d:=by simpa [By] using hi
    exact absurd (mem (by simpa [By] using hj)) (no h1)
  | succ i =>
   cases j with
   | zero =>
    have h1:o.dst=some d:=by simpa [By] using hj
    exact absurd (mem (by simpa [By] using hi)) (no h1)
   | succ j=>exact congrArg Nat.succ (Hg hr (by simpa [By] using hi) (by simpa [By] using hj))
theorem Bz2 {ops:List Oper} {j d:Nat} (h:By ops j=some d):d∈Fq ops:=by
 unfold By at h
 obtain ⟨o',h1,h2⟩:=Option.bind_eq_some_iff.1 h
 exact List.mem_filterMap.2 ⟨o',List.mem_of_getElem? h1,h2⟩
def Fj (rs:List AV) (S:Nat->Bool):Nat->List Oper->List (Nat×AV)
 | _,[]=>[]
 | j,o :: r=>match o.dst with
  | some d=>if S j then (d,rs.getD j .any) :: Fj rs S (j+1) r else Fj rs S (j+1) r
  | none=>Fj rs S (j+1) r
theorem Ja {rs:List AV} {S:Nat->Bool} : ∀ {ops:List Oper} {s:Nat} {p:Nat×AV},p∈Fj rs S s ops↔∃ j,By ops j=some p.1/\S (s+j)=true/\p.2=rs.getD (s+j) .any
 | [],s,p=>by simp [Fj,By]
 | o :: r,s,p=>by
  have split0:∀ {q:Nat->Prop},(∃ j,q j)↔q 0\/∃ j,q (j+1):=fun {q}=>⟨fun ⟨j,h⟩=>by cases j with | zero=>exact .inl h | succ j=>exact .inr ⟨j,h⟩,fun h=>h.elim (fun h=>⟨0,h⟩) fun ⟨j,h⟩=>⟨j+1,h⟩⟩
  rw [split0]
  have e0:By (o :: r) 0=o.dst:=by simp [By]
  have e1:∀ j,By (o :: r) (j+1)=By r j:=fun j=>by simp [By]
  simp only [e0,e1,Nat.add_zero]
  have ih:=Ja (rs:=rs) (S:=S) (ops:=r) (s:=s+1) (p:=p)
  simp only [Nat.add_assoc,Nat.add_comm 1] at ih
  simp only [Fj]
  cases hd:o.dst with
  | none=>simp [ih]
  | some d =>
   simp only
   by_cases hS:S s=true
   ·rw [if_pos hS,List.mem_cons,ih]
    constructor
    ·rintro (rfl | h)
     ·exact .inl ⟨rfl,hS,rfl⟩
     ·exact .inr h
    ·rintro (⟨h1,_,h2⟩ | h)
     ·left
      obtain ⟨p1,p2⟩:=p
      simp only [Option.some.injEq] at h1 h2
      subst h1 h2;rfl
     ·exact .inr h
   ·rw [if_neg hS,ih]
    constructor
    ·exact .inr
    ·rintro (⟨_,h,_⟩ | h)
     ·exact absurd h hS
     ·exact h
theorem Gw {rs:List AV} {S:Nat->Bool} {ops:List Oper} (hn:(Fq ops).Nodup) (fr0:List (Nat×AV)) {j d:Nat} (hd:By ops j=some d):look (Fj rs S 0 ops++fr0) d=if S j=true then rs.getD j .any else look fr0 d:=by
 by_cases hS:S j=true
 ·rw [if_pos hS]
  refine N2 d _ _ (fun p hp e=>?_) ⟨(d,rs.getD j .any),Ja.2 ⟨j,hd,by simpa using hS,by simp⟩,rfl⟩
  obtain ⟨k,k1,_,k3⟩:=Ja.1 hp
  rw [e] at k1
  obtain rfl:=Hg hn hd k1
  simpa using k3
 ·rw [if_neg hS]
  refine Jo d _ _ fun p hp e=>?_
  obtain ⟨k,k1,k2,_⟩:=Ja.1 hp
  rw [e] at k1
  obtain rfl:=Hg hn hd k1
  exact hS (by simpa using k2)
theorem Hf {rs:List AV} {S:Nat->Bool} {ops:List Oper} (fr0:List (Nat×AV)) {d:Nat} (hd:∀ j,By ops j≠some d):look (Fj rs S 0 ops++fr0) d=look fr0 d:=by
 refine Jo d _ _ fun p hp e=>?_
 obtain ⟨k,k1,_,_⟩:=Ja.1 hp
 rw [e] at k1
 exact hd k k1
theorem Al0:∀ {ops:List Oper} {rs:List AV} {fr0:List (Nat×AV)} (s:Nat) (l:List AV),rs=l.drop s->rs.length=ops.length->Vt ops rs fr0=Fj l (fun _=>true) s ops++fr0
 | [],rs,fr0,s,l,_,_=>rfl
 | o :: r,[],fr0,s,l,_,h=>by simp at h
 | o :: r,x :: rs,fr0,s,l,hl,h=>by
  have hx:l.getD s .any=x:=by
   have:=congrArg (fun q=>q[0]?) hl
   simp only [List.getElem?_drop,List.getElem?_cons_zero,Nat.add_zero] at this
   rw [List.getD_eq_getElem?_getD,<-this];rfl
  have ht:rs=l.drop (s+1):=by
   have:=congrArg List.tail hl
   simpa [List.tail_drop] using this
  have ih:=Al0 (ops:=r) (fr0:=fr0) (s+1) l ht (by simpa using h)
  simp only [Vt,Fj]
  cases o.dst with
  | none=>exact ih
  | some d=>simp only [if_true,hx,ih];rfl
end Go.Proofs.YtahgkllhbggmgaaGreatDoor
