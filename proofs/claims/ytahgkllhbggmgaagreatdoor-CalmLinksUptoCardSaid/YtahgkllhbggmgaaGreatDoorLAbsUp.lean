/- Operations that turn a block of one's own: stores, appends. No program is known here. -/
import Derived.Test.YtahgkllhbggmgaaGreatDoorLAbsSnd2
set_option linter.all false
set_option linter.unnecessarySimpa false
set_option linter.unusedSimpArgs false
set_option linter.unusedVariables false
namespace Go.Proofs.YtahgkllhbggmgaaGreatDoor
open Go.ChangeShapes Go.WideShapes Go.ChangeAt Go.RowKit
section
variable {P : Program} {G : World -> Prop} {c : Nat} {L : Operand -> AV} {B : Nat -> Option BA} {K : AV -> List BA -> Prop}
variable {dst : Option Tmp} {ty : TypeId} {pos : String} {after : Array Edge} {gd : Option (Nat × Bool)}
theorem Ml {E:Env} {X:World} {a:Act} {x:Operand} {d:AV} (hL:∀ x,Au E X (a.eval x) (L x)) (hx:L x=d):Au E X (a.eval x) d:=hx ▸ hL x
theorem Cn {E:Env} {X:World} {a:Act} {x:Operand} {v:Value} (hL:∀ x,Au E X (a.eval x) (L x)) (hx:nrm (L x)=.val v):a.eval x=v:=by
 have:=(hL x).nrm_
 rw [hx] at this
 generalize a.eval x=u at this
 cases this;rfl
theorem D40 {x : Operand} (h : match L x with
      | .ip cs => K (.ip cs) []
      | .bp b p => K (.bp b p) []
      | .rp b k i j => K (.rp b k i j) []
      | .fn f cs => K (.fn f cs) []
      | _ => False) : D9 P G ⟨dst, .nilCheck x, ty, pos, after, gd⟩ c L B K := by
  split at h
  case h_5 => exact h.elim
  all_goals
    rename_i hx
    refine ⟨_, _, h, Dm.pure_ fun V w0 n E σ a w _ hL _ => ⟨a.eval x, ?_, Ml hL hx⟩⟩
    have := Ml hL hx
    generalize hu : a.eval x = u at this
    cases this <;> (simp only [execOp, hu]; rfl)
theorem B18 {op:BinOp} {t tz:TypeId} {x y:Operand} {a:Act} {w:World} {p q r:Value} (hx:a.eval x=p) (hy:a.eval y=q) (h:(do eqGuard op t x y p q;binOp op t p q:Sem Value).run P w=.ok r w) :
  (execOp a.eval ⟨dst,.binOp op t x y tz,ty,pos,after,gd⟩).run P w=.ok (.value r) w:=by
 simp only [execOp,hx,hy]
 exact Ca h
theorem Ad4 {E:Env} {X:World} {v:Value} {d:AV} {u:Value} (h:Au E X v d):Gd d=some u->v=u:=by
 induction h generalizing u with
 | any=>simp [Gd]
 | val=>simp [Gd]
 | iv h=>cases h<;>simp [Gd]
 | ip f h1 h2=>simp [Gd]
 | bp=>simp [Gd]
 | rp=>simp [Gd]
 | own h=>simp [Gd]
 | mv=>simp [Gd]
 | aggI h=>simp [Gd]
 | tup h1 h2=>simp [Gd]
 | fn h1 h2=>simp [Gd]
 | @agg vs cs h1 h2 ih =>
  intro he
  simp only [Gd,Option.map_eq_some_iff] at he
  obtain ⟨l,hl,rfl⟩:=he
  have key:∀ (cs:List AV) (l:List Value),Gd.valAs cs=some l->l.length=cs.length/\∀ (j:Nat) d,cs[j]? = some d->∃ u,l[j]? = some u/\Gd d=some u:=by
   intro cs
   induction cs with
   | nil=>intro l h;simp [Gd.valAs] at h;subst h;exact ⟨rfl,fun j d h=>by simp at h⟩
   | cons c cs ih =>
    intro l h
    simp only [Gd.valAs] at h
    split at h
    ·rename_i v l' e1 e2
     obtain rfl:=Option.some.inj h
     obtain ⟨i1,i2⟩:=ih l' e2
     refine ⟨by simp [i1],fun j d hd=>?_⟩
     cases j with
     | zero=>simp at hd;subst hd;exact ⟨v,rfl,e1⟩
     | succ j=>exact i2 j d (by simpa using hd)
    ·cases h
  obtain ⟨k1,k2⟩:=key cs l hl
  congr 1
  apply Array.ext_getElem?
  intro j
  by_cases hj:j < vs.size
  ·have hj2:j < cs.length:=by omega
   obtain ⟨u,u1,u2⟩:=k2 j _ (List.getElem?_eq_getElem hj2)
   rw [Array.getElem?_eq_getElem hj,ih j _ _ (Array.getElem?_eq_getElem hj) (List.getElem?_eq_getElem hj2) u2]
   simpa using u1.symm
  ·rw [Array.getElem?_eq_none (by omega),Array.getElem?_eq_none (by simp;omega)]
theorem Ak3 {d:AV} {u:Value} (h:Gd (nrm d)=some u):Gd d=some u:=by
 cases d with
 | iv i=>cases i<;>exact h
 | _=>exact h
theorem D47 {op:BinOp} {t tz:TypeId} {x y:Operand} (h:Bd P op t x y (L x) (L y) fun r=>K r []):D9 P G ⟨dst,.binOp op t x y tz,ty,pos,after,gd⟩ c L B K:=by
 have done:∀ {p q r:Value},K (.val r) []->nrm (L x)=.val p->nrm (L y)=.val q->(∀ w,(do eqGuard op t x y p q;binOp op t p q:Sem Value).run P w=.ok r w)->D9 P G ⟨dst,.binOp op t x y tz,ty,pos,after,gd⟩ c L B K:=fun hK hx hy hr =>
  ⟨_,_,hK,Dm.pure_ fun V w0 n E σ a w _ hL _=>⟨_,B18 (Cn hL hx) (Cn hL hy) (hr w),.val⟩⟩
 unfold Bd at h
 split at h
 case h_10 =>
  split at h
  ·rename_i p q hp hq
   obtain ⟨r,h1,h2⟩:=h
   exact ⟨_,_,h2,Dm.pure_ fun V w0 n E σ a w _ hL _=>⟨_,B18 (Ad4 (hL x) (Ak3 hp)) (Ad4 (hL y) (Ak3 hq)) (h1 w),.val⟩⟩
  ·exact h.elim
 case h_7 | h_8 | h_9 =>
  rename_i hx hy
  obtain ⟨rfl,m,rfl,h⟩:=h
  exact done h hx hy fun w=>by simp [eqGuard,binOp,Op.intArith]
 all_goals
  rename_i hx hy
  obtain ⟨rfl,h⟩:=h
  refine done h hx hy fun w=>?_
  simp [eqGuard,binOp,Op.intCmp]
  try rfl
theorem Dw5 {op:UnOp} {t:TypeId} {x:Operand} (h:match op,nrm (L x) with
  | .not,.val (.bool b)=>K (.val (.bool !b)) []
  | .neg,.val (.int k m)=>∃ m',k.wrap (0 - m)=m'/\K (.val (.int k m')) []
  | _,_=>False):D9 P G ⟨dst,.unOp op t x,ty,pos,after,gd⟩ c L B K:=by
 split at h
 ·rename_i b hx
  exact ⟨_,_,h,Dm.pure_ fun V w0 n E σ a w _ hL _=>⟨_,by simp only [execOp,Cn hL hx];exact Ca (by simp [Op.unary]),.val⟩⟩
 ·rename_i k m hx
  obtain ⟨m',rfl,h⟩:=h
  exact ⟨_,_,h,Dm.pure_ fun V w0 n E σ a w _ hL _=>⟨_,by simp only [execOp,Cn hL hx];exact Ca (by simp [Op.unary,Op.intArith]),.val⟩⟩
 ·exact h.elim
theorem Cd0 {b x y:Operand} (h:match nrm (L b) with
  | .val (.bool true)=>K (L x) []
  | .val (.bool false)=>K (L y) []
  | _=>False):D9 P G ⟨dst,.pick b x y,ty,pos,after,gd⟩ c L B K:=by
 split at h
 ·rename_i hb
  exact ⟨_,_,h,Dm.pure_ fun V w0 n E σ a w _ hL _=>⟨a.eval x,by simp [execOp,Cn hL hb,asBool],hL x⟩⟩
 ·rename_i hb
  exact ⟨_,_,h,Dm.pure_ fun V w0 n E σ a w _ hL _=>⟨a.eval y,by simp [execOp,Cn hL hb,asBool],hL y⟩⟩
 ·exact h.elim
theorem M1 {t:TypeId} {k:IntKind} (h:Nu P t=some k):P.underlying t=some (.int k):=by
 unfold Nu at h
 split at h
 ·rename_i k' hu
  obtain rfl:=Option.some.inj h
  exact hu
 ·cases h
theorem Cd4 {s d:TypeId} {x:Operand} (h:R4 P s d (nrm (L x)) fun r=>K r []):D9 P G ⟨dst,.convert s d x,ty,pos,after,gd⟩ c L B K:=by
 unfold R4 at h
 split at h
 ·rename_i q m hx
  split at h
  ·rename_i k' k hs hd
   obtain ⟨m',rfl,h⟩:=h
   exact ⟨_,_,h,Dm.pure_ fun V w0 n E σ a w _ hL _=>⟨_,by simp only [execOp,Cn hL hx];exact Ca (by simp [convert,run_underlying (M1 hs),run_underlying (M1 hd),Conv.intToInt]),.val⟩⟩
  ·exact h.elim
 ·rename_i hx
  obtain ⟨h1,h2,h⟩:=h
  obtain ⟨e,h3,h4⟩:=J1 h1
  exact ⟨_,_,h,Dm.pure_ fun V w0 n E σ a w _ hL _=>⟨_,by simp only [execOp,Cn hL hx];exact Ca (run_convert_bytes_nil w s e h3 h4 0 0 d (Eu h2)),.val⟩⟩
 ·rename_i z hx
  obtain ⟨h1,h2,hz,h⟩:=h
  obtain ⟨e,h3,h4⟩:=J1 h2
  refine ⟨_,_,h,fun V w0 n E σ a w hs hG hL _ N Q hN=>?_⟩
  have hrun:(execOp a.eval ⟨dst,.convert s d x,ty,pos,after,gd⟩).run P w=.ok (.value (.slice (some ⟨w.heap.size,0,none⟩) z.size (grownCap w z.size 0 e))) (Lib.bytesWorld w e z):=by
   simp only [execOp,Cn hL hx]
   exact Ca (Lib.run_convert_string_bytes w s d e z (Eu h1) h3 h4)
  unfold Oper.wp
  rw [hrun]
  have hbel:Below w.heap.size w (Lib.bytesWorld w e z):=⟨rfl,rfl,rfl,by rw [Lib.bytesWorld_size];omega,fun k hk=>Lib.bytesWorld_at_old w e z k hk⟩
  refine hN _ _ E ⟨hbel,⟨Env.same_refl _ _ _,.inl rfl⟩,List.nodup_nil,(fun _ h=>by cases h),(fun _ h=>by cases h),.iv ?_⟩
  have hlen:(Ka z).length=z.size:=(List.length_map _).trans (Array.length_toList)
  have hsz:=Lib.bytesWorld_size w e z
  have:=C7.sl (X:=vis V w0 (Lib.bytesWorld w e z) (Ac E []++Ac E σ.bk)) (b:=w.heap.size) (off:=0) (c:=grownCap w z.size 0 e) (k:=1) (l:=byR (Ka z)) (fun i _=>.int .u8 ((Ka z).getD i 0:Nat)) (by rw [Ff];omega) (by simp only [byR,List.length_map,hlen];exact grownCap_ge w z.size 0 e) (by simp only [byR,List.length_map,hlen];omega) (grownCap_le_maxLen w z.size 0 e (by unfold maxLen;omega)) (fun cs hcs=>by
    simp only [byR,List.mem_map] at hcs
    obtain ⟨_,_,rfl⟩:=hcs;rfl) (fun i j cs u hi hj=>?_) (fun i j cs u hi hj=>?_)
  ·simpa [byR,hlen] using this
  ·simp only [byR,List.getElem?_map,Option.map_eq_some_iff] at hi
   obtain ⟨q,hq,rfl⟩:=hi
   obtain rfl:j=0:=by have:=(List.getElem?_eq_some_iff.1 hj).1;simpa using this
   have hlt:=(List.getElem?_eq_some_iff.1 hq).1
   have hw0:=hs.low.size
   rw [Gz (by simp only;omega),if_neg (fun hm=>by
    rcases List.mem_append.1 hm with hm | hm
    ·cases hm
    ·have:=hs.lt _ hm;simp at this)]
   have:=Lib.bytesWorld_cell w e z i (by omega)
   simp only [Nat.zero_add,Nat.mul_one,Nat.add_zero]
   rw [this]
   simp only [Ka,List.length_map] at hlt
   simp [Ka,List.getD,List.getElem?_map,List.getElem?_eq_getElem hlt]
  ·simp only [byR,List.getElem?_map,Option.map_eq_some_iff] at hi
   obtain ⟨q,hq,rfl⟩:=hi
   obtain rfl:j=0:=by have:=(List.getElem?_eq_some_iff.1 hj).1;simpa using this
   simp at hj
   subst hj
   have hlt:q < 256:=by
    simp only [Ka,List.getElem?_map,Option.map_eq_some_iff] at hq
    obtain ⟨b,_,rfl⟩:=hq
    exact b.toNat_lt
   rw [show (Ka z).getD i 0=q by simp [List.getD,hq]]
   refine .val ?_
   show (Lit.int .u8 (q:Int)).wf=true
   simp [Lit.wf,IntKind.max,IntKind.min,IntKind.signed,IntKind.bits]
   omega
 ·rename_i k l hx
  obtain ⟨h1,h2,rfl,bs,rfl,h⟩:=h
  obtain ⟨e,h3,h4⟩:=J1 h1
  refine ⟨_,_,h,Dm.pure_ fun V w0 n E σ a w hs hL _=>⟨_,?_,.val⟩⟩
  have hv:=(hL x).nrm_
  rw [hx] at hv
  generalize hu:a.eval x=v at hv
  simp only [execOp,hu]
  refine Ca ?_
  cases hv with
  | iv hv =>
   obtain ⟨A,cc,rfl,⟨hl1,hl2⟩,_,hcell⟩:=hv.to_sl
   by_cases hne:bs=[]
   ·subst hne
    rw [run_convert_bytes_string w s d e A _ _ h3 h4 (Eu h2)]
    cases A with
    | none=>simp [Conv.bytesToString,Uy,strOfNums];rfl
    | some A =>
     rw [run_bytesToString w A _ cc [] (by simp [byR,loadCells,loadCellsFrom])]
     rfl
   ·obtain ⟨b,off,rfl,_,hc⟩:=hcell (by simpa [byR] using hne)
    refine run_convert_bytes_arg w s e h3 h4 b off _ cc (bs.map fun (b:Nat)=>(b:Int)) (by simp [byR]) (fun i hi=>?_) d (Eu h2)
    have hib:i < bs.length:=by simpa [byR] using hi
    obtain ⟨vs,r1,r2,r3⟩:=hc i [IV.val (.int .u8 (bs[i]:Nat))] (by simp [byR,List.getElem?_map,List.getElem?_eq_getElem hib])
    match vs,r1,r3 with
    | [u],⟨r4,_⟩,r3 =>
     cases r4
     have:=hs.in_.cell _ _ (r3 0 _ rfl)
     simp only [Nat.mul_one,Nat.add_zero] at this
     rw [this]
     simp [List.getD,List.getElem?_map,List.getElem?_eq_getElem hib]
 ·exact h.elim
theorem Cd3 {f:FuncId} {first caps:Array Operand} (h:first=#[]/\K (.fn f (caps.toList.map L)) []):D9 P G ⟨dst,.makeFunc (.func f) first caps,ty,pos,after,gd⟩ c L B K:=by
 obtain ⟨rfl,h⟩:=h
 refine ⟨_,_,h,Dm.pure_ fun V w0 n E σ a w _ hL _=>⟨.func (.func f) #[] (caps.map a.eval),by simp only [execOp];exact Ca (by simp [Instr.makeFunc]),.fn (by simp) fun j v d h1 h2=>?_⟩⟩
 rw [Array.getElem?_map,Option.map_eq_some_iff] at h1
 rw [List.getElem?_map,Option.map_eq_some_iff] at h2
 obtain ⟨y,e1,rfl⟩:=h1
 obtain ⟨y',e2,rfl⟩:=h2
 rw [Array.getElem?_toList,e1] at e2
 obtain rfl:=Option.some.inj e2
 exact hL y
theorem Am9 {t:TypeId} {f:Nat} {x:Operand} (h:match tyF P t f with
  | some (off,_,s)=>s≠0/\match L x with
   | .ip cs=>K (.ip (cs.drop off)) []
   | .bp b p=>K (.bp b (p+off)) []
   | .rp b k i j=>K (.rp b k i (j+off)) []
   | _=>False
  | none=>False):D9 P G ⟨dst,.fieldAddr t x f,ty,pos,after,gd⟩ c L B K:=by
 split at h
 ·rename_i off q s hF
  obtain ⟨fs,fd,f1,f2,f3,f4⟩:=Vw hF
  obtain ⟨hs0,h⟩:=h
  have run:∀ (a:Act) (w:World) {b p:Nat},a.eval x=.pointer (some ⟨b,p,none⟩)->(execOp a.eval ⟨dst,.fieldAddr t x f,ty,pos,after,gd⟩).run P w=.ok (.value (.pointer (some ⟨b,p+off,none⟩))) w:=fun a w b p hu=>by
   obtain ⟨_,hz⟩:=D5 (w:=w) f4
   simp only [execOp,hu]
   exact Ca (by simp [Instr.fieldAt,run_underlying f1,f2,Instr.sureAddr,fieldPlace,hz,hs0,f3,Dq])
  split at h
  ·rename_i cs hx
   refine ⟨_,_,h,Dm.pure_ fun V w0 n E σ a w _ hL _=>?_⟩
   have:=Ml hL hx
   generalize hu:a.eval x=u at this
   cases this with
   | @ip b o _ g p1 p2 =>
    refine ⟨_,run a w hu,.ip (fun j=>g (off+j)) (fun j u hj=>?_) fun j u hj=>?_⟩
    ·rw [List.getElem?_drop] at hj
     rw [Nat.add_assoc];exact p1 _ u hj
    ·rw [List.getElem?_drop] at hj
     exact p2 _ u hj
  ·rename_i b p hx
   refine ⟨_,_,h,Dm.pure_ fun V w0 n E σ a w _ hL _=>?_⟩
   have:=Ml hL hx
   generalize hu:a.eval x=u at this
   cases this
   exact ⟨_,run a w hu,.bp⟩
  ·rename_i b k i j hx
   refine ⟨_,_,h,Dm.pure_ fun V w0 n E σ a w _ hL _=>?_⟩
   have:=Ml hL hx
   generalize hu:a.eval x=u at this
   cases this
   exact ⟨_,run a w hu,by rw [Nat.add_assoc];exact .rp⟩
  ·exact h.elim
 ·exact h.elim
theorem Bz0 {t:TypeId} {f:Nat} {x:Operand} (h:match tyF P t f,L x with
  | some (off,q,s),.agg cs=>rdA q s (cs.drop off) fun r=>K r []
  | _,_=>False):D9 P G ⟨dst,.field t x f,ty,pos,after,gd⟩ c L B K:=by
 split at h
 ·rename_i off q s cs hF hx
  obtain ⟨fs,fd,f1,f2,f3,f4⟩:=Vw hF
  have run:∀ (w:World) (a:Act) (vs:Array Value) {v:Value},a.eval x=.agg vs->(part fd.type vs off).run P w=.ok v w->(execOp a.eval ⟨dst,.field t x f,ty,pos,after,gd⟩).run P w=.ok (.value v) w:=fun w a vs v hu hp=>by
   simp only [execOp,hu]
   exact Ca (by simp [Instr.field,run_underlying f1,f2,asAgg,f3,hp])
  match q,f4,h with
  | 0,f4,h =>
   cases hd:cs.drop off with
   | nil=>rw [hd] at h;exact h.elim
   | cons d ds =>
    rw [hd] at h
    refine ⟨_,_,h,Dm.pure_ fun V w0 n E σ a w _ hL _=>?_⟩
    obtain ⟨ha,hz⟩:=D5 (w:=w) f4
    have:=Ml hL hx
    generalize hu:a.eval x=u at this
    cases this with
    | @agg vs _ p1 p2 =>
     have hoff:off < cs.length:=by
      have:=congrArg List.length hd
      simp at this;omega
     have hv:vs[off]? = some (vs[off]'(by omega)):=Array.getElem?_eq_getElem _
     refine ⟨_,run w a vs hu (v:=vs[off]'(by omega)) (by simp [part,ha,hv]),p2 off _ _ hv ?_⟩
     have:=congrArg (fun l=>l[0]?) hd
     simpa using this
  | 1,f4,h =>
   refine ⟨_,_,h.2,Dm.pure_ fun V w0 n E σ a w _ hL _=>?_⟩
   obtain ⟨ha,hz⟩:=D5 (w:=w) f4
   have:=Ml hL hx
   generalize hu:a.eval x=u at this
   cases this with
   | @agg vs _ p1 p2 =>
    have hlen:=h.1
    rw [List.length_drop] at hlen
    refine ⟨_,run w a vs hu (v:=.agg (vs.extract off (off+s))) (by simp [part,ha,hz]),.agg (by simp;omega) fun j v d a b=>?_⟩
    have hj:j < s:=by
     have:=(List.getElem?_eq_some_iff.1 b).1
     simp at this;omega
    rw [List.getElem?_take_of_lt hj,List.getElem?_drop] at b
    rw [Array.getElem?_extract] at a
    split at a
    ·exact p2 _ v d a b
    ·cases a
  | _+2,_,h=>exact h.elim
 ·exact h.elim
theorem Bd0 {x:Operand} {i:Nat} (h:match L x with
  | .tup cs=>i < cs.length/\K (cs.getD i .any) []
  | _=>False):D9 P G ⟨dst,.extract x i,ty,pos,after,gd⟩ c L B K:=by
 split at h
 ·rename_i cs hx
  refine ⟨_,_,h.2,Dm.pure_ fun V w0 n E σ a w _ hL _=>?_⟩
  have:=Ml hL hx
  generalize hu:a.eval x=u at this
  cases this with
  | @tup vs _ p1 p2 =>
   have hv:vs[i]? = some (vs[i]'(by omega)):=Array.getElem?_eq_getElem _
   refine ⟨vs[i]'(by omega),by simp only [execOp,hu];exact Ca (by simp [Instr.extract,hv]),p2 i _ _ hv ?_⟩
   rw [List.getD_eq_getElem?_getD,List.getElem?_eq_getElem h.1];rfl
 ·exact h.elim
theorem D44 {t:TypeId} {x:Operand} (h:Bv P t B (L x) fun r=>K r []):D9 P G ⟨dst,.call { callee:=.builtin .len,args:=#[x],argTypes:=#[t] },ty,pos,after,gd⟩ c L B K:=by
 have run:∀ (a:Act) (w:World) {v:Value} {m:Int},a.eval x=v->(Builtin.len_ #[t] ty #[v]).run P w=.ok (.int .i64 m) w->(execOp a.eval ⟨dst,.call { callee:=.builtin .len,args:=#[x],argTypes:=#[t] },ty,pos,after,gd⟩).run P w=.ok (.value (.int .i64 m)) w:=fun a w v m hu hr=>by
  simp [execOp,resolve,invoke,builtin,hu,hr]
 have slr:∀ {A:Option Addr} {m cc:Nat} (w:World),(Cq P t).isSome=true->(Builtin.len_ #[t] ty #[.slice A m cc]).run P w=.ok (.int .i64 (m:Nat)) w:=fun w hs=>by
  obtain ⟨⟨e,k,y⟩,hq⟩:=Option.isSome_iff_exists.1 hs
  simp [Builtin.len_,run_underlying (C3 hq).1,goInt]
 unfold Bv at h
 split at h
 ·rename_i k l hx
  refine ⟨_,_,h.2,Dm.pure_ fun V w0 n E σ a w _ hL _=>?_⟩
  have:=(hL x).nrm_
  rw [hx] at this
  generalize hu:a.eval x=u at this
  cases this with
  | iv hr =>
   obtain ⟨A,cc,rfl,_⟩:=hr.to_sl
   exact ⟨_,run a w hu (slr w h.1),.val⟩
 ·rename_i b hx
  split at h
  ·rename_i b' e k l hb
   refine ⟨_,_,h.2,Dm.pure_ fun V w0 n E σ a w hs hL hB=>?_⟩
   have:=(hL x).nrm_
   rw [hx] at this
   generalize hu:a.eval x=u at this
   cases this with
   | @own _ A m cc he =>
    obtain ⟨q1,q2⟩:=hB b _ hb
    obtain rfl:b'=b:=q2
    obtain ⟨q3,_⟩:=hs.holds _ q1
    rw [he] at q3
    obtain ⟨A',c',e2⟩:=q3.form
    injection e2 with _ e3 _
    subst e3
    exact ⟨_,run a w hu (slr w h.1),.val⟩
  ·rename_i b' e k l i j d hb
   refine ⟨_,_,h.2,Dm.pure_ fun V w0 n E σ a w hs hL hB=>?_⟩
   have:=(hL x).nrm_
   rw [hx] at this
   generalize hu:a.eval x=u at this
   cases this with
   | @own _ A m cc he =>
    obtain ⟨q1,q2⟩:=hB b _ hb
    obtain rfl:b'=b:=q2
    obtain ⟨q3,_⟩:=hs.holds _ q1
    rw [he] at q3
    obtain ⟨A',c',e2⟩:=q3.form
    injection e2 with _ e3 _
    subst e3
    rw [Dr] at hu
    exact ⟨_,run a w hu (slr w h.1),.val⟩
  ·exact h.elim
 ·rename_i hx
  exact ⟨_,_,h.2,Dm.pure_ fun V w0 n E σ a w _ hL _=>⟨_,run a w (Cn hL hx) (by simpa using slr (A:=none) (m:=0) (cc:=0) w h.1),.val⟩⟩
 ·rename_i s hx
  refine ⟨_,_,h.2,Dm.pure_ fun V w0 n E σ a w _ hL _=>⟨_,run a w (Cn hL hx) ?_,.val⟩⟩
  have hs:=h.1
  unfold Fu at hs
  split at hs
  ·rename_i hu
   simp [Builtin.len_,run_underlying hu,goInt]
  ·cases hs
 ·exact h.elim
theorem D45 {t : TypeId} {x : Operand} (h : match nrm (L x) with
      | .val (.slice none 0 0) => (Cq P t).isSome = true /\ K (.val (.int .i64 0)) []
      | _ => False) : D9 P G ⟨dst, .call { callee := .builtin .cap, args := #[x], argTypes := #[t] }, ty, pos, after, gd⟩ c L B K := by
  split at h
  · rename_i hx
    obtain ⟨hs, h⟩ := h
    obtain ⟨⟨e, k, y⟩, hq⟩ := Option.isSome_iff_exists.1 hs
    refine ⟨_, _, h, Dm.pure_ fun V w0 n E σ a w _ hL _ => ⟨.int .i64 0, ?_, .val⟩⟩
    simp [execOp, resolve, invoke, builtin, Cn hL hx, Builtin.cap_, run_underlying (C3 hq).1, goInt]
  · exact h.elim
theorem D43 {x y : Operand} {at_ : Array TypeId} (h : match nrm (L x), nrm (L y) with
      | .val (.int k p), .val (.int _ q) => ∃ m, max p q = m /\ K (.val (.int k m)) []
      | _, _ => False) : D9 P G ⟨dst, .call { callee := .builtin .max, args := #[x, y], argTypes := at_ }, ty, pos, after, gd⟩ c L B K := by
  split at h
  · rename_i k p j q hx hy
    obtain ⟨m, rfl, h⟩ := h
    refine ⟨_, _, h, Dm.pure_ fun V w0 n E σ a w _ hL _ => ⟨.int k (if q > p then q else p), ?_, ?_⟩⟩
    · simp [execOp, resolve, invoke, builtin, Cn hL hx, Cn hL hy, Builtin.max_, Builtin.max2]
    · rw [show max p q = if q > p then q else p by split <;> omega]
      exact .val
  · exact h.elim
theorem D42 {x y : Operand} {at_ : Array TypeId} (h : match nrm (L x), nrm (L y) with
      | .val (.int k p), .val (.int _ q) => ∃ m, min p q = m /\ K (.val (.int k m)) []
      | _, _ => False) : D9 P G ⟨dst, .call { callee := .builtin .min, args := #[x, y], argTypes := at_ }, ty, pos, after, gd⟩ c L B K := by
  split at h
  · rename_i k p j q hx hy
    obtain ⟨m, rfl, h⟩ := h
    refine ⟨_, _, h, Dm.pure_ fun V w0 n E σ a w _ hL _ => ⟨.int k (if q < p then q else p), ?_, ?_⟩⟩
    · simp [execOp, resolve, invoke, builtin, Cn hL hx, Cn hL hy, Builtin.min_, Builtin.min2]
    · rw [show min p q = if q < p then q else p by split <;> omega]
      exact .val
  · exact h.elim
end
section
variable {P : Program} {G : World -> Prop} {c : Nat} {L : Operand -> AV} {B : Nat -> Option BA} {K : AV -> List BA -> Prop}
variable {dst : Option Tmp} {ty : TypeId} {pos : String} {after : Array Edge} {gd : Option (Nat × Bool)}
theorem C7.part {X:World} {A:Option Addr} {m cc k:Nat} {l:List (List IV)} (h:C7 X (.slice A m cc) (.sl k l)) {i j d:Nat} (hij:i<=j) (hj:j<=l.length) (A':Option Addr) (hA:i < j->A'=A.map (·.add (i*k))) (hd:j - i<=d) (hd2:d<=cc) :
  C7 X (.slice A' (j - i) d) (.sl k ((l.take j).drop i)):=by
 obtain ⟨A0,c0,e,⟨h1,h2⟩,h3,h4⟩:=h.to_sl
 injection e with e1 e2 e3
 subst e1 e2 e3
 have hlen:((l.take j).drop i).length=j - i:=by rw [List.length_drop,List.length_take];omega
 refine C7.of_sl ⟨_,_,by rw [hlen],⟨by rw [hlen];exact hd,by rw [hlen];omega⟩,by omega,fun hne=>?_⟩
 have hlt:i < j:=by
  have:=List.length_pos_iff.2 hne
  omega
 have hne0:l≠[]:=by intro e;rw [e] at hj;simp at hj;omega
 obtain ⟨b,off,rfl,hb,h5⟩:=h4 hne0
 rw [hA hlt]
 refine ⟨b,off+i*k,by simp [Dq],hb,fun q x hx=>?_⟩
 rw [List.getElem?_drop] at hx
 have hq:i+q < j:=by
  have:=(List.getElem?_eq_some_iff.1 hx).1
  rw [List.length_take] at this;omega
 rw [List.getElem?_take_of_lt hq] at hx
 obtain ⟨cs,p1,p2,p3⟩:=h5 _ x hx
 refine ⟨cs,p1,p2,fun jj u hu=>?_⟩
 have:=p3 jj u hu
 rw [Nat.add_mul] at this
 rw [show off+i*k+q*k+jj=off+(i*k+q*k)+jj by omega]
 exact this
theorem By8 {t:TypeId} {x:Operand} {lo hi mx:Option Operand} (h:match Cq P t,nrm (L x) with
  | some (_,k,_),.iv (.sl k' l) =>
   k=k'/\∃ i j:Nat,(match lo with | none=>i=0 | some p=>L p=.val (.int .i64 i))/\(match hi with | none=>j=l.length | some p=>L p=.val (.int .i64 j))/\i<=j/\j<=l.length/\mxQ L mx hi j l.length (K (.iv (.sl k ((l.take j).drop i))) [])
  | some (_,k,_),.own b=>match B b,lo,hi,mx with
   | some (.row _ _ k' l),some p,none,none=>k=k'/\∃ i:Nat,L p=.val (.int .i64 i)/\i<=l.length/\K .any []
   | _,_,_,_=>False
  | _,_=>False):D9 P G ⟨dst,.slice t x lo hi mx,ty,pos,after,gd⟩ c L B K:=by
 split at h
 ·rename_i e k y k' l ht hx
  obtain ⟨rfl,i,j,hlo,hhi,hij,hj,hK⟩:=h
  obtain ⟨hu,inf,hi2,hi3,_⟩:=C3 ht
  have hK':K (.iv (.sl k ((l.take j).drop i))) []:=by
   unfold mxQ at hK
   split at hK
   ·exact hK
   ·obtain ⟨_,m,_,_,_,h⟩:=hK;exact h
  refine ⟨_,_,hK',Dm.pure_ fun V w0 n E σ a w _ hL _=>?_⟩
  have:=(hL x).nrm_
  rw [hx] at this
  generalize hxv:a.eval x=u at this
  cases this with
  | iv hr =>
   obtain ⟨A,cc,rfl,⟨h1,h2⟩,h3,h4⟩:=hr.to_sl
   have hlo':lo.map a.eval=none/\i=0\/lo.map a.eval=some (.int .i64 i):=by
    cases lo with
    | none=>exact .inl ⟨rfl,hlo⟩
    | some p=>exact .inr (by
      have:=Cn hL (x:=p) (v:=.int .i64 i) (by rw [hlo];rfl)
      simp [this])
   have hhi':hi.map a.eval=none/\j=l.length\/hi.map a.eval=some (.int .i64 j):=by
    cases hi with
    | none=>exact .inl ⟨rfl,hhi⟩
    | some p=>exact .inr (by
      have:=Cn hL (x:=p) (v:=.int .i64 j) (by rw [hhi];rfl)
      simp [this])
   have hmx:∃ m:Nat,j<=m/\m<=cc/\((mx=none/\m=cc)\/(mx.map a.eval=some (.int .i64 m)/\mx.isSome=true/\hi.isSome=true)):=by
    unfold mxQ at hK
    split at hK
    ·exact ⟨cc,by omega,Nat.le_refl _,.inl ⟨rfl,rfl⟩⟩
    ·rename_i p
     obtain ⟨e0,m,e1,e2,e3,_⟩:=hK
     exact ⟨m,e2,by omega,.inr ⟨by
      have:=Cn hL (x:=p) (v:=.int .i64 m) (by rw [e1];rfl)
      simp [this],rfl,e0⟩⟩
   obtain ⟨m,hm1,hm2,hm⟩:=hmx
   refine ⟨.slice (if m=i then A else A.map (·.add (i*k))) (j - i) (m - i),?_,.iv (hr.part hij hj _ (fun hne=>by rw [if_neg (by omega)]) (by omega) (by omega))⟩
   have hb:(Instr.sliceBounds true l.length cc (lo.map a.eval) (hi.map a.eval) (mx.map a.eval)).run P w=.ok (i,j,m) w:=by
    have i1:(0:Int)<=(i:Int)/\(i:Int)<=(j:Int):=by omega
    have i2:(0:Int)<=(j:Int)/\(j:Int)<=(m:Int):=by omega
    have i6:(0:Int)<=(m:Int)/\(m:Int)<=(cc:Int):=by omega
    have i3:i<=j:=hij
    have i4:j<=m:=hm1
    have i5:l.length<=cc:=h1
    rcases hm with ⟨rfl,rfl⟩ | ⟨e3,e4,e5⟩
    ·rcases hlo' with ⟨e1,rfl⟩ | e1<;>rcases hhi' with ⟨e2,rfl⟩ | e2<;>rw [e1,e2]<;>simp [Instr.sliceBounds,Instr.sliceBound,asIntOf,i1,i2,i3,i4,i5]
    ·rcases hhi' with ⟨e2,rfl⟩ | e2
     ·cases hi<;>simp at e2 e5
     ·rcases hlo' with ⟨e1,rfl⟩ | e1<;>rw [e1,e2,e3]<;>simp [Instr.sliceBounds,Instr.sliceBound,asIntOf,i1,i2,i3,i4,i5,i6,hm2]
   simp only [execOp,hxv]
   refine Ca ?_
   simp [Instr.sliceAt,Instr.slice,run_underlying hu,hb,sizeOf,typeInfo,hi2,hi3]
 ·rename_i e k y b ht hx
  split at h
  ·rename_i b' e' k' l p hb
   obtain ⟨rfl,i,hp,hi,hK⟩:=h
   obtain ⟨hu,inf,hi2,hi3,_⟩:=C3 ht
   refine ⟨_,_,hK,Dm.pure_ fun V w0 n E σ a w hs hL hB=>?_⟩
   have:=(hL x).nrm_
   rw [hx] at this
   generalize hxv:a.eval x=u at this
   cases this with
   | own he =>
    obtain ⟨q1,q2⟩:=hB b _ hb
    obtain rfl:b'=b:=q2
    obtain ⟨q3,_⟩:=hs.holds _ q1
    rw [he] at q3
    obtain ⟨A',cc,e2,⟨h1,_⟩,_⟩:=q3.sl
    rw [e2] at hxv
    have hp':=Cn hL (x:=p) (v:=.int .i64 i) (by rw [hp];rfl)
    refine ⟨.slice (if cc=i then A' else A'.map (·.add (i*k))) (l.length - i) (cc - i),?_,.any⟩
    have hb:(Instr.sliceBounds true l.length cc ((some p).map a.eval) none none).run P w=.ok (i,l.length,cc) w:=by
     have i1:(0:Int)<=(i:Int)/\(i:Int)<=(l.length:Int):=by omega
     have i2:(0:Int)<=(l.length:Int)/\(l.length:Int)<=(cc:Int):=by omega
     simp [hp',Instr.sliceBounds,Instr.sliceBound,asIntOf,i1,i2,hi,h1]
    simp only [execOp,hxv]
    refine Ca ?_
    simp only [Option.map_some,Option.map_none] at hb ⊢
    simp [Instr.sliceAt,Instr.slice,run_underlying hu,hb,sizeOf,typeInfo,hi2,hi3]
  ·exact h.elim
 ·exact h.elim
theorem Am8 {t:TypeId} {x i:Operand} (h:match nrm (L i) with
  | .val (.int _ m)=>match Cq P t with
   | some (_,k,_)=>match nrm (L x) with
    | .iv (.sl k' l)=>k=k'/\0<=m/\∃ cs,l[m.toNat]? = some cs/\K (.ip cs) []
    | .own b=>match B b with
     | some (.row _ _ k' l)=>k=k'/\0<=m/\m.toNat < l.length/\K (.rp b k m.toNat 0) []
     | some (.rowN _ _ k' l _ _ _)=>k=k'/\0<=m/\m.toNat < l.length/\K (.rp b k m.toNat 0) []
     | _=>False
    | _=>False
   | none=>match Ra P t,L x with
    | some (n,_,k),.bp b p=>0<=m/\m < (n:Int)/\0 < k/\K (.bp b (p+m.toNat*k)) []
    | some (n,_,k),.ip cs=>0<=m/\m < (n:Int)/\0 < k/\K (.ip (cs.drop (m.toNat*k))) []
    | _,_=>False
  | _=>False):D9 P G ⟨dst,.indexAddr t x i,ty,pos,after,gd⟩ c L B K:=by
 split at h
 ·rename_i kk m hi
  split at h
  ·rename_i e k y ht
   obtain ⟨hu,inf,hi2,hi3,_⟩:=C3 ht
   have run:∀ (a:Act) (w:World) {A:Addr} {len cc:Nat},a.eval i=.int kk m->a.eval x=.slice (some A) len cc->0<=m->m < (len:Int)->(execOp a.eval ⟨dst,.indexAddr t x i,ty,pos,after,gd⟩).run P w=.ok (.value (.pointer (some (A.add (m.toNat*k))))) w:=fun a w A len cc h1 h2 h3 h4=>by
    simp only [execOp,h1,h2]
    refine Ca ?_
    have h5:¬ (m < 0):=by omega
    simp [Instr.indexAt,asIntOf,run_underlying hu,h3,h4,sizeOf,typeInfo,hi2,hi3]
   split at h
   ·rename_i k' l hx
    obtain ⟨rfl,h0,cs,hcs,hK⟩:=h
    refine ⟨_,_,hK,Dm.pure_ fun V w0 n E σ a w hs hL _=>?_⟩
    have:=(hL x).nrm_
    rw [hx] at this
    generalize hxv:a.eval x=u at this
    cases this with
    | iv hr =>
     obtain ⟨A,cc,rfl,⟨h1,h2⟩,h3,h4⟩:=hr.to_sl
     have hlt:=(List.getElem?_eq_some_iff.1 hcs).1
     obtain ⟨b,off,rfl,hb,h5⟩:=h4 (by intro e;rw [e] at hcs;simp at hcs)
     obtain ⟨vs,p1,p2,p3⟩:=h5 _ cs hcs
     refine ⟨_,run a w (Cn hL hi) hxv h0 (by omega),?_⟩
     rw [Dq]
     refine .ip (fun j=>(vs[j]?).getD undef) (fun j u hj=>?_) fun j u hj=>?_
     ·have hj':j < vs.length:=by rw [p1.len];exact (List.getElem?_eq_some_iff.1 hj).1
      rw [List.getElem?_eq_getElem hj']
      exact p3 j _ (List.getElem?_eq_getElem hj')
     ·have hj':j < vs.length:=by rw [p1.len];exact (List.getElem?_eq_some_iff.1 hj).1
      simp only [List.getElem?_eq_getElem hj',Option.getD_some]
      exact p1.get (List.getElem?_eq_getElem hj') hj
   ·rename_i b hx
    split at h
    ·rename_i b' e' k' l hb
     obtain ⟨rfl,h0,hlt,hK⟩:=h
     refine ⟨_,_,hK,Dm.pure_ fun V w0 n E σ a w hs hL hB=>?_⟩
     have:=(hL x).nrm_
     rw [hx] at this
     generalize hxv:a.eval x=u at this
     cases this with
     | @own _ A mm cc he =>
      obtain ⟨q1,q2⟩:=hB b _ hb
      obtain rfl:b'=b:=q2
      obtain ⟨q3,q4⟩:=hs.holds _ q1
      rw [he] at q3 q4
      rcases q3.forms with ⟨_,e0⟩ | ⟨g,c2,hg,_,_⟩
      ·rw [e0] at hlt;simp at hlt
      ·injection hg with g1 g2 g3
       subst g1 g2 g3
       obtain rfl:g=E.blk b':=q4 g rfl
       refine ⟨_,run a w (Cn hL hi) hxv h0 (by omega),?_⟩
       rw [Dq]
       have:=Au.rp (E:=E) (X:=vis V w0 w (Ac E σ.bk)) (b:=b') (k:=k) (i:=m.toNat) (j:=0)
       simpa using this
    ·rename_i b' e' k' l i' j' c' hb
     obtain ⟨rfl,h0,hlt,hK⟩:=h
     refine ⟨_,_,hK,Dm.pure_ fun V w0 n E σ a w hs hL hB=>?_⟩
     have:=(hL x).nrm_
     rw [hx] at this
     generalize hxv:a.eval x=u at this
     cases this with
     | @own _ A mm cc he =>
      obtain ⟨q1,q2⟩:=hB b _ hb
      obtain rfl:b'=b:=q2
      obtain ⟨q3,q4⟩:=hs.holds _ q1
      rw [he] at q3 q4
      rcases q3.forms with ⟨_,e0⟩ | ⟨g,c2,hg,_,_⟩
      ·have f1:=congrArg List.length e0
       rw [Dr] at f1
       simp only [List.length_nil] at f1
       omega
      ·injection hg with g1 g2 g3
       rw [Dr] at g2
       subst g1 g2 g3
       obtain rfl:g=E.blk b':=q4 g rfl
       refine ⟨_,run a w (Cn hL hi) hxv h0 (by omega),?_⟩
       rw [Dq]
       have:=Au.rp (E:=E) (X:=vis V w0 w (Ac E σ.bk)) (b:=b') (k:=k) (i:=m.toNat) (j:=0)
       simpa using this
    ·exact h.elim
   ·exact h.elim
  ·split at h
   ·rename_i n q k b p ht hx
    obtain ⟨h0,h1,hk,hK⟩:=h
    refine ⟨_,_,hK,Dm.pure_ fun V w0 n' E σ a w hs hL _=>?_⟩
    obtain ⟨e,hu,hz⟩:=M3 ht
    obtain ⟨_,hz⟩:=D5 (w:=w) hz
    have:=Ml hL hx
    generalize hxv:a.eval x=u at this
    cases this
    refine ⟨.pointer (some ⟨E.blk b,p+m.toNat*k,none⟩),?_,.bp⟩
    simp only [execOp,Cn hL hi,hxv]
    refine Ca ?_
    simp [Instr.indexAt,asIntOf,run_underlying hu,Instr.sureAddr,h0,h1,hz,Dq]
   ·rename_i n q k cs ht hx
    obtain ⟨h0,h1,hk,hK⟩:=h
    refine ⟨_,_,hK,Dm.pure_ fun V w0 n' E σ a w hs hL _=>?_⟩
    obtain ⟨e,hu,hz⟩:=M3 ht
    obtain ⟨_,hz⟩:=D5 (w:=w) hz
    have:=Ml hL hx
    generalize hxv:a.eval x=u at this
    cases this with
    | @ip b o _ g p1 p2 =>
     refine ⟨.pointer (some ⟨b,o+m.toNat*k,none⟩),?_,.ip (fun j=>g (m.toNat*k+j)) (fun j u hj=>?_) fun j u hj=>?_⟩
     ·simp only [execOp,Cn hL hi,hxv]
      refine Ca ?_
      simp [Instr.indexAt,asIntOf,run_underlying hu,Instr.sureAddr,h0,h1,hz,Dq]
     ·rw [List.getElem?_drop] at hj
      rw [Nat.add_assoc];exact p1 _ u hj
     ·rw [List.getElem?_drop] at hj
      exact p2 _ u hj
   ·exact h.elim
 ·exact h.elim
theorem By9 {t:TypeId} {x i:Operand} (h:match nrm (L i),L x with
  | .val (.int _ m),.aggI cs=>match Ra P t with
   | some (n,0,1)=>0<=m/\m < (n:Int)/\∃ u,cs[m.toNat]? = some u/\K (nrm (.iv u)) []
   | _=>False
  | .val (.int _ m),.val (.string s)=>Fu P t=true/\0<=m/\∃ b,s[m.toNat]? = some b/\K (.val (.int .u8 (b.toNat:Nat))) []
  | _,_=>False):D9 P G ⟨dst,.index t x i,ty,pos,after,gd⟩ c L B K:=by
 split at h
 ·rename_i kk m cs hi hx
  split at h
  ·rename_i n ht
   obtain ⟨h0,h1,u,hu',hK⟩:=h
   refine ⟨_,_,hK,Dm.pure_ fun V w0 n' E σ a w hs hL _=>?_⟩
   have:=Ml hL hx
   generalize hxv:a.eval x=u' at this
   cases this with
   | @aggI vs _ hr =>
    obtain ⟨e,hu,hz⟩:=M3 ht
    obtain ⟨ha,hz⟩:=D5 (w:=w) hz
    have hlt:=(List.getElem?_eq_some_iff.1 hu').1
    rw [<-hr.len] at hlt
    have hv:vs[m.toNat]? = some (vs[m.toNat]'(by simpa using hlt)):=Array.getElem?_eq_getElem _
    refine ⟨vs[m.toNat]'(by simpa using hlt),?_,(Au.iv (hr.get (by rw [Array.getElem?_toList];exact hv) hu')).nrm_⟩
    simp only [execOp,Cn hL hi,hxv]
    refine Ca ?_
    simp [Instr.index,asIntOf,run_underlying hu,h0,h1,hz,part,ha,hv]
  ·exact h.elim
 ·rename_i kk m s hi hx
  obtain ⟨ht,h0,b,hb,hK⟩:=h
  refine ⟨_,_,hK,Dm.pure_ fun V w0 n' E σ a w hs hL _=>⟨_,?_,.val⟩⟩
  unfold Fu at ht
  split at ht
  ·rename_i hu
   simp only [execOp,Cn hL hi,Cn hL (x:=x) (v:=.string s) (by rw [hx];rfl)]
   refine Ca ?_
   simp [Instr.index,asIntOf,run_underlying hu,h0,hb]
  ·cases ht
 ·exact h.elim
theorem Cd5 {f : FuncId} {fo : Operand} {args : Array Operand} {at_ : Array TypeId} {caps : List AV} (hfo : L fo = .fn f caps) (hen : ∀ vs (w : World), (callFunc f vs).run P w = .ok (.enter f vs) w) (h : Ay P G B f (args.toList.map L ++ caps) c K) :
    D9 P G ⟨dst, .call { callee := .value fo, args, argTypes := at_ }, ty, pos, after, gd⟩ c L B K := by
  obtain ⟨r, nb, args', hc, hsm, hK⟩ := h
  simp only [Bool.and_eq_true] at hsm
  refine ⟨_, _, hK, fun V w0 n E σ a w hs hG hL hB N Q hN => ?_⟩
  have hfv := Ml hL hfo
  generalize hfe : a.eval fo = u at hfv
  cases hfv with
  | @fn _ vs _ p1 p2 =>
    have hexec : (execOp a.eval ⟨dst, .call { callee := .value fo, args, argTypes := at_ }, ty, pos, after, gd⟩).run P w = .ok (.enter f (args.map a.eval ++ vs)) w := by
      simp [execOp, resolve, hfe, Deferred.ofValue, invoke, hen]
    have hargs : An E (vis V w0 w (Ac E σ.bk)) (args.map a.eval ++ vs).toList (args.toList.map L ++ caps) := by
      refine ⟨by simp [p1], fun j v d e1 e2 => ?_⟩
      by_cases hj : j < args.size
      · rw [List.getElem?_append_left (by simpa using hj), List.getElem?_map, Option.map_eq_some_iff] at e2
        obtain ⟨y, e3, rfl⟩ := e2
        rw [Array.getElem?_toList, Array.getElem?_append_left (by simpa using hj), Array.getElem?_map, Option.map_eq_some_iff] at e1
        obtain ⟨y', e4, rfl⟩ := e1
        rw [Array.getElem?_toList, e4] at e3
        obtain rfl := Option.some.inj e3
        exact hL _
      · rw [List.getElem?_append_right (by simp; omega)] at e2
        rw [Array.getElem?_toList, Array.getElem?_append_right (by simp; omega)] at e1
        simp only [List.length_map, Array.length_toList] at e2
        simp only [Array.size_map] at e1
        exact p2 _ v d e1 e2
    unfold Oper.wp
    rw [hexec, Oper.upon_enter]
    have hlt := hs.lt
    have h0 := hs.low.size
    -- what the callee gives, seen by the caller
    have fin : ∀ {gs : List Nat} (Vc : World), Vc = vis V w0 w gs -> (∀ g ∈ gs, g < w.heap.size) -> (∀ (E' : Env) (w' : World) (v : Value), (∀ b ∈ nb, b.holds E' (vis Vc w w' (Ac E' nb)) w' w.heap.size) -> Au E' (vis Vc w w' (Ac E' nb)) v r -> (Ext (vis Vc w w' (Ac E' nb)) (vis V w0 w' (Ac E' nb ++ gs))) ->
          (∀ b ∈ nb, b.holds E' (vis V w0 w' (Ac E' nb ++ Ac E σ.bk)) w' w.heap.size) /\ Au E' (vis V w0 w' (Ac E' nb ++ Ac E σ.bk)) v r) -> A7 P G f args' r nb -> An E Vc (args.map a.eval ++ vs).toList args' ->
        Calls P f (args.map a.eval ++ vs) w fun
          | .returned v, w'' => N (a.put dst v) w''
          | .panicked chain, w'' => Q (.panic chain) a w''
          | .outgrown, _ => LetsOut Q := fun {gs} Vc hVc hgs hfl hcall hav => by
      subst hVc
      refine (hcall.2 _ w E _ (R8 hs.ext hs.low) hG hav).mono ?_
      rintro e w' ⟨v, E', rfl, hb, hnd, hnew, hh, hv⟩
      obtain ⟨hh2, hv2⟩ := hfl E' w' v hh hv (Bf8 hgs h0 hb hnew)
      have ho := X5 (E := E) (E' := E') (c := c) hsm.2
      refine hN v w' (Env.join E E' c) ⟨hb, ⟨Env.join_same E E' c, .inr rfl⟩, by rw [ho]; exact hnd, by rw [ho]; exact hnew, fun b hb' => ?_, by rw [ho]; exact hv2.sh hsm.1⟩
      obtain ⟨b0, hb0, rfl⟩ := A54 hb'
      rw [ho]
      exact BA.holds_base (BA.sh_holds (hh2 b0 hb0) (Rc hsm.2 b0 hb0)) h0
    rcases hc with ⟨hsub, hcall⟩ | ⟨hl, hfr, hfb, hsub, hcall⟩
    · refine fin (gs := Ac E σ.bk) _ rfl hlt (fun E' w' v hh hv hx => ⟨fun b hb => ?_, hv.mono hx⟩) hcall (hsub _ _ _ hargs)
      exact BA.holds_ext (Env.same_refl 0 0 E') hx (fun _ _ => rfl) b.off_none (hh b hb)
    · refine fin (gs := []) _ rfl (fun _ h => by cases h) (fun E' w' v hh hv hx => ⟨fun b hb => BA.flat_holds hfb hb (hh b hb), hv.flat hfr⟩) hcall (hsub _ _ _ ⟨by rw [Kh]; exact hargs.1, fun j v d e1 e2 => ?_⟩)
      rw [Ki, Option.map_eq_some_iff] at e2
      obtain ⟨d', e3, rfl⟩ := e2
      exact hs.view hB hl (hargs.2 j v d' e1 e3)
end
def Qi (cells:Array Value) (off:Nat):List Value->Array Value
 | []=>cells
 | v :: vs=>Qi (cells.setIfInBounds off v) (off+1) vs
theorem Zu (off:Nat):∀ (vs:List Value) (cells:Array Value),(Qi cells off vs).size=cells.size:=by
 intro vs
 induction vs generalizing off with
 | nil=>exact fun _=>rfl
 | cons v vs ih=>intro cells;simp [Qi,ih]
theorem X6 (i:Nat):∀ (vs:List Value) (off:Nat) (cells:Array Value),(Qi cells off vs)[i]? = if off<=i/\i < off+vs.length/\i < cells.size then vs[i - off]? else cells[i]? := by
 intro vs
 induction vs with
 | nil=>intro off cells;simp [Qi];omega
 | cons v vs ih =>
  intro off cells
  simp only [Qi,ih,Array.size_setIfInBounds,Array.getElem?_setIfInBounds,List.length_cons]
  by_cases h1:off=i
  ·subst h1
   by_cases h2:off < cells.size
   ·rw [if_neg (by omega),if_pos (by omega)];simp [h2]
   ·rw [if_neg (by omega)];simp [h2]
  ·by_cases h2:off<=i/\i < off+(vs.length+1)/\i < cells.size
   ·rw [if_pos (by omega),if_pos h2,show i - off=(i - (off+1))+1 by omega,List.getElem?_cons_succ]
   ·rw [if_neg (by omega),if_neg h2,if_neg h1]
theorem Bc3 (off:Nat):∀ (l:List Value) (j:Nat) (cells:Array Value),(l.zipIdx j).foldl (fun cs (x:Value×Nat)=>cs.setIfInBounds (off+x.2) x.1) cells=Qi cells (off+j) l:=by
 intro l
 induction l with
 | nil=>exact fun _ _=>rfl
 | cons v l ih=>intro j cells;simp only [List.zipIdx_cons,List.foldl_cons,ih,Qi];rfl
theorem Ue {place:Nat->Option (Nat×Nat)} {cells:Array Value} {i off size:Nat} {v:Value} {rest:List (Nat×Value)} (h:place i=some (off,size)) (h1:v.cells.size=size) (h2:off+size<=cells.size) :
  Instr.fill place cells ((i,v) :: rest)=Instr.fill place (Qi cells off v.cells.toList) rest:=by
 have e:v.cells.zipIdx.foldl (fun cs (x:Value×Nat)=>cs.setIfInBounds (off+x.2) x.1) cells=Qi cells off v.cells.toList:=by
  rw [<-Array.foldl_toList,Array.toList_zipIdx]
  exact Bc3 off _ 0 cells
 conv=>lhs;unfold Instr.fill
 simp only [h]
 rw [if_neg (by simp only [Bool.or_eq_true,decide_eq_true_eq];omega)]
 exact congrArg (fun c=>Instr.fill place c rest) e
theorem Bo3 (k:Nat):∀ (xs:List Value) (s:Nat) (cells:Array Value),(∀ v∈xs,v.cells.size=k)->cells.size=(s+xs.length)*k ->
  ∃ out:Array Value,Instr.fill (fun i=>some (i*k,k)) cells (xs.zipIdx s |>.map fun x=>(x.2,x.1))=some out/\out.size=cells.size /\
   (∀ j,j < s*k->out[j]? = cells[j]?)/\∀ (i:Nat) v,xs[i]? = some v->∀ j u,v.cells[j]? = some u->out[(s+i)*k+j]? = some u:=by
 intro xs
 induction xs with
 | nil=>exact fun s cells _ _=>⟨cells,rfl,rfl,fun _ _=>rfl,fun i v h=>by simp at h⟩
 | cons v xs ih =>
  intro s cells hk hs
  have hvk:=hk v (by simp)
  have hsz:s*k+k<=cells.size:=by
   rw [hs,List.length_cons,Nat.add_mul]
   have:k<=(xs.length+1)*k:=by rw [Nat.add_mul];omega
   omega
  simp only [List.zipIdx_cons,List.map_cons]
  rw [Ue (off:=s*k) (size:=k) rfl hvk hsz]
  obtain ⟨out,o1,o2,o3,o4⟩:=ih (s+1) (Qi cells (s*k) v.cells.toList) (fun u hu=>hk u (List.mem_cons_of_mem _ hu)) (by rw [Zu,hs,List.length_cons];congr 1;omega)
  refine ⟨out,o1,by rw [o2,Zu],fun j hj=>?_,fun i u hu j c hc=>?_⟩
  ·rw [o3 j (by rw [Nat.add_mul];omega),X6,if_neg (by omega)]
  ·cases i with
   | zero =>
    simp at hu
    subst hu
    have hj:j < k:=by rw [<-hvk];exact (Array.getElem?_eq_some_iff.1 hc).1
    rw [Nat.add_zero,o3 _ (by rw [Nat.add_mul];omega),X6,if_pos (by simp [hvk];omega),Nat.add_sub_cancel_left]
    simpa using hc
   | succ i =>
    have:=o4 i u (by simpa using hu) j c hc
    rwa [show s+1+i=s+(i+1) by omega] at this
section
variable {P : Program} {G : World -> Prop} {c : Nat} {L : Operand -> AV} {B : Nat -> Option BA} {K : AV -> List BA -> Prop}
variable {dst : Option Tmp} {ty : TypeId} {pos : String} {after : Array Edge} {gd : Option (Nat × Bool)}
theorem Bd6 {α:Type} {R:List Value->α->Prop} {k:Nat} : ∀ (l:List α) (s:Nat) (xs:List Value),xs.length=(s+l.length)*k->(∀ i x,l[i]? = some x->∃ cs,R cs x/\cs.length=k/\∀ j u,cs[j]? = some u->xs[(s+i)*k+j]? = some u)->Bh R k (xs.drop (s*k)) l:=by
 intro l
 induction l with
 | nil=>intro s xs hl _;simp only [Bh];exact List.drop_eq_nil_of_le (by rw [hl];simp)
 | cons x l ih =>
  intro s xs hl h
  obtain ⟨cs,h1,h2,h3⟩:=h 0 x rfl
  refine ⟨cs,xs.drop ((s+1)*k),?_,h2,h1,ih (s+1) xs (by rw [hl,List.length_cons];congr 1;omega) fun i y hy=>?_⟩
  ·apply List.ext_getElem?
   intro j
   rw [List.getElem?_drop]
   by_cases hj:j < k
   ·have h5:=h3 j _ (List.getElem?_eq_getElem (by omega))
    rw [Nat.add_zero] at h5
    rw [List.getElem?_append_left (by omega),h5,List.getElem?_eq_getElem (by omega)]
   ·rw [List.getElem?_append_right (by omega),List.getElem?_drop,h2]
    congr 1
    rw [Nat.add_mul];omega
  ·have:=h (i+1) y (by simpa using hy)
   rwa [show s+(i+1)=s+1+i by omega] at this
theorem A34 {t:TypeId} {len e k y:Nat} {parts:Array (Nat×Operand)} {l:List (List IV)} (ht:Cq P t=some (e,k,y)) (hz:(tyZ P e).isSome=true) (hlen:l.length=len) (hk:0 < k) (hbig:len*k<=16777216)
  (hparts:∀ (i:Nat) (cs:List IV),l[i]? = some cs->cs.length=k/\∃ x,parts[i]? = some (i,x)/\okC (L x)=true/\AsI (Bc (L x)) cs) (hps:parts.size=len)
  {V w0:World} {n:Fm} {E:Env} {σ:Ab} {a:Act} {w:World} (hL:∀ x,Au E (vis V w0 w (Ac E σ.bk)) (a.eval x) (L x)) :
  ∃ out:Array Value,out.size=len*k/\(∀ (i:Nat) (cs:List IV),l[i]? = some cs->∃ vs:List Value,Av (vis V w0 w (Ac E σ.bk)) vs cs/\vs.length=k/\∀ (j:Nat) u,vs[j]? = some u->out.toList[i*k+j]? = some u) /\
   (execOp a.eval ⟨dst,.buildSlice t len parts,ty,pos,after,gd⟩).run P w=.ok (.value (.slice (some ⟨w.heap.size,0,none⟩) len len)) (w.alloc (.cells out e)):=by
  obtain ⟨hu,inf,hi2,hi3,_⟩:=C3 ht
  obtain ⟨⟨zq,zs⟩,hz⟩:=Option.isSome_iff_exists.1 hz
  obtain ⟨z,z1,z2,_⟩:=A45 (w:=w) hz
  -- the parts' values
  have hval:∀ i,i < len->∃ x cs,parts[i]? = some (i,x)/\l[i]? = some cs/\Av (vis V w0 w (Ac E σ.bk)) (a.eval x).cells.toList cs/\(a.eval x).cells.size=k:=fun i hi=>by
   have hi':i < l.length:=by omega
   obtain ⟨p0,x,p1,p2,p3⟩:=hparts i _ (List.getElem?_eq_getElem hi')
   have hr:=p3 _ _ _ ((hL x).cells p2).1
   refine ⟨x,_,p1,List.getElem?_eq_getElem hi',hr,?_⟩
   have:=hr.len
   rw [p0] at this
   simpa using this
  have hvs:(parts.map fun (i,x)=>(i,a.eval x)).toList=((parts.toList.map fun p=>a.eval p.2).zipIdx 0).map fun x=>(x.2,x.1):=by
   apply List.ext_getElem?
   intro i
   rw [Array.toList_map,List.getElem?_map,List.getElem?_map,List.getElem?_zipIdx,List.getElem?_map,Array.getElem?_toList]
   by_cases hi:i < len
   ·obtain ⟨x,cs,p1,_⟩:=hval i hi
    rw [p1];simp
   ·rw [Array.getElem?_eq_none (by omega)];rfl
  obtain ⟨out,o1,o2,_,o4⟩:=Bo3 k (parts.toList.map fun p=>a.eval p.2) 0 ((Array.range (len*k)).map (z.cells[· % z.cells.size]!)) (fun v hv=>by
   obtain ⟨p,hp,rfl⟩:=List.mem_map.1 hv
   obtain ⟨i,hi⟩:=List.mem_iff_getElem?.1 hp
   have hi2:i < len:=by have:=(List.getElem?_eq_some_iff.1 hi).1;simp at this;omega
   obtain ⟨x,cs,p1,_,_,p4⟩:=hval i hi2
   rw [Array.getElem?_toList,p1] at hi
   obtain rfl:=Option.some.inj hi
   exact p4) (by simp [hps])
  simp only [Array.size_map,Array.size_range] at o2
  have hexec:(execOp a.eval ⟨dst,.buildSlice t len parts,ty,pos,after,gd⟩).run P w=.ok (.value (.slice (some ⟨w.heap.size,0,none⟩) len len)) (w.alloc (.cells out e)):=by
   simp only [execOp]
   refine Ca ?_
   have hb:¬ (len*k > 2 ^ 24):=by omega
   simp only [Instr.buildSlice,hvs]
   by_cases h0:len*k=0
   ·have hl0:len=0:=by
     rcases Nat.mul_eq_zero.1 h0 with h | h
     ·exact h
     ·omega
    subst hl0
    have hp0:parts=#[]:=Array.eq_empty_of_size_eq_zero hps
    subst hp0
    simp only [Nat.zero_mul] at o1 o2
    have hout:out=#[]:=Array.eq_empty_of_size_eq_zero o2
    subst hout
    simp only [Sem.run_bind,run_underlying hu,Result.andThen_ok,sizeOf,run_typeInfo w hi2,Sem.run_pure,newRow,newObj,hi3,if_neg hb,if_pos h0]
    simp [Instr.fill,Sem.run]
    have e0:Array.map (fun _=>(default:Value)) (Array.range 0)=#[]:=Array.eq_empty_of_size_eq_zero (by simp)
    rw [e0]
   ·simp only [Sem.run_bind,run_underlying hu,Result.andThen_ok,sizeOf,run_typeInfo w hi2,Sem.run_pure,newRow,newObj,hi3,if_neg hb,if_neg h0,z1,o1]
    rfl
  refine ⟨out,o2,fun i cs hi=>?_,hexec⟩
  have hil:i < len:=by rw [<-hlen];exact (List.getElem?_eq_some_iff.1 hi).1
  obtain ⟨x,cs',p1,p2,p3,p4⟩:=hval i hil
  rw [p2] at hi
  obtain rfl:=Option.some.inj hi
  refine ⟨_,p3,by simpa using p4,fun j u hj=>?_⟩
  have:=o4 i (a.eval x) (by rw [List.getElem?_map,Array.getElem?_toList,p1];rfl) j u (by simpa using hj)
  simpa using this
theorem Bz1 {t:TypeId} {len:Nat} {parts:Array (Nat×Operand)} (h:match Cq P t with
  | some (e,k,_)=>(tyZ P e).isSome=true/\∃ l:List (List IV),l.length=len/\0 < k/\len*k<=16777216/\(∀ (i:Nat) (cs:List IV),l[i]? = some cs->cs.length=k/\∃ x,parts[i]? = some (i,x)/\okC (L x)=true/\AsI (Bc (L x)) cs)/\parts.size=len/\(K (.own c) [.row c e k l]\/K (.iv (.sl k l)) [])
  | none=>False):D9 P G ⟨dst,.buildSlice t len parts,ty,pos,after,gd⟩ c L B K:=by
 split at h
 ·rename_i e k y ht
  obtain ⟨hz,l,hlen,hk,hbig,hparts,hps,hK⟩:=h
  have hle:len<=len*k:=Nat.le_mul_of_pos_right _ hk
  rcases hK with hK | hK
  ·refine ⟨_,_,hK,fun V w0 n E σ a w hs hG hL _ N Q hN=>?_⟩
   obtain ⟨out,o2,o4,hexec⟩:=A34 (dst:=dst) (ty:=ty) (pos:=pos) (after:=after) (gd:=gd) ht hz hlen hk hbig hparts hps (n:=n) hL
   unfold Oper.wp
   rw [hexec,Oper.upon_value]
   have hE:Env.same c (c+100) E ⟨fun b=>if b=c then w.heap.size else E.blk b,fun b=>if b=c then .slice (some ⟨w.heap.size,0,none⟩) len len else E.row b⟩:=fun b hb=>by
    have:¬ b=c:=by omega
    simp [this]
   have hbel:=Ap (o:=.cells out e) (Below.refl _ w)
   have ho:Ac ⟨fun b=>if b=c then w.heap.size else E.blk b,fun b=>if b=c then .slice (some ⟨w.heap.size,0,none⟩) len len else E.row b⟩ [.row c e k l]=[w.heap.size]:=by
    simp [Ac,BA.owned,Value.ownBlock]
   have hx:Ext (vis V w0 w (Ac E σ.bk)) (vis V w0 (w.alloc (.cells out e)) ([w.heap.size]++Ac E σ.bk)):=D1 hbel.size fun p u _ h4 h5 h6=>⟨fun hm=>by
    rcases List.mem_append.1 hm with hm | hm
    ·simp at hm;omega
    ·exact h5 hm,Ao hbel h6⟩
   have hch:Bh (Av (vis V w0 (w.alloc (.cells out e)) ([w.heap.size]++Ac E σ.bk))) k out.toList l:=by
    have:=Bd6 (R:=Av (vis V w0 (w.alloc (.cells out e)) ([w.heap.size]++Ac E σ.bk))) (k:=k) l 0 out.toList (by simp [o2,hlen]) fun i cs hi=>by
     obtain ⟨vs,p3,p4,p5⟩:=o4 i cs hi
     exact ⟨vs,p3.ext hx,p4,fun j u hj=>by simpa using p5 j u hj⟩
    simpa using this
   refine hN _ _ ⟨fun b=>if b=c then w.heap.size else E.blk b,fun b=>if b=c then .slice (some ⟨w.heap.size,0,none⟩) len len else E.row b⟩ ⟨hbel,⟨hE,.inr rfl⟩,by rw [ho];simp,fun g hg=>by rw [ho] at hg;simp at hg;omega,fun b' hb'=>?_,?_⟩
   ·rw [ho]
    simp only [List.mem_singleton] at hb'
    subst hb'
    refine ⟨?_,fun g hg=>by simp [Value.ownBlock] at hg;simp [hg]⟩
    simp only [if_true]
    have hbl:=Ai.of_blk (w:=w.alloc (.cells out e)) (g:=w.heap.size) (e:=e) (cs:=out) (l:=l) (Blk.new _ _ _) hch (by omega)
    rw [hlen] at hbl
    exact hbl.base hs.low.size
   ·refine .own (E:=⟨fun b=>if b=c then w.heap.size else E.blk b,fun b=>if b=c then .slice (some ⟨w.heap.size,0,none⟩) len len else E.row b⟩) ?_
    simp
  ·refine ⟨_,_,hK,fun V w0 n E σ a w hs hG hL _ N Q hN=>?_⟩
   obtain ⟨out,o2,o4,hexec⟩:=A34 (dst:=dst) (ty:=ty) (pos:=pos) (after:=after) (gd:=gd) ht hz hlen hk hbig hparts hps (n:=n) hL
   unfold Oper.wp
   rw [hexec,Oper.upon_value]
   have hbel:=Ap (o:=.cells out e) (Below.refl _ w)
   have hx:Ext (vis V w0 w (Ac E σ.bk)) (vis V w0 (w.alloc (.cells out e)) (Ac E σ.bk)):=D1 hbel.size fun p u _ _ h5 h6=>⟨h5,Ao hbel h6⟩
   have hnot:w.heap.size∉Ac E σ.bk:=fun hm=>absurd (hs.lt _ hm) (Nat.lt_irrefl _)
   refine hN _ _ E ⟨hbel,⟨Env.same_refl _ _ E,.inl rfl⟩,List.nodup_nil,(fun g hg=>by cases hg),(fun b' hb'=>by cases hb'),?_⟩
   refine .iv (C7.of_sl ⟨some ⟨w.heap.size,0,none⟩,len,by rw [hlen],⟨by omega,by omega⟩,by unfold maxLen;omega,fun _=>⟨w.heap.size,0,rfl,?_,fun i cs hi=>?_⟩⟩)
   ·show w.heap.size < (vis V w0 (w.alloc (.cells out e)) _).heap.size
    rw [Ff];simp
   ·obtain ⟨vs,p3,p4,p5⟩:=o4 i cs hi
    refine ⟨vs,p3.ext hx,p4,fun j u hj=>?_⟩
    show (vis V w0 (w.alloc (.cells out e)) (Ac E σ.bk)).cell? _=some u
    rw [Gz hs.low.size,if_neg hnot,(Blk.new w e out).cell]
    simpa using p5 j u hj
 ·exact h.elim
theorem Af8 {E:Env} {X:World} : ∀ (vs:List Value) (ds:List AV) (off:Nat) (cells:Array Value) (cs:List AV),An E X cells.toList cs->An E X vs ds->An E X (Qi cells off vs).toList (Et cs off ds)
 | [],[],off,cells,cs,h,_=>h
 | v :: vs,d :: ds,off,cells,cs,h,hr=>by
  obtain ⟨v',vs',e,h1,h2⟩:=An.cons_iff.1 hr
  injection e with e1 e2
  subst e1 e2
  refine Af8 vs ds (off+1) _ _ ?_ h2
  rw [Array.toList_setIfInBounds]
  exact h.set_ h1 off
 | [],_ :: _,_,_,_,_,hr=>absurd hr.1 (by simp)
 | _ :: _,[],_,_,_,_,hr=>absurd hr.1 (by simp)
theorem Ug {E:Env} {X:World} {L:Operand->AV} {a:Act} (hL:∀ x,Au E X (a.eval x) (L x)) {places:List (Nat×Nat)} : ∀ (parts:List (Nat×Operand)) (cells:Array Value) (cs out:List AV),An E X cells.toList cs ->
  R2 places cs (parts.map fun p=>(p.1,L p.2))=some out->∃ C,Instr.fill (places.toArray[·]?) cells (parts.map fun p=>(p.1,a.eval p.2))=some C/\An E X C.toList out
 | [],cells,cs,out,h,hf=>by
  simp only [List.map_nil,R2,Option.some.injEq] at hf
  subst hf
  exact ⟨cells,rfl,h⟩
 | p :: parts,cells,cs,out,h,hf=>by
  simp only [List.map_cons,R2] at hf
  split at hf
  ·cases hf
  ·rename_i off size hp
   split at hf
   ·rename_i hc
    obtain ⟨c1,c2,c3⟩:=hc
    obtain ⟨hv,_⟩:=(hL p.2).cells c2
    have hsz:(a.eval p.2).cells.size=size:=by
     have:=hv.1
     rw [c1] at this
     simpa using this
    have hcs:off+size<=cells.size:=by
     have:=h.1
     simp at this;omega
    obtain ⟨C,h1,h2⟩:=Ug hL parts (Qi cells off (a.eval p.2).cells.toList) _ out (Af8 _ _ off cells cs h hv) hf
    refine ⟨C,?_,h2⟩
    rw [List.map_cons,Ue (off:=off) (size:=size) (by simpa using hp) hsz hcs]
    exact h1
   ·cases hf
theorem Xx {P:Program} {w:World} : ∀ {fs:List Field} {l:List (Nat×Nat)},(fs.mapM fun f=>(P.info? f.type).map fun i=>(f.offset,i.size))=some l->(fs.mapM fun f=>(do return (f.offset,<-sizeOf f.type):Sem (Nat×Nat))).run P w=.ok l w
 | [],l,h=>by simp at h;subst h;rfl
 | f :: fs,l,h=>by
  simp only [List.mapM_cons,Option.bind_eq_bind,Option.bind_eq_some_iff,Option.map_eq_some_iff,Option.pure_def,Option.some.injEq] at h
  obtain ⟨x,⟨i,hi,rfl⟩,l',h1,rfl⟩:=h
  have h2:=Xx h1 (w:=w)
  rw [List.mapM_cons]
  simp only [Sem.run_bind,sizeOf,run_typeInfo w hi,Result.andThen_ok,Sem.run_pure] at h2 ⊢
  rw [h2]
  rfl
theorem Qb {pl pl':Nat->Option (Nat×Nat)} (h:∀ i q,pl i=some q->pl' i=some q):∀ (parts:List (Nat×Value)) (cells C:Array Value),Instr.fill pl cells parts=some C->Instr.fill pl' cells parts=some C
 | [],cells,C,hf=>hf
 | (i,v) :: rest,cells,C,hf=>by
  unfold Instr.fill at hf ⊢
  cases hp:pl i with
  | none=>rw [hp] at hf;cases hf
  | some q =>
   rw [hp] at hf
   rw [h i q hp]
   simp only at hf ⊢
   split at hf
   ·cases hf
   ·rename_i hc
    rw [if_neg hc]
    exact Qb h rest _ C hf
theorem Bo7 {t:TypeId} {parts:Array (Nat×Operand)} (h:match M2 P t with
  | some (zs,places)=>match R2 places (zs.map AV.val) (parts.toList.map fun p=>(p.1,L p.2)) with
   | some cs=>K (.agg cs) []
   | none=>False
  | none=>False):D9 P G ⟨dst,.build t parts,ty,pos,after,gd⟩ c L B K:=by
 split at h
 ·rename_i zs places hb
  split at h
  ·rename_i cs hf
   refine ⟨_,_,h,Dm.pure_ fun V w0 n E σ a w hs hL _=>?_⟩
   unfold M2 at hb
   split at hb
   ·rename_i fs z hu hz
    simp only [Option.map_eq_some_iff,Prod.mk.injEq] at hb
    obtain ⟨l,hl,rfl,rfl⟩:=hb
    obtain ⟨i,hi,hz⟩:=Option.bind_eq_some_iff.1 hz
    obtain ⟨C,h1,h2⟩:=Ug hL parts.toList z.cells _ cs (An.ofVals z.cells.toList) hf
    refine ⟨.agg C,?_,.agg (by simpa using h2.1) fun j v d a b=>h2.2 j v d (by rw [Array.getElem?_toList];exact a) b⟩
    simp only [execOp]
    refine Ca ?_
    have hzr:(zeroValue t).run P w=.ok z w:=by simp [zeroValue,run_typeInfo w hi,hz]
    have hm:(fs.mapM fun f=>(do return (f.offset,<-sizeOf f.type):Sem (Nat×Nat))).run P w=.ok l.toArray w:=by
     have h3:=Xx hl (w:=w)
     rw [Array.mapM_eq_mapM_toList]
     simp only [Sem.run_bind,Sem.run_map,h3,Result.andThen_ok,Sem.run_pure]
    have hp:(parts.map fun (i,x)=>(i,a.eval x)).toList=parts.toList.map fun p=>(p.1,a.eval p.2):=by simp
    simp only [Instr.build,Sem.run_bind,hzr,Result.andThen_ok,run_underlying hu,Sem.run_pure,hm,hp,h1]
   ·rename_i n0 e0 z hu hz
    simp only [Option.map_eq_some_iff,Prod.mk.injEq] at hb
    obtain ⟨ie,hie,rfl,rfl⟩:=hb
    obtain ⟨i,hi,hz⟩:=Option.bind_eq_some_iff.1 hz
    obtain ⟨C,h1,h2⟩:=Ug hL parts.toList z.cells _ cs (An.ofVals z.cells.toList) hf
    refine ⟨.agg C,?_,.agg (by simpa using h2.1) fun j v d a b=>h2.2 j v d (by rw [Array.getElem?_toList];exact a) b⟩
    simp only [execOp]
    refine Ca ?_
    have hzr:(zeroValue t).run P w=.ok z w:=by simp [zeroValue,run_typeInfo w hi,hz]
    have hs:(sizeOf e0).run P w=.ok ie.size w:=by simp [sizeOf,run_typeInfo w hie]
    have hp:(parts.map fun (i,x)=>(i,a.eval x)).toList=parts.toList.map fun p=>(p.1,a.eval p.2):=by simp
    have h1':=Qb (pl':=fun i=>some (i*ie.size,ie.size)) (fun k q hq=>by
     simp only [List.getElem?_toArray,List.getElem?_map,Option.map_eq_some_iff] at hq
     obtain ⟨m,hm,rfl⟩:=hq
     obtain ⟨hlt,rfl⟩:=List.getElem?_eq_some_iff.1 hm
     simp) _ _ _ h1
    simp only [Instr.build,Sem.run_bind,hzr,Result.andThen_ok,run_underlying hu,hs,Sem.run_pure,hp,h1']
   ·cases hb
  ·exact h.elim
 ·exact h.elim
theorem Bc9 {t:TypeId} {r:Option Operand} (h:match Qf P t with
  | some (k,_)=>(match r with | none=>True | some x=>∃ q m,nrm (L x)=.val (.int q m))/\K (.mv c) [.mp c k []]
  | none=>False):D9 P G ⟨dst,.makeMap t r,ty,pos,after,gd⟩ c L B K:=by
 split at h
 case h_2=>exact h.elim
 rename_i k z ht
 obtain ⟨hr,hK⟩:=h
 refine ⟨_,_,hK,fun V w0 n E σ a w hs hG hL _ N Q hN=>?_⟩
 obtain ⟨kt,et,hu,_,_⟩:=M0 (w:=w) ht
 have hrun:(execOp a.eval ⟨dst,.makeMap t r,ty,pos,after,gd⟩).run P w=.ok (.value (.map (some w.heap.size))) (w.alloc (.map #[] 0)):=by
  cases r with
  | none=>simp [execOp,Instr.makeMap]
  | some x =>
   obtain ⟨q,m,hx⟩:=hr
   simp [execOp,Instr.makeMap,Cn hL hx,run_underlying hu,asInt,asIntOf]
 unfold Oper.wp
 rw [hrun]
 have hE:Env.same c (c+100) E ⟨fun b=>if b=c then w.heap.size else E.blk b,E.row⟩:=fun b hb=>by
  have:¬ b=c:=by omega
  simp [this]
 have hbel:=Ap (o:=.map #[] 0) (Below.refl _ w)
 have ho:Ac ⟨fun b=>if b=c then w.heap.size else E.blk b,E.row⟩ [.mp c k []]=[w.heap.size]:=by simp [Ac,BA.owned]
 refine hN _ _ ⟨fun b=>if b=c then w.heap.size else E.blk b,E.row⟩ ⟨hbel,⟨hE,.inr rfl⟩,by rw [ho];simp,fun g hg=>by rw [ho] at hg;simp at hg;omega,fun b' hb'=>?_,?_⟩
 ·simp only [List.mem_singleton] at hb'
  subst hb'
  exact ⟨#[],0,by simp only [if_true];exact World.alloc_heap_new _ _,rfl⟩
 ·have:=Au.mv (E:=⟨fun b=>if b=c then w.heap.size else E.blk b,E.row⟩) (X:=vis V w0 (w.alloc (.map #[] 0)) (Ac ⟨fun b=>if b=c then w.heap.size else E.blk b,E.row⟩ [.mp c k []]++Ac E σ.bk)) (b:=c)
  simpa using this
theorem Bo8 {t:TypeId} {x i:Operand} {ok:Bool} (h:match Qf P t,L x,nrm (L i) with
  | some (k,z),.mv b,.val (.int k' m)=>match B b with
   | some (.mp _ k'' kv)=>ok=false/\k'=k/\k''=k/\∃ u,(Jq kv m).getD z=u/\K (.val u) []
   | _=>False
  | _,_,_=>False):D9 P G ⟨dst,.lookup t x i ok,ty,pos,after,gd⟩ c L B K:=by
 split at h
 case h_2=>exact h.elim
 rename_i k z b k' m ht hx hi
 split at h
 case h_2=>exact h.elim
 rename_i b' k'' kv hB
 obtain ⟨rfl,rfl,rfl,u,hu,hK⟩:=h
 refine ⟨_,_,hK,Dm.pure_ fun V w0 n E σ a w hs hL hBm=>⟨u,?_,.val⟩⟩
 obtain ⟨kt,et,h1,h2,z1⟩:=M0 (w:=w) ht
 obtain ⟨q1,q2⟩:=hBm b _ hB
 obtain rfl:b'=b:=q2
 obtain ⟨es,cl,p1,p2⟩:=hs.holds _ q1
 have hxv:=Ml hL hx
 generalize hxe:a.eval x=xv at hxv
 cases hxv
 have hkey:=MapKept.run_checkKey (P:=P) (w:=w) h2 (k:=.int k'' m) (by simp [MapKept.IsKey]) es.isEmpty 9999
 rcases Sz (k:=k'') (m:=m) 0 p2 with ⟨f1,f2,_⟩ | ⟨j,v,f1,f2,_⟩
 ·rw [f2] at hu
  have hf:=MapKept.run_findKey (P:=P) (w:=w) h2 f1
  simp only [execOp,hxe,Cn hL hi]
  refine Ca ?_
  simp [Instr.lookup,run_underlying h1,MapKept.run_getObj_map p1,hkey,hf,z1,<-hu]
 ·rw [f2] at hu
  have hf:=MapKept.run_findKey (P:=P) (w:=w) h2 f1
  simp only [execOp,hxe,Cn hL hi]
  refine Ca ?_
  simp [Instr.lookup,run_underlying h1,MapKept.run_getObj_map p1,hkey,hf,<-hu]
theorem Au0 {o:Oper} (hf:Gl o=true->∀ x,(L x).off c (c+100)=true) (h:qop P G L B o c K):D9 P G o c L B K:=by
 obtain ⟨dst,op,ty,pos,after,gd⟩:=o
 unfold qop at h
 cases op with
 | move x=>exact Cd1 h
 | assign x=>exact Bo9 h
 | pick b x y=>exact Cd0 h
 | alloc e =>
  simp only at h
  split at h
  ·rename_i zs hz
   exact B43 hz (.inl ⟨rfl,h⟩)
  ·rename_i q zs _ hz
   exact B43 hz (.inr h)
  ·exact h.elim
 | box e x=>exact D46 (hf rfl x) h
 | load t x =>
  simp only at h
  split at h
  ·rename_i q s ht
   exact Cd2 ht h
  ·exact h.elim
 | nilCheck x=>exact D40 h
 | binOp op t x y tz=>exact D47 h
 | unOp op t x=>exact Dw5 h
 | convert s d x=>exact Cd4 h
 | makeFunc fn first caps=>cases fn<;>first | exact Cd3 h | exact h.elim
 | slice t x lo hi mx=>exact By8 h
 | fieldAddr t x f=>exact Am9 h
 | field t x f=>exact Bz0 h
 | indexAddr t x i=>exact Am8 h
 | index t x i=>exact By9 h
 | extract x i=>exact Bd0 h
 | makeMap t r=>exact Bc9 h
 | lookup t x i ok=>exact Bo8 h
 | build t parts=>exact Bo7 h
 | buildSlice t len parts=>exact Bz1 h
 | call cl =>
  obtain ⟨callee,args,at_⟩:=cl
  cases callee with
  | value fo =>
   simp only at h
   split at h
   ·rename_i f caps hfo
    have h':=h
    obtain ⟨r,nb,args',hc,_⟩:=h'
    refine Cd5 hfo (fun vs w=>?_) h
    rcases hc with ⟨_,hc⟩ | ⟨_,_,_,_,hc⟩<;>exact hc.1 vs w
   ·exact h.elim
  | invoke r m=>exact h.elim
  | builtin b =>
   cases b<;>simp only at h<;>first | exact h.elim | skip
   case len =>
    split at h
    ·rename_i x t h1 h2
     obtain rfl:args=#[x]:=by rw [<-Array.toArray_toList (xs:=args),h1]
     obtain rfl:at_=#[t]:=by rw [<-Array.toArray_toList (xs:=at_),h2]
     exact D44 h
    ·exact h.elim
   case cap =>
    split at h
    ·rename_i x t h1 h2
     obtain rfl:args=#[x]:=by rw [<-Array.toArray_toList (xs:=args),h1]
     obtain rfl:at_=#[t]:=by rw [<-Array.toArray_toList (xs:=at_),h2]
     exact D45 h
    ·exact h.elim
   case max =>
    split at h
    ·rename_i x y h1
     obtain rfl:args=#[x,y]:=by rw [<-Array.toArray_toList (xs:=args),h1]
     exact D43 h
    ·exact h.elim
   case min =>
    split at h
    ·rename_i x y h1
     obtain rfl:args=#[x,y]:=by rw [<-Array.toArray_toList (xs:=args),h1]
     exact D42 h
    ·exact h.elim
 | _=>exact h.elim
end
section
variable {V w0 : World} {n : Fm} {E : Env} {fr : List (Nat × AV)} {pre mid post : List BA} {a : Act} {w w' : World}
theorem Ae2 {E':Env} {nb:List BA} (hlt:∀ g∈Ac E (pre++(mid++post)),g < w.heap.size) (hg:∀ g,g∉Ac E mid->g < w.heap.size->w'.heap[g]? = w.heap[g]?) (hs:w.heap.size<=w'.heap.size) (hnew:∀ g∈Ac E' nb,g∈Ac E mid\/w.heap.size<=g) :
  Ext (vis V w0 w (Ac E (pre++(mid++post)))) (vis V w0 w' (Ac E' nb++Ac E (pre++post))) :=
 D1 hs fun p u _ h2 h3 h4=>by
  simp only [Am,List.mem_append,not_or] at h3
  refine ⟨fun hm=>?_,by rw [World.cell?_of_block (hg p.block h3.2.1 h2)];exact h4⟩
  simp only [Am,List.mem_append] at hm
  rcases hm with hm | hm | hm
  ·rcases hnew _ hm with hm | hm
   ·exact h3.2.1 hm
   ·omega
  ·exact h3.1 hm
  ·exact h3.2.2 hm
theorem St.swap {lo hi:Nat} {E':Env} {nb:List BA} (h:St V w0 n E ⟨fr,pre++(mid++post)⟩ a w) (hg:∀ g,g∉Ac E mid->g < w.heap.size->w'.heap[g]? = w.heap[g]?) (hs:w.heap.size<=w'.heap.size) (hlow:Below w0.heap.size w0 w')
  (hE:Env.same lo hi E E') (h1:Lc lo hi fr=true) (h2:J9 lo hi (pre++post)=true) (hnd:(Ac E' nb).Nodup) (hnew:∀ g∈Ac E' nb,g∈Ac E mid\/w.heap.size<=g)
  (hh:∀ b∈nb,b.holds E' (vis V w0 w' (Ac E' nb++Ac E (pre++post))) w' w0.heap.size):St V w0 n E' ⟨fr,nb++(pre++post)⟩ a w':=by
 have hlt:=h.lt
 have hap:=h.apart
 have hx:=Ae2 (V:=V) (w0:=w0) (E':=E') (nb:=nb) hlt hg hs hnew
 have ho:Ac E' (nb++(pre++post))=Ac E' nb++Ac E (pre++post):=by rw [Am,Me hE h2]
 have hdis:∀ g∈Ac E mid,g∉Ac E (pre++post):=by
  intro g hm hp
  simp only [Am] at hap hp
  obtain ⟨_,a2,a3⟩:=List.nodup_append.1 hap
  obtain ⟨_,_,a4⟩:=List.nodup_append.1 a2
  rcases List.mem_append.1 hp with hp | hp
  ·exact a3 g hp g (List.mem_append_left _ hm) rfl
  ·exact a4 g hm g hp rfl
 have hsub:∀ g∈Ac E (pre++post),g∈Ac E (pre++(mid++post)):=by
  intro g hp
  simp only [Am,List.mem_append] at hp ⊢
  rcases hp with hp | hp
  ·exact .inl hp
  ·exact .inr (.inr hp)
 refine ⟨h.ext,hlow,?_,?_,?_,?_,h.size,h.defers,Nat.le_trans h.hold.1 hs,fun g o hg1=>?hold⟩
 case hold =>
  obtain ⟨q1,q2⟩:=h.hold.2 g o hg1
  have hl:=(Array.getElem?_eq_some_iff.1 q1).1
  refine ⟨(hg g (fun hm=>q2 (by simp only [Am,List.mem_append];exact .inr (.inl hm))) hl).trans q1,fun hm=>?_⟩
  rw [ho] at hm
  rcases List.mem_append.1 hm with hm | hm
  ·rcases hnew _ hm with hm | hm
   ·exact q2 (by simp only [Am,List.mem_append];exact .inr (.inl hm))
   ·omega
  ·exact q2 (hsub _ hm)
 ·rw [ho]
  refine List.nodup_append.2 ⟨hnd,?_,fun g hg1 g' hg2 e=>?_⟩
  ·simp only [Am] at hap ⊢
   exact hap.sublist ((List.Sublist.refl _).append (List.sublist_append_right _ _))
  ·subst e
   rcases hnew _ hg1 with hm | hm
   ·exact hdis _ hm hg2
   ·have:=hlt _ (hsub _ hg2);omega
 ·intro g hg1
  rw [ho] at hg1
  rcases List.mem_append.1 hg1 with hm | hm
  ·rcases hnew _ hm with hm | hm
   ·exact h.base _ (by simp only [Am,List.mem_append];exact .inr (.inl hm))
   ·have:=h.low.size;omega
  ·exact h.base _ (hsub _ hm)
 ·intro b hb
  simp only [ho]
  rcases List.mem_append.1 hb with hb | hb
  ·exact hh b hb
  ·have hb2:b∈pre++(mid++post):=by
    simp only [List.mem_append] at hb ⊢
    rcases hb with hb | hb
    ·exact .inl hb
    ·exact .inr (.inr hb)
   exact BA.holds_ext hE hx (fun g hg1=>hg g (fun hm=>hdis g hm (Bk.2 ⟨b,hb,hg1⟩)) (hlt g (Bk.2 ⟨b,hb2,hg1⟩))) (Jn h2 b hb) (h.holds b hb2)
 ·intro i
  simp only [ho]
  exact (h.slots i).ext hE hx (Q8 h1 i)
theorem Nt {gs:List Nat} {p:Addr} {u:Value} (hp:p.block∈gs):Ext (vis V w0 w gs) (vis V w0 (w.setCell p u) gs) :=
 D1 (by simp) fun q v _ _ h3 h4=>⟨h3,by
  rw [World.cell?_of_block (Below.heap_setCell w p u q.block (fun e=>h3 (e ▸ hp)))]
  exact h4⟩
theorem St.sets_box {b:Nat} : ∀ (vs:List Value) (ds:List AV) (cs:List AV) (o:Nat) (w:World),St V w0 n E ⟨fr,pre++.box b cs :: post⟩ a w->An E (vis V w0 w (Ac E (pre++.box b cs :: post))) vs ds ->
  St V w0 n E ⟨fr,pre++.box b (Et cs o ds) :: post⟩ a (w.setCells (E.blk b) o vs)
 | [],ds,cs,o,w,h,hr=>by
  cases ds with
  | nil=>exact h
  | cons d ds=>exact absurd hr.1 (by simp)
 | v :: vs,[],cs,o,w,h,hr=>absurd hr.1 (by simp)
 | v :: vs,d :: ds,cs,o,w,h,hr=>by
  obtain ⟨v',vs',e,h1,h2⟩:=An.cons_iff.1 hr
  injection e with e1 e2
  subst e1 e2
  refine St.sets_box vs ds (cs.set o d) (o+1) _ (h.set_box o h1) ?_
  have e:Ac E (pre++.box b (cs.set o d) :: post)=Ac E (pre++.box b cs :: post):=by simp [Am,Ac,BA.owned]
  rw [e]
  exact h2.mono (Nt (by simp [Am,Ac,BA.owned]))
theorem St.sets_arr {b:Nat} : ∀ (vs:List Value) (ds:List IV) (cs:List IV) (o:Nat) (w:World),St V w0 n E ⟨fr,pre++.arr b cs :: post⟩ a w->Av (vis V w0 w (Ac E (pre++.arr b cs :: post))) vs ds ->
  St V w0 n E ⟨fr,pre++.arr b (Et cs o ds) :: post⟩ a (w.setCells (E.blk b) o vs)
 | [],[],cs,o,w,h,hr=>h
 | v :: vs,d :: ds,cs,o,w,h,hr=>by
  refine St.sets_arr vs ds (cs.set o d) (o+1) _ (h.set_arr o hr.1) ?_
  have e:Ac E (pre++.arr b (cs.set o d) :: post)=Ac E (pre++.arr b cs :: post):=by simp [Am,Ac,BA.owned]
  rw [e]
  exact Av.ext (Nt (by simp [Am,Ac,BA.owned])) hr.2
 | [],_ :: _,_,_,_,_,hr=>hr.elim
 | _ :: _,[],_,_,_,_,hr=>hr.elim
theorem St.sets_row {b e k i:Nat} : ∀ (vs:List Value) (ds:List IV) (l:List (List IV)) (x:List IV) (j:Nat) (w:World),St V w0 n E ⟨fr,pre++.row b e k l :: post⟩ a w->Av (vis V w0 w (Ac E (pre++.row b e k l :: post))) vs ds->l[i]? = some x->j+vs.length<=k ->
  St V w0 n E ⟨fr,pre++.row b e k (l.set i (Et x j ds)) :: post⟩ a (w.setCells (E.blk b) (i*k+j) vs)
 | [],[],l,x,j,w,h,hr,hi,hj=>by
  have:l.set i x=l:=by
   obtain ⟨h1,h2⟩:=List.getElem?_eq_some_iff.1 hi
   subst h2;exact List.set_getElem_self h1
  simp only [Et,this]
  exact h
 | v :: vs,d :: ds,l,x,j,w,h,hr,hi,hj=>by
  simp only [List.length_cons] at hj
  have hil:=(List.getElem?_eq_some_iff.1 hi).1
  have h1:=h.set_row hi (j:=j) (by omega) hr.1
  have eo:Ac E (pre++.row b e k (l.set i (x.set j d)) :: post)=Ac E (pre++.row b e k l :: post):=by simp [Am,Ac,BA.owned]
  have hm:E.blk b∈Ac E (pre++.row b e k l :: post):=by
   obtain ⟨hO,hB⟩:=h.holds (.row b e k l) (by simp)
   rcases hO.forms with ⟨_,hl⟩ | ⟨g,cc,hg,_⟩
   ·rw [hl] at hi;simp at hi
   ·refine Bk.2 ⟨.row b e k l,by simp,?_⟩
    have:=hB g (by rw [hg];rfl)
    subst this
    simp [BA.owned,hg,Value.ownBlock]
  have h2:=St.sets_row (i:=i) vs ds (l.set i (x.set j d)) (x.set j d) (j+1) _ h1 (by rw [eo];exact Av.ext (Nt hm) hr.2) (by simp [hil]) (by omega)
  rw [List.set_set] at h2
  exact h2
 | [],_ :: _,_,_,_,_,_,hr,_,_=>hr.elim
 | _ :: _,[],_,_,_,_,_,hr,_,_=>hr.elim
theorem A72 {E:Env} {X w:World} {base b e k:Nat} {L:List (List AV)} {i j:Nat} (hO:Ai (An E X) k w base e (E.row b) L) (hB:∀ g,(E.row b).ownBlock=some g->g=E.blk b) (hi:i < L.length) (hj:j < k):∃ cur,Blk w (E.blk b) e cur/\i*k+j+1<=cur.size:=by
 obtain ⟨xs,⟨h3,h4⟩,h5,h6⟩:=hO
 rcases h4 with ⟨_,e0⟩ | ⟨g,cap,cur,hg,hg1,hg2,hg3,hg4,hg5,hg6⟩
 ·omega
 ·obtain rfl:g=E.blk b:=hB g (by rw [hg];rfl)
  refine ⟨cur,hg2,?_⟩
  rw [hg5]
  have:(i+1)*k<=cap*k:=Nat.mul_le_mul_right k (by omega)
  rw [Nat.add_mul] at this
  omega
def Aj (P:Program) (t:TypeId) (x y:AV) (bk:List BA) (K:List BA->Prop):Prop :=
 match tyK P t with
 | some (_,s)=>okC y=true/\(Bc y).length=s/\match x with
  | .bp b p=>match C8 b bk with
   | some (.box _ cs)=>p+s<=cs.length/\K (Cg b [.box b (Et cs p (Bc y))] bk)
   | some (.arr _ cs)=>∃ is,toIs (Bc y)=some is/\J8 (Bc y)/\p+s<=cs.length/\K (Cg b [.arr b (Et cs p is)] bk)
   | _=>False
  | .rp b k i j=>match C8 b bk,y with
   | some (.row _ e k' l),.own c=>k'=k/\s=1/\j < k/\∃ cs,l[i]? = some cs/\K (Cg b [.rowN b e k l i j c] bk)
   | some (.row _ e k' l),y=>k'=k/\∃ is cs,toIs (Bc y)=some is/\J8 (Bc y)/\l[i]? = some cs/\j+s<=k/\K (Cg b [.row b e k (l.set i (Et cs j is))] bk)
   | some (.rowN _ e k' l i' j' c),.own c2=>k'=k/\s=1/\j < k/\i=i'/\j=j'/\i < l.length/\K (Cg b [.rowN b e k l i j c2] bk)
   | some (.rowN _ e k' l i' j' c),y=>k'=k/\s=1/\j < k/\∃ d cs,toIs (Bc y)=some [d]/\J8 (Bc y)/\l[i]? = some cs/\((i=i'/\j=j'/\K (Cg b [.row b e k (l.set i (cs.set j d))] bk))\/(¬ (i=i'/\j=j')/\K (Cg b [.rowN b e k (l.set i (cs.set j d)) i' j' c] bk)))
   | _,_=>False
  | _=>False
 | none=>False
def Ak5 (P:Program) (t:TypeId) (x i y:AV) (bk:List BA) (K:List BA->Prop):Prop :=
 match Qf P t,x,nrm i,nrm y with
 | some (k,_),.mv b,.val (.int k' m),.val u=>match C8 b bk with
  | some (.mp _ k'' kv)=>k'=k/\k''=k/\K (Cg b [.mp b k (Kw kv m u)] bk)
  | _=>False
 | _,_,_,_=>False
def Cf9 (P:Program) (G:World->Prop) (o:Oper) (L:Operand->AV) (bk:List BA) (r:AV) (bk':List BA):Prop :=
 ∀ (V w0:World) (n:Fm) (E:Env) (a:Act) (w:World) (fr:List (Nat×AV)) (F:List BA),St V w0 n E ⟨fr,bk++F⟩ a w->(∀ x,Au E (vis V w0 w (Ac E (bk++F))) (a.eval x) (L x)) ->
  (Gl o=true->Lc (cid o.dst) (cid o.dst+100) fr=true/\J9 (cid o.dst) (cid o.dst+100) (bk++F)=true)->(∀ w',Below w0.heap.size w0 w'->G w')->∀ (N:Act->World->Prop) (Q:Exit->Act->World->Prop),
  (∀ v w' E',St V w0 n E' ⟨fr,bk'++F⟩ a w'->Au E' (vis V w0 w' (Ac E' (bk'++F))) v r->N (a.put o.dst v) w')->∀ ro,o.wpIn (FW ro) 0 P a w N Q
def Upd (P:Program) (G:World->Prop) (o:Oper) (L:Operand->AV) (bk:List BA) (K:AV->List BA->Prop):Prop:=∃ r bk',K r bk'/\Cf9 P G o L bk r bk'
end
section
variable {P : Program} {G : World -> Prop} {L : Operand -> AV} {bk : List BA} {K : AV -> List BA -> Prop}
variable {dst : Option Tmp} {ty : TypeId} {pos : String} {after : Array Edge} {gd : Option (Nat × Bool)}
theorem D41 {t:TypeId} {x i y:Operand} (h:Ak5 P t (L x) (L i) (L y) bk fun bk'=>K .any bk'):Upd P G ⟨dst,.mapUpdate t x i y,ty,pos,after,gd⟩ L bk K:=by
 unfold Ak5 at h
 split at h
 case h_2=>exact h.elim
 rename_i k z b k' m u ht hx hi hy
 split at h
 case h_2=>exact h.elim
 rename_i b' k'' kv hb
 obtain ⟨rfl,rfl,hK⟩:=h
 refine ⟨_,_,hK,fun V w0 n E a w fr F hs hL _ _ N Q hN ro=>Ft (fun _ h=>by cases h) ?_⟩
 obtain ⟨kt,et,h1,h2,_⟩:=M0 (w:=w) ht
 obtain ⟨pre,post,e1,e2,e3⟩:=Do hb
 obtain rfl:b'=b:=e2
 subst e1
 simp only [List.append_assoc,List.cons_append] at hs hL hN
 obtain ⟨es,cl,p1,p2⟩:=hs.holds (.mp b' k'' kv) (by simp)
 have hxv:=hL x
 rw [hx] at hxv
 generalize hxe:a.eval x=xv at hxv
 cases hxv
 have hkey:=MapKept.run_checkKey (P:=P) (w:=w) h2 (k:=.int k'' m) (by simp [MapKept.IsKey]) false 9999
 have hbase:=hs.base (E.blk b') (Bk.2 ⟨.mp b' k'' kv,by simp,by simp [BA.owned]⟩)
 have fin:∀ (es':Array MapEntry) (cl':Nat),es'.toList.map (fun e=>(e.key,e.val))=(Kw kv m u).map (fun x=>(Value.int k'' x.1,x.2))->(execOp a.eval ⟨dst,.mapUpdate t x i y,ty,pos,after,gd⟩).run P w=.ok .skip (w.putObj (E.blk b') (.map es' cl'))->Oper.wp P ⟨dst,.mapUpdate t x i y,ty,pos,after,gd⟩ a w N Q:=fun es' cl' q1 q2=>by
  unfold Oper.wp
  rw [q2,Oper.upon_skip]
  refine hN _ _ E ?_ .any
  rw [e3]
  have hlt:=(Array.getElem?_eq_some_iff.1 p1).1
  have hg:=grownBy_putObj' w (E.blk b') (.map es' cl')
  have:=hs.turn (y:=.mp b' k'' (Kw kv m u)) rfl (hs.low.grown hg hs.low.size fun g e=>by cases e;exact hbase) hg.size (fun g hg' _=>World.putObj_heap_other (by simpa [BA.owned] using hg')) ⟨es',cl',World.putObj_heap_same hlt,q1⟩
  simpa using this
 have hyv:=Cn hL hy
 have hiv:=Cn hL hi
 rcases Sz (k:=k'') (m:=m) 0 p2 with ⟨f1,f2,f3⟩ | ⟨j,v,f1,f2,⟨e,f4,f5⟩,f6⟩
 ·have hf:=MapKept.run_findKey (P:=P) (w:=w) h2 f1
  refine fin (es.push { key:=.int k'' m,val:=u,born:=cl }) (cl+1) (by rw [f3];simp [p2]) ?_
  simp only [execOp,hxe,hiv,hyv]
  simp [Instr.mapUpdate,run_underlying h1,MapKept.run_getObj_map p1,hkey,hf,MapKept.run_setObj_map _ p1,World.putObj]
 ·have hf:=MapKept.run_findKey (P:=P) (w:=w) h2 f1
  simp only [Nat.zero_add] at hf
  have hst:=MapKept.run_keyThatStays (P:=P) (w:=w) (d:=.int k'') (k:=.int k'' m) (by simp [MapKept.IsKey])
  have hk:((es[j]?).map (·.key)).getD (Value.int k'' m)=.int k'' m:=by rw [<-Array.getElem?_toList,f4];exact f5
  refine fin (es.modify j fun e=>{ e with key:=.int k'' m,val:=u }) cl (by rw [Array.toList_modify];exact f6 _ _ rfl) ?_
  simp only [execOp,hxe,hiv,hyv]
  simp [Instr.mapUpdate,run_underlying h1,MapKept.run_getObj_map p1,hkey,hf,hk,hst,MapKept.run_setObj_map _ p1,World.putObj]
theorem By7 {t:TypeId} {x y:Operand} (h:Aj P t (L x) (L y) bk fun bk'=>K .any bk'):Upd P G ⟨dst,.store t x y,ty,pos,after,gd⟩ L bk K:=by
 unfold Aj at h
 split at h
 case h_2=>exact h.elim
 rename_i q s ht
 obtain ⟨hok,hlen,h⟩:=h
 -- the run, from the cells that lie there
 have run:∀ {a:Act} {w:World} {v:Value} {g p:Nat} {e:TypeId} {C:Array Value},a.eval x=.pointer (some ⟨g,p,none⟩)->a.eval y=v->v.cells.toList.length=s->(∀ u∈v.cells.toList,u.oneCell'=true)->Blk w g e C->p+s<=C.size ->
   (execOp a.eval ⟨dst,.store t x y,ty,pos,after,gd⟩).run P w=.ok .skip (w.setCells g p v.cells.toList):=fun {a w v g p e C} h1 h2 h3 h4 h5 h6=>by
  obtain ⟨_,hz⟩:=D5 (w:=w) ht
  have hst:=run_storeCells_cells (P:=P) g p v.cells.toList 0 w (fun j hj=>by
   rw [h5.cell,Array.getElem?_eq_getElem (by omega)];rfl) (fun j _=>h5.frozen _) h4
  have h3':v.cells.size=s:=by simpa using h3
  simp only [Nat.add_zero] at hst
  simp only [execOp,h1,h2,Instr.storeAt,Instr.sureAddr,storeVar]
  simp [hz,h3',hst]
 split at h
 ·rename_i b p hx
  split at h
  ·rename_i b' cs hb
   obtain ⟨hp,hK⟩:=h
   refine ⟨_,_,hK,fun V w0 n E a w fr F hs hL _ _ N Q hN ro=>Ft (fun _ h=>by cases h) ?_⟩
   obtain ⟨pre,post,e1,e2,e3⟩:=Do hb
   obtain rfl:b'=b:=e2
   subst e1
   simp only [List.append_assoc,List.cons_append] at hs hL hN
   obtain ⟨C,et,hB,hC⟩:=hs.holds (.box b' cs) (by simp)
   have hxv:=hL x
   rw [hx] at hxv
   obtain ⟨hyc,hy1⟩:=(hL y).cells hok
   generalize hxe:a.eval x=u at hxv
   cases hxv
   have hl2:(a.eval y).cells.toList.length=s:=by rw [hyc.1];exact hlen
   unfold Oper.wp
   rw [run hxe rfl hl2 hy1 hB (by have:=hC.1;simp at this;omega),Oper.upon_skip]
   have:=St.sets_box (a.eval y).cells.toList (Bc (L y)) cs p w hs hyc
   exact hN _ _ E (by rw [e3];simpa using this) .any
  ·rename_i b' cs hb
   obtain ⟨is,hi,ho,hp,hK⟩:=h
   refine ⟨_,_,hK,fun V w0 n E a w fr F hs hL _ _ N Q hN ro=>Ft (fun _ h=>by cases h) ?_⟩
   obtain ⟨pre,post,e1,e2,e3⟩:=Do hb
   obtain rfl:b'=b:=e2
   subst e1
   simp only [List.append_assoc,List.cons_append] at hs hL hN
   obtain ⟨C,et,hB,hC⟩:=hs.holds (.arr b' cs) (by simp)
   have hxv:=hL x
   rw [hx] at hxv
   obtain ⟨hyc,hy1⟩:=(hL y).cells hok
   have hyi:=An.toIs hyc hi ho
   generalize hxe:a.eval x=u at hxv
   cases hxv
   have hl2:(a.eval y).cells.toList.length=s:=by rw [hyc.1];exact hlen
   unfold Oper.wp
   rw [run hxe rfl hl2 hy1 hB (by have:=hC.len;simp at this;omega),Oper.upon_skip]
   have:=St.sets_arr (a.eval y).cells.toList is cs p w hs hyi
   exact hN _ _ E (by rw [e3];simpa using this) .any
  ·exact h.elim
 ·rename_i b k i j hx
  split at h
  ·rename_i b' e k' l c hb hy
   obtain ⟨rfl,rfl,hj,cs,hcs,hK⟩:=h
   refine ⟨_,_,hK,fun V w0 n E a w fr F hs hL _ _ N Q hN ro=>Ft (fun _ h=>by cases h) ?_⟩
   obtain ⟨pre,post,e1,e2,e3⟩:=Do hb
   obtain rfl:b'=b:=e2
   subst e1
   simp only [List.append_assoc,List.cons_append] at hs hL hN
   have hxv:=hL x
   rw [hx] at hxv
   obtain ⟨hyc,hy1⟩:=(hL y).cells hok
   generalize hxe:a.eval x=u at hxv
   cases hxv
   have hl2:(a.eval y).cells.toList.length=1:=by rw [hyc.1];exact hlen
   obtain ⟨u,hu⟩:=List.length_eq_one_iff.1 hl2
   rw [hu,hy] at hyc
   obtain ⟨hO,hBk⟩:=Zx _ _ _ (hs.holds (.row b' e k' l) (by simp))
   obtain ⟨cur,hB,hik⟩:=A72 (i:=i) (j:=j) hO hBk (by simpa using (List.getElem?_eq_some_iff.1 hcs).1) hj
   obtain ⟨n1,n2⟩:=Bn6 (c:=c) (j:=j) hcs
   have hst:=St.set_cells (x:=.row b' e k' l) (y:=.rowN b' e k' l i j c) hs Zx rfl rfl (fun X w base h hB=>⟨h,hB⟩) n1 hj n2 (hyc.2 0 u _ rfl rfl)
   unfold Oper.wp
   rw [run hxe rfl hl2 hy1 hB hik,Oper.upon_skip,hu]
   exact hN _ _ E (by rw [e3];simpa [World.setCells] using hst) .any
  ·rename_i b' e k' l hb _
   obtain ⟨rfl,is,cs,hi,ho,hcs,hj,hK⟩:=h
   refine ⟨_,_,hK,fun V w0 n E a w fr F hs hL _ _ N Q hN ro=>Ft (fun _ h=>by cases h) ?_⟩
   obtain ⟨pre,post,e1,e2,e3⟩:=Do hb
   obtain rfl:b'=b:=e2
   subst e1
   simp only [List.append_assoc,List.cons_append] at hs hL hN
   obtain ⟨hO,hBk⟩:=hs.holds (.row b' e k' l) (by simp)
   have hxv:=hL x
   rw [hx] at hxv
   obtain ⟨hyc,hy1⟩:=(hL y).cells hok
   have hyi:=An.toIs hyc hi ho
   generalize hxe:a.eval x=u at hxv
   cases hxv
   have hl2:(a.eval y).cells.toList.length=s:=by rw [hyc.1];exact hlen
   obtain ⟨xs,⟨h3,h4⟩,h5,h6⟩:=hO
   have hil:=(List.getElem?_eq_some_iff.1 hcs).1
   rcases h4 with ⟨_,e0⟩ | ⟨g,cap,cur,hg,hg1,hg2,hg3,hg4,hg5,hg6⟩
   ·rw [List.length_eq_zero_iff] at e0;rw [e0] at hcs;simp at hcs
   ·have hgb:g=E.blk b':=hBk g (by rw [hg];rfl)
    subst hgb
    have hB:Blk w (E.blk b') e cur:=hg2
    have hik:i*k'+j+s<=cur.size:=by
     rw [hg5]
     have:(i+1)*k'<=cap*k':=Nat.mul_le_mul_right k' (by omega)
     rw [Nat.add_mul] at this
     omega
    unfold Oper.wp
    rw [run hxe rfl hl2 hy1 hB hik,Oper.upon_skip]
    have:=St.sets_row (i:=i) (a.eval y).cells.toList is l cs j w hs hyi hcs (by rw [hl2];exact hj)
    exact hN _ _ E (by rw [e3];simpa using this) .any
  ·rename_i b' e k' l i' j' c c2 hb hy
   obtain ⟨rfl,rfl,hj,rfl,rfl,hil,hK⟩:=h
   refine ⟨_,_,hK,fun V w0 n E a w fr F hs hL _ _ N Q hN ro=>Ft (fun _ h=>by cases h) ?_⟩
   obtain ⟨pre,post,e1,e2,e3⟩:=Do hb
   obtain rfl:b'=b:=e2
   subst e1
   simp only [List.append_assoc,List.cons_append] at hs hL hN
   have hxv:=hL x
   rw [hx] at hxv
   obtain ⟨hyc,hy1⟩:=(hL y).cells hok
   generalize hxe:a.eval x=u at hxv
   cases hxv
   have hl2:(a.eval y).cells.toList.length=1:=by rw [hyc.1];exact hlen
   obtain ⟨u,hu⟩:=List.length_eq_one_iff.1 hl2
   rw [hu,hy] at hyc
   obtain ⟨hO,hBk⟩:=hs.holds (.rowN b' e k' l i j c) (by simp)
   obtain ⟨cur,hB,hik⟩:=A72 (i:=i) (j:=j) hO hBk (by rw [Dr];exact hil) hj
   obtain ⟨z,n1,n2⟩:=Ax1 (c:=c) (c2:=c2) (j:=j) hil
   have hst:=St.set_cells (x:=.rowN b' e k' l i j c) (y:=.rowN b' e k' l i j c2) hs (fun X w base h=>h) rfl rfl (fun X w base h hB=>⟨h,hB⟩) n1 hj n2 (hyc.2 0 u _ rfl rfl)
   unfold Oper.wp
   rw [run hxe rfl hl2 hy1 hB hik,Oper.upon_skip,hu]
   exact hN _ _ E (by rw [e3];simpa [World.setCells] using hst) .any
  ·rename_i b' e k' l i' j' c hb _
   obtain ⟨rfl,rfl,hj,d,cs,hd,ho,hcs,h⟩:=h
   obtain rfl:b'=b:=(Ga hb).2
   have fin:∀ {y':BA} {L':List (List AV)},(∃ z,(G4 l i' j' c)[i]? = some z/\L'=(G4 l i' j' c).set i (z.set j (.iv d)))->(∀ E,y'.owned E=(E.row b').ownBlock.toList)->(∀ E X w base,Ai (An E X) k' w base e (E.row b') L'->(∀ g,(E.row b').ownBlock=some g->g=E.blk b')->y'.holds E X w base)->K .any (Cg b' [y'] bk)->Upd P G ⟨dst,.store t x y,ty,pos,after,gd⟩ L bk K:=fun {y' L'} hz oy hy' hK=>by
    refine ⟨_,_,hK,fun V w0 n E a w fr F hs hL _ _ N Q hN ro=>Ft (fun _ h=>by cases h) ?_⟩
    obtain ⟨pre,post,e1,e2,e3⟩:=Do hb
    subst e1
    simp only [List.append_assoc,List.cons_append] at hs hL hN
    have hxv:=hL x
    rw [hx] at hxv
    obtain ⟨hyc,hy1⟩:=(hL y).cells hok
    have hyi:=An.toIs hyc hd ho
    generalize hxe:a.eval x=u at hxv
    cases hxv
    have hl2:(a.eval y).cells.toList.length=1:=by rw [hyc.1];exact hlen
    obtain ⟨u,hu⟩:=List.length_eq_one_iff.1 hl2
    rw [hu] at hyi
    obtain ⟨hO,hBk⟩:=hs.holds (.rowN b' e k' l i' j' c) (by simp)
    obtain ⟨cur,hB,hik⟩:=A72 (i:=i) (j:=j) hO hBk (by rw [Dr];exact (List.getElem?_eq_some_iff.1 hcs).1) hj
    obtain ⟨z,n1,n2⟩:=hz
    have hst:=St.set_cells (x:=.rowN b' e k' l i' j' c) (y:=y') hs (fun X w base h=>h) rfl (oy E) (hy' E) n1 hj n2 (.iv hyi.1)
    unfold Oper.wp
    rw [run hxe rfl hl2 hy1 hB hik,Oper.upon_skip,hu]
    exact hN _ _ E (by rw [e3];simpa [World.setCells] using hst) .any
   rcases h with ⟨rfl,rfl,hK⟩ | ⟨hne,hK⟩
   ·exact fin (y':=.row b' e _ _) (Bn7 hcs) (fun _=>rfl) (fun E X w base h hB=>Bd7 X w base h hB) hK
   ·exact fin (y':=.rowN b' e _ _ _ _ c) (Bn5 hcs hne) (fun _=>rfl) (fun E X w base h hB=>⟨h,hB⟩) hK
  ·exact h.elim
 ·exact h.elim
end
end Go.Proofs.YtahgkllhbggmgaaGreatDoor
