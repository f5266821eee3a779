/- Loops and whole functions over abstract states. No program is known here. -/
import Derived.Test.YtblfjaedaijfoaaGreatDoorQAbsSnd2
set_option linter.all false
set_option linter.unnecessarySimpa false
set_option linter.unusedSimpArgs false
set_option linter.unusedVariables false
namespace Go.Proofs.YtblfjaedaijfoaaGreatDoor
open Go.ChangeShapes Go.WideShapes Go.ChangeAt Go.RowKit
section
variable {P : Program} {G : World -> Prop} {c : Nat} {L : Operand -> AV} {B : Nat -> Option BA} {K : AV -> List BA -> Prop}
variable {dst : Option Tmp} {ty : TypeId} {pos : String} {after : Array Edge} {gd : Option (Nat × Bool)}
theorem Pe {E:Env} {X:World} {a:Act} {x:Operand} {d:AV} (hL:∀ x,Bd E X (a.eval x) (L x)) (hx:L x=d):Bd E X (a.eval x) d:=hx ▸ hL x
theorem D5 {E:Env} {X:World} {a:Act} {x:Operand} {v:Value} (hL:∀ x,Bd E X (a.eval x) (L x)) (hx:nrm (L x)=.val v):a.eval x=v:=by
 have:=(hL x).nrm_
 rw [hx] at this
 generalize a.eval x=u at this
 cases this;rfl
theorem Da3 {x : Operand} (h : match L x with
      | .ip cs => K (.ip cs) []
      | .bp b p => K (.bp b p) []
      | .rp b k i j => K (.rp b k i j) []
      | .fn f cs => K (.fn f cs) []
      | _ => False) : Dt P G ⟨dst, .nilCheck x, ty, pos, after, gd⟩ c L B K := by
  split at h
  case h_5 => exact h.elim
  all_goals
    rename_i hx
    refine ⟨_, _, h, E8.pure_ fun V w0 n E σ a w _ hL _ => ⟨a.eval x, ?_, Pe hL hx⟩⟩
    have := Pe hL hx
    generalize hu : a.eval x = u at this
    cases this <;> (simp only [execOp, hu]; rfl)
theorem Bf5 {op:BinOp} {t tz:TypeId} {x y:Operand} {a:Act} {w:World} {p q r:Value} (hx:a.eval x=p) (hy:a.eval y=q) (h:(do eqGuard op t x y p q;binOp op t p q:Sem Value).run P w=.ok r w) :
  (execOp a.eval ⟨dst,.binOp op t x y tz,ty,pos,after,gd⟩).run P w=.ok (.value r) w:=by
 simp only [execOp,hx,hy]
 exact G1 h
theorem Ap2 {E:Env} {X:World} {v:Value} {d:AV} {u:Value} (h:Bd E X v d):J8 d=some u->v=u:=by
 induction h generalizing u with
 | any=>simp [J8]
 | val=>simp [J8]
 | iv h=>cases h<;>simp [J8]
 | ip f h1 h2=>simp [J8]
 | bp=>simp [J8]
 | rp=>simp [J8]
 | own h=>simp [J8]
 | mv=>simp [J8]
 | aggI h=>simp [J8]
 | tup h1 h2=>simp [J8]
 | fn h1 h2=>simp [J8]
 | @agg vs cs h1 h2 ih =>
  intro he
  simp only [J8,Option.map_eq_some_iff] at he
  obtain ⟨l,hl,rfl⟩:=he
  have key:∀ (cs:List AV) (l:List Value),J8.valAs cs=some l->l.length=cs.length/\∀ (j:Nat) d,cs[j]? = some d->∃ u,l[j]? = some u/\J8 d=some u:=by
   intro cs
   induction cs with
   | nil=>intro l h;simp [J8.valAs] at h;subst h;exact ⟨rfl,fun j d h=>by simp at h⟩
   | cons c cs ih =>
    intro l h
    simp only [J8.valAs] at h
    split at h
    ·rename_i v l' e1 e2
     obtain rfl:=Option.some.inj h
     obtain ⟨i1,i2⟩:=ih l' e2
     refine ⟨by simp [i1],fun j d hd=>?_⟩
     cases j with
     | zero=>simp at hd;subst hd;exact ⟨v,rfl,e1⟩
     | succ j=>exact i2 j d (by simpa using hd)
    ·cases h
  obtain ⟨k1,k2⟩:=key cs l hl
  congr 1
  apply Array.ext_getElem?
  intro j
  by_cases hj:j < vs.size
  ·have hj2:j < cs.length:=by omega
   obtain ⟨u,u1,u2⟩:=k2 j _ (List.getElem?_eq_getElem hj2)
   rw [Array.getElem?_eq_getElem hj,ih j _ _ (Array.getElem?_eq_getElem hj) (List.getElem?_eq_getElem hj2) u2]
   simpa using u1.symm
  ·rw [Array.getElem?_eq_none (by omega),Array.getElem?_eq_none (by simp;omega)]
theorem Av1 {d:AV} {u:Value} (h:J8 (nrm d)=some u):J8 d=some u:=by
 cases d with
 | iv i=>cases i<;>exact h
 | _=>exact h
theorem Db0 {op:BinOp} {t tz:TypeId} {x y:Operand} (h:Bu P op t x y (L x) (L y) fun r=>K r []):Dt P G ⟨dst,.binOp op t x y tz,ty,pos,after,gd⟩ c L B K:=by
 have done:∀ {p q r:Value},K (.val r) []->nrm (L x)=.val p->nrm (L y)=.val q->(∀ w,(do eqGuard op t x y p q;binOp op t p q:Sem Value).run P w=.ok r w)->Dt P G ⟨dst,.binOp op t x y tz,ty,pos,after,gd⟩ c L B K:=fun hK hx hy hr =>
  ⟨_,_,hK,E8.pure_ fun V w0 n E σ a w _ hL _=>⟨_,Bf5 (D5 hL hx) (D5 hL hy) (hr w),.val⟩⟩
 unfold Bu at h
 split at h
 case h_10 =>
  split at h
  ·rename_i p q hp hq
   obtain ⟨r,h1,h2⟩:=h
   exact ⟨_,_,h2,E8.pure_ fun V w0 n E σ a w _ hL _=>⟨_,Bf5 (Ap2 (hL x) (Av1 hp)) (Ap2 (hL y) (Av1 hq)) (h1 w),.val⟩⟩
  ·exact h.elim
 case h_7 | h_8 | h_9 =>
  rename_i hx hy
  obtain ⟨rfl,m,rfl,h⟩:=h
  exact done h hx hy fun w=>by simp [eqGuard,binOp,Op.intArith]
 all_goals
  rename_i hx hy
  obtain ⟨rfl,h⟩:=h
  refine done h hx hy fun w=>?_
  simp [eqGuard,binOp,Op.intCmp]
  try rfl
theorem Dz9 {op:UnOp} {t:TypeId} {x:Operand} (h:match op,nrm (L x) with
  | .not,.val (.bool b)=>K (.val (.bool !b)) []
  | .neg,.val (.int k m)=>∃ m',k.wrap (0 - m)=m'/\K (.val (.int k m')) []
  | _,_=>False):Dt P G ⟨dst,.unOp op t x,ty,pos,after,gd⟩ c L B K:=by
 split at h
 ·rename_i b hx
  exact ⟨_,_,h,E8.pure_ fun V w0 n E σ a w _ hL _=>⟨_,by simp only [execOp,D5 hL hx];exact G1 (by simp [Op.unary]),.val⟩⟩
 ·rename_i k m hx
  obtain ⟨m',rfl,h⟩:=h
  exact ⟨_,_,h,E8.pure_ fun V w0 n E σ a w _ hL _=>⟨_,by simp only [execOp,D5 hL hx];exact G1 (by simp [Op.unary,Op.intArith]),.val⟩⟩
 ·exact h.elim
theorem Ck8 {b x y:Operand} (h:match nrm (L b) with
  | .val (.bool true)=>K (L x) []
  | .val (.bool false)=>K (L y) []
  | _=>False):Dt P G ⟨dst,.pick b x y,ty,pos,after,gd⟩ c L B K:=by
 split at h
 ·rename_i hb
  exact ⟨_,_,h,E8.pure_ fun V w0 n E σ a w _ hL _=>⟨a.eval x,by simp [execOp,D5 hL hb,asBool],hL x⟩⟩
 ·rename_i hb
  exact ⟨_,_,h,E8.pure_ fun V w0 n E σ a w _ hL _=>⟨a.eval y,by simp [execOp,D5 hL hb,asBool],hL y⟩⟩
 ·exact h.elim
theorem A96 {t:TypeId} {k:IntKind} (h:Su P t=some k):P.underlying t=some (.int k):=by
 unfold Su at h
 split at h
 ·rename_i k' hu
  obtain rfl:=Option.some.inj h
  exact hu
 ·cases h
theorem Cl2 {s d:TypeId} {x:Operand} (h:Tf P s d (nrm (L x)) fun r=>K r []):Dt P G ⟨dst,.convert s d x,ty,pos,after,gd⟩ c L B K:=by
 unfold Tf at h
 split at h
 ·rename_i q m hx
  split at h
  ·rename_i k' k hs hd
   obtain ⟨m',rfl,h⟩:=h
   exact ⟨_,_,h,E8.pure_ fun V w0 n E σ a w _ hL _=>⟨_,by simp only [execOp,D5 hL hx];exact G1 (by simp [convert,run_underlying (A96 hs),run_underlying (A96 hd),Conv.intToInt]),.val⟩⟩
  ·exact h.elim
 ·rename_i hx
  obtain ⟨h1,h2,h⟩:=h
  obtain ⟨e,h3,h4⟩:=Wg h1
  exact ⟨_,_,h,E8.pure_ fun V w0 n E σ a w _ hL _=>⟨_,by simp only [execOp,D5 hL hx];exact G1 (run_convert_bytes_nil w s e h3 h4 0 0 d (Rv h2)),.val⟩⟩
 ·rename_i z hx
  obtain ⟨h1,h2,hz,h⟩:=h
  obtain ⟨e,h3,h4⟩:=Wg h2
  refine ⟨_,_,h,fun V w0 n E σ a w hs hG hL _ N Q hN=>?_⟩
  have hrun:(execOp a.eval ⟨dst,.convert s d x,ty,pos,after,gd⟩).run P w=.ok (.value (.slice (some ⟨w.heap.size,0,none⟩) z.size (grownCap w z.size 0 e))) (Lib.bytesWorld w e z):=by
   simp only [execOp,D5 hL hx]
   exact G1 (Lib.run_convert_string_bytes w s d e z (Rv h1) h3 h4)
  unfold Oper.wp
  rw [hrun]
  have hbel:Below w.heap.size w (Lib.bytesWorld w e z):=⟨rfl,rfl,rfl,by rw [Lib.bytesWorld_size];omega,fun k hk=>Lib.bytesWorld_at_old w e z k hk⟩
  refine hN _ _ E ⟨hbel,⟨Env.same_refl _ _ _,.inl rfl⟩,List.nodup_nil,(fun _ h=>by cases h),(fun _ h=>by cases h),.iv ?_⟩
  have hlen:(M1 z).length=z.size:=(List.length_map _).trans (Array.length_toList)
  have hsz:=Lib.bytesWorld_size w e z
  have:=Cp.sl (X:=vis V w0 (Lib.bytesWorld w e z) (Ac E []++Ac E σ.bk)) (b:=w.heap.size) (off:=0) (c:=grownCap w z.size 0 e) (k:=1) (l:=byR (M1 z)) (fun i _=>.int .u8 ((M1 z).getD i 0:Nat)) (by rw [Gk];omega) (by simp only [byR,List.length_map,hlen];exact grownCap_ge w z.size 0 e) (by simp only [byR,List.length_map,hlen];omega) (grownCap_le_maxLen w z.size 0 e (by unfold maxLen;omega)) (fun cs hcs=>by
    simp only [byR,List.mem_map] at hcs
    obtain ⟨_,_,rfl⟩:=hcs;rfl) (fun i j cs u hi hj=>?_) (fun i j cs u hi hj=>?_)
  ·simpa [byR,hlen] using this
  ·simp only [byR,List.getElem?_map,Option.map_eq_some_iff] at hi
   obtain ⟨q,hq,rfl⟩:=hi
   obtain rfl:j=0:=by have:=(List.getElem?_eq_some_iff.1 hj).1;simpa using this
   have hlt:=(List.getElem?_eq_some_iff.1 hq).1
   have hw0:=hs.low.size
   rw [K6 (by simp only;omega),if_neg (fun hm=>by
    rcases List.mem_append.1 hm with hm | hm
    ·cases hm
    ·have:=hs.lt _ hm;simp at this)]
   have:=Lib.bytesWorld_cell w e z i (by omega)
   simp only [Nat.zero_add,Nat.mul_one,Nat.add_zero]
   rw [this]
   simp only [M1,List.length_map] at hlt
   simp [M1,List.getD,List.getElem?_map,List.getElem?_eq_getElem hlt]
  ·simp only [byR,List.getElem?_map,Option.map_eq_some_iff] at hi
   obtain ⟨q,hq,rfl⟩:=hi
   obtain rfl:j=0:=by have:=(List.getElem?_eq_some_iff.1 hj).1;simpa using this
   simp at hj
   subst hj
   have hlt:q < 256:=by
    simp only [M1,List.getElem?_map,Option.map_eq_some_iff] at hq
    obtain ⟨b,_,rfl⟩:=hq
    exact b.toNat_lt
   rw [show (M1 z).getD i 0=q by simp [List.getD,hq]]
   refine .val ?_
   show (Lit.int .u8 (q:Int)).wf=true
   simp [Lit.wf,IntKind.max,IntKind.min,IntKind.signed,IntKind.bits]
   omega
 ·rename_i k l hx
  obtain ⟨h1,h2,rfl,bs,rfl,h⟩:=h
  obtain ⟨e,h3,h4⟩:=Wg h1
  refine ⟨_,_,h,E8.pure_ fun V w0 n E σ a w hs hL _=>⟨_,?_,.val⟩⟩
  have hv:=(hL x).nrm_
  rw [hx] at hv
  generalize hu:a.eval x=v at hv
  simp only [execOp,hu]
  refine G1 ?_
  cases hv with
  | iv hv =>
   obtain ⟨A,cc,rfl,⟨hl1,hl2⟩,_,hcell⟩:=hv.to_sl
   by_cases hne:bs=[]
   ·subst hne
    rw [run_convert_bytes_string w s d e A _ _ h3 h4 (Rv h2)]
    cases A with
    | none=>simp [Conv.bytesToString,Zo,strOfNums];rfl
    | some A =>
     rw [run_bytesToString w A _ cc [] (by simp [byR,loadCells,loadCellsFrom])]
     rfl
   ·obtain ⟨b,off,rfl,_,hc⟩:=hcell (by simpa [byR] using hne)
    refine run_convert_bytes_arg w s e h3 h4 b off _ cc (bs.map fun (b:Nat)=>(b:Int)) (by simp [byR]) (fun i hi=>?_) d (Rv h2)
    have hib:i < bs.length:=by simpa [byR] using hi
    obtain ⟨vs,r1,r2,r3⟩:=hc i [IV.val (.int .u8 (bs[i]:Nat))] (by simp [byR,List.getElem?_map,List.getElem?_eq_getElem hib])
    match vs,r1,r3 with
    | [u],⟨r4,_⟩,r3 =>
     cases r4
     have:=hs.in_.cell _ _ (r3 0 _ rfl)
     simp only [Nat.mul_one,Nat.add_zero] at this
     rw [this]
     simp [List.getD,List.getElem?_map,List.getElem?_eq_getElem hib]
 ·exact h.elim
theorem Cl1 {f:FuncId} {first caps:Array Operand} (h:first=#[]/\K (.fn f (caps.toList.map L)) []):Dt P G ⟨dst,.makeFunc (.func f) first caps,ty,pos,after,gd⟩ c L B K:=by
 obtain ⟨rfl,h⟩:=h
 refine ⟨_,_,h,E8.pure_ fun V w0 n E σ a w _ hL _=>⟨.func (.func f) #[] (caps.map a.eval),by simp only [execOp];exact G1 (by simp [Instr.makeFunc]),.fn (by simp) fun j v d h1 h2=>?_⟩⟩
 rw [Array.getElem?_map,Option.map_eq_some_iff] at h1
 rw [List.getElem?_map,Option.map_eq_some_iff] at h2
 obtain ⟨y,e1,rfl⟩:=h1
 obtain ⟨y',e2,rfl⟩:=h2
 rw [Array.getElem?_toList,e1] at e2
 obtain rfl:=Option.some.inj e2
 exact hL y
theorem Ay4 {t:TypeId} {f:Nat} {x:Operand} (h:match tyF P t f with
  | some (off,_,s)=>s≠0/\match L x with
   | .ip cs=>K (.ip (cs.drop off)) []
   | .bp b p=>K (.bp b (p+off)) []
   | .rp b k i j=>K (.rp b k i (j+off)) []
   | _=>False
  | none=>False):Dt P G ⟨dst,.fieldAddr t x f,ty,pos,after,gd⟩ c L B K:=by
 split at h
 ·rename_i off q s hF
  obtain ⟨fs,fd,f1,f2,f3,f4⟩:=Be8 hF
  obtain ⟨hs0,h⟩:=h
  have run:∀ (a:Act) (w:World) {b p:Nat},a.eval x=.pointer (some ⟨b,p,none⟩)->(execOp a.eval ⟨dst,.fieldAddr t x f,ty,pos,after,gd⟩).run P w=.ok (.value (.pointer (some ⟨b,p+off,none⟩))) w:=fun a w b p hu=>by
   obtain ⟨_,hz⟩:=Gd (w:=w) f4
   simp only [execOp,hu]
   exact G1 (by simp [Instr.fieldAt,run_underlying f1,f2,Instr.sureAddr,fieldPlace,hz,hs0,f3,Jb])
  split at h
  ·rename_i cs hx
   refine ⟨_,_,h,E8.pure_ fun V w0 n E σ a w _ hL _=>?_⟩
   have:=Pe hL hx
   generalize hu:a.eval x=u at this
   cases this with
   | @ip b o _ g p1 p2 =>
    refine ⟨_,run a w hu,.ip (fun j=>g (off+j)) (fun j u hj=>?_) fun j u hj=>?_⟩
    ·rw [List.getElem?_drop] at hj
     rw [Nat.add_assoc];exact p1 _ u hj
    ·rw [List.getElem?_drop] at hj
     exact p2 _ u hj
  ·rename_i b p hx
   refine ⟨_,_,h,E8.pure_ fun V w0 n E σ a w _ hL _=>?_⟩
   have:=Pe hL hx
   generalize hu:a.eval x=u at this
   cases this
   exact ⟨_,run a w hu,.bp⟩
  ·rename_i b k i j hx
   refine ⟨_,_,h,E8.pure_ fun V w0 n E σ a w _ hL _=>?_⟩
   have:=Pe hL hx
   generalize hu:a.eval x=u at this
   cases this
   exact ⟨_,run a w hu,by rw [Nat.add_assoc];exact .rp⟩
  ·exact h.elim
 ·exact h.elim
theorem Cb5 {t:TypeId} {f:Nat} {x:Operand} (h:match tyF P t f,L x with
  | some (off,q,s),.agg cs=>rdA q s (cs.drop off) fun r=>K r []
  | _,_=>False):Dt P G ⟨dst,.field t x f,ty,pos,after,gd⟩ c L B K:=by
 split at h
 ·rename_i off q s cs hF hx
  obtain ⟨fs,fd,f1,f2,f3,f4⟩:=Be8 hF
  have run:∀ (w:World) (a:Act) (vs:Array Value) {v:Value},a.eval x=.agg vs->(part fd.type vs off).run P w=.ok v w->(execOp a.eval ⟨dst,.field t x f,ty,pos,after,gd⟩).run P w=.ok (.value v) w:=fun w a vs v hu hp=>by
   simp only [execOp,hu]
   exact G1 (by simp [Instr.field,run_underlying f1,f2,asAgg,f3,hp])
  match q,f4,h with
  | 0,f4,h =>
   cases hd:cs.drop off with
   | nil=>rw [hd] at h;exact h.elim
   | cons d ds =>
    rw [hd] at h
    refine ⟨_,_,h,E8.pure_ fun V w0 n E σ a w _ hL _=>?_⟩
    obtain ⟨ha,hz⟩:=Gd (w:=w) f4
    have:=Pe hL hx
    generalize hu:a.eval x=u at this
    cases this with
    | @agg vs _ p1 p2 =>
     have hoff:off < cs.length:=by
      have:=congrArg List.length hd
      simp at this;omega
     have hv:vs[off]? = some (vs[off]'(by omega)):=Array.getElem?_eq_getElem _
     refine ⟨_,run w a vs hu (v:=vs[off]'(by omega)) (by simp [part,ha,hv]),p2 off _ _ hv ?_⟩
     have:=congrArg (fun l=>l[0]?) hd
     simpa using this
  | 1,f4,h =>
   refine ⟨_,_,h.2,E8.pure_ fun V w0 n E σ a w _ hL _=>?_⟩
   obtain ⟨ha,hz⟩:=Gd (w:=w) f4
   have:=Pe hL hx
   generalize hu:a.eval x=u at this
   cases this with
   | @agg vs _ p1 p2 =>
    have hlen:=h.1
    rw [List.length_drop] at hlen
    refine ⟨_,run w a vs hu (v:=.agg (vs.extract off (off+s))) (by simp [part,ha,hz]),.agg (by simp;omega) fun j v d a b=>?_⟩
    have hj:j < s:=by
     have:=(List.getElem?_eq_some_iff.1 b).1
     simp at this;omega
    rw [List.getElem?_take_of_lt hj,List.getElem?_drop] at b
    rw [Array.getElem?_extract] at a
    split at a
    ·exact p2 _ v d a b
    ·cases a
  | _+2,_,h=>exact h.elim
 ·exact h.elim
theorem Br7 {x:Operand} {i:Nat} (h:match L x with
  | .tup cs=>i < cs.length/\K (cs.getD i .any) []
  | _=>False):Dt P G ⟨dst,.extract x i,ty,pos,after,gd⟩ c L B K:=by
 split at h
 ·rename_i cs hx
  refine ⟨_,_,h.2,E8.pure_ fun V w0 n E σ a w _ hL _=>?_⟩
  have:=Pe hL hx
  generalize hu:a.eval x=u at this
  cases this with
  | @tup vs _ p1 p2 =>
   have hv:vs[i]? = some (vs[i]'(by omega)):=Array.getElem?_eq_getElem _
   refine ⟨vs[i]'(by omega),by simp only [execOp,hu];exact G1 (by simp [Instr.extract,hv]),p2 i _ _ hv ?_⟩
   rw [List.getD_eq_getElem?_getD,List.getElem?_eq_getElem h.1];rfl
 ·exact h.elim
theorem Da7 {t:TypeId} {x:Operand} (h:C4 P t B (L x) fun r=>K r []):Dt P G ⟨dst,.call { callee:=.builtin .len,args:=#[x],argTypes:=#[t] },ty,pos,after,gd⟩ c L B K:=by
 have run:∀ (a:Act) (w:World) {v:Value} {m:Int},a.eval x=v->(Builtin.len_ #[t] ty #[v]).run P w=.ok (.int .i64 m) w->(execOp a.eval ⟨dst,.call { callee:=.builtin .len,args:=#[x],argTypes:=#[t] },ty,pos,after,gd⟩).run P w=.ok (.value (.int .i64 m)) w:=fun a w v m hu hr=>by
  simp [execOp,resolve,invoke,builtin,hu,hr]
 have slr:∀ {A:Option Addr} {m cc:Nat} (w:World),(Ez P t).isSome=true->(Builtin.len_ #[t] ty #[.slice A m cc]).run P w=.ok (.int .i64 (m:Nat)) w:=fun w hs=>by
  obtain ⟨⟨e,k,y⟩,hq⟩:=Option.isSome_iff_exists.1 hs
  simp [Builtin.len_,run_underlying (Lc hq).1,goInt]
 unfold C4 at h
 split at h
 ·rename_i k l hx
  refine ⟨_,_,h.2,E8.pure_ fun V w0 n E σ a w _ hL _=>?_⟩
  have:=(hL x).nrm_
  rw [hx] at this
  generalize hu:a.eval x=u at this
  cases this with
  | iv hr =>
   obtain ⟨A,cc,rfl,_⟩:=hr.to_sl
   exact ⟨_,run a w hu (slr w h.1),.val⟩
 ·rename_i b hx
  split at h
  ·rename_i b' e k l hb
   refine ⟨_,_,h.2,E8.pure_ fun V w0 n E σ a w hs hL hB=>?_⟩
   have:=(hL x).nrm_
   rw [hx] at this
   generalize hu:a.eval x=u at this
   cases this with
   | @own _ A m cc he =>
    obtain ⟨q1,q2⟩:=hB b _ hb
    obtain rfl:b'=b:=q2
    obtain ⟨q3,_⟩:=hs.holds _ q1
    rw [he] at q3
    obtain ⟨A',c',e2⟩:=q3.form
    injection e2 with _ e3 _
    subst e3
    exact ⟨_,run a w hu (slr w h.1),.val⟩
  ·rename_i b' e k l i j d hb
   refine ⟨_,_,h.2,E8.pure_ fun V w0 n E σ a w hs hL hB=>?_⟩
   have:=(hL x).nrm_
   rw [hx] at this
   generalize hu:a.eval x=u at this
   cases this with
   | @own _ A m cc he =>
    obtain ⟨q1,q2⟩:=hB b _ hb
    obtain rfl:b'=b:=q2
    obtain ⟨q3,_⟩:=hs.holds _ q1
    rw [he] at q3
    obtain ⟨A',c',e2⟩:=q3.form
    injection e2 with _ e3 _
    subst e3
    rw [Eg] at hu
    exact ⟨_,run a w hu (slr w h.1),.val⟩
  ·exact h.elim
 ·rename_i hx
  exact ⟨_,_,h.2,E8.pure_ fun V w0 n E σ a w _ hL _=>⟨_,run a w (D5 hL hx) (by simpa using slr (A:=none) (m:=0) (cc:=0) w h.1),.val⟩⟩
 ·rename_i s hx
  refine ⟨_,_,h.2,E8.pure_ fun V w0 n E σ a w _ hL _=>⟨_,run a w (D5 hL hx) ?_,.val⟩⟩
  have hs:=h.1
  unfold Lr at hs
  split at hs
  ·rename_i hu
   simp [Builtin.len_,run_underlying hu,goInt]
  ·cases hs
 ·exact h.elim
theorem Da8 {t : TypeId} {x : Operand} (h : match nrm (L x) with
      | .val (.slice none 0 0) => (Ez P t).isSome = true /\ K (.val (.int .i64 0)) []
      | _ => False) : Dt P G ⟨dst, .call { callee := .builtin .cap, args := #[x], argTypes := #[t] }, ty, pos, after, gd⟩ c L B K := by
  split at h
  · rename_i hx
    obtain ⟨hs, h⟩ := h
    obtain ⟨⟨e, k, y⟩, hq⟩ := Option.isSome_iff_exists.1 hs
    refine ⟨_, _, h, E8.pure_ fun V w0 n E σ a w _ hL _ => ⟨.int .i64 0, ?_, .val⟩⟩
    simp [execOp, resolve, invoke, builtin, D5 hL hx, Builtin.cap_, run_underlying (Lc hq).1, goInt]
  · exact h.elim
theorem Da6 {x y : Operand} {at_ : Array TypeId} (h : match nrm (L x), nrm (L y) with
      | .val (.int k p), .val (.int _ q) => ∃ m, max p q = m /\ K (.val (.int k m)) []
      | _, _ => False) : Dt P G ⟨dst, .call { callee := .builtin .max, args := #[x, y], argTypes := at_ }, ty, pos, after, gd⟩ c L B K := by
  split at h
  · rename_i k p j q hx hy
    obtain ⟨m, rfl, h⟩ := h
    refine ⟨_, _, h, E8.pure_ fun V w0 n E σ a w _ hL _ => ⟨.int k (if q > p then q else p), ?_, ?_⟩⟩
    · simp [execOp, resolve, invoke, builtin, D5 hL hx, D5 hL hy, Builtin.max_, Builtin.max2]
    · rw [show max p q = if q > p then q else p by split <;> omega]
      exact .val
  · exact h.elim
theorem Da5 {x y : Operand} {at_ : Array TypeId} (h : match nrm (L x), nrm (L y) with
      | .val (.int k p), .val (.int _ q) => ∃ m, min p q = m /\ K (.val (.int k m)) []
      | _, _ => False) : Dt P G ⟨dst, .call { callee := .builtin .min, args := #[x, y], argTypes := at_ }, ty, pos, after, gd⟩ c L B K := by
  split at h
  · rename_i k p j q hx hy
    obtain ⟨m, rfl, h⟩ := h
    refine ⟨_, _, h, E8.pure_ fun V w0 n E σ a w _ hL _ => ⟨.int k (if q < p then q else p), ?_, ?_⟩⟩
    · simp [execOp, resolve, invoke, builtin, D5 hL hx, D5 hL hy, Builtin.min_, Builtin.min2]
    · rw [show min p q = if q < p then q else p by split <;> omega]
      exact .val
  · exact h.elim
end
section
variable {P : Program} {G : World -> Prop} {c : Nat} {L : Operand -> AV} {B : Nat -> Option BA} {K : AV -> List BA -> Prop}
variable {dst : Option Tmp} {ty : TypeId} {pos : String} {after : Array Edge} {gd : Option (Nat × Bool)}
theorem Cp.part {X:World} {A:Option Addr} {m cc k:Nat} {l:List (List IV)} (h:Cp X (.slice A m cc) (.sl k l)) {i j d:Nat} (hij:i<=j) (hj:j<=l.length) (A':Option Addr) (hA:i < j->A'=A.map (·.add (i*k))) (hd:j - i<=d) (hd2:d<=cc) :
  Cp X (.slice A' (j - i) d) (.sl k ((l.take j).drop i)):=by
 obtain ⟨A0,c0,e,⟨h1,h2⟩,h3,h4⟩:=h.to_sl
 injection e with e1 e2 e3
 subst e1 e2 e3
 have hlen:((l.take j).drop i).length=j - i:=by rw [List.length_drop,List.length_take];omega
 refine Cp.of_sl ⟨_,_,by rw [hlen],⟨by rw [hlen];exact hd,by rw [hlen];omega⟩,by omega,fun hne=>?_⟩
 have hlt:i < j:=by
  have:=List.length_pos_iff.2 hne
  omega
 have hne0:l≠[]:=by intro e;rw [e] at hj;simp at hj;omega
 obtain ⟨b,off,rfl,hb,h5⟩:=h4 hne0
 rw [hA hlt]
 refine ⟨b,off+i*k,by simp [Jb],hb,fun q x hx=>?_⟩
 rw [List.getElem?_drop] at hx
 have hq:i+q < j:=by
  have:=(List.getElem?_eq_some_iff.1 hx).1
  rw [List.length_take] at this;omega
 rw [List.getElem?_take_of_lt hq] at hx
 obtain ⟨cs,p1,p2,p3⟩:=h5 _ x hx
 refine ⟨cs,p1,p2,fun jj u hu=>?_⟩
 have:=p3 jj u hu
 rw [Nat.add_mul] at this
 rw [show off+i*k+q*k+jj=off+(i*k+q*k)+jj by omega]
 exact this
theorem Cb3 {t:TypeId} {x:Operand} {lo hi mx:Option Operand} (h:match Ez P t,nrm (L x) with
  | some (_,k,_),.iv (.sl k' l) =>
   k=k'/\∃ i j:Nat,(match lo with | none=>i=0 | some p=>L p=.val (.int .i64 i))/\(match hi with | none=>j=l.length | some p=>L p=.val (.int .i64 j))/\i<=j/\j<=l.length/\mxQ L mx hi j l.length (K (.iv (.sl k ((l.take j).drop i))) [])
  | some (_,k,_),.own b=>match B b,lo,hi,mx with
   | some (.row _ _ k' l),some p,none,none=>k=k'/\∃ i:Nat,L p=.val (.int .i64 i)/\i<=l.length/\K .any []
   | _,_,_,_=>False
  | _,_=>False):Dt P G ⟨dst,.slice t x lo hi mx,ty,pos,after,gd⟩ c L B K:=by
 split at h
 ·rename_i e k y k' l ht hx
  obtain ⟨rfl,i,j,hlo,hhi,hij,hj,hK⟩:=h
  obtain ⟨hu,inf,hi2,hi3,_⟩:=Lc ht
  have hK':K (.iv (.sl k ((l.take j).drop i))) []:=by
   unfold mxQ at hK
   split at hK
   ·exact hK
   ·obtain ⟨_,m,_,_,_,h⟩:=hK;exact h
  refine ⟨_,_,hK',E8.pure_ fun V w0 n E σ a w _ hL _=>?_⟩
  have:=(hL x).nrm_
  rw [hx] at this
  generalize hxv:a.eval x=u at this
  cases this with
  | iv hr =>
   obtain ⟨A,cc,rfl,⟨h1,h2⟩,h3,h4⟩:=hr.to_sl
   have hlo':lo.map a.eval=none/\i=0\/lo.map a.eval=some (.int .i64 i):=by
    cases lo with
    | none=>exact .inl ⟨rfl,hlo⟩
    | some p=>exact .inr (by
      have:=D5 hL (x:=p) (v:=.int .i64 i) (by rw [hlo];rfl)
      simp [this])
   have hhi':hi.map a.eval=none/\j=l.length\/hi.map a.eval=some (.int .i64 j):=by
    cases hi with
    | none=>exact .inl ⟨rfl,hhi⟩
    | some p=>exact .inr (by
      have:=D5 hL (x:=p) (v:=.int .i64 j) (by rw [hhi];rfl)
      simp [this])
   have hmx:∃ m:Nat,j<=m/\m<=cc/\((mx=none/\m=cc)\/(mx.map a.eval=some (.int .i64 m)/\mx.isSome=true/\hi.isSome=true)):=by
    unfold mxQ at hK
    split at hK
    ·exact ⟨cc,by omega,Nat.le_refl _,.inl ⟨rfl,rfl⟩⟩
    ·rename_i p
     obtain ⟨e0,m,e1,e2,e3,_⟩:=hK
     exact ⟨m,e2,by omega,.inr ⟨by
      have:=D5 hL (x:=p) (v:=.int .i64 m) (by rw [e1];rfl)
      simp [this],rfl,e0⟩⟩
   obtain ⟨m,hm1,hm2,hm⟩:=hmx
   refine ⟨.slice (if m=i then A else A.map (·.add (i*k))) (j - i) (m - i),?_,.iv (hr.part hij hj _ (fun hne=>by rw [if_neg (by omega)]) (by omega) (by omega))⟩
   have hb:(Instr.sliceBounds true l.length cc (lo.map a.eval) (hi.map a.eval) (mx.map a.eval)).run P w=.ok (i,j,m) w:=by
    have i1:(0:Int)<=(i:Int)/\(i:Int)<=(j:Int):=by omega
    have i2:(0:Int)<=(j:Int)/\(j:Int)<=(m:Int):=by omega
    have i6:(0:Int)<=(m:Int)/\(m:Int)<=(cc:Int):=by omega
    have i3:i<=j:=hij
    have i4:j<=m:=hm1
    have i5:l.length<=cc:=h1
    rcases hm with ⟨rfl,rfl⟩ | ⟨e3,e4,e5⟩
    ·rcases hlo' with ⟨e1,rfl⟩ | e1<;>rcases hhi' with ⟨e2,rfl⟩ | e2<;>rw [e1,e2]<;>simp [Instr.sliceBounds,Instr.sliceBound,asIntOf,i1,i2,i3,i4,i5]
    ·rcases hhi' with ⟨e2,rfl⟩ | e2
     ·cases hi<;>simp at e2 e5
     ·rcases hlo' with ⟨e1,rfl⟩ | e1<;>rw [e1,e2,e3]<;>simp [Instr.sliceBounds,Instr.sliceBound,asIntOf,i1,i2,i3,i4,i5,i6,hm2]
   simp only [execOp,hxv]
   refine G1 ?_
   simp [Instr.sliceAt,Instr.slice,run_underlying hu,hb,sizeOf,typeInfo,hi2,hi3]
 ·rename_i e k y b ht hx
  split at h
  ·rename_i b' e' k' l p hb
   obtain ⟨rfl,i,hp,hi,hK⟩:=h
   obtain ⟨hu,inf,hi2,hi3,_⟩:=Lc ht
   refine ⟨_,_,hK,E8.pure_ fun V w0 n E σ a w hs hL hB=>?_⟩
   have:=(hL x).nrm_
   rw [hx] at this
   generalize hxv:a.eval x=u at this
   cases this with
   | own he =>
    obtain ⟨q1,q2⟩:=hB b _ hb
    obtain rfl:b'=b:=q2
    obtain ⟨q3,_⟩:=hs.holds _ q1
    rw [he] at q3
    obtain ⟨A',cc,e2,⟨h1,_⟩,_⟩:=q3.sl
    rw [e2] at hxv
    have hp':=D5 hL (x:=p) (v:=.int .i64 i) (by rw [hp];rfl)
    refine ⟨.slice (if cc=i then A' else A'.map (·.add (i*k))) (l.length - i) (cc - i),?_,.any⟩
    have hb:(Instr.sliceBounds true l.length cc ((some p).map a.eval) none none).run P w=.ok (i,l.length,cc) w:=by
     have i1:(0:Int)<=(i:Int)/\(i:Int)<=(l.length:Int):=by omega
     have i2:(0:Int)<=(l.length:Int)/\(l.length:Int)<=(cc:Int):=by omega
     simp [hp',Instr.sliceBounds,Instr.sliceBound,asIntOf,i1,i2,hi,h1]
    simp only [execOp,hxv]
    refine G1 ?_
    simp only [Option.map_some,Option.map_none] at hb ⊢
    simp [Instr.sliceAt,Instr.slice,run_underlying hu,hb,sizeOf,typeInfo,hi2,hi3]
  ·exact h.elim
 ·exact h.elim
theorem Ay3 {t:TypeId} {x i:Operand} (h:match nrm (L i) with
  | .val (.int _ m)=>match Ez P t with
   | some (_,k,_)=>match nrm (L x) with
    | .iv (.sl k' l)=>k=k'/\0<=m/\∃ cs,l[m.toNat]? = some cs/\K (.ip cs) []
    | .own b=>match B b with
     | some (.row _ _ k' l)=>k=k'/\0<=m/\m.toNat < l.length/\K (.rp b k m.toNat 0) []
     | some (.rowN _ _ k' l _ _ _)=>k=k'/\0<=m/\m.toNat < l.length/\K (.rp b k m.toNat 0) []
     | _=>False
    | _=>False
   | none=>match Wh P t,L x with
    | some (n,_,k),.bp b p=>0<=m/\m < (n:Int)/\0 < k/\K (.bp b (p+m.toNat*k)) []
    | some (n,_,k),.ip cs=>0<=m/\m < (n:Int)/\0 < k/\K (.ip (cs.drop (m.toNat*k))) []
    | _,_=>False
  | _=>False):Dt P G ⟨dst,.indexAddr t x i,ty,pos,after,gd⟩ c L B K:=by
 split at h
 ·rename_i kk m hi
  split at h
  ·rename_i e k y ht
   obtain ⟨hu,inf,hi2,hi3,_⟩:=Lc ht
   have run:∀ (a:Act) (w:World) {A:Addr} {len cc:Nat},a.eval i=.int kk m->a.eval x=.slice (some A) len cc->0<=m->m < (len:Int)->(execOp a.eval ⟨dst,.indexAddr t x i,ty,pos,after,gd⟩).run P w=.ok (.value (.pointer (some (A.add (m.toNat*k))))) w:=fun a w A len cc h1 h2 h3 h4=>by
    simp only [execOp,h1,h2]
    refine G1 ?_
    have h5:¬ (m < 0):=by omega
    simp [Instr.indexAt,asIntOf,run_underlying hu,h3,h4,sizeOf,typeInfo,hi2,hi3]
   split at h
   ·rename_i k' l hx
    obtain ⟨rfl,h0,cs,hcs,hK⟩:=h
    refine ⟨_,_,hK,E8.pure_ fun V w0 n E σ a w hs hL _=>?_⟩
    have:=(hL x).nrm_
    rw [hx] at this
    generalize hxv:a.eval x=u at this
    cases this with
    | iv hr =>
     obtain ⟨A,cc,rfl,⟨h1,h2⟩,h3,h4⟩:=hr.to_sl
     have hlt:=(List.getElem?_eq_some_iff.1 hcs).1
     obtain ⟨b,off,rfl,hb,h5⟩:=h4 (by intro e;rw [e] at hcs;simp at hcs)
     obtain ⟨vs,p1,p2,p3⟩:=h5 _ cs hcs
     refine ⟨_,run a w (D5 hL hi) hxv h0 (by omega),?_⟩
     rw [Jb]
     refine .ip (fun j=>(vs[j]?).getD undef) (fun j u hj=>?_) fun j u hj=>?_
     ·have hj':j < vs.length:=by rw [p1.len];exact (List.getElem?_eq_some_iff.1 hj).1
      rw [List.getElem?_eq_getElem hj']
      exact p3 j _ (List.getElem?_eq_getElem hj')
     ·have hj':j < vs.length:=by rw [p1.len];exact (List.getElem?_eq_some_iff.1 hj).1
      simp only [List.getElem?_eq_getElem hj',Option.getD_some]
      exact p1.get (List.getElem?_eq_getElem hj') hj
   ·rename_i b hx
    split at h
    ·rename_i b' e' k' l hb
     obtain ⟨rfl,h0,hlt,hK⟩:=h
     refine ⟨_,_,hK,E8.pure_ fun V w0 n E σ a w hs hL hB=>?_⟩
     have:=(hL x).nrm_
     rw [hx] at this
     generalize hxv:a.eval x=u at this
     cases this with
     | @own _ A mm cc he =>
      obtain ⟨q1,q2⟩:=hB b _ hb
      obtain rfl:b'=b:=q2
      obtain ⟨q3,q4⟩:=hs.holds _ q1
      rw [he] at q3 q4
      rcases q3.forms with ⟨_,e0⟩ | ⟨g,c2,hg,_,_⟩
      ·rw [e0] at hlt;simp at hlt
      ·injection hg with g1 g2 g3
       subst g1 g2 g3
       obtain rfl:g=E.blk b':=q4 g rfl
       refine ⟨_,run a w (D5 hL hi) hxv h0 (by omega),?_⟩
       rw [Jb]
       have:=Bd.rp (E:=E) (X:=vis V w0 w (Ac E σ.bk)) (b:=b') (k:=k) (i:=m.toNat) (j:=0)
       simpa using this
    ·rename_i b' e' k' l i' j' c' hb
     obtain ⟨rfl,h0,hlt,hK⟩:=h
     refine ⟨_,_,hK,E8.pure_ fun V w0 n E σ a w hs hL hB=>?_⟩
     have:=(hL x).nrm_
     rw [hx] at this
     generalize hxv:a.eval x=u at this
     cases this with
     | @own _ A mm cc he =>
      obtain ⟨q1,q2⟩:=hB b _ hb
      obtain rfl:b'=b:=q2
      obtain ⟨q3,q4⟩:=hs.holds _ q1
      rw [he] at q3 q4
      rcases q3.forms with ⟨_,e0⟩ | ⟨g,c2,hg,_,_⟩
      ·have f1:=congrArg List.length e0
       rw [Eg] at f1
       simp only [List.length_nil] at f1
       omega
      ·injection hg with g1 g2 g3
       rw [Eg] at g2
       subst g1 g2 g3
       obtain rfl:g=E.blk b':=q4 g rfl
       refine ⟨_,run a w (D5 hL hi) hxv h0 (by omega),?_⟩
       rw [Jb]
       have:=Bd.rp (E:=E) (X:=vis V w0 w (Ac E σ.bk)) (b:=b') (k:=k) (i:=m.toNat) (j:=0)
       simpa using this
    ·exact h.elim
   ·exact h.elim
  ·split at h
   ·rename_i n q k b p ht hx
    obtain ⟨h0,h1,hk,hK⟩:=h
    refine ⟨_,_,hK,E8.pure_ fun V w0 n' E σ a w hs hL _=>?_⟩
    obtain ⟨e,hu,hz⟩:=Zi ht
    obtain ⟨_,hz⟩:=Gd (w:=w) hz
    have:=Pe hL hx
    generalize hxv:a.eval x=u at this
    cases this
    refine ⟨.pointer (some ⟨E.blk b,p+m.toNat*k,none⟩),?_,.bp⟩
    simp only [execOp,D5 hL hi,hxv]
    refine G1 ?_
    simp [Instr.indexAt,asIntOf,run_underlying hu,Instr.sureAddr,h0,h1,hz,Jb]
   ·rename_i n q k cs ht hx
    obtain ⟨h0,h1,hk,hK⟩:=h
    refine ⟨_,_,hK,E8.pure_ fun V w0 n' E σ a w hs hL _=>?_⟩
    obtain ⟨e,hu,hz⟩:=Zi ht
    obtain ⟨_,hz⟩:=Gd (w:=w) hz
    have:=Pe hL hx
    generalize hxv:a.eval x=u at this
    cases this with
    | @ip b o _ g p1 p2 =>
     refine ⟨.pointer (some ⟨b,o+m.toNat*k,none⟩),?_,.ip (fun j=>g (m.toNat*k+j)) (fun j u hj=>?_) fun j u hj=>?_⟩
     ·simp only [execOp,D5 hL hi,hxv]
      refine G1 ?_
      simp [Instr.indexAt,asIntOf,run_underlying hu,Instr.sureAddr,h0,h1,hz,Jb]
     ·rw [List.getElem?_drop] at hj
      rw [Nat.add_assoc];exact p1 _ u hj
     ·rw [List.getElem?_drop] at hj
      exact p2 _ u hj
   ·exact h.elim
 ·exact h.elim
theorem Cb4 {t:TypeId} {x i:Operand} (h:match nrm (L i),L x with
  | .val (.int _ m),.aggI cs=>match Wh P t with
   | some (n,0,1)=>0<=m/\m < (n:Int)/\∃ u,cs[m.toNat]? = some u/\K (nrm (.iv u)) []
   | _=>False
  | .val (.int _ m),.val (.string s)=>Lr P t=true/\0<=m/\∃ b,s[m.toNat]? = some b/\K (.val (.int .u8 (b.toNat:Nat))) []
  | _,_=>False):Dt P G ⟨dst,.index t x i,ty,pos,after,gd⟩ c L B K:=by
 split at h
 ·rename_i kk m cs hi hx
  split at h
  ·rename_i n ht
   obtain ⟨h0,h1,u,hu',hK⟩:=h
   refine ⟨_,_,hK,E8.pure_ fun V w0 n' E σ a w hs hL _=>?_⟩
   have:=Pe hL hx
   generalize hxv:a.eval x=u' at this
   cases this with
   | @aggI vs _ hr =>
    obtain ⟨e,hu,hz⟩:=Zi ht
    obtain ⟨ha,hz⟩:=Gd (w:=w) hz
    have hlt:=(List.getElem?_eq_some_iff.1 hu').1
    rw [<-hr.len] at hlt
    have hv:vs[m.toNat]? = some (vs[m.toNat]'(by simpa using hlt)):=Array.getElem?_eq_getElem _
    refine ⟨vs[m.toNat]'(by simpa using hlt),?_,(Bd.iv (hr.get (by rw [Array.getElem?_toList];exact hv) hu')).nrm_⟩
    simp only [execOp,D5 hL hi,hxv]
    refine G1 ?_
    simp [Instr.index,asIntOf,run_underlying hu,h0,h1,hz,part,ha,hv]
  ·exact h.elim
 ·rename_i kk m s hi hx
  obtain ⟨ht,h0,b,hb,hK⟩:=h
  refine ⟨_,_,hK,E8.pure_ fun V w0 n' E σ a w hs hL _=>⟨_,?_,.val⟩⟩
  unfold Lr at ht
  split at ht
  ·rename_i hu
   simp only [execOp,D5 hL hi,D5 hL (x:=x) (v:=.string s) (by rw [hx];rfl)]
   refine G1 ?_
   simp [Instr.index,asIntOf,run_underlying hu,h0,hb]
  ·cases ht
 ·exact h.elim
theorem Cl3 {f : FuncId} {fo : Operand} {args : Array Operand} {at_ : Array TypeId} {caps : List AV} (hfo : L fo = .fn f caps) (hen : ∀ vs (w : World), (callFunc f vs).run P w = .ok (.enter f vs) w) (h : Bh P G B f (args.toList.map L ++ caps) c K) :
    Dt P G ⟨dst, .call { callee := .value fo, args, argTypes := at_ }, ty, pos, after, gd⟩ c L B K := by
  obtain ⟨r, nb, args', hc, hsm, hK⟩ := h
  simp only [Bool.and_eq_true] at hsm
  refine ⟨_, _, hK, fun V w0 n E σ a w hs hG hL hB N Q hN => ?_⟩
  have hfv := Pe hL hfo
  generalize hfe : a.eval fo = u at hfv
  cases hfv with
  | @fn _ vs _ p1 p2 =>
    have hexec : (execOp a.eval ⟨dst, .call { callee := .value fo, args, argTypes := at_ }, ty, pos, after, gd⟩).run P w = .ok (.enter f (args.map a.eval ++ vs)) w := by
      simp [execOp, resolve, hfe, Deferred.ofValue, invoke, hen]
    have hargs : Au E (vis V w0 w (Ac E σ.bk)) (args.map a.eval ++ vs).toList (args.toList.map L ++ caps) := by
      refine ⟨by simp [p1], fun j v d e1 e2 => ?_⟩
      by_cases hj : j < args.size
      · rw [List.getElem?_append_left (by simpa using hj), List.getElem?_map, Option.map_eq_some_iff] at e2
        obtain ⟨y, e3, rfl⟩ := e2
        rw [Array.getElem?_toList, Array.getElem?_append_left (by simpa using hj), Array.getElem?_map, Option.map_eq_some_iff] at e1
        obtain ⟨y', e4, rfl⟩ := e1
        rw [Array.getElem?_toList, e4] at e3
        obtain rfl := Option.some.inj e3
        exact hL _
      · rw [List.getElem?_append_right (by simp; omega)] at e2
        rw [Array.getElem?_toList, Array.getElem?_append_right (by simp; omega)] at e1
        simp only [List.length_map, Array.length_toList] at e2
        simp only [Array.size_map] at e1
        exact p2 _ v d e1 e2
    unfold Oper.wp
    rw [hexec, Oper.upon_enter]
    have hlt := hs.lt
    have h0 := hs.low.size
    -- what the callee gives, seen by the caller
    have fin : ∀ {gs : List Nat} (Vc : World), Vc = vis V w0 w gs -> (∀ g ∈ gs, g < w.heap.size) -> (∀ (E' : Env) (w' : World) (v : Value), (∀ b ∈ nb, b.holds E' (vis Vc w w' (Ac E' nb)) w' w.heap.size) -> Bd E' (vis Vc w w' (Ac E' nb)) v r -> (Ext (vis Vc w w' (Ac E' nb)) (vis V w0 w' (Ac E' nb ++ gs))) ->
          (∀ b ∈ nb, b.holds E' (vis V w0 w' (Ac E' nb ++ Ac E σ.bk)) w' w.heap.size) /\ Bd E' (vis V w0 w' (Ac E' nb ++ Ac E σ.bk)) v r) -> A7 P G f args' r nb -> Au E Vc (args.map a.eval ++ vs).toList args' ->
        Calls P f (args.map a.eval ++ vs) w fun
          | .returned v, w'' => N (a.put dst v) w''
          | .panicked chain, w'' => Q (.panic chain) a w''
          | .outgrown, _ => LetsOut Q := fun {gs} Vc hVc hgs hfl hcall hav => by
      subst hVc
      refine (hcall.2 _ w E _ (Tm hs.ext hs.low) hG hav).mono ?_
      rintro e w' ⟨v, E', rfl, hb, hnd, hnew, hh, hv⟩
      obtain ⟨hh2, hv2⟩ := hfl E' w' v hh hv (Bu1 hgs h0 hb hnew)
      have ho := Zx (E := E) (E' := E') (c := c) hsm.2
      refine hN v w' (Env.join E E' c) ⟨hb, ⟨Env.join_same E E' c, .inr rfl⟩, by rw [ho]; exact hnd, by rw [ho]; exact hnew, fun b hb' => ?_, by rw [ho]; exact hv2.sh hsm.1⟩
      obtain ⟨b0, hb0, rfl⟩ := Ah7 hb'
      rw [ho]
      exact BA.holds_base (BA.sh_holds (hh2 b0 hb0) (Tt hsm.2 b0 hb0)) h0
    rcases hc with ⟨hsub, hcall⟩ | ⟨hl, hfr, hfb, hsub, hcall⟩
    · refine fin (gs := Ac E σ.bk) _ rfl hlt (fun E' w' v hh hv hx => ⟨fun b hb => ?_, hv.mono hx⟩) hcall (hsub _ _ _ hargs)
      exact BA.holds_ext (Env.same_refl 0 0 E') hx (fun _ _ => rfl) b.off_none (hh b hb)
    · refine fin (gs := []) _ rfl (fun _ h => by cases h) (fun E' w' v hh hv hx => ⟨fun b hb => BA.flat_holds hfb hb (hh b hb), hv.flat hfr⟩) hcall (hsub _ _ _ ⟨by rw [Mc]; exact hargs.1, fun j v d e1 e2 => ?_⟩)
      rw [Md, Option.map_eq_some_iff] at e2
      obtain ⟨d', e3, rfl⟩ := e2
      exact hs.view hB hl (hargs.2 j v d' e1 e3)
end
def Wq (cells:Array Value) (off:Nat):List Value->Array Value
 | []=>cells
 | v :: vs=>Wq (cells.setIfInBounds off v) (off+1) vs
theorem Aa4 (off:Nat):∀ (vs:List Value) (cells:Array Value),(Wq cells off vs).size=cells.size:=by
 intro vs
 induction vs generalizing off with
 | nil=>exact fun _=>rfl
 | cons v vs ih=>intro cells;simp [Wq,ih]
theorem Ar3 (i:Nat):∀ (vs:List Value) (off:Nat) (cells:Array Value),(Wq cells off vs)[i]? = if off<=i/\i < off+vs.length/\i < cells.size then vs[i - off]? else cells[i]? := by
 intro vs
 induction vs with
 | nil=>intro off cells;simp [Wq];omega
 | cons v vs ih =>
  intro off cells
  simp only [Wq,ih,Array.size_setIfInBounds,Array.getElem?_setIfInBounds,List.length_cons]
  by_cases h1:off=i
  ·subst h1
   by_cases h2:off < cells.size
   ·rw [if_neg (by omega),if_pos (by omega)];simp [h2]
   ·rw [if_neg (by omega)];simp [h2]
  ·by_cases h2:off<=i/\i < off+(vs.length+1)/\i < cells.size
   ·rw [if_pos (by omega),if_pos h2,show i - off=(i - (off+1))+1 by omega,List.getElem?_cons_succ]
   ·rw [if_neg (by omega),if_neg h2,if_neg h1]
theorem Br2 (off:Nat):∀ (l:List Value) (j:Nat) (cells:Array Value),(l.zipIdx j).foldl (fun cs (x:Value×Nat)=>cs.setIfInBounds (off+x.2) x.1) cells=Wq cells (off+j) l:=by
 intro l
 induction l with
 | nil=>exact fun _ _=>rfl
 | cons v l ih=>intro j cells;simp only [List.zipIdx_cons,List.foldl_cons,ih,Wq];rfl
theorem Ae8 {place:Nat->Option (Nat×Nat)} {cells:Array Value} {i off size:Nat} {v:Value} {rest:List (Nat×Value)} (h:place i=some (off,size)) (h1:v.cells.size=size) (h2:off+size<=cells.size) :
  Instr.fill place cells ((i,v) :: rest)=Instr.fill place (Wq cells off v.cells.toList) rest:=by
 have e:v.cells.zipIdx.foldl (fun cs (x:Value×Nat)=>cs.setIfInBounds (off+x.2) x.1) cells=Wq cells off v.cells.toList:=by
  rw [<-Array.foldl_toList,Array.toList_zipIdx]
  exact Br2 off _ 0 cells
 conv=>lhs;unfold Instr.fill
 simp only [h]
 rw [if_neg (by simp only [Bool.or_eq_true,decide_eq_true_eq];omega)]
 exact congrArg (fun c=>Instr.fill place c rest) e
theorem C26 (k:Nat):∀ (xs:List Value) (s:Nat) (cells:Array Value),(∀ v∈xs,v.cells.size=k)->cells.size=(s+xs.length)*k ->
  ∃ out:Array Value,Instr.fill (fun i=>some (i*k,k)) cells (xs.zipIdx s |>.map fun x=>(x.2,x.1))=some out/\out.size=cells.size /\
   (∀ j,j < s*k->out[j]? = cells[j]?)/\∀ (i:Nat) v,xs[i]? = some v->∀ j u,v.cells[j]? = some u->out[(s+i)*k+j]? = some u:=by
 intro xs
 induction xs with
 | nil=>exact fun s cells _ _=>⟨cells,rfl,rfl,fun _ _=>rfl,fun i v h=>by simp at h⟩
 | cons v xs ih =>
  intro s cells hk hs
  have hvk:=hk v (by simp)
  have hsz:s*k+k<=cells.size:=by
   rw [hs,List.length_cons,Nat.add_mul]
   have:k<=(xs.length+1)*k:=by rw [Nat.add_mul];omega
   omega
  simp only [List.zipIdx_cons,List.map_cons]
  rw [Ae8 (off:=s*k) (size:=k) rfl hvk hsz]
  obtain ⟨out,o1,o2,o3,o4⟩:=ih (s+1) (Wq cells (s*k) v.cells.toList) (fun u hu=>hk u (List.mem_cons_of_mem _ hu)) (by rw [Aa4,hs,List.length_cons];congr 1;omega)
  refine ⟨out,o1,by rw [o2,Aa4],fun j hj=>?_,fun i u hu j c hc=>?_⟩
  ·rw [o3 j (by rw [Nat.add_mul];omega),Ar3,if_neg (by omega)]
  ·cases i with
   | zero =>
    simp at hu
    subst hu
    have hj:j < k:=by rw [<-hvk];exact (Array.getElem?_eq_some_iff.1 hc).1
    rw [Nat.add_zero,o3 _ (by rw [Nat.add_mul];omega),Ar3,if_pos (by simp [hvk];omega),Nat.add_sub_cancel_left]
    simpa using hc
   | succ i =>
    have:=o4 i u (by simpa using hu) j c hc
    rwa [show s+1+i=s+(i+1) by omega] at this
section
variable {P : Program} {G : World -> Prop} {c : Nat} {L : Operand -> AV} {B : Nat -> Option BA} {K : AV -> List BA -> Prop}
variable {dst : Option Tmp} {ty : TypeId} {pos : String} {after : Array Edge} {gd : Option (Nat × Bool)}
theorem Bs3 {α:Type} {R:List Value->α->Prop} {k:Nat} : ∀ (l:List α) (s:Nat) (xs:List Value),xs.length=(s+l.length)*k->(∀ i x,l[i]? = some x->∃ cs,R cs x/\cs.length=k/\∀ j u,cs[j]? = some u->xs[(s+i)*k+j]? = some u)->Bx R k (xs.drop (s*k)) l:=by
 intro l
 induction l with
 | nil=>intro s xs hl _;simp only [Bx];exact List.drop_eq_nil_of_le (by rw [hl];simp)
 | cons x l ih =>
  intro s xs hl h
  obtain ⟨cs,h1,h2,h3⟩:=h 0 x rfl
  refine ⟨cs,xs.drop ((s+1)*k),?_,h2,h1,ih (s+1) xs (by rw [hl,List.length_cons];congr 1;omega) fun i y hy=>?_⟩
  ·apply List.ext_getElem?
   intro j
   rw [List.getElem?_drop]
   by_cases hj:j < k
   ·have h5:=h3 j _ (List.getElem?_eq_getElem (by omega))
    rw [Nat.add_zero] at h5
    rw [List.getElem?_append_left (by omega),h5,List.getElem?_eq_getElem (by omega)]
   ·rw [List.getElem?_append_right (by omega),List.getElem?_drop,h2]
    congr 1
    rw [Nat.add_mul];omega
  ·have:=h (i+1) y (by simpa using hy)
   rwa [show s+(i+1)=s+1+i by omega] at this
theorem Af9 {t:TypeId} {len e k y:Nat} {parts:Array (Nat×Operand)} {l:List (List IV)} (ht:Ez P t=some (e,k,y)) (hz:(tyZ P e).isSome=true) (hlen:l.length=len) (hk:0 < k) (hbig:len*k<=16777216)
  (hparts:∀ (i:Nat) (cs:List IV),l[i]? = some cs->cs.length=k/\∃ x,parts[i]? = some (i,x)/\okC (L x)=true/\AsI (Bp (L x)) cs) (hps:parts.size=len)
  {V w0:World} {n:Fm} {E:Env} {σ:Ag} {a:Act} {w:World} (hL:∀ x,Bd E (vis V w0 w (Ac E σ.bk)) (a.eval x) (L x)) :
  ∃ out:Array Value,out.size=len*k/\(∀ (i:Nat) (cs:List IV),l[i]? = some cs->∃ vs:List Value,Ay (vis V w0 w (Ac E σ.bk)) vs cs/\vs.length=k/\∀ (j:Nat) u,vs[j]? = some u->out.toList[i*k+j]? = some u) /\
   (execOp a.eval ⟨dst,.buildSlice t len parts,ty,pos,after,gd⟩).run P w=.ok (.value (.slice (some ⟨w.heap.size,0,none⟩) len len)) (w.alloc (.cells out e)):=by
  obtain ⟨hu,inf,hi2,hi3,_⟩:=Lc ht
  obtain ⟨⟨zq,zs⟩,hz⟩:=Option.isSome_iff_exists.1 hz
  obtain ⟨z,z1,z2,_⟩:=Be7 (w:=w) hz
  -- the parts' values
  have hval:∀ i,i < len->∃ x cs,parts[i]? = some (i,x)/\l[i]? = some cs/\Ay (vis V w0 w (Ac E σ.bk)) (a.eval x).cells.toList cs/\(a.eval x).cells.size=k:=fun i hi=>by
   have hi':i < l.length:=by omega
   obtain ⟨p0,x,p1,p2,p3⟩:=hparts i _ (List.getElem?_eq_getElem hi')
   have hr:=p3 _ _ _ ((hL x).cells p2).1
   refine ⟨x,_,p1,List.getElem?_eq_getElem hi',hr,?_⟩
   have:=hr.len
   rw [p0] at this
   simpa using this
  have hvs:(parts.map fun (i,x)=>(i,a.eval x)).toList=((parts.toList.map fun p=>a.eval p.2).zipIdx 0).map fun x=>(x.2,x.1):=by
   apply List.ext_getElem?
   intro i
   rw [Array.toList_map,List.getElem?_map,List.getElem?_map,List.getElem?_zipIdx,List.getElem?_map,Array.getElem?_toList]
   by_cases hi:i < len
   ·obtain ⟨x,cs,p1,_⟩:=hval i hi
    rw [p1];simp
   ·rw [Array.getElem?_eq_none (by omega)];rfl
  obtain ⟨out,o1,o2,_,o4⟩:=C26 k (parts.toList.map fun p=>a.eval p.2) 0 ((Array.range (len*k)).map (z.cells[· % z.cells.size]!)) (fun v hv=>by
   obtain ⟨p,hp,rfl⟩:=List.mem_map.1 hv
   obtain ⟨i,hi⟩:=List.mem_iff_getElem?.1 hp
   have hi2:i < len:=by have:=(List.getElem?_eq_some_iff.1 hi).1;simp at this;omega
   obtain ⟨x,cs,p1,_,_,p4⟩:=hval i hi2
   rw [Array.getElem?_toList,p1] at hi
   obtain rfl:=Option.some.inj hi
   exact p4) (by simp [hps])
  simp only [Array.size_map,Array.size_range] at o2
  have hexec:(execOp a.eval ⟨dst,.buildSlice t len parts,ty,pos,after,gd⟩).run P w=.ok (.value (.slice (some ⟨w.heap.size,0,none⟩) len len)) (w.alloc (.cells out e)):=by
   simp only [execOp]
   refine G1 ?_
   have hb:¬ (len*k > 2 ^ 24):=by omega
   simp only [Instr.buildSlice,hvs]
   by_cases h0:len*k=0
   ·have hl0:len=0:=by
     rcases Nat.mul_eq_zero.1 h0 with h | h
     ·exact h
     ·omega
    subst hl0
    have hp0:parts=#[]:=Array.eq_empty_of_size_eq_zero hps
    subst hp0
    simp only [Nat.zero_mul] at o1 o2
    have hout:out=#[]:=Array.eq_empty_of_size_eq_zero o2
    subst hout
    simp only [Sem.run_bind,run_underlying hu,Result.andThen_ok,sizeOf,run_typeInfo w hi2,Sem.run_pure,newRow,newObj,hi3,if_neg hb,if_pos h0]
    simp [Instr.fill,Sem.run]
    have e0:Array.map (fun _=>(default:Value)) (Array.range 0)=#[]:=Array.eq_empty_of_size_eq_zero (by simp)
    rw [e0]
   ·simp only [Sem.run_bind,run_underlying hu,Result.andThen_ok,sizeOf,run_typeInfo w hi2,Sem.run_pure,newRow,newObj,hi3,if_neg hb,if_neg h0,z1,o1]
    rfl
  refine ⟨out,o2,fun i cs hi=>?_,hexec⟩
  have hil:i < len:=by rw [<-hlen];exact (List.getElem?_eq_some_iff.1 hi).1
  obtain ⟨x,cs',p1,p2,p3,p4⟩:=hval i hil
  rw [p2] at hi
  obtain rfl:=Option.some.inj hi
  refine ⟨_,p3,by simpa using p4,fun j u hj=>?_⟩
  have:=o4 i (a.eval x) (by rw [List.getElem?_map,Array.getElem?_toList,p1];rfl) j u (by simpa using hj)
  simpa using this
theorem Cb6 {t:TypeId} {len:Nat} {parts:Array (Nat×Operand)} (h:match Ez P t with
  | some (e,k,_)=>(tyZ P e).isSome=true/\∃ l:List (List IV),l.length=len/\0 < k/\len*k<=16777216/\(∀ (i:Nat) (cs:List IV),l[i]? = some cs->cs.length=k/\∃ x,parts[i]? = some (i,x)/\okC (L x)=true/\AsI (Bp (L x)) cs)/\parts.size=len/\(K (.own c) [.row c e k l]\/K (.iv (.sl k l)) [])
  | none=>False):Dt P G ⟨dst,.buildSlice t len parts,ty,pos,after,gd⟩ c L B K:=by
 split at h
 ·rename_i e k y ht
  obtain ⟨hz,l,hlen,hk,hbig,hparts,hps,hK⟩:=h
  have hle:len<=len*k:=Nat.le_mul_of_pos_right _ hk
  rcases hK with hK | hK
  ·refine ⟨_,_,hK,fun V w0 n E σ a w hs hG hL _ N Q hN=>?_⟩
   obtain ⟨out,o2,o4,hexec⟩:=Af9 (dst:=dst) (ty:=ty) (pos:=pos) (after:=after) (gd:=gd) ht hz hlen hk hbig hparts hps (n:=n) hL
   unfold Oper.wp
   rw [hexec,Oper.upon_value]
   have hE:Env.same c (c+100) E ⟨fun b=>if b=c then w.heap.size else E.blk b,fun b=>if b=c then .slice (some ⟨w.heap.size,0,none⟩) len len else E.row b⟩:=fun b hb=>by
    have:¬ b=c:=by omega
    simp [this]
   have hbel:=Ai (o:=.cells out e) (Below.refl _ w)
   have ho:Ac ⟨fun b=>if b=c then w.heap.size else E.blk b,fun b=>if b=c then .slice (some ⟨w.heap.size,0,none⟩) len len else E.row b⟩ [.row c e k l]=[w.heap.size]:=by
    simp [Ac,BA.owned,Value.ownBlock]
   have hx:Ext (vis V w0 w (Ac E σ.bk)) (vis V w0 (w.alloc (.cells out e)) ([w.heap.size]++Ac E σ.bk)):=D6 hbel.size fun p u _ h4 h5 h6=>⟨fun hm=>by
    rcases List.mem_append.1 hm with hm | hm
    ·simp at hm;omega
    ·exact h5 hm,As hbel h6⟩
   have hch:Bx (Ay (vis V w0 (w.alloc (.cells out e)) ([w.heap.size]++Ac E σ.bk))) k out.toList l:=by
    have:=Bs3 (R:=Ay (vis V w0 (w.alloc (.cells out e)) ([w.heap.size]++Ac E σ.bk))) (k:=k) l 0 out.toList (by simp [o2,hlen]) fun i cs hi=>by
     obtain ⟨vs,p3,p4,p5⟩:=o4 i cs hi
     exact ⟨vs,p3.ext hx,p4,fun j u hj=>by simpa using p5 j u hj⟩
    simpa using this
   refine hN _ _ ⟨fun b=>if b=c then w.heap.size else E.blk b,fun b=>if b=c then .slice (some ⟨w.heap.size,0,none⟩) len len else E.row b⟩ ⟨hbel,⟨hE,.inr rfl⟩,by rw [ho];simp,fun g hg=>by rw [ho] at hg;simp at hg;omega,fun b' hb'=>?_,?_⟩
   ·rw [ho]
    simp only [List.mem_singleton] at hb'
    subst hb'
    refine ⟨?_,fun g hg=>by simp [Value.ownBlock] at hg;simp [hg]⟩
    simp only [if_true]
    have hbl:=Ah.of_blk (w:=w.alloc (.cells out e)) (g:=w.heap.size) (e:=e) (cs:=out) (l:=l) (Blk.new _ _ _) hch (by omega)
    rw [hlen] at hbl
    exact hbl.base hs.low.size
   ·refine .own (E:=⟨fun b=>if b=c then w.heap.size else E.blk b,fun b=>if b=c then .slice (some ⟨w.heap.size,0,none⟩) len len else E.row b⟩) ?_
    simp
  ·refine ⟨_,_,hK,fun V w0 n E σ a w hs hG hL _ N Q hN=>?_⟩
   obtain ⟨out,o2,o4,hexec⟩:=Af9 (dst:=dst) (ty:=ty) (pos:=pos) (after:=after) (gd:=gd) ht hz hlen hk hbig hparts hps (n:=n) hL
   unfold Oper.wp
   rw [hexec,Oper.upon_value]
   have hbel:=Ai (o:=.cells out e) (Below.refl _ w)
   have hx:Ext (vis V w0 w (Ac E σ.bk)) (vis V w0 (w.alloc (.cells out e)) (Ac E σ.bk)):=D6 hbel.size fun p u _ _ h5 h6=>⟨h5,As hbel h6⟩
   have hnot:w.heap.size∉Ac E σ.bk:=fun hm=>absurd (hs.lt _ hm) (Nat.lt_irrefl _)
   refine hN _ _ E ⟨hbel,⟨Env.same_refl _ _ E,.inl rfl⟩,List.nodup_nil,(fun g hg=>by cases hg),(fun b' hb'=>by cases hb'),?_⟩
   refine .iv (Cp.of_sl ⟨some ⟨w.heap.size,0,none⟩,len,by rw [hlen],⟨by omega,by omega⟩,by unfold maxLen;omega,fun _=>⟨w.heap.size,0,rfl,?_,fun i cs hi=>?_⟩⟩)
   ·show w.heap.size < (vis V w0 (w.alloc (.cells out e)) _).heap.size
    rw [Gk];simp
   ·obtain ⟨vs,p3,p4,p5⟩:=o4 i cs hi
    refine ⟨vs,p3.ext hx,p4,fun j u hj=>?_⟩
    show (vis V w0 (w.alloc (.cells out e)) (Ac E σ.bk)).cell? _=some u
    rw [K6 hs.low.size,if_neg hnot,(Blk.new w e out).cell]
    simpa using p5 j u hj
 ·exact h.elim
theorem Ar2 {E:Env} {X:World} : ∀ (vs:List Value) (ds:List AV) (off:Nat) (cells:Array Value) (cs:List AV),Au E X cells.toList cs->Au E X vs ds->Au E X (Wq cells off vs).toList (F2 cs off ds)
 | [],[],off,cells,cs,h,_=>h
 | v :: vs,d :: ds,off,cells,cs,h,hr=>by
  obtain ⟨v',vs',e,h1,h2⟩:=Au.cons_iff.1 hr
  injection e with e1 e2
  subst e1 e2
  refine Ar2 vs ds (off+1) _ _ ?_ h2
  rw [Array.toList_setIfInBounds]
  exact h.set_ h1 off
 | [],_ :: _,_,_,_,_,hr=>absurd hr.1 (by simp)
 | _ :: _,[],_,_,_,_,hr=>absurd hr.1 (by simp)
theorem Xa {E:Env} {X:World} {L:Operand->AV} {a:Act} (hL:∀ x,Bd E X (a.eval x) (L x)) {places:List (Nat×Nat)} : ∀ (parts:List (Nat×Operand)) (cells:Array Value) (cs out:List AV),Au E X cells.toList cs ->
  Tc places cs (parts.map fun p=>(p.1,L p.2))=some out->∃ C,Instr.fill (places.toArray[·]?) cells (parts.map fun p=>(p.1,a.eval p.2))=some C/\Au E X C.toList out
 | [],cells,cs,out,h,hf=>by
  simp only [List.map_nil,Tc,Option.some.injEq] at hf
  subst hf
  exact ⟨cells,rfl,h⟩
 | p :: parts,cells,cs,out,h,hf=>by
  simp only [List.map_cons,Tc] at hf
  split at hf
  ·cases hf
  ·rename_i off size hp
   split at hf
   ·rename_i hc
    obtain ⟨c1,c2,c3⟩:=hc
    obtain ⟨hv,_⟩:=(hL p.2).cells c2
    have hsz:(a.eval p.2).cells.size=size:=by
     have:=hv.1
     rw [c1] at this
     simpa using this
    have hcs:off+size<=cells.size:=by
     have:=h.1
     simp at this;omega
    obtain ⟨C,h1,h2⟩:=Xa hL parts (Wq cells off (a.eval p.2).cells.toList) _ out (Ar2 _ _ off cells cs h hv) hf
    refine ⟨C,?_,h2⟩
    rw [List.map_cons,Ae8 (off:=off) (size:=size) (by simpa using hp) hsz hcs]
    exact h1
   ·cases hf
theorem Av8 {P:Program} {w:World} : ∀ {fs:List Field} {l:List (Nat×Nat)},(fs.mapM fun f=>(P.info? f.type).map fun i=>(f.offset,i.size))=some l->(fs.mapM fun f=>(do return (f.offset,<-sizeOf f.type):Sem (Nat×Nat))).run P w=.ok l w
 | [],l,h=>by simp at h;subst h;rfl
 | f :: fs,l,h=>by
  simp only [List.mapM_cons,Option.bind_eq_bind,Option.bind_eq_some_iff,Option.map_eq_some_iff,Option.pure_def,Option.some.injEq] at h
  obtain ⟨x,⟨i,hi,rfl⟩,l',h1,rfl⟩:=h
  have h2:=Av8 h1 (w:=w)
  rw [List.mapM_cons]
  simp only [Sem.run_bind,sizeOf,run_typeInfo w hi,Result.andThen_ok,Sem.run_pure] at h2 ⊢
  rw [h2]
  rfl
theorem Ae9 {pl pl':Nat->Option (Nat×Nat)} (h:∀ i q,pl i=some q->pl' i=some q):∀ (parts:List (Nat×Value)) (cells C:Array Value),Instr.fill pl cells parts=some C->Instr.fill pl' cells parts=some C
 | [],cells,C,hf=>hf
 | (i,v) :: rest,cells,C,hf=>by
  unfold Instr.fill at hf ⊢
  cases hp:pl i with
  | none=>rw [hp] at hf;cases hf
  | some q =>
   rw [hp] at hf
   rw [h i q hp]
   simp only at hf ⊢
   split at hf
   ·cases hf
   ·rename_i hc
    rw [if_neg hc]
    exact Ae9 h rest _ C hf
theorem C35 {t:TypeId} {parts:Array (Nat×Operand)} (h:match K7 P t with
  | some (zs,places)=>match Tc places (zs.map AV.val) (parts.toList.map fun p=>(p.1,L p.2)) with
   | some cs=>K (.agg cs) []
   | none=>False
  | none=>False):Dt P G ⟨dst,.build t parts,ty,pos,after,gd⟩ c L B K:=by
 split at h
 ·rename_i zs places hb
  split at h
  ·rename_i cs hf
   refine ⟨_,_,h,E8.pure_ fun V w0 n E σ a w hs hL _=>?_⟩
   unfold K7 at hb
   split at hb
   ·rename_i fs z hu hz
    simp only [Option.map_eq_some_iff,Prod.mk.injEq] at hb
    obtain ⟨l,hl,rfl,rfl⟩:=hb
    obtain ⟨i,hi,hz⟩:=Option.bind_eq_some_iff.1 hz
    obtain ⟨C,h1,h2⟩:=Xa hL parts.toList z.cells _ cs (Au.ofVals z.cells.toList) hf
    refine ⟨.agg C,?_,.agg (by simpa using h2.1) fun j v d a b=>h2.2 j v d (by rw [Array.getElem?_toList];exact a) b⟩
    simp only [execOp]
    refine G1 ?_
    have hzr:(zeroValue t).run P w=.ok z w:=by simp [zeroValue,run_typeInfo w hi,hz]
    have hm:(fs.mapM fun f=>(do return (f.offset,<-sizeOf f.type):Sem (Nat×Nat))).run P w=.ok l.toArray w:=by
     have h3:=Av8 hl (w:=w)
     rw [Array.mapM_eq_mapM_toList]
     simp only [Sem.run_bind,Sem.run_map,h3,Result.andThen_ok,Sem.run_pure]
    have hp:(parts.map fun (i,x)=>(i,a.eval x)).toList=parts.toList.map fun p=>(p.1,a.eval p.2):=by simp
    simp only [Instr.build,Sem.run_bind,hzr,Result.andThen_ok,run_underlying hu,Sem.run_pure,hm,hp,h1]
   ·rename_i n0 e0 z hu hz
    simp only [Option.map_eq_some_iff,Prod.mk.injEq] at hb
    obtain ⟨ie,hie,rfl,rfl⟩:=hb
    obtain ⟨i,hi,hz⟩:=Option.bind_eq_some_iff.1 hz
    obtain ⟨C,h1,h2⟩:=Xa hL parts.toList z.cells _ cs (Au.ofVals z.cells.toList) hf
    refine ⟨.agg C,?_,.agg (by simpa using h2.1) fun j v d a b=>h2.2 j v d (by rw [Array.getElem?_toList];exact a) b⟩
    simp only [execOp]
    refine G1 ?_
    have hzr:(zeroValue t).run P w=.ok z w:=by simp [zeroValue,run_typeInfo w hi,hz]
    have hs:(sizeOf e0).run P w=.ok ie.size w:=by simp [sizeOf,run_typeInfo w hie]
    have hp:(parts.map fun (i,x)=>(i,a.eval x)).toList=parts.toList.map fun p=>(p.1,a.eval p.2):=by simp
    have h1':=Ae9 (pl':=fun i=>some (i*ie.size,ie.size)) (fun k q hq=>by
     simp only [List.getElem?_toArray,List.getElem?_map,Option.map_eq_some_iff] at hq
     obtain ⟨m,hm,rfl⟩:=hq
     obtain ⟨hlt,rfl⟩:=List.getElem?_eq_some_iff.1 hm
     simp) _ _ _ h1
    simp only [Instr.build,Sem.run_bind,hzr,Result.andThen_ok,run_underlying hu,hs,Sem.run_pure,hp,h1']
   ·cases hb
  ·exact h.elim
 ·exact h.elim
theorem Br6 {t:TypeId} {r:Option Operand} (h:match Wf P t with
  | some (k,_)=>(match r with | none=>True | some x=>∃ q m,nrm (L x)=.val (.int q m))/\K (.mv c) [.mp c k []]
  | none=>False):Dt P G ⟨dst,.makeMap t r,ty,pos,after,gd⟩ c L B K:=by
 split at h
 case h_2=>exact h.elim
 rename_i k z ht
 obtain ⟨hr,hK⟩:=h
 refine ⟨_,_,hK,fun V w0 n E σ a w hs hG hL _ N Q hN=>?_⟩
 obtain ⟨kt,et,hu,_,_⟩:=Zh (w:=w) ht
 have hrun:(execOp a.eval ⟨dst,.makeMap t r,ty,pos,after,gd⟩).run P w=.ok (.value (.map (some w.heap.size))) (w.alloc (.map #[] 0)):=by
  cases r with
  | none=>simp [execOp,Instr.makeMap]
  | some x =>
   obtain ⟨q,m,hx⟩:=hr
   simp [execOp,Instr.makeMap,D5 hL hx,run_underlying hu,asInt,asIntOf]
 unfold Oper.wp
 rw [hrun]
 have hE:Env.same c (c+100) E ⟨fun b=>if b=c then w.heap.size else E.blk b,E.row⟩:=fun b hb=>by
  have:¬ b=c:=by omega
  simp [this]
 have hbel:=Ai (o:=.map #[] 0) (Below.refl _ w)
 have ho:Ac ⟨fun b=>if b=c then w.heap.size else E.blk b,E.row⟩ [.mp c k []]=[w.heap.size]:=by simp [Ac,BA.owned]
 refine hN _ _ ⟨fun b=>if b=c then w.heap.size else E.blk b,E.row⟩ ⟨hbel,⟨hE,.inr rfl⟩,by rw [ho];simp,fun g hg=>by rw [ho] at hg;simp at hg;omega,fun b' hb'=>?_,?_⟩
 ·simp only [List.mem_singleton] at hb'
  subst hb'
  exact ⟨#[],0,by simp only [if_true];exact World.alloc_heap_new _ _,rfl⟩
 ·have:=Bd.mv (E:=⟨fun b=>if b=c then w.heap.size else E.blk b,E.row⟩) (X:=vis V w0 (w.alloc (.map #[] 0)) (Ac ⟨fun b=>if b=c then w.heap.size else E.blk b,E.row⟩ [.mp c k []]++Ac E σ.bk)) (b:=c)
  simpa using this
theorem C36 {t:TypeId} {x i:Operand} {ok:Bool} (h:match Wf P t,L x,nrm (L i) with
  | some (k,z),.mv b,.val (.int k' m)=>match B b with
   | some (.mp _ k'' kv)=>ok=false/\k'=k/\k''=k/\∃ u,(N4 kv m).getD z=u/\K (.val u) []
   | _=>False
  | _,_,_=>False):Dt P G ⟨dst,.lookup t x i ok,ty,pos,after,gd⟩ c L B K:=by
 split at h
 case h_2=>exact h.elim
 rename_i k z b k' m ht hx hi
 split at h
 case h_2=>exact h.elim
 rename_i b' k'' kv hB
 obtain ⟨rfl,rfl,rfl,u,hu,hK⟩:=h
 refine ⟨_,_,hK,E8.pure_ fun V w0 n E σ a w hs hL hBm=>⟨u,?_,.val⟩⟩
 obtain ⟨kt,et,h1,h2,z1⟩:=Zh (w:=w) ht
 obtain ⟨q1,q2⟩:=hBm b _ hB
 obtain rfl:b'=b:=q2
 obtain ⟨es,cl,p1,p2⟩:=hs.holds _ q1
 have hxv:=Pe hL hx
 generalize hxe:a.eval x=xv at hxv
 cases hxv
 have hkey:=MapKept.run_checkKey (P:=P) (w:=w) h2 (k:=.int k'' m) (by simp [MapKept.IsKey]) es.isEmpty 9999
 rcases Am0 (k:=k'') (m:=m) 0 p2 with ⟨f1,f2,_⟩ | ⟨j,v,f1,f2,_⟩
 ·rw [f2] at hu
  have hf:=MapKept.run_findKey (P:=P) (w:=w) h2 f1
  simp only [execOp,hxe,D5 hL hi]
  refine G1 ?_
  simp [Instr.lookup,run_underlying h1,MapKept.run_getObj_map p1,hkey,hf,z1,<-hu]
 ·rw [f2] at hu
  have hf:=MapKept.run_findKey (P:=P) (w:=w) h2 f1
  simp only [execOp,hxe,D5 hL hi]
  refine G1 ?_
  simp [Instr.lookup,run_underlying h1,MapKept.run_getObj_map p1,hkey,hf,<-hu]
theorem B71 {o:Oper} (hf:Jz o=true->∀ x,(L x).off c (c+100)=true) (h:qop P G L B o c K):Dt P G o c L B K:=by
 obtain ⟨dst,op,ty,pos,after,gd⟩:=o
 unfold qop at h
 cases op with
 | move x=>exact Ck9 h
 | assign x=>exact C37 h
 | pick b x y=>exact Ck8 h
 | alloc e =>
  simp only at h
  split at h
  ·rename_i zs hz
   exact Bi2 hz (.inl ⟨rfl,h⟩)
  ·rename_i q zs _ hz
   exact Bi2 hz (.inr h)
  ·exact h.elim
 | box e x=>exact Da9 (hf rfl x) h
 | load t x =>
  simp only at h
  split at h
  ·rename_i q s ht
   exact Cl0 ht h
  ·exact h.elim
 | nilCheck x=>exact Da3 h
 | binOp op t x y tz=>exact Db0 h
 | unOp op t x=>exact Dz9 h
 | convert s d x=>exact Cl2 h
 | makeFunc fn first caps=>cases fn<;>first | exact Cl1 h | exact h.elim
 | slice t x lo hi mx=>exact Cb3 h
 | fieldAddr t x f=>exact Ay4 h
 | field t x f=>exact Cb5 h
 | indexAddr t x i=>exact Ay3 h
 | index t x i=>exact Cb4 h
 | extract x i=>exact Br7 h
 | makeMap t r=>exact Br6 h
 | lookup t x i ok=>exact C36 h
 | build t parts=>exact C35 h
 | buildSlice t len parts=>exact Cb6 h
 | call cl =>
  obtain ⟨callee,args,at_⟩:=cl
  cases callee with
  | value fo =>
   simp only at h
   split at h
   ·rename_i f caps hfo
    have h':=h
    obtain ⟨r,nb,args',hc,_⟩:=h'
    refine Cl3 hfo (fun vs w=>?_) h
    rcases hc with ⟨_,hc⟩ | ⟨_,_,_,_,hc⟩<;>exact hc.1 vs w
   ·exact h.elim
  | invoke r m=>exact h.elim
  | builtin b =>
   cases b<;>simp only at h<;>first | exact h.elim | skip
   case len =>
    split at h
    ·rename_i x t h1 h2
     obtain rfl:args=#[x]:=by rw [<-Array.toArray_toList (xs:=args),h1]
     obtain rfl:at_=#[t]:=by rw [<-Array.toArray_toList (xs:=at_),h2]
     exact Da7 h
    ·exact h.elim
   case cap =>
    split at h
    ·rename_i x t h1 h2
     obtain rfl:args=#[x]:=by rw [<-Array.toArray_toList (xs:=args),h1]
     obtain rfl:at_=#[t]:=by rw [<-Array.toArray_toList (xs:=at_),h2]
     exact Da8 h
    ·exact h.elim
   case max =>
    split at h
    ·rename_i x y h1
     obtain rfl:args=#[x,y]:=by rw [<-Array.toArray_toList (xs:=args),h1]
     exact Da6 h
    ·exact h.elim
   case min =>
    split at h
    ·rename_i x y h1
     obtain rfl:args=#[x,y]:=by rw [<-Array.toArray_toList (xs:=args),h1]
     exact Da5 h
    ·exact h.elim
 | _=>exact h.elim
end
section
variable {V w0 : World} {n : Fm} {E : Env} {fr : List (Nat × AV)} {pre mid post : List BA} {a : Act} {w w' : World}
theorem Aq1 {E':Env} {nb:List BA} (hlt:∀ g∈Ac E (pre++(mid++post)),g < w.heap.size) (hg:∀ g,g∉Ac E mid->g < w.heap.size->w'.heap[g]? = w.heap[g]?) (hs:w.heap.size<=w'.heap.size) (hnew:∀ g∈Ac E' nb,g∈Ac E mid\/w.heap.size<=g) :
  Ext (vis V w0 w (Ac E (pre++(mid++post)))) (vis V w0 w' (Ac E' nb++Ac E (pre++post))) :=
 D6 hs fun p u _ h2 h3 h4=>by
  simp only [Ar,List.mem_append,not_or] at h3
  refine ⟨fun hm=>?_,by rw [World.cell?_of_block (hg p.block h3.2.1 h2)];exact h4⟩
  simp only [Ar,List.mem_append] at hm
  rcases hm with hm | hm | hm
  ·rcases hnew _ hm with hm | hm
   ·exact h3.2.1 hm
   ·omega
  ·exact h3.1 hm
  ·exact h3.2.2 hm
theorem St.swap {lo hi:Nat} {E':Env} {nb:List BA} (h:St V w0 n E ⟨fr,pre++(mid++post)⟩ a w) (hg:∀ g,g∉Ac E mid->g < w.heap.size->w'.heap[g]? = w.heap[g]?) (hs:w.heap.size<=w'.heap.size) (hlow:Below w0.heap.size w0 w')
  (hE:Env.same lo hi E E') (h1:Lg lo hi fr=true) (h2:Jq lo hi (pre++post)=true) (hnd:(Ac E' nb).Nodup) (hnew:∀ g∈Ac E' nb,g∈Ac E mid\/w.heap.size<=g)
  (hh:∀ b∈nb,b.holds E' (vis V w0 w' (Ac E' nb++Ac E (pre++post))) w' w0.heap.size):St V w0 n E' ⟨fr,nb++(pre++post)⟩ a w':=by
 have hlt:=h.lt
 have hap:=h.apart
 have hx:=Aq1 (V:=V) (w0:=w0) (E':=E') (nb:=nb) hlt hg hs hnew
 have ho:Ac E' (nb++(pre++post))=Ac E' nb++Ac E (pre++post):=by rw [Ar,P1 hE h2]
 have hdis:∀ g∈Ac E mid,g∉Ac E (pre++post):=by
  intro g hm hp
  simp only [Ar] at hap hp
  obtain ⟨_,a2,a3⟩:=List.nodup_append.1 hap
  obtain ⟨_,_,a4⟩:=List.nodup_append.1 a2
  rcases List.mem_append.1 hp with hp | hp
  ·exact a3 g hp g (List.mem_append_left _ hm) rfl
  ·exact a4 g hm g hp rfl
 have hsub:∀ g∈Ac E (pre++post),g∈Ac E (pre++(mid++post)):=by
  intro g hp
  simp only [Ar,List.mem_append] at hp ⊢
  rcases hp with hp | hp
  ·exact .inl hp
  ·exact .inr (.inr hp)
 refine ⟨h.ext,hlow,?_,?_,?_,?_,h.size,h.defers,Nat.le_trans h.hold.1 hs,fun g o hg1=>?hold⟩
 case hold =>
  obtain ⟨q1,q2⟩:=h.hold.2 g o hg1
  have hl:=(Array.getElem?_eq_some_iff.1 q1).1
  refine ⟨(hg g (fun hm=>q2 (by simp only [Ar,List.mem_append];exact .inr (.inl hm))) hl).trans q1,fun hm=>?_⟩
  rw [ho] at hm
  rcases List.mem_append.1 hm with hm | hm
  ·rcases hnew _ hm with hm | hm
   ·exact q2 (by simp only [Ar,List.mem_append];exact .inr (.inl hm))
   ·omega
  ·exact q2 (hsub _ hm)
 ·rw [ho]
  refine List.nodup_append.2 ⟨hnd,?_,fun g hg1 g' hg2 e=>?_⟩
  ·simp only [Ar] at hap ⊢
   exact hap.sublist ((List.Sublist.refl _).append (List.sublist_append_right _ _))
  ·subst e
   rcases hnew _ hg1 with hm | hm
   ·exact hdis _ hm hg2
   ·have:=hlt _ (hsub _ hg2);omega
 ·intro g hg1
  rw [ho] at hg1
  rcases List.mem_append.1 hg1 with hm | hm
  ·rcases hnew _ hm with hm | hm
   ·exact h.base _ (by simp only [Ar,List.mem_append];exact .inr (.inl hm))
   ·have:=h.low.size;omega
  ·exact h.base _ (hsub _ hm)
 ·intro b hb
  simp only [ho]
  rcases List.mem_append.1 hb with hb | hb
  ·exact hh b hb
  ·have hb2:b∈pre++(mid++post):=by
    simp only [List.mem_append] at hb ⊢
    rcases hb with hb | hb
    ·exact .inl hb
    ·exact .inr (.inr hb)
   exact BA.holds_ext hE hx (fun g hg1=>hg g (fun hm=>hdis g hm (Bv.2 ⟨b,hb,hg1⟩)) (hlt g (Bv.2 ⟨b,hb2,hg1⟩))) (Lh h2 b hb) (h.holds b hb2)
 ·intro i
  simp only [ho]
  exact (h.slots i).ext hE hx (S8 h1 i)
theorem Qk {gs:List Nat} {p:Addr} {u:Value} (hp:p.block∈gs):Ext (vis V w0 w gs) (vis V w0 (w.setCell p u) gs) :=
 D6 (by simp) fun q v _ _ h3 h4=>⟨h3,by
  rw [World.cell?_of_block (Below.heap_setCell w p u q.block (fun e=>h3 (e ▸ hp)))]
  exact h4⟩
theorem St.sets_box {b:Nat} : ∀ (vs:List Value) (ds:List AV) (cs:List AV) (o:Nat) (w:World),St V w0 n E ⟨fr,pre++.box b cs :: post⟩ a w->Au E (vis V w0 w (Ac E (pre++.box b cs :: post))) vs ds ->
  St V w0 n E ⟨fr,pre++.box b (F2 cs o ds) :: post⟩ a (w.setCells (E.blk b) o vs)
 | [],ds,cs,o,w,h,hr=>by
  cases ds with
  | nil=>exact h
  | cons d ds=>exact absurd hr.1 (by simp)
 | v :: vs,[],cs,o,w,h,hr=>absurd hr.1 (by simp)
 | v :: vs,d :: ds,cs,o,w,h,hr=>by
  obtain ⟨v',vs',e,h1,h2⟩:=Au.cons_iff.1 hr
  injection e with e1 e2
  subst e1 e2
  refine St.sets_box vs ds (cs.set o d) (o+1) _ (h.set_box o h1) ?_
  have e:Ac E (pre++.box b (cs.set o d) :: post)=Ac E (pre++.box b cs :: post):=by simp [Ar,Ac,BA.owned]
  rw [e]
  exact h2.mono (Qk (by simp [Ar,Ac,BA.owned]))
theorem St.sets_arr {b:Nat} : ∀ (vs:List Value) (ds:List IV) (cs:List IV) (o:Nat) (w:World),St V w0 n E ⟨fr,pre++.arr b cs :: post⟩ a w->Ay (vis V w0 w (Ac E (pre++.arr b cs :: post))) vs ds ->
  St V w0 n E ⟨fr,pre++.arr b (F2 cs o ds) :: post⟩ a (w.setCells (E.blk b) o vs)
 | [],[],cs,o,w,h,hr=>h
 | v :: vs,d :: ds,cs,o,w,h,hr=>by
  refine St.sets_arr vs ds (cs.set o d) (o+1) _ (h.set_arr o hr.1) ?_
  have e:Ac E (pre++.arr b (cs.set o d) :: post)=Ac E (pre++.arr b cs :: post):=by simp [Ar,Ac,BA.owned]
  rw [e]
  exact Ay.ext (Qk (by simp [Ar,Ac,BA.owned])) hr.2
 | [],_ :: _,_,_,_,_,hr=>hr.elim
 | _ :: _,[],_,_,_,_,hr=>hr.elim
theorem St.sets_row {b e k i:Nat} : ∀ (vs:List Value) (ds:List IV) (l:List (List IV)) (x:List IV) (j:Nat) (w:World),St V w0 n E ⟨fr,pre++.row b e k l :: post⟩ a w->Ay (vis V w0 w (Ac E (pre++.row b e k l :: post))) vs ds->l[i]? = some x->j+vs.length<=k ->
  St V w0 n E ⟨fr,pre++.row b e k (l.set i (F2 x j ds)) :: post⟩ a (w.setCells (E.blk b) (i*k+j) vs)
 | [],[],l,x,j,w,h,hr,hi,hj=>by
  have:l.set i x=l:=by
   obtain ⟨h1,h2⟩:=List.getElem?_eq_some_iff.1 hi
   subst h2;exact List.set_getElem_self h1
  simp only [F2,this]
  exact h
 | v :: vs,d :: ds,l,x,j,w,h,hr,hi,hj=>by
  simp only [List.length_cons] at hj
  have hil:=(List.getElem?_eq_some_iff.1 hi).1
  have h1:=h.set_row hi (j:=j) (by omega) hr.1
  have eo:Ac E (pre++.row b e k (l.set i (x.set j d)) :: post)=Ac E (pre++.row b e k l :: post):=by simp [Ar,Ac,BA.owned]
  have hm:E.blk b∈Ac E (pre++.row b e k l :: post):=by
   obtain ⟨hO,hB⟩:=h.holds (.row b e k l) (by simp)
   rcases hO.forms with ⟨_,hl⟩ | ⟨g,cc,hg,_⟩
   ·rw [hl] at hi;simp at hi
   ·refine Bv.2 ⟨.row b e k l,by simp,?_⟩
    have:=hB g (by rw [hg];rfl)
    subst this
    simp [BA.owned,hg,Value.ownBlock]
  have h2:=St.sets_row (i:=i) vs ds (l.set i (x.set j d)) (x.set j d) (j+1) _ h1 (by rw [eo];exact Ay.ext (Qk hm) hr.2) (by simp [hil]) (by omega)
  rw [List.set_set] at h2
  exact h2
 | [],_ :: _,_,_,_,_,_,hr,_,_=>hr.elim
 | _ :: _,[],_,_,_,_,_,hr,_,_=>hr.elim
theorem Aj6 {E:Env} {X w:World} {base b e k:Nat} {L:List (List AV)} {i j:Nat} (hO:Ah (Au E X) k w base e (E.row b) L) (hB:∀ g,(E.row b).ownBlock=some g->g=E.blk b) (hi:i < L.length) (hj:j < k):∃ cur,Blk w (E.blk b) e cur/\i*k+j+1<=cur.size:=by
 obtain ⟨xs,⟨h3,h4⟩,h5,h6⟩:=hO
 rcases h4 with ⟨_,e0⟩ | ⟨g,cap,cur,hg,hg1,hg2,hg3,hg4,hg5,hg6⟩
 ·omega
 ·obtain rfl:g=E.blk b:=hB g (by rw [hg];rfl)
  refine ⟨cur,hg2,?_⟩
  rw [hg5]
  have:(i+1)*k<=cap*k:=Nat.mul_le_mul_right k (by omega)
  rw [Nat.add_mul] at this
  omega
def Aq (P:Program) (t:TypeId) (x y:AV) (bk:List BA) (K:List BA->Prop):Prop :=
 match tyK P t with
 | some (_,s)=>okC y=true/\(Bp y).length=s/\match x with
  | .bp b p=>match Ci b bk with
   | some (.box _ cs)=>p+s<=cs.length/\K (Cu b [.box b (F2 cs p (Bp y))] bk)
   | some (.arr _ cs)=>∃ is,toIs (Bp y)=some is/\J2 (Bp y)/\p+s<=cs.length/\K (Cu b [.arr b (F2 cs p is)] bk)
   | _=>False
  | .rp b k i j=>match Ci b bk,y with
   | some (.row _ e k' l),.own c=>k'=k/\s=1/\j < k/\∃ cs,l[i]? = some cs/\K (Cu b [.rowN b e k l i j c] bk)
   | some (.row _ e k' l),y=>k'=k/\∃ is cs,toIs (Bp y)=some is/\J2 (Bp y)/\l[i]? = some cs/\j+s<=k/\K (Cu b [.row b e k (l.set i (F2 cs j is))] bk)
   | some (.rowN _ e k' l i' j' c),.own c2=>k'=k/\s=1/\j < k/\i=i'/\j=j'/\i < l.length/\K (Cu b [.rowN b e k l i j c2] bk)
   | some (.rowN _ e k' l i' j' c),y=>k'=k/\s=1/\j < k/\∃ d cs,toIs (Bp y)=some [d]/\J2 (Bp y)/\l[i]? = some cs/\((i=i'/\j=j'/\K (Cu b [.row b e k (l.set i (cs.set j d))] bk))\/(¬ (i=i'/\j=j')/\K (Cu b [.rowN b e k (l.set i (cs.set j d)) i' j' c] bk)))
   | _,_=>False
  | _=>False
 | none=>False
def Av5 (P:Program) (t:TypeId) (x i y:AV) (bk:List BA) (K:List BA->Prop):Prop :=
 match Wf P t,x,nrm i,nrm y with
 | some (k,_),.mv b,.val (.int k' m),.val u=>match Ci b bk with
  | some (.mp _ k'' kv)=>k'=k/\k''=k/\K (Cu b [.mp b k (P4 kv m u)] bk)
  | _=>False
 | _,_,_,_=>False
def Cm1 (P:Program) (G:World->Prop) (o:Oper) (L:Operand->AV) (bk:List BA) (r:AV) (bk':List BA):Prop :=
 ∀ (V w0:World) (n:Fm) (E:Env) (a:Act) (w:World) (fr:List (Nat×AV)) (F:List BA),St V w0 n E ⟨fr,bk++F⟩ a w->(∀ x,Bd E (vis V w0 w (Ac E (bk++F))) (a.eval x) (L x)) ->
  (Jz o=true->Lg (cid o.dst) (cid o.dst+100) fr=true/\Jq (cid o.dst) (cid o.dst+100) (bk++F)=true)->(∀ w',Below w0.heap.size w0 w'->G w')->∀ (N:Act->World->Prop) (Q:Exit->Act->World->Prop),
  (∀ v w' E',St V w0 n E' ⟨fr,bk'++F⟩ a w'->Bd E' (vis V w0 w' (Ac E' (bk'++F))) v r->N (a.put o.dst v) w')->∀ ro,o.wpIn (FW ro) 0 P a w N Q
def Upd (P:Program) (G:World->Prop) (o:Oper) (L:Operand->AV) (bk:List BA) (K:AV->List BA->Prop):Prop:=∃ r bk',K r bk'/\Cm1 P G o L bk r bk'
end
section
variable {P : Program} {G : World -> Prop} {L : Operand -> AV} {bk : List BA} {K : AV -> List BA -> Prop}
variable {dst : Option Tmp} {ty : TypeId} {pos : String} {after : Array Edge} {gd : Option (Nat × Bool)}
theorem Da4 {t:TypeId} {x i y:Operand} (h:Av5 P t (L x) (L i) (L y) bk fun bk'=>K .any bk'):Upd P G ⟨dst,.mapUpdate t x i y,ty,pos,after,gd⟩ L bk K:=by
 unfold Av5 at h
 split at h
 case h_2=>exact h.elim
 rename_i k z b k' m u ht hx hi hy
 split at h
 case h_2=>exact h.elim
 rename_i b' k'' kv hb
 obtain ⟨rfl,rfl,hK⟩:=h
 refine ⟨_,_,hK,fun V w0 n E a w fr F hs hL _ _ N Q hN ro=>Jl (fun _ h=>by cases h) ?_⟩
 obtain ⟨kt,et,h1,h2,_⟩:=Zh (w:=w) ht
 obtain ⟨pre,post,e1,e2,e3⟩:=D8 hb
 obtain rfl:b'=b:=e2
 subst e1
 simp only [List.append_assoc,List.cons_append] at hs hL hN
 obtain ⟨es,cl,p1,p2⟩:=hs.holds (.mp b' k'' kv) (by simp)
 have hxv:=hL x
 rw [hx] at hxv
 generalize hxe:a.eval x=xv at hxv
 cases hxv
 have hkey:=MapKept.run_checkKey (P:=P) (w:=w) h2 (k:=.int k'' m) (by simp [MapKept.IsKey]) false 9999
 have hbase:=hs.base (E.blk b') (Bv.2 ⟨.mp b' k'' kv,by simp,by simp [BA.owned]⟩)
 have fin:∀ (es':Array MapEntry) (cl':Nat),es'.toList.map (fun e=>(e.key,e.val))=(P4 kv m u).map (fun x=>(Value.int k'' x.1,x.2))->(execOp a.eval ⟨dst,.mapUpdate t x i y,ty,pos,after,gd⟩).run P w=.ok .skip (w.putObj (E.blk b') (.map es' cl'))->Oper.wp P ⟨dst,.mapUpdate t x i y,ty,pos,after,gd⟩ a w N Q:=fun es' cl' q1 q2=>by
  unfold Oper.wp
  rw [q2,Oper.upon_skip]
  refine hN _ _ E ?_ .any
  rw [e3]
  have hlt:=(Array.getElem?_eq_some_iff.1 p1).1
  have hg:=grownBy_putObj' w (E.blk b') (.map es' cl')
  have:=hs.turn (y:=.mp b' k'' (P4 kv m u)) rfl (hs.low.grown hg hs.low.size fun g e=>by cases e;exact hbase) hg.size (fun g hg' _=>World.putObj_heap_other (by simpa [BA.owned] using hg')) ⟨es',cl',World.putObj_heap_same hlt,q1⟩
  simpa using this
 have hyv:=D5 hL hy
 have hiv:=D5 hL hi
 rcases Am0 (k:=k'') (m:=m) 0 p2 with ⟨f1,f2,f3⟩ | ⟨j,v,f1,f2,⟨e,f4,f5⟩,f6⟩
 ·have hf:=MapKept.run_findKey (P:=P) (w:=w) h2 f1
  refine fin (es.push { key:=.int k'' m,val:=u,born:=cl }) (cl+1) (by rw [f3];simp [p2]) ?_
  simp only [execOp,hxe,hiv,hyv]
  simp [Instr.mapUpdate,run_underlying h1,MapKept.run_getObj_map p1,hkey,hf,MapKept.run_setObj_map _ p1,World.putObj]
 ·have hf:=MapKept.run_findKey (P:=P) (w:=w) h2 f1
  simp only [Nat.zero_add] at hf
  have hst:=MapKept.run_keyThatStays (P:=P) (w:=w) (d:=.int k'') (k:=.int k'' m) (by simp [MapKept.IsKey])
  have hk:((es[j]?).map (·.key)).getD (Value.int k'' m)=.int k'' m:=by rw [<-Array.getElem?_toList,f4];exact f5
  refine fin (es.modify j fun e=>{ e with key:=.int k'' m,val:=u }) cl (by rw [Array.toList_modify];exact f6 _ _ rfl) ?_
  simp only [execOp,hxe,hiv,hyv]
  simp [Instr.mapUpdate,run_underlying h1,MapKept.run_getObj_map p1,hkey,hf,hk,hst,MapKept.run_setObj_map _ p1,World.putObj]
theorem Cb2 {t:TypeId} {x y:Operand} (h:Aq P t (L x) (L y) bk fun bk'=>K .any bk'):Upd P G ⟨dst,.store t x y,ty,pos,after,gd⟩ L bk K:=by
 unfold Aq at h
 split at h
 case h_2=>exact h.elim
 rename_i q s ht
 obtain ⟨hok,hlen,h⟩:=h
 -- the run, from the cells that lie there
 have run:∀ {a:Act} {w:World} {v:Value} {g p:Nat} {e:TypeId} {C:Array Value},a.eval x=.pointer (some ⟨g,p,none⟩)->a.eval y=v->v.cells.toList.length=s->(∀ u∈v.cells.toList,u.oneCell'=true)->Blk w g e C->p+s<=C.size ->
   (execOp a.eval ⟨dst,.store t x y,ty,pos,after,gd⟩).run P w=.ok .skip (w.setCells g p v.cells.toList):=fun {a w v g p e C} h1 h2 h3 h4 h5 h6=>by
  obtain ⟨_,hz⟩:=Gd (w:=w) ht
  have hst:=run_storeCells_cells (P:=P) g p v.cells.toList 0 w (fun j hj=>by
   rw [h5.cell,Array.getElem?_eq_getElem (by omega)];rfl) (fun j _=>h5.frozen _) h4
  have h3':v.cells.size=s:=by simpa using h3
  simp only [Nat.add_zero] at hst
  simp only [execOp,h1,h2,Instr.storeAt,Instr.sureAddr,storeVar]
  simp [hz,h3',hst]
 split at h
 ·rename_i b p hx
  split at h
  ·rename_i b' cs hb
   obtain ⟨hp,hK⟩:=h
   refine ⟨_,_,hK,fun V w0 n E a w fr F hs hL _ _ N Q hN ro=>Jl (fun _ h=>by cases h) ?_⟩
   obtain ⟨pre,post,e1,e2,e3⟩:=D8 hb
   obtain rfl:b'=b:=e2
   subst e1
   simp only [List.append_assoc,List.cons_append] at hs hL hN
   obtain ⟨C,et,hB,hC⟩:=hs.holds (.box b' cs) (by simp)
   have hxv:=hL x
   rw [hx] at hxv
   obtain ⟨hyc,hy1⟩:=(hL y).cells hok
   generalize hxe:a.eval x=u at hxv
   cases hxv
   have hl2:(a.eval y).cells.toList.length=s:=by rw [hyc.1];exact hlen
   unfold Oper.wp
   rw [run hxe rfl hl2 hy1 hB (by have:=hC.1;simp at this;omega),Oper.upon_skip]
   have:=St.sets_box (a.eval y).cells.toList (Bp (L y)) cs p w hs hyc
   exact hN _ _ E (by rw [e3];simpa using this) .any
  ·rename_i b' cs hb
   obtain ⟨is,hi,ho,hp,hK⟩:=h
   refine ⟨_,_,hK,fun V w0 n E a w fr F hs hL _ _ N Q hN ro=>Jl (fun _ h=>by cases h) ?_⟩
   obtain ⟨pre,post,e1,e2,e3⟩:=D8 hb
   obtain rfl:b'=b:=e2
   subst e1
   simp only [List.append_assoc,List.cons_append] at hs hL hN
   obtain ⟨C,et,hB,hC⟩:=hs.holds (.arr b' cs) (by simp)
   have hxv:=hL x
   rw [hx] at hxv
   obtain ⟨hyc,hy1⟩:=(hL y).cells hok
   have hyi:=Au.toIs hyc hi ho
   generalize hxe:a.eval x=u at hxv
   cases hxv
   have hl2:(a.eval y).cells.toList.length=s:=by rw [hyc.1];exact hlen
   unfold Oper.wp
   rw [run hxe rfl hl2 hy1 hB (by have:=hC.len;simp at this;omega),Oper.upon_skip]
   have:=St.sets_arr (a.eval y).cells.toList is cs p w hs hyi
   exact hN _ _ E (by rw [e3];simpa using this) .any
  ·exact h.elim
 ·rename_i b k i j hx
  split at h
  ·rename_i b' e k' l c hb hy
   obtain ⟨rfl,rfl,hj,cs,hcs,hK⟩:=h
   refine ⟨_,_,hK,fun V w0 n E a w fr F hs hL _ _ N Q hN ro=>Jl (fun _ h=>by cases h) ?_⟩
   obtain ⟨pre,post,e1,e2,e3⟩:=D8 hb
   obtain rfl:b'=b:=e2
   subst e1
   simp only [List.append_assoc,List.cons_append] at hs hL hN
   have hxv:=hL x
   rw [hx] at hxv
   obtain ⟨hyc,hy1⟩:=(hL y).cells hok
   generalize hxe:a.eval x=u at hxv
   cases hxv
   have hl2:(a.eval y).cells.toList.length=1:=by rw [hyc.1];exact hlen
   obtain ⟨u,hu⟩:=List.length_eq_one_iff.1 hl2
   rw [hu,hy] at hyc
   obtain ⟨hO,hBk⟩:=Aa6 _ _ _ (hs.holds (.row b' e k' l) (by simp))
   obtain ⟨cur,hB,hik⟩:=Aj6 (i:=i) (j:=j) hO hBk (by simpa using (List.getElem?_eq_some_iff.1 hcs).1) hj
   obtain ⟨n1,n2⟩:=C19 (c:=c) (j:=j) hcs
   have hst:=St.set_cells (x:=.row b' e k' l) (y:=.rowN b' e k' l i j c) hs Aa6 rfl rfl (fun X w base h hB=>⟨h,hB⟩) n1 hj n2 (hyc.2 0 u _ rfl rfl)
   unfold Oper.wp
   rw [run hxe rfl hl2 hy1 hB hik,Oper.upon_skip,hu]
   exact hN _ _ E (by rw [e3];simpa [World.setCells] using hst) .any
  ·rename_i b' e k' l hb _
   obtain ⟨rfl,is,cs,hi,ho,hcs,hj,hK⟩:=h
   refine ⟨_,_,hK,fun V w0 n E a w fr F hs hL _ _ N Q hN ro=>Jl (fun _ h=>by cases h) ?_⟩
   obtain ⟨pre,post,e1,e2,e3⟩:=D8 hb
   obtain rfl:b'=b:=e2
   subst e1
   simp only [List.append_assoc,List.cons_append] at hs hL hN
   obtain ⟨hO,hBk⟩:=hs.holds (.row b' e k' l) (by simp)
   have hxv:=hL x
   rw [hx] at hxv
   obtain ⟨hyc,hy1⟩:=(hL y).cells hok
   have hyi:=Au.toIs hyc hi ho
   generalize hxe:a.eval x=u at hxv
   cases hxv
   have hl2:(a.eval y).cells.toList.length=s:=by rw [hyc.1];exact hlen
   obtain ⟨xs,⟨h3,h4⟩,h5,h6⟩:=hO
   have hil:=(List.getElem?_eq_some_iff.1 hcs).1
   rcases h4 with ⟨_,e0⟩ | ⟨g,cap,cur,hg,hg1,hg2,hg3,hg4,hg5,hg6⟩
   ·rw [List.length_eq_zero_iff] at e0;rw [e0] at hcs;simp at hcs
   ·have hgb:g=E.blk b':=hBk g (by rw [hg];rfl)
    subst hgb
    have hB:Blk w (E.blk b') e cur:=hg2
    have hik:i*k'+j+s<=cur.size:=by
     rw [hg5]
     have:(i+1)*k'<=cap*k':=Nat.mul_le_mul_right k' (by omega)
     rw [Nat.add_mul] at this
     omega
    unfold Oper.wp
    rw [run hxe rfl hl2 hy1 hB hik,Oper.upon_skip]
    have:=St.sets_row (i:=i) (a.eval y).cells.toList is l cs j w hs hyi hcs (by rw [hl2];exact hj)
    exact hN _ _ E (by rw [e3];simpa using this) .any
  ·rename_i b' e k' l i' j' c c2 hb hy
   obtain ⟨rfl,rfl,hj,rfl,rfl,hil,hK⟩:=h
   refine ⟨_,_,hK,fun V w0 n E a w fr F hs hL _ _ N Q hN ro=>Jl (fun _ h=>by cases h) ?_⟩
   obtain ⟨pre,post,e1,e2,e3⟩:=D8 hb
   obtain rfl:b'=b:=e2
   subst e1
   simp only [List.append_assoc,List.cons_append] at hs hL hN
   have hxv:=hL x
   rw [hx] at hxv
   obtain ⟨hyc,hy1⟩:=(hL y).cells hok
   generalize hxe:a.eval x=u at hxv
   cases hxv
   have hl2:(a.eval y).cells.toList.length=1:=by rw [hyc.1];exact hlen
   obtain ⟨u,hu⟩:=List.length_eq_one_iff.1 hl2
   rw [hu,hy] at hyc
   obtain ⟨hO,hBk⟩:=hs.holds (.rowN b' e k' l i j c) (by simp)
   obtain ⟨cur,hB,hik⟩:=Aj6 (i:=i) (j:=j) hO hBk (by rw [Eg];exact hil) hj
   obtain ⟨z,n1,n2⟩:=Bb1 (c:=c) (c2:=c2) (j:=j) hil
   have hst:=St.set_cells (x:=.rowN b' e k' l i j c) (y:=.rowN b' e k' l i j c2) hs (fun X w base h=>h) rfl rfl (fun X w base h hB=>⟨h,hB⟩) n1 hj n2 (hyc.2 0 u _ rfl rfl)
   unfold Oper.wp
   rw [run hxe rfl hl2 hy1 hB hik,Oper.upon_skip,hu]
   exact hN _ _ E (by rw [e3];simpa [World.setCells] using hst) .any
  ·rename_i b' e k' l i' j' c hb _
   obtain ⟨rfl,rfl,hj,d,cs,hd,ho,hcs,h⟩:=h
   obtain rfl:b'=b:=(G4 hb).2
   have fin:∀ {y':BA} {L':List (List AV)},(∃ z,(Hh l i' j' c)[i]? = some z/\L'=(Hh l i' j' c).set i (z.set j (.iv d)))->(∀ E,y'.owned E=(E.row b').ownBlock.toList)->(∀ E X w base,Ah (Au E X) k' w base e (E.row b') L'->(∀ g,(E.row b').ownBlock=some g->g=E.blk b')->y'.holds E X w base)->K .any (Cu b' [y'] bk)->Upd P G ⟨dst,.store t x y,ty,pos,after,gd⟩ L bk K:=fun {y' L'} hz oy hy' hK=>by
    refine ⟨_,_,hK,fun V w0 n E a w fr F hs hL _ _ N Q hN ro=>Jl (fun _ h=>by cases h) ?_⟩
    obtain ⟨pre,post,e1,e2,e3⟩:=D8 hb
    subst e1
    simp only [List.append_assoc,List.cons_append] at hs hL hN
    have hxv:=hL x
    rw [hx] at hxv
    obtain ⟨hyc,hy1⟩:=(hL y).cells hok
    have hyi:=Au.toIs hyc hd ho
    generalize hxe:a.eval x=u at hxv
    cases hxv
    have hl2:(a.eval y).cells.toList.length=1:=by rw [hyc.1];exact hlen
    obtain ⟨u,hu⟩:=List.length_eq_one_iff.1 hl2
    rw [hu] at hyi
    obtain ⟨hO,hBk⟩:=hs.holds (.rowN b' e k' l i' j' c) (by simp)
    obtain ⟨cur,hB,hik⟩:=Aj6 (i:=i) (j:=j) hO hBk (by rw [Eg];exact (List.getElem?_eq_some_iff.1 hcs).1) hj
    obtain ⟨z,n1,n2⟩:=hz
    have hst:=St.set_cells (x:=.rowN b' e k' l i' j' c) (y:=y') hs (fun X w base h=>h) rfl (oy E) (hy' E) n1 hj n2 (.iv hyi.1)
    unfold Oper.wp
    rw [run hxe rfl hl2 hy1 hB hik,Oper.upon_skip,hu]
    exact hN _ _ E (by rw [e3];simpa [World.setCells] using hst) .any
   rcases h with ⟨rfl,rfl,hK⟩ | ⟨hne,hK⟩
   ·exact fin (y':=.row b' e _ _) (C20 hcs) (fun _=>rfl) (fun E X w base h hB=>Bs5 X w base h hB) hK
   ·exact fin (y':=.rowN b' e _ _ _ _ c) (C18 hcs hne) (fun _=>rfl) (fun E X w base h hB=>⟨h,hB⟩) hK
  ·exact h.elim
 ·exact h.elim
end
section
variable {P : Program} {w : World}
theorem Qs {α:Type} {R:List Value->α->Prop} {size:Nat} (h1:∀ cs x,R cs x->∀ u∈cs,u.oneCell'=true) (ty t:TypeId)
  (base:Nat) (e:TypeId) (i:TypeInfo) (z:Value) (bytes:Nat) (ht:P.underlying t=some (.slice e)) (hi:P.info? e=some i) (hz:i.zero=some z)
  (hsize:i.size=size) (hby:i.bytes=bytes) (hzs:z.cells.size=size) (hsz:0 < size)
  (v:Value) (l:List α) (hown:Ah R size w base e v l) (B:Nat) (v2:Value) (m:List α) (hr:Sl R size w B v2 m)
  (hbig:l.length+m.length<=1073741824) (hbb:bytes<=131072) (hbase:base<=w.heap.size) :
  ∃ v' w',(Builtin.append_ #[t,t] ty #[v,v2]).run P w=.ok v' w'/\Ah R size w' base e v' (l++m)/\w.grownBy w' v.ownBlock/\(v'.ownBlock=v.ownBlock\/v'.ownBlock=some w.heap.size):=by
 have h63:l.length+m.length<=maxLen:=by unfold maxLen;omega
 have hbytes:(l.length+m.length)*bytes<=140737488355328:=by
  have:=Nat.mul_le_mul hbig hbb
  omega
 obtain ⟨xs,hown1,hch,_⟩:=hown
 obtain ⟨A,c,ys,rfl,hch2,hcell⟩:=hr.cells
 rcases hA:A with _ | ad
 ·have hm:m=[]:=by
   rcases m with _ | ⟨y,m⟩
   ·rfl
   ·obtain ⟨b,off,h,_⟩:=hcell (by simp)
    rw [hA] at h
    cases h
  subst hm
  exact ⟨v,w,Kd w base t ty e i size ht hi v _ xs hown1 _ c rfl,⟨xs,by simpa using hown1,by simpa using hch,by simpa using hbig⟩,World.grownBy.refl w _,.inl rfl⟩
 ·have hcells:∀ j u,ys[j]? = some u->w.cell? (ad.add j)=some u:=by
   intro j u hu
   rcases m with _ | ⟨y,m⟩
   ·cases hch2
    simp at hu
   ·obtain ⟨b,off,h,_,hc⟩:=hcell (by simp)
    rw [hA] at h
    injection h with h
    subst h
    rw [Jb]
    exact hc j u hu
  obtain ⟨v',w',hrun,h2,h3,_,h5⟩:=run_append_own_at (P:=P) w base t ty e i z size bytes ht hi hz hsize hby hzs hsz v _ xs hown1 ad _ c ys hch2.length hcells (hch2.one_cell h1) h63 hbytes hbase
  exact ⟨v',w',hrun,⟨_,by simpa using h2,hch.append hch2,by simpa using hbig⟩,h3,h5⟩
end
def Bv5 (bk:List BA) (k:Nat):AV->Option (List (List IV))
 | .iv (.sl k' m)=>if k'=k then some m else none
 | .own b=>match Ci b bk with
  | some (.row _ _ k' m)=>if k'=k then some m else none
  | _=>none
 | .val (.slice none 0 0)=>some []
 | _=>none
def Aj (P:Program) (t:TypeId) (x y:AV) (c:Nat) (bk:List BA) (K:AV->List BA->Prop):Prop :=
 match Ez P t with
 | some (e,k,yb)=>0 < k/\yb<=131072/\(tyZ P e).map (fun z=>z.2.length)=some k/\match nrm x,Bv5 bk k (nrm y) with
  | .own b,some m=>match Ci b bk with
   | some (.row _ e' k' l)=>e'=e/\k'=k/\l.length+m.length<=1073741824/\K (.own c) (.row c e k (l++m) :: Cu b [] bk)
   | _=>False
  | .val (.slice none 0 0),some m=>m.length<=1073741824/\K (.own c) (.row c e k m :: bk)
  | _,_=>False
 | none=>False
section
variable {P : Program} {G : World -> Prop} {L : Operand -> AV} {bk : List BA} {K : AV -> List BA -> Prop}
variable {dst : Option Tmp} {ty : TypeId} {pos : String} {after : Array Edge} {gd : Option (Nat × Bool)}
theorem Bj7 {t k:TypeId} {e y:Nat} (h:Ez P t=some (e,k,y)) (hz:(tyZ P e).map (fun z=>z.2.length)=some k):∃ i z,P.info? e=some i/\i.zero=some z/\i.size=k/\i.bytes=y/\z.cells.size=k:=by
 obtain ⟨_,i,h1,h2,h3⟩:=Lc h
 obtain ⟨⟨q,zs⟩,hq,hl⟩:=Option.map_eq_some_iff.1 hz
 unfold tyZ at hq
 split at hq
 ·rename_i k' s' z hk hz'
  simp only [Option.some.injEq,Prod.mk.injEq] at hq
  obtain ⟨rfl,rfl⟩:=hq
  obtain ⟨i',hi',hz'⟩:=Option.bind_eq_some_iff.1 hz'
  rw [h1] at hi'
  obtain rfl:=Option.some.inj hi'
  exact ⟨i,z,h1,hz',h2,h3,by simpa using hl⟩
 ·cases hq
theorem Bf1 {V w0:World} {n:Fm} {E:Env} {a:Act} {w:World} {fr:List (Nat×AV)} {F:List BA} (hs:St V w0 n E ⟨fr,bk++F⟩ a w) {k:Nat} {y:AV} {m:List (List IV)} {v:Value} (h:Bv5 bk k y=some m) (hv:Bd E (vis V w0 w (Ac E (bk++F))) v y):Sl (Ay (vis V w0 w (Ac E (bk++F)))) k w w.heap.size v m:=by
 unfold Bv5 at h
 split at h
 ·rename_i k' m'
  split at h
  ·rename_i e
   obtain rfl:=Option.some.inj h
   subst e
   cases hv with
   | iv hr=>exact (hr.to_sl).ext (fun _ _ h=>h) hs.in_
  ·cases h
 ·rename_i b
  split at h
  ·rename_i b' e k' m' hb
   split at h
   ·rename_i ek
    obtain rfl:=Option.some.inj h
    subst ek
    obtain ⟨q1,q2⟩:=G4 hb
    obtain rfl:b'=b:=q2
    obtain ⟨q3,_⟩:=hs.holds _ (List.mem_append_left _ q1)
    cases hv with
    | own he=>rw [he] at q3;exact q3.sl
   ·cases h
  ·cases h
 ·obtain rfl:=Option.some.inj h
  cases hv
  exact Sl.nil_ (by unfold maxLen;omega) _
 ·cases h
theorem Ay5 {t:TypeId} {x y:Operand} (h:Aj P t (L x) (L y) (cid dst) bk K):Upd P G ⟨dst,.call { callee:=.builtin .append,args:=#[x,y],argTypes:=#[t,t] },ty,pos,after,gd⟩ L bk K:=by
 unfold Aj at h
 split at h
 case h_2=>exact h.elim
 rename_i e k yb ht
 obtain ⟨hk,hyb,hzs,h⟩:=h
 obtain ⟨inf,z,i1,i2,i3,i4,i5⟩:=Bj7 ht hzs
 obtain ⟨hu,_⟩:=Lc ht
 have exec:∀ {a:Act} {w:World} {v v2 v':Value} {w':World},a.eval x=v->a.eval y=v2->(Builtin.append_ #[t,t] ty #[v,v2]).run P w=.ok v' w'->(execOp a.eval ⟨dst,.call { callee:=.builtin .append,args:=#[x,y],argTypes:=#[t,t] },ty,pos,after,gd⟩).run P w=.ok (.value v') w':=fun {a w v v2 v' w'} h1 h2 h3=>by
  simp [execOp,resolve,invoke,builtin,h1,h2,h3]
 -- behind the append
 have fin:∀ {V w0:World} {n:Fm} {E:Env} {fr:List (Nat×AV)} {pre mid post:List BA} {a:Act} {w w':World} {v v':Value} {l m:List (List IV)},St V w0 n E ⟨fr,pre++(mid++post)⟩ a w->Lg (cid dst) (cid dst+100) fr=true->Jq (cid dst) (cid dst+100) (pre++post)=true ->
   Ac E mid=v.ownBlock.toList->Ah (Ay (vis V w0 w (Ac E (pre++(mid++post))))) k w' w0.heap.size e v' (l++m)->w.grownBy w' v.ownBlock->(v'.ownBlock=v.ownBlock\/v'.ownBlock=some w.heap.size) ->
   ∃ E',St V w0 n E' ⟨fr,[.row (cid dst) e k (l++m)]++(pre++post)⟩ a w'/\Bd E' (vis V w0 w' (Ac E' ([.row (cid dst) e k (l++m)]++(pre++post)))) v' (.own (cid dst)):=fun {V w0 n E fr pre mid post a w w' v v' l m} hs h1 h2 ho hO hg hv'=>by
  obtain ⟨A,cc,hform⟩:=hO.form
  let E':Env:=⟨fun b=>if b=cid dst then (v'.ownBlock).getD 0 else E.blk b,fun b=>if b=cid dst then v' else E.row b⟩
  have hE:Env.same (cid dst) (cid dst+100) E E':=fun b hb=>by
   have:¬ b=cid dst:=by omega
   simp [E',this]
  have hrow:E'.row (cid dst)=v':=by simp [E']
  have hown:Ac E' [.row (cid dst) e k (l++m)]=v'.ownBlock.toList:=by simp [Ac,BA.owned,hrow]
  have hgs:∀ g,g∉Ac E mid->g < w.heap.size->w'.heap[g]? = w.heap[g]? := fun g hm hlt=>hg.block g hlt fun e=>hm (by rw [ho];simp [<-e])
  have hnew:∀ g∈Ac E' [.row (cid dst) e k (l++m)],g∈Ac E mid\/w.heap.size<=g:=fun g hg'=>by
   rw [hown,Option.mem_toList] at hg'
   rcases hv' with h | h
   ·left;rw [ho,Option.mem_toList,<-h];exact hg'
   ·right;rw [h] at hg';have:=Option.some.inj hg';omega
  have hx:=Aq1 (V:=V) (w0:=w0) (E':=E') (nb:=[.row (cid dst) e k (l++m)]) hs.lt hgs hg.size hnew
  have hst:=hs.swap (E':=E') (nb:=[.row (cid dst) e k (l++m)]) hgs hg.size (hs.low.grown hg hs.low.size fun g hg'=>hs.base g (by simp only [Ar,List.mem_append];exact .inr (.inl (by rw [ho,hg'];simp)))) hE h1 h2
   (by rw [hown];cases v'.ownBlock<;>simp) hnew (fun b hb=>by
    simp only [List.mem_singleton] at hb
    subst hb
    refine ⟨?_,fun g hg'=>?_⟩
    ·rw [hrow]
     exact hO.mono fun _ _ h=>h.ext hx
    ·rw [hrow] at hg'
     simp [E',hg'])
  refine ⟨E',hst,?_⟩
  rw [hform]
  exact .own (by rw [hrow];exact hform)
 split at h
 ·rename_i b m hx hy
  split at h
  ·rename_i b' e' k' l hb
   obtain ⟨rfl,rfl,hlm,hK⟩:=h
   refine ⟨_,_,hK,fun V w0 n E a w fr F hs hL hfr _ N Q hN ro=>Jl (fun _ h=>by cases h) ?_⟩
   obtain ⟨hf,hf2⟩:=hfr rfl
   obtain ⟨pre,post,p1,p2,p3⟩:=D8 hb
   obtain rfl:b'=b:=p2
   have hyv:=Bf1 hs hy (hL y).nrm_
   subst p1
   simp only [List.append_assoc,List.cons_append] at hs hL hN hf hf2 hyv
   obtain ⟨hO,hB⟩:=hs.holds (.row b' e' k' l) (by simp)
   have hxv:=(hL x).nrm_
   rw [hx] at hxv
   generalize hxe:a.eval x=u at hxv
   cases hxv with
   | @own _ A mm cc he =>
    obtain ⟨v',w',r1,r2,r3,r4⟩:=Qs (P:=P) (fun cs x h=>h.one) ty t w0.heap.size e' inf z yb hu i1 i2 i3 i4 i5 hk _ l hO w.heap.size _ m hyv hlm hyb hs.low.size
    have hs':St V w0 n E ⟨fr,pre++([.row b' e' k' l]++(post++F))⟩ a w:=by simpa using hs
    have e0:Ac E (pre++BA.row b' e' k' l :: (post++F))=Ac E (pre++([.row b' e' k' l]++(post++F))):=by simp
    simp only [e0] at r2
    have hoff:Jq (cid dst) (cid dst+100) (pre++(post++F))=true:=by
     have key:∀ (p q:List BA),Jq (cid dst) (cid dst+100) (p++BA.row b' e' k' l :: q)=true->Jq (cid dst) (cid dst+100) (p++q)=true:=by
      intro p q
      induction p with
      | nil=>intro h;simp only [List.nil_append,Jq,Bool.and_eq_true] at h ⊢;exact h.2
      | cons y p ih=>intro h;simp only [List.cons_append,Jq,Bool.and_eq_true] at h ⊢;exact ⟨h.1,ih h.2⟩
     exact key pre (post++F) hf2
    obtain ⟨E',f1,f2⟩:=fin (v:=E.row b') hs' hf hoff (by simp [Ac,BA.owned]) r2 r3 r4
    unfold Oper.wp
    rw [exec (hxe.trans he.symm) rfl r1,Oper.upon_value]
    have e1:Cu b' [] (pre++BA.row b' e' k' l :: post)=pre++post:=by rw [p3];rfl
    exact hN _ _ E' (by rw [e1];simpa using f1) (by rw [e1];simpa using f2)
  ·exact h.elim
 ·rename_i m hx hy
  obtain ⟨hlm,hK⟩:=h
  refine ⟨_,_,hK,fun V w0 n E a w fr F hs hL hfr _ N Q hN ro=>Jl (fun _ h=>by cases h) ?_⟩
  obtain ⟨hf,hf2⟩:=hfr rfl
  have hyv:=Bf1 hs hy (hL y).nrm_
  have hxv:=(hL x).nrm_
  rw [hx] at hxv
  generalize hxe:a.eval x=u at hxv
  cases hxv
  obtain ⟨v',w',r1,r2,r3,r4⟩:=Qs (P:=P) (fun cs x h=>h.one) ty t w0.heap.size e inf z yb hu i1 i2 i3 i4 i5 hk _ [] (Ah.nil_ _ _ _) w.heap.size _ m hyv (by simpa using hlm) hyb hs.low.size
  obtain ⟨E',f1,f2⟩:=fin (pre:=[]) (mid:=[]) (post:=bk++F) (fr:=fr) (v:=.slice none 0 0) (l:=[]) hs hf hf2 rfl r2 r3 r4
  unfold Oper.wp
  rw [exec hxe rfl r1,Oper.upon_value]
  exact hN _ _ E' (by simpa using f1) (by simpa using f2)
 ·exact h.elim
end
-- other names for the blocks
def AV.ren (ρ:Nat->Nat):AV->AV
 | .bp b o=>.bp (ρ b) o
 | .rp b k i j=>.rp (ρ b) k i j
 | .own b=>.own (ρ b)
 | .mv b=>.mv (ρ b)
 | .agg cs=>.agg (rens ρ cs)
 | .tup cs=>.tup (rens ρ cs)
 | .fn f cs=>.fn f (rens ρ cs)
 | a=>a
where rens (ρ:Nat->Nat):List AV->List AV
 | []=>[]
 | a :: l=>AV.ren ρ a :: rens ρ l
def BA.ren (ρ:Nat->Nat):BA->BA
 | .box b cs=>.box (ρ b) (AV.ren.rens ρ cs)
 | .arr b cs=>.arr (ρ b) cs
 | .row b e k l=>.row (ρ b) e k l
 | .mp b k kv=>.mp (ρ b) k kv
 | .opq b F=>.opq (ρ b) F
 | .rowN b e k l i j c=>.rowN (ρ b) e k l i j (ρ c)
def Env.ren (E:Env) (ρ:Nat->Nat):Env:=⟨fun b=>E.blk (ρ b),fun b=>E.row (ρ b)⟩
theorem V2 {ρ:Nat->Nat} : ∀ {cs:List AV} {j:Nat},(AV.ren.rens ρ cs)[j]? = (cs[j]?).map (AV.ren ρ)
 | [],j=>by simp [AV.ren.rens]
 | _ :: _,0=>by simp [AV.ren.rens]
 | _ :: cs,j+1=>by simp only [AV.ren.rens,List.getElem?_cons_succ];exact V2
theorem Nx {ρ:Nat->Nat} : ∀ {cs:List AV},(AV.ren.rens ρ cs).length=cs.length
 | []=>rfl
 | _ :: cs=>congrArg Nat.succ (Nx (cs:=cs))
theorem Bd.ren {E:Env} {X:World} {ρ:Nat->Nat} : ∀ (m:Nat) (c:AV),SizeOf.sizeOf c<=m->∀ {v:Value},Bd E X v (c.ren ρ)->Bd (E.ren ρ) X v c:=by
 intro m
 induction m with
 | zero=>intro c h;cases c<;>simp at h
 | succ m ih =>
  have list:∀ (cs:List AV),SizeOf.sizeOf cs<=m->∀ {vs:Array Value},(∀ (j:Nat) v d,vs[j]? = some v->(AV.ren.rens ρ cs)[j]? = some d->Bd E X v d)->∀ (j:Nat) v c,vs[j]? = some v->cs[j]? = some c->Bd (E.ren ρ) X v c:=by
   intro cs hcs vs h j v c a b
   refine ih c ?_ (h j v _ a (by rw [V2,b];rfl))
   have:=List.sizeOf_lt_of_mem (List.mem_of_getElem? b)
   omega
  intro c hc v h
  cases c with
  | any=>exact .any
  | val u=>cases h;exact .val
  | iv i=>cases h with | iv h=>exact .iv h
  | ip cs=>cases h with | ip f h1 h2=>exact .ip f h1 h2
  | bp b o=>cases h;exact .bp (E:=E.ren ρ)
  | rp b k i j=>cases h;exact .rp (E:=E.ren ρ)
  | own b=>cases h with | own h=>exact .own (E:=E.ren ρ) h
  | mv b=>cases h;exact .mv (E:=E.ren ρ)
  | aggI cs=>cases h with | aggI h=>exact .aggI h
  | agg cs =>
   simp only [AV.agg.sizeOf_spec] at hc
   cases h with
   | agg h1 h2=>exact .agg (by rw [h1,Nx]) (list cs (by omega) h2)
  | tup cs =>
   simp only [AV.tup.sizeOf_spec] at hc
   cases h with
   | tup h1 h2=>exact .tup (by rw [h1,Nx]) (list cs (by omega) h2)
  | fn f cs =>
   simp only [AV.fn.sizeOf_spec] at hc
   cases h with
   | fn h1 h2=>exact .fn (by rw [h1,Nx]) (list cs (by omega) h2)
theorem Bd.ren_ {E:Env} {X:World} {ρ:Nat->Nat} {c:AV} {v:Value} (h:Bd E X v (c.ren ρ)):Bd (E.ren ρ) X v c:=Bd.ren _ c (Nat.le_refl _) h
theorem BA.ren_owned {E:Env} {ρ:Nat->Nat} (b:BA):b.owned (E.ren ρ)=(b.ren ρ).owned E:=by cases b<;>rfl
theorem BA.ren_holds {E:Env} {X w:World} {base:Nat} {ρ:Nat->Nat} {b:BA} (h:(b.ren ρ).holds E X w base):b.holds (E.ren ρ) X w base:=by
 cases b with
 | box b cs =>
  obtain ⟨C,t,h1,h2,h3⟩:=h
  exact ⟨C,t,h1,by rw [h2,Nx],fun j v c a b=>(h3 j v _ a (by rw [V2,b];rfl)).ren_⟩
 | arr b cs=>exact h
 | row b e k l=>exact h
 | mp b k kv=>exact h
 | opq b F=>exact h
 | rowN b e k l i j c=>exact ⟨h.1.rel (by rw [Eg,Eg]) fun m x x' cs p q hh=>X4 (c:=ρ c) (c':=c) (E':=E.ren ρ) (Ext.refl _) rfl p q hh,h.2⟩
theorem BA.owned_cells {E:Env} {X w:World} {base:Nat} {b:BA} (h:b.holds E X w base):∀ g∈b.owned E,∃ o:Obj,w.heap[g]? = some o/\N6 o=false:=by
 intro g hg
 cases b with
 | box b cs =>
  obtain ⟨C,t,h1,h2⟩:=h
  simp only [BA.owned,List.mem_singleton] at hg
  subst hg;exact ⟨_,h1,rfl⟩
 | arr b cs =>
  obtain ⟨C,t,h1,h2⟩:=h
  simp only [BA.owned,List.mem_singleton] at hg
  subst hg;exact ⟨_,h1,rfl⟩
 | row b e k l =>
  simp only [BA.owned,Option.mem_toList] at hg
  obtain ⟨⟨xs,⟨h3,h4⟩,_⟩,_⟩:=h
  rcases h4 with ⟨e1,_⟩ | ⟨g',cap,cur,e1,e2,e3,_⟩
  ·rw [e1] at hg;cases hg
  ·rw [e1] at hg
   obtain rfl:g'=g:=Option.some.inj hg
   exact ⟨_,e3,rfl⟩
 | mp b k kv =>
  obtain ⟨es,c,h1,h2⟩:=h
  simp only [BA.owned,List.mem_singleton] at hg
  subst hg;exact ⟨_,h1,rfl⟩
 | opq b F =>
  obtain ⟨p,hp,rfl⟩:=List.mem_map.1 hg
  exact ⟨_,h p hp,F.act p hp⟩
 | rowN b e k l i j c =>
  simp only [BA.owned,Option.mem_toList] at hg
  obtain ⟨⟨xs,⟨h3,h4⟩,_⟩,_⟩:=h
  rcases h4 with ⟨e1,_⟩ | ⟨g',cap,cur,e1,e2,e3,_⟩
  ·rw [e1] at hg;cases hg
  ·rw [e1] at hg
   obtain rfl:g'=g:=Option.some.inj hg
   exact ⟨_,e3,rfl⟩
structure StB (V w0:World) (E:Env) (bk:List BA) (w:World):Prop where
 ext:Ext V w0
 low:Below w0.heap.size w0 w
 apart:(Ac E bk).Nodup
 base:∀ g∈Ac E bk,w0.heap.size<=g
 holds:∀ b∈bk,b.holds E (vis V w0 w (Ac E bk)) w w0.heap.size
def bxB:List (Nat×List AV)->List BA
 | []=>[]
 | (b,cs) :: r=>.box b cs :: bxB r
def bxS (ρ:Nat->Nat) (c:Nat):List (Nat×List AV)->List BA
 | []=>[]
 | (b,cs) :: r=>.box (ρ b) (AV.sh.shs c cs) :: bxS ρ c r
def Jg (ρ:Nat->Nat):List BA->List BA
 | []=>[]
 | b :: r=>b.ren ρ :: Jg ρ r
def Zu:List (Nat×List AV)->Bool
 | []=>true
 | (_,cs) :: r=>AV.small.smalls cs&&Zu r
def C46 (B:List BA) (b:Nat):Bool:=B.any fun x=>Nat.beq x.id b&&(match x with | .box _ _=>true | _=>false)
def Vx (B:List BA):List (Nat×List AV)->Bool
 | []=>true
 | (b,_) :: r=>C46 B b&&Vx B r
def Bw4 (B:List BA) (b:Nat):Bool:=B.any fun x=>Nat.beq x.id b&&(match x with | .row _ _ _ _=>true | _=>false)
def A03 (B:List BA):List BA->Bool
 | []=>true
 | .row b _ _ _ :: r=>Bw4 B b&&A03 B r
 | _ :: _=>false
def Cg (P:Program) (G:World->Prop) (f:FuncId) (args:List AV) (r:AV) (B nb:List BA) (bx:List (Nat×List AV)) (kr:List BA):Prop :=
 (∀ (vs:Array Value) (w:World),(callFunc f vs).run P w=.ok (.enter f vs) w) /\
 ∀ (V w0 w:World) (E:Env) (vs:Array Value) (F:Far),StB V w0 E (B++[.opq 99 F]) w->(∀ w',Below w0.heap.size w0 w'->G w')->Au E (vis V w0 w (Ac E (B++[.opq 99 F]))) vs.toList args ->
  Calls P f vs w fun e w'=>∃ v E',e=.returned v/\StB V w0 E' ((nb++(bxB bx++kr))++[.opq 99 F]) w'/\(∀ x∈bx,E'.blk x.1=E.blk x.1)/\(∀ x∈kr,E'.row x.id=E.row x.id)/\Bd E' (vis V w0 w' (Ac E' ((nb++(bxB bx++kr))++[.opq 99 F]))) v r/\w.heap.size<=w'.heap.size /\
   (∀ g,g∉Ac E B->g < w.heap.size->w'.heap[g]? = w.heap[g]?)/\(∀ g∈Ac E' (nb++(bxB bx++kr)),g∈Ac E B\/w.heap.size<=g)
def Bu6 (P:Program) (G:World->Prop) (f:FuncId) (args:List AV) (c:Nat) (bk:List BA) (K:AV->List BA->Prop):Prop :=
 ∃ args' r B nb bx kr ρ pre post,Cg P G f args' r B nb bx kr/\AV.ren.rens ρ args'=args/\bk=pre++(Jg ρ B++post)/\(r.small&&Mg nb&&Zu bx&&Vx B bx&&A03 B kr)=true/\K (r.sh c) ((shB c nb++(bxS ρ c bx++Jg ρ kr))++(pre++post))
theorem Ab0 {E:Env} {ρ:Nat->Nat} : ∀ {B:List BA},Ac E (Jg ρ B)=Ac (E.ren ρ) B
 | []=>rfl
 | b :: r=>by simp only [Jg,Ac,Ab0 (B:=r),BA.ren_owned]
theorem Ny {ρ:Nat->Nat} : ∀ {B:List BA} {b:BA},b∈B->b.ren ρ∈Jg ρ B
 | c :: r,b,h=>by
  rcases List.mem_cons.1 h with rfl | h
  ·simp [Jg]
  ·exact List.mem_cons_of_mem _ (Ny h)
theorem Bs7 {B:List BA} {b:Nat} (h:C46 B b=true):∃ cs,BA.box b cs∈B:=by
 unfold C46 at h
 rw [List.any_eq_true] at h
 obtain ⟨x,hx,h⟩:=h
 rw [Bool.and_eq_true] at h
 obtain ⟨h1,h2⟩:=h
 cases x with
 | box b' cs =>
  have:b'=b:=Nat.eq_of_beq_eq_true h1
  subst this
  exact ⟨cs,hx⟩
 | _=>cases h2
theorem Bl9 {B:List BA} {b:Nat} (h:Bw4 B b=true):∃ e k l,BA.row b e k l∈B:=by
 unfold Bw4 at h
 rw [List.any_eq_true] at h
 obtain ⟨x,hx,h⟩:=h
 rw [Bool.and_eq_true] at h
 obtain ⟨h1,h2⟩:=h
 cases x with
 | row b' e k l =>
  have:b'=b:=Nat.eq_of_beq_eq_true h1
  subst this
  exact ⟨e,k,l,hx⟩
 | _=>cases h2
theorem Tw {B:List BA} : ∀ {kr:List BA},A03 B kr=true->∀ x∈kr,∃ b e k l e' k' l',x=.row b e k l/\BA.row b e' k' l'∈B
 | .row b e k l :: r,h,x,hx=>by
  simp only [A03,Bool.and_eq_true] at h
  rcases List.mem_cons.1 hx with rfl | hx
  ·obtain ⟨e',k',l',hm⟩:=Bl9 h.1
   exact ⟨b,e,k,l,e',k',l',rfl,hm⟩
  ·exact Tw h.2 x hx
 | .box _ _ :: _,h,_,_=>by cases h
 | .arr _ _ :: _,h,_,_=>by cases h
 | .mp _ _ _ :: _,h,_,_=>by cases h
 | .opq _ _ :: _,h,_,_=>by cases h
 | .rowN _ _ _ _ _ _ _ :: _,h,_,_=>by cases h
theorem Ab1 {ρ:Nat->Nat} : ∀ {B:List BA} {y:BA},y∈Jg ρ B->∃ b∈B,y=b.ren ρ
 | c :: r,y,h=>by
  simp only [Jg] at h
  rcases List.mem_cons.1 h with rfl | h
  ·exact ⟨c,by simp,rfl⟩
  ·obtain ⟨b,h1,h2⟩:=Ab1 h
   exact ⟨b,List.mem_cons_of_mem _ h1,h2⟩
theorem Ab2 {E E':Env} {ρ:Nat->Nat} : ∀ {kr:List BA},(∀ x∈kr,∃ b e k l,x=.row b e k l/\E'.row (ρ b)=E.row b)->Ac E' (Jg ρ kr)=Ac E kr
 | [],_=>rfl
 | x :: r,h=>by
  obtain ⟨b,e,k,l,rfl,h1⟩:=h x (by simp)
  simp only [Jg,Ac,BA.ren,BA.owned,h1,Ab2 (kr:=r) fun x hx=>h x (List.mem_cons_of_mem _ hx)]
section
variable {P : Program} {G : World -> Prop} {L : Operand -> AV} {bk : List BA} {K : AV -> List BA -> Prop}
variable {V w0 : World} {n : Fm} {E : Env} {fr : List (Nat × AV)} {a : Act} {w : World}
theorem Ck1 (h:St V w0 n E ⟨fr,bk⟩ a w) {R:List BA} (hs:List.Sublist (Ac E R) (Ac E bk)) (hR:∀ b∈R,b∈bk):∃ F:Far,F.l.map (·.1)=Ac E R/\∀ p∈F.l,w.heap[p.1]? = some p.2:=by
 have hc:∀ g∈Ac E R,∃ o:Obj,w.heap[g]? = some o/\N6 o=false:=fun g hg=>by
  obtain ⟨b,hb,hg⟩:=Bv.1 hg
  exact BA.owned_cells (h.holds b (hR b hb)) g hg
 refine ⟨⟨(Ac E R).map fun g=>(g,(w.heap[g]?).getD (.cells #[] 0)),?_,fun p hp=>?_⟩,?_,fun p hp=>?_⟩
 ·rw [List.map_map]
  have:((fun p:Nat×Obj=>p.1) ∘ fun g=>(g,(w.heap[g]?).getD (.cells #[] 0)))=id:=rfl
  rw [this,List.map_id]
  exact h.apart.sublist hs
 ·obtain ⟨g,hg,rfl⟩:=List.mem_map.1 hp
  obtain ⟨o,h1,h2⟩:=hc g hg
  simp only [h1,Option.getD_some]
  exact h2
 ·rw [List.map_map]
  exact List.map_id _
 ·obtain ⟨g,hg,rfl⟩:=List.mem_map.1 hp
  obtain ⟨o,h1,h2⟩:=hc g hg
  simp only [h1,Option.getD_some]
theorem B08 {E E':Env} {ρ:Nat->Nat} {c:Nat} : ∀ {bx:List (Nat×List AV)},(∀ x∈bx,E'.blk (ρ x.1)=E.blk x.1)->Ac E' (bxS ρ c bx)=Ac E (bxB bx)
 | [],_=>rfl
 | (b,cs) :: r,h=>by
  simp only [bxS,bxB,Ac,BA.owned,h (b,cs) (by simp),B08 (bx:=r) fun x hx=>h x (List.mem_cons_of_mem _ hx)]
theorem Bi8 {ρ:Nat->Nat} {c:Nat} : ∀ {bx:List (Nat×List AV)} {y:BA},y∈bxS ρ c bx->∃ x∈bx,y=.box (ρ x.1) (AV.sh.shs c x.2)/\BA.box x.1 x.2∈bxB bx
 | (b,cs) :: r,y,h=>by
  simp only [bxS] at h
  rcases List.mem_cons.1 h with rfl | h
  ·exact ⟨(b,cs),by simp,rfl,by simp [bxB]⟩
  ·obtain ⟨x,h1,h2,h3⟩:=Bi8 h
   exact ⟨x,List.mem_cons_of_mem _ h1,h2,List.mem_cons_of_mem _ h3⟩
theorem Zt:∀ {bx:List (Nat×List AV)},Zu bx=true->∀ x∈bx,AV.small.smalls x.2=true
 | (b,cs) :: r,h,x,hx=>by
  simp only [Zu,Bool.and_eq_true] at h
  rcases List.mem_cons.1 hx with rfl | hx
  ·exact h.1
  ·exact Zt h.2 x hx
theorem Yj {B:List BA} : ∀ {bx:List (Nat×List AV)},Vx B bx=true->∀ x∈bx,∃ cs,BA.box x.1 cs∈B
 | (b,cs) :: r,h,x,hx=>by
  simp only [Vx,Bool.and_eq_true] at h
  rcases List.mem_cons.1 hx with rfl | hx
  ·exact Bs7 h.1
  ·exact Yj h.2 x hx
variable {dst : Option Tmp} {ty : TypeId} {pos : String} {after : Array Edge} {gd : Option (Nat × Bool)}
theorem Ck7 {f:FuncId} {fo:Operand} {args:Array Operand} {at_:Array TypeId} {caps:List AV} (hfo:L fo=.fn f caps) (h:Bu6 P G f (args.toList.map L++caps) (cid dst) bk K) :
  Upd P G ⟨dst,.call { callee:=.value fo,args,argTypes:=at_ },ty,pos,after,gd⟩ L bk K:=by
 obtain ⟨args',r,B,nb,bx,kr,ρ,pre,post,⟨hen,hcall⟩,hargs',rfl,hsm,hK⟩:=h
 simp only [Bool.and_eq_true] at hsm
 obtain ⟨⟨⟨⟨hs1,hs2⟩,hs3⟩,hs4⟩,hs5⟩:=hsm
 refine ⟨_,_,hK,fun V w0 n E a w fr F0 hs hL hfr hG N Q hN ro=>Jl (fun _ h=>by cases h) ?_⟩
 obtain ⟨hf1,hf2⟩:=hfr rfl
 have hfv:=hL fo
 rw [hfo] at hfv
 generalize hfe:a.eval fo=u at hfv
 cases hfv with
 | @fn _ vs _ p1 p2 =>
  have hexec:(execOp a.eval ⟨dst,.call { callee:=.value fo,args,argTypes:=at_ },ty,pos,after,gd⟩).run P w=.ok (.enter f (args.map a.eval++vs)) w:=by
   simp [execOp,resolve,hfe,Deferred.ofValue,invoke,hen]
  have e0:(pre++(Jg ρ B++post))++F0=pre++(Jg ρ B++(post++F0)):=by simp only [List.append_assoc]
  rw [e0] at hs hL hf2
  have hargs:Au E (vis V w0 w (Ac E (pre++(Jg ρ B++(post++F0))))) (args.map a.eval++vs).toList (args.toList.map L++caps):=by
   refine ⟨by simp [p1],fun j v d e1 e2=>?_⟩
   by_cases hj:j < args.size
   ·rw [List.getElem?_append_left (by simpa using hj),List.getElem?_map,Option.map_eq_some_iff] at e2
    obtain ⟨y,e3,rfl⟩:=e2
    rw [Array.getElem?_toList,Array.getElem?_append_left (by simpa using hj),Array.getElem?_map,Option.map_eq_some_iff] at e1
    obtain ⟨y',e4,rfl⟩:=e1
    rw [Array.getElem?_toList,e4] at e3
    obtain rfl:=Option.some.inj e3
    exact hL _
   ·rw [List.getElem?_append_right (by simp;omega)] at e2
    rw [Array.getElem?_toList,Array.getElem?_append_right (by simp;omega)] at e1
    simp only [List.length_map,Array.length_toList] at e2
    simp only [Array.size_map] at e1
    have h3:=p2 _ v d e1 e2
    rwa [e0] at h3
  unfold Oper.wp
  rw [hexec,Oper.upon_enter]
  -- what is somebody else's
  have hsubl:List.Sublist (Ac E (pre++(post++F0))) (Ac E (pre++(Jg ρ B++(post++F0)))):=by
   simp only [Ar]
   exact (List.Sublist.refl _).append (List.sublist_append_right _ _)
  obtain ⟨F,hF1,hF2⟩:=Ck1 hs (R:=pre++(post++F0)) hsubl fun b hb=>by
   simp only [List.mem_append] at hb ⊢
   rcases hb with hb | hb
   ·exact .inl hb
   ·exact .inr (.inr hb)
  have hoE:∀ (E1:Env),Ac E1 [.opq 99 F]=Ac E (pre++(post++F0)):=fun E1=>by simp [Ac,BA.owned,hF1]
  have hoB:Ac (E.ren ρ) B=Ac E (Jg ρ B):=Ab0.symm
  have ho1:Ac (E.ren ρ) (B++[.opq 99 F])=Ac E (Jg ρ B)++Ac E (pre++(post++F0)):=by rw [Ar,hoE,hoB]
  have hmem:∀ g,g∈Ac E (Jg ρ B)++Ac E (pre++(post++F0))↔g∈Ac E (pre++(Jg ρ B++(post++F0))):=fun g=>by
   simp only [Ar,List.mem_append]
   constructor
   ·rintro (h | h | h)
    ·exact .inr (.inl h)
    ·exact .inl h
    ·exact .inr (.inr h)
   ·rintro (h | h | h)
    ·exact .inr (.inl h)
    ·exact .inl h
    ·exact .inr (.inr h)
  have hx:Ext (vis V w0 w (Ac E (pre++(Jg ρ B++(post++F0))))) (vis V w0 w (Ac (E.ren ρ) (B++[.opq 99 F]))):=D6 (Nat.le_refl _) fun p u _ _ h3 h4=>⟨fun hm=>h3 ((hmem _).1 (ho1 ▸ hm)),h4⟩
  have hst:StB V w0 (E.ren ρ) (B++[.opq 99 F]) w:=by
   refine ⟨hs.ext,hs.low,?_,fun g hg=>hs.base g ((hmem g).1 (ho1 ▸ hg)),fun b hb=>?_⟩
   ·rw [ho1]
    have:=hs.apart
    simp only [Ar] at this ⊢
    exact (List.perm_append_comm_assoc _ _ _).nodup_iff.1 this
   ·rcases List.mem_append.1 hb with hb | hb
    ·exact BA.holds_ext (Env.same_refl 0 0 _) hx (fun _ _=>rfl) b.off_none (BA.ren_holds (hs.holds (b.ren ρ) (List.mem_append_right _ (List.mem_append_left _ (Ny hb)))))
    ·rw [List.mem_singleton.1 hb]
     exact hF2
  have hav:Au (E.ren ρ) (vis V w0 w (Ac (E.ren ρ) (B++[.opq 99 F]))) (args.map a.eval++vs).toList args':=by
   rw [<-hargs'] at hargs
   exact ⟨by rw [hargs.1,Nx],fun j v d e1 e2=>((hargs.2 j v _ e1 (by rw [V2,e2];rfl)).ren_).mono hx⟩
  refine (hcall V w0 w (E.ren ρ) _ F hst hG hav).mono ?_
  rintro e w' ⟨v,E',rfl,hst',hpin,hpin2,hv,hsz,hkeep,hnew⟩
  obtain ⟨c,hc⟩ : ∃ c,cid dst=c:=⟨_,rfl⟩
  simp only [hc] at hf1 hf2 hN
  have hblk:∀ x∈bx,(Env.join E E' c).blk (ρ x.1)=E'.blk x.1:=fun x hx=>by
   obtain ⟨cs,hm⟩:=Yj hs4 x hx
   have h1:=Lh hf2 _ (List.mem_append_right _ (List.mem_append_left _ (Ny (ρ:=ρ) hm)))
   simp only [BA.ren,BA.off,Bool.and_eq_true,Bool.or_eq_true,decide_eq_true_eq] at h1
   rw [((Env.join_same E E' c) _ h1.1).1,hpin x hx]
   rfl
  have hrow:∀ x∈kr,∃ b e k l,x=.row b e k l/\(Env.join E E' c).row (ρ b)=E'.row b:=fun x hx=>by
   obtain ⟨b,e,k,l,e',k',l',rfl,hm⟩:=Tw hs5 x hx
   have h1:=Lh hf2 _ (List.mem_append_right _ (List.mem_append_left _ (Ny (ρ:=ρ) hm)))
   simp only [BA.ren,BA.off,Bool.or_eq_true,decide_eq_true_eq] at h1
   refine ⟨b,e,k,l,rfl,?_⟩
   have h2:E'.row b=E.row (ρ b):=hpin2 _ hx
   rw [((Env.join_same E E' c) _ h1).2,h2]
  have hon:Ac (Env.join E E' c) (shB c nb++(bxS ρ c bx++Jg ρ kr))=Ac E' (nb++(bxB bx++kr)):=by rw [Ar,Ar,Ar,Ar,Zx hs2,B08 hblk,Ab2 hrow]
  have hof:Ac E' ((nb++(bxB bx++kr))++[.opq 99 F])=Ac (Env.join E E' c) (shB c nb++(bxS ρ c bx++Jg ρ kr))++Ac E (pre++(post++F0)):=by rw [Ar,hon,hoE]
  have hst2:=hst'.holds
  have hap2:=hst'.apart
  rw [hof] at hst2 hap2 hv
  have hsw:=St.swap (nb:=shB c nb++(bxS ρ c bx++Jg ρ kr)) hs (w':=w') (E':=Env.join E E' c) (lo:=c) (hi:=c+100) (fun g hg=>hkeep g (hoB ▸ hg)) hsz hst'.low (Env.join_same E E' c) hf1 (by
   have:∀ {l:List BA},(∀ b∈l,b.off c (c+100)=true)->Jq c (c+100) l=true:=fun {l}=>by
    induction l with
    | nil=>exact fun _=>rfl
    | cons b l ih=>exact fun h=>by simp only [Jq,Bool.and_eq_true];exact ⟨h b (by simp),ih fun x hx=>h x (List.mem_cons_of_mem _ hx)⟩
   exact this fun b hb=>Lh hf2 b (by
    simp only [List.mem_append] at hb ⊢
    rcases hb with hb | hb
    ·exact .inl hb
    ·exact .inr (.inr hb))) (List.nodup_append.1 hap2).1 (fun g hg=>hoB ▸ hnew g (hon ▸ hg)) (fun b hb=>?_)
  ·refine hN v w' (Env.join E E' c) ?_ ?_
   ·have e1:((shB c nb++(bxS ρ c bx++Jg ρ kr))++(pre++post))++F0=(shB c nb++(bxS ρ c bx++Jg ρ kr))++(pre++(post++F0)):=by simp only [List.append_assoc]
    rw [e1]
    exact hsw
   ·have e1:((shB c nb++(bxS ρ c bx++Jg ρ kr))++(pre++post))++F0=(shB c nb++(bxS ρ c bx++Jg ρ kr))++(pre++(post++F0)):=by simp only [List.append_assoc]
    have e2:Ac (Env.join E E' c) (pre++(post++F0))=Ac E (pre++(post++F0)):=P1 (Env.join_same E E' c) (by
     have:∀ {l:List BA},(∀ b∈l,b.off c (c+100)=true)->Jq c (c+100) l=true:=fun {l}=>by
      induction l with
      | nil=>exact fun _=>rfl
      | cons b l ih=>exact fun h=>by simp only [Jq,Bool.and_eq_true];exact ⟨h b (by simp),ih fun x hx=>h x (List.mem_cons_of_mem _ hx)⟩
     exact this fun b hb=>Lh hf2 b (by
      simp only [List.mem_append] at hb ⊢
      rcases hb with hb | hb
      ·exact .inl hb
      ·exact .inr (.inr hb)))
    rw [e1,Ar,e2]
    exact hv.sh hs1
  ·rcases List.mem_append.1 hb with hb | hb
   ·obtain ⟨b0,hb0,rfl⟩:=Ah7 hb
    exact BA.sh_holds (hst2 b0 (List.mem_append_left _ (List.mem_append_left _ hb0))) (Tt hs2 b0 hb0)
   ·rcases List.mem_append.1 hb with hb | hb
    ·obtain ⟨x,hx,rfl,hxm⟩:=Bi8 hb
     obtain ⟨C,t,h1,h2⟩:=hst2 (.box x.1 x.2) (List.mem_append_left _ (List.mem_append_right _ (List.mem_append_left _ hxm)))
     exact ⟨C,t,by rw [hblk x hx];exact h1,h2.sh (Zt hs3 x hx)⟩
    ·obtain ⟨x,hx,rfl⟩:=Ab1 hb
     obtain ⟨b,e,k,l,e',k',l',rfl,hm⟩:=Tw hs5 x hx
     obtain ⟨b',_,_,_,e1,hr1⟩:=hrow _ hx
     injection e1 with e1
     subst e1
     obtain ⟨h1,h2⟩:=hst2 (.row b e k l) (List.mem_append_left _ (List.mem_append_right _ (List.mem_append_right _ hx)))
     have h3:=Lh hf2 _ (List.mem_append_right _ (List.mem_append_left _ (Ny (ρ:=ρ) hm)))
     simp only [BA.ren,BA.off,Bool.or_eq_true,decide_eq_true_eq] at h3
     have h4:=(hs.holds ((BA.row b e' k' l').ren ρ) (List.mem_append_right _ (List.mem_append_left _ (Ny hm)))).2
     refine ⟨by rw [hr1];exact h1,fun g hg=>?_⟩
     rw [((Env.join_same E E' c) _ h3).2] at hg
     rw [((Env.join_same E E' c) _ h3).1]
     exact h4 g hg
end
def Bj (P:Program) (G:World->Prop) (L:Operand->AV) (bk:List BA) (o:Oper) (K:AV->List BA->Prop):Prop :=
 match o.op with
 | .store t x y=>Aq P t (L x) (L y) bk fun bk'=>K .any bk'
 | .mapUpdate t x i y=>Av5 P t (L x) (L i) (L y) bk fun bk'=>K .any bk'
 | .call { callee:=.builtin .append,args,argTypes }=>match args.toList,argTypes.toList with
  | [x,y],[t,t']=>t'=t/\Aj P t (L x) (L y) (cid o.dst) bk K
  | _,_=>False
 | .call { callee:=.value fo,args,.. }=>match L fo with
  | .fn f caps=>Bh P G (fun b=>Ci b bk) f (args.toList.map L++caps) (cid o.dst) (fun r nb=>K r (nb++bk))\/Bu6 P G f (args.toList.map L++caps) (cid o.dst) bk K
  | _=>False
 | _=>qop P G L (fun b=>Ci b bk) o (cid o.dst) fun r nb=>K r (nb++bk)
def Cz (o:Oper) (σ:Ag):Prop:=Jz o=true->(Lg (cid o.dst) (cid o.dst+100) σ.fr&&Jq (cid o.dst) (cid o.dst+100) σ.bk)=true
def vop (P:Program) (G:World->Prop) (σ:Ag) (o:Oper) (K:AV->List BA->Prop):Prop:=Cz o σ/\Bj P G (ev σ.fr) σ.bk o K
section
variable {P : Program} {G : World -> Prop} {σ : Ag}
theorem Bz2 {lo hi:Nat} {fr:List (Nat×AV)} (h:Lg lo hi fr=true) (x:Operand):(ev fr x).off lo hi=true:=by
 cases x with
 | tmp t=>exact S8 h t
 | const v =>
  cases v<;>first | rfl | skip
  rename_i cs
  show AV.off.offs lo hi _=true
  generalize cs.toList=l
  induction l with
  | nil=>rfl
  | cons z zs ih=>simp only [List.map_cons,AV.off.offs,AV.off,Bool.true_and];exact ih
 | global g=>rfl
 | func f=>rfl
variable {L : Operand -> AV} {bk : List BA}
theorem As9 {o:Oper} {B:Nat->Option BA} {c:Nat} {K:AV->List BA->Prop} (h:qop P G L B o c K):∀ d,o.op≠.defer d:=fun d e=>by
 obtain ⟨dst,op,ty,pos,after,gd⟩:=o
 simp only at e
 subst e
 exact h
theorem Ss {o:Oper} {K:AV->List BA->Prop} (hf:Jz o=true->∀ x,(L x).off (cid o.dst) (cid o.dst+100)=true) (h:qop P G L (fun b=>Ci b bk) o (cid o.dst) fun r nb=>K r (nb++bk)):Upd P G o L bk K:=by
 obtain ⟨r,nb,hK,hq⟩:=B71 hf h
 have hnd0:=As9 h
 refine ⟨r,nb++bk,hK,fun V w0 n E a w fr F hs hL hfr hG N Q hN ro=>Jl hnd0 <| hq V w0 n E ⟨fr,bk++F⟩ a w hs (hG w hs.low) hL (fun b x hb=>⟨List.mem_append_left _ (G4 hb).1,(G4 hb).2⟩) N Q fun v w' E' ⟨hb,⟨hE,hm⟩,hnd,hnew,hh,hv⟩=>?_⟩
 have hst:St V w0 n E' ⟨fr,nb++(bk++F)⟩ a w'/\Ac E' (bk++F)=Ac E (bk++F):=by
  rcases hm with rfl | hm
  ·exact ⟨hs.add (lo:=0) (hi:=0) hb (Env.same_refl 0 0 E') (S7 _) (S9 _) hnd hnew hh,rfl⟩
  ·have:=hfr hm
   exact ⟨hs.add hb hE this.1 this.2 hnd hnew hh,P1 hE this.2⟩
 exact hN v w' E' (by rw [List.append_assoc];exact hst.1) (by rw [List.append_assoc,Ar,hst.2];exact hv)
theorem Ao9 {o:Oper} {K:AV->List BA->Prop} (hf:Jz o=true->∀ x,(L x).off (cid o.dst) (cid o.dst+100)=true) (h:Bj P G L bk o K):Upd P G o L bk K:=by
 unfold Bj at h
 split at h
 ·rename_i t x y ho
  obtain ⟨dst,op,ty,pos,after,gd⟩:=o
  simp only at ho
  subst ho
  exact Cb2 h
 ·rename_i t x i y ho
  obtain ⟨dst,op,ty,pos,after,gd⟩:=o
  simp only at ho
  subst ho
  exact Da4 h
 ·rename_i args at_ ho
  obtain ⟨dst,op,ty,pos,after,gd⟩:=o
  simp only at ho
  subst ho
  split at h
  ·rename_i x y t t' h1 h2
   obtain ⟨rfl,h⟩:=h
   obtain rfl:args=#[x,y]:=by rw [<-Array.toArray_toList (xs:=args),h1]
   obtain rfl:at_=#[t',t']:=by rw [<-Array.toArray_toList (xs:=at_),h2]
   exact Ay5 h
  ·exact h.elim
 ·rename_i fo args at_ ho
  obtain ⟨dst,op,ty,pos,after,gd⟩:=o
  simp only at ho
  subst ho
  split at h
  ·rename_i f caps hfo
   rcases h with h | h
   ·refine Ss hf ?_
    show match L fo with
     | .fn f caps=>_
     | _=>False
    rw [hfo]
    exact h
   ·exact Ck7 hfo h
  ·exact h.elim
 ·exact Ss hf h
theorem Ci5 {c:Nat} {B:Nat->Option BA} {o:Oper} {K:AV->List BA->Prop} (hm:Jz o=true) (h:qop P G L B o c K):∃ r nb,K r nb:=by
 obtain ⟨dst,op,ty,pos,after,gd⟩:=o
 unfold qop at h
 cases op with
 | alloc e =>
  simp only at h
  split at h
  ·exact ⟨_,_,h.2⟩
  ·exact ⟨_,_,h⟩
  ·exact h.elim
 | box e x =>
  simp only at h
  split at h
  ·exact ⟨_,_,h⟩
  ·exact ⟨_,_,h.2⟩
 | makeMap t r =>
  simp only at h
  split at h
  ·exact ⟨_,_,h.2⟩
  ·exact h.elim
 | buildSlice t len parts =>
  simp only at h
  split at h
  ·obtain ⟨_,l,_,_,_,_,_,h | h⟩:=h
   ·exact ⟨_,_,h⟩
   ·exact ⟨_,_,h⟩
  ·exact h.elim
 | call cl =>
  obtain ⟨callee,args,at_⟩:=cl
  cases callee with
  | value fo =>
   simp only at h
   split at h
   ·obtain ⟨r,nb,_,_,_,h⟩:=h
    exact ⟨_,_,h⟩
   ·exact h.elim
  | invoke r m=>cases hm
  | builtin b =>
   simp only at h
   cases b<;>first | exact h.elim | cases hm
 | _=>cases hm
theorem Bk2 {o:Oper} {K:AV->List BA->Prop} (h:Bj P G L bk o K):∃ r bk',K r bk'/\((Jz o=true->∀ x,(L x).off (cid o.dst) (cid o.dst+100)=true)->Cm1 P G o L bk r bk'):=by
 by_cases hf:Jz o=true->∀ x,(L x).off (cid o.dst) (cid o.dst+100)=true
 ·obtain ⟨r,bk',h1,h2⟩:=Ao9 hf h
  exact ⟨r,bk',h1,fun _=>h2⟩
 ·have hm:Jz o=true:=by
   cases hm:Jz o with
   | true=>rfl
   | false=>exact absurd (fun e=>by rw [hm] at e;cases e) hf
  unfold Bj at h
  split at h
  ·rename_i t x y ho
   obtain ⟨dst,op,ty,pos,after,gd⟩:=o
   simp only at ho
   subst ho
   cases hm
  ·rename_i t x i y ho
   obtain ⟨dst,op,ty,pos,after,gd⟩:=o
   simp only at ho
   subst ho
   cases hm
  ·rename_i args at_ ho
   obtain ⟨dst,op,ty,pos,after,gd⟩:=o
   simp only at ho
   subst ho
   split at h
   ·rename_i x y t t' h1 h2
    obtain ⟨rfl,h⟩:=h
    obtain rfl:args=#[x,y]:=by rw [<-Array.toArray_toList (xs:=args),h1]
    obtain rfl:at_=#[t',t']:=by rw [<-Array.toArray_toList (xs:=at_),h2]
    obtain ⟨r,bk',h3,h4⟩:=Ay5 h
    exact ⟨r,bk',h3,fun _=>h4⟩
   ·exact h.elim
  ·split at h
   ·rename_i f caps hfo
    rcases h with ⟨r,nb,_,_,_,h⟩ | ⟨args',r,B,nb,bx,kr,ρ,pre,post,_,_,_,_,h⟩
    ·exact ⟨_,_,h,fun h=>absurd h hf⟩
    ·exact ⟨_,_,h,fun h=>absurd h hf⟩
   ·exact h.elim
  ·obtain ⟨r,nb,hK⟩:=Ci5 hm h
   exact ⟨_,_,hK,fun h=>absurd h hf⟩
theorem Ah0 {o:Oper} {K:AV->List BA->Prop} (h:vop P G σ o K):∃ r bk',K r bk'/\∀ (V w0:World) (n:Fm) (E:Env) (a:Act) (w:World),St V w0 n E σ a w->(∀ w',Below w0.heap.size w0 w'->G w')->∀ (N:Act->World->Prop) (Q:Exit->Act->World->Prop),
  (∀ v w' E',St V w0 n E' ⟨σ.fr,bk'⟩ a w'->Bd E' (vis V w0 w' (Ac E' bk')) v r->N (a.put o.dst v) w')->∀ ro,o.wpIn (FW ro) 0 P a w N Q:=by
 obtain ⟨hf,h⟩:=h
 obtain ⟨r,bk',hK,hu⟩:=Ao9 (fun hm x=>Bz2 (Bool.and_eq_true _ _ ▸ hf hm).1 x) h
 refine ⟨r,bk',hK,fun V w0 n E a w hs hG N Q hN=>hu V w0 n E a w σ.fr [] (by simpa using hs) (fun x=>by simpa using hs.ev x) (fun hm=>by simpa using hf hm) hG N Q fun v w' E' h1 h2=>hN v w' E' (by simpa using h1) (by simpa using h2)⟩
def J7 (ops:List Oper) (fr:List (Nat×AV)) (j:Nat):AV :=
 match ops[j]? with
 | some o=>match o.dst with
  | some d=>nrm (Cq fr d)
  | none=>.any
 | none=>.any
def Lo (ops:List Oper) (fr:List (Nat×AV)) (g:Option (Nat×Bool)) (run skip:Prop):Prop :=
 match g with
 | none=>run
 | some (j,b)=>match J7 ops fr j with
  | .val (.bool x)=>(x=b->run)/\(x=!b->skip)
  | .val (.tuple _)=>skip
  | _=>False
def Bo (P:Program) (G:World->Prop) (ops:List Oper):List Oper->Ag->(Ag->Prop)->Prop
 | [],σ,K=>K σ
 | o :: rest,σ,K=>Lo ops σ.fr o.guard (vop P G σ o fun r bk=>Bo P G ops rest ⟨Fv o.dst r σ.fr,bk⟩ K) (Bo P G ops rest ⟨Fv o.dst (.val undef) σ.fr,σ.bk⟩ K)
def C03 (d:Nat):List Nat->Bool
 | []=>false
 | i :: r=>Nat.beq i d || C03 d r
theorem Kj {d:Nat} : ∀ {l:List Nat},C03 d l=false->d∉l
 | [],_,h=>by cases h
 | i :: r,h,hm=>by
  simp only [C03,Bool.or_eq_false_iff] at h
  rcases List.mem_cons.1 hm with e | hm
  ·subst e;simp at h
  ·exact Kj h.2 hm
def Dd (n:Nd):List Oper->Bool
 | []=>true
 | o :: r=>(match o.dst with
  | some d=>Nat.blt d n.n&&!C03 d n.fx
  | none=>true)&&Dd n r
variable {V w0 : World} {n : Fm} {ro : Option Nat}
theorem X5 {ops:List Oper} {E:Env} {a:Act} {w:World} (hs:St V w0 n E σ a w) {o:Oper} {A B:Prop} (h:Lo ops σ.fr o.guard A B):(Region.wanted o (yielded ops.toArray a.tmps)=true/\A)\/(Region.wanted o (yielded ops.toArray a.tmps)=false/\B):=by
 unfold Lo at h
 unfold Region.wanted
 split at h
 ·rename_i hg
  rw [hg];exact .inl ⟨rfl,h⟩
 ·rename_i j b hg
  rw [hg]
  simp only
  split at h
  ·rename_i x hy
   have hyv:yielded ops.toArray a.tmps j=some x:=by
    unfold J7 at hy
    split at hy
    ·rename_i o' ho'
     split at hy
     ·rename_i d hd
      have hv:=(hs.slots d).nrm_
      rw [hy] at hv
      generalize hu:a.tmps.getD d undef=u at hv
      cases hv
      have:a.tmps[d]? = some (.bool x):=by
       rw [Array.getD_eq_getD_getElem?] at hu
       cases hdd:a.tmps[d]? with
       | none=>rw [hdd] at hu;simp [undef] at hu
       | some y=>rw [hdd] at hu;simp at hu;rw [hu]
      simp [yielded,ho',hd,this]
     ·cases hy
    ·cases hy
   rw [hyv]
   by_cases e:x=b
   ·subst e;exact .inl ⟨by simp,h.1 rfl⟩
   ·refine .inr ⟨by simpa using e,h.2 (by cases x<;>cases b<;>simp_all)⟩
  ·rename_i tt hy
   have hyv:yielded ops.toArray a.tmps j=none:=by
    unfold J7 at hy
    split at hy
    ·rename_i o' ho'
     split at hy
     ·rename_i d hd
      have hv:=(hs.slots d).nrm_
      rw [hy] at hv
      generalize hu:a.tmps.getD d undef=u at hv
      cases hv
      rw [Array.getD_eq_getD_getElem?] at hu
      cases hdd:a.tmps[d]? with
      | none=>simp [yielded,ho',hd,hdd]
      | some y =>
       rw [hdd] at hu
       simp at hu
       simp [yielded,ho',hd,hdd,hu]
     ·cases hy
    ·cases hy
   rw [hyv]
   exact .inr ⟨rfl,h⟩
  ·exact h.elim
theorem Ug {ops:List Oper} {Q:Exit->Act->World->Prop} (hG:∀ w',Below w0.heap.size w0 w'->G w'):∀ (l:List Oper) (σ:Ag) (K:Ag->Prop) (E:Env) (a:Act) (w:World),Dd n.nd l=true->Bo P G ops l σ K->St V w0 n E σ a w ->
  (∀ (E':Env) (σ':Ag) (a':Act) (w':World),K σ'->St V w0 n E' σ' a' w'->Q .normal a' w')->wpListIn (FW ro) 0 P ops.toArray Q l a w:=by
 intro l
 induction l with
 | nil=>exact fun σ K E a w _ h hs hQ=>hQ E σ a w h hs
 | cons o rest ih =>
  intro σ K E a w hd h hs hQ
  simp only [Dd,Bool.and_eq_true] at hd
  have hdst:∀ d,o.dst=some d->d < n.nd.n/\d∉n.nd.fx:=fun d e=>by
   have:=hd.1
   rw [e] at this
   simp only [Bool.and_eq_true,Bool.not_eq_true'] at this
   exact ⟨Dh.1 this.1,Kj this.2⟩
  refine wpListIn_step fun K' hK'=>?_
  rcases X5 hs h with ⟨hw,hr⟩ | ⟨hw,hr⟩
  ·rw [if_pos hw]
   obtain ⟨r,bk',hK,hu⟩:=Ah0 hr
   refine hu V w0 n E a w hs hG K' Q (fun v w' E' hs' hv=>hK' _ _ (ih ⟨Fv o.dst r σ.fr,bk'⟩ K E' (a.put o.dst v) w' hd.2 hK (hs'.put hdst hv) hQ)) ro
  ·rw [if_neg (by rw [hw];simp)]
   refine ⟨fun _ _=>trivial,hK' _ _ (ih ⟨Fv o.dst (.val undef) σ.fr,σ.bk⟩ K E (a.put o.dst undef) w hd.2 hr (hs.put hdst .val) hQ)⟩
-- code
def Arr (V w0:World) (m:Fm) (K:Exit->Ag->Prop) (e:Exit) (a:Act) (w:World):Prop:=∃ m' E σ,Fm.le m m'/\K e σ/\St V w0 m' E σ a w
theorem Arr.more {V w0:World} {m m':Fm} {K:Exit->Ag->Prop} {e:Exit} {a:Act} {w:World} (h:Arr V w0 m' K e a w) (hl:Fm.le m m'):Arr V w0 m K e a w:=by
 obtain ⟨m2,E,σ,h1,h2⟩:=h
 exact ⟨m2,E,σ,hl.trans h1,h2⟩
def AW (P:Program) (G:World->Prop) (ro:Option Nat) (V w0:World) (n:Nd) (c:Code) (σ:Ag) (K:Exit->Ag->Prop):Prop :=
 (∀ w',Below w0.heap.size w0 w'->G w')->∀ m E a w,m.nd=n->St V w0 m E σ a w->c.wpIn (FW ro) 0 P (Arr V w0 m K) a w
end
section
variable {P : Program} {G : World -> Prop} {σ : Ag} {V w0 : World} {n : Nd} {ro : Option Nat} {K : Exit -> Ag -> Prop}
theorem AW.region {id:Nat} {l:List Oper} (hd:Dd n l=true) (h:Bo P G l l σ fun σ'=>K .normal σ'):AW P G ro V w0 n (.region id l.toArray false) σ K :=
 fun hG m E a w hn hs=>wpIn_region_lit (Ug hG l σ _ E a w (by rw [hn];exact hd) h hs fun E' σ' a' w' hK hs'=>⟨m,E',σ',Fm.le.refl m,hK,hs'⟩)
theorem AW.seq {x y:Code} (h:AW P G ro V w0 n x σ fun e σ'=>match e with
  | .normal=>AW P G ro V w0 n y σ' K
  | e=>K e σ'):AW P G ro V w0 n (.seq x y) σ K:=fun hG m E a w hn hs=>by
 refine wpIn_seq (wpIn_mono (h hG m E a w hn hs) ?_)
 rintro e a' w' ⟨m',E',σ',hm,hK,hs'⟩
 cases e with
 | normal=>exact wpIn_mono (hK hG m' E' a' w' (hm.nd.trans hn) hs') fun _ _ _ h=>h.more hm
 | _=>exact ⟨m',E',σ',hm,hK,hs'⟩
theorem AW.block {id:Nat} {c:Code} (h:AW P G ro V w0 n c σ fun e σ'=>match e with
  | .exit j=>if j=id then K .normal σ' else K (.exit j) σ'
  | e=>K e σ'):AW P G ro V w0 n (.block id c) σ K:=fun hG m E a w hn hs=>by
 refine wpIn_block (wpIn_mono (h hG m E a w hn hs) ?_)
 rintro e a' w' ⟨m',E',σ',hm,hK,hs'⟩
 cases e with
 | exit j =>
  simp only [Exit.inBlock]
  simp only at hK
  by_cases e:j=id
  ·rw [if_pos e];rw [if_pos e] at hK;exact ⟨m',E',σ',hm,hK,hs'⟩
  ·rw [if_neg e];rw [if_neg e] at hK;exact ⟨m',E',σ',hm,hK,hs'⟩
 | _=>exact ⟨m',E',σ',hm,hK,hs'⟩
theorem AW.exit {id:Nat} (h:K (.exit id) σ):AW P G ro V w0 n (.exit id) σ K:=fun _ m E _ _ _ hs=>wpIn_exit ⟨m,E,σ,Fm.le.refl m,h,hs⟩
theorem AW.ret (h:K .ret σ):AW P G ro V w0 n .ret σ K:=fun _ m E _ _ _ hs=>wpIn_ret ⟨m,E,σ,Fm.le.refl m,h,hs⟩
theorem AW.skip (h:K .normal σ):AW P G ro V w0 n .skip σ K:=fun _ m E _ _ _ hs=>wpIn_skip ⟨m,E,σ,Fm.le.refl m,h,hs⟩
theorem AW.label {l:Nat} (h:K .normal σ):AW P G ro V w0 n (.label l) σ K:=fun _ m E _ _ _ hs=>wpIn_label ⟨m,E,σ,Fm.le.refl m,h,hs⟩
theorem AW.cond {c:Operand} {x y:Code} {t:Bool} (hc:nrm (ev σ.fr c)=.val (.bool t)) (h1:t=true->AW P G ro V w0 n x σ K) (h2:t=false->AW P G ro V w0 n y σ K):AW P G ro V w0 n (.cond c x y) σ K:=fun hG m E a w hn hs=>by
 have hv:=(hs.ev c).nrm_
 rw [hc] at hv
 generalize hu:a.eval c=u at hv
 cases hv
 exact wpIn_cond_split hu (fun e=>h1 e hG m E a w hn hs) (fun e=>h2 e hG m E a w hn hs)
end
def leF (ρ:Nat->Nat) (fr:List (Nat×AV)):List (Nat×AV)->Prop
 | []=>True
 | (i,c) :: r=>Cq fr i=c.ren ρ/\leF ρ fr r
def leB (ρ:Nat->Nat) (bk:List BA):List BA->Prop
 | []=>True
 | b :: r=>Ci (ρ b.id) bk=some (b.ren ρ)/\leB ρ bk r
def By (ρ:Nat->Nat):List BA->List Nat
 | []=>[]
 | b :: r=>ρ b.id :: By ρ r
def LeS (ρ:Nat->Nat) (S σ:Ag):Prop:=leF ρ σ.fr S.fr/\leB ρ σ.bk S.bk/\(By ρ S.bk).Nodup
theorem Aw3 {ρ:Nat->Nat} {fr:List (Nat×AV)} : ∀ {l:List (Nat×AV)},leF ρ fr l->∀ i,Cq l i=.any\/Cq fr i=(Cq l i).ren ρ
 | [],_,_=>.inl rfl
 | (j,c) :: r,h,i=>by
  simp only [Cq]
  by_cases e:i=j
  ·subst e
   rw [if_pos rfl]
   exact .inr h.1
  ·rw [if_neg e]
   exact Aw3 h.2 i
theorem Sc {ρ:Nat->Nat} {bk:List BA} : ∀ {l:List BA},leB ρ bk l->∀ b∈l,Ci (ρ b.id) bk=some (b.ren ρ)
 | [],_,b,h=>by cases h
 | c :: l,h,b,hb=>by
  rcases List.mem_cons.1 hb with rfl | hb
  ·exact h.1
  ·exact Sc h.2 b hb
theorem Ac0 {E:Env} : ∀ {bk:List BA},(Ac E bk).Nodup->∀ {x y:BA},x∈bk->y∈bk->x≠y->∀ g,g∈x.owned E->g∉y.owned E
 | [],_,_,_,h,_,_,_,_=>by cases h
 | b :: bk,hn,x,y,hx,hy,hne,g,hg=>by
  simp only [Ac] at hn
  obtain ⟨n1,n2,n3⟩:=List.nodup_append.1 hn
  rcases List.mem_cons.1 hx with e1 | hx1
  ·rcases List.mem_cons.1 hy with e2 | hy1
   ·exact absurd (e1.trans e2.symm) hne
   ·exact fun h=>n3 g (e1 ▸ hg) g (Bv.2 ⟨y,hy1,h⟩) rfl
  ·rcases List.mem_cons.1 hy with e2 | hy1
   ·exact fun h=>n3 g (e2 ▸ h) g (Bv.2 ⟨x,hx1,hg⟩) rfl
   ·exact Ac0 n2 hx1 hy1 hne g hg
theorem BA.owned_nodup (E:Env) (b:BA):(b.owned E).Nodup:=by
 cases b with
 | box b cs=>simp [BA.owned]
 | arr b cs=>simp [BA.owned]
 | row b e k l=>simp only [BA.owned];cases (E.row b).ownBlock<;>simp
 | mp b k kv=>simp [BA.owned]
 | opq b F=>exact F.nd
 | rowN b e k l i j c=>simp only [BA.owned];cases (E.row b).ownBlock<;>simp
theorem BA.ren_id (ρ:Nat->Nat) (b:BA):(b.ren ρ).id=ρ b.id:=by cases b<;>rfl
theorem Ad8 {ρ:Nat->Nat} : ∀ {l:List BA} {i:Nat},i∈By ρ l↔∃ b∈l,ρ b.id=i
 | [],i=>by simp [By]
 | b :: l,i=>by simp [By,Ad8,eq_comm]
section
variable {V w0 : World} {n : Fm} {E : Env} {σ : Ag} {a : Act} {w : World}
theorem St.le {ρ:Nat->Nat} {S:Ag} (h:St V w0 n E σ a w) (hl:LeS ρ S σ):St V w0 n (E.ren ρ) S a w:=by
 obtain ⟨h1,h2,h3⟩:=hl
 have mem:∀ b∈S.bk,b.ren ρ∈σ.bk:=fun b hb=>(G4 (Sc h2 b hb)).1
 have sub:∀ g∈Ac (E.ren ρ) S.bk,g∈Ac E σ.bk:=fun g hg=>by
  obtain ⟨b,hb,hg⟩:=Bv.1 hg
  rw [BA.ren_owned] at hg
  exact Bv.2 ⟨_,mem b hb,hg⟩
 have hx:Ext (vis V w0 w (Ac E σ.bk)) (vis V w0 w (Ac (E.ren ρ) S.bk)):=D6 (Nat.le_refl _) fun p u _ _ h4 h5=>⟨fun hm=>h4 (sub _ hm),h5⟩
 refine ⟨h.ext,h.low,?_,fun g hg=>h.base g (sub g hg),fun b hb=>?_,fun i=>?_,h.size,h.defers,h.hold.1,fun g o hg=>⟨(h.hold.2 g o hg).1,fun hm=>(h.hold.2 g o hg).2 (sub g hm)⟩⟩
 ·have key:∀ l:List BA,(∀ b∈l,b.ren ρ∈σ.bk)->(By ρ l).Nodup->(Ac (E.ren ρ) l).Nodup:=by
   intro l
   induction l with
   | nil=>exact fun _ _=>List.nodup_nil
   | cons b l ih =>
    intro hm hn
    simp only [By] at hn
    obtain ⟨n1,n2⟩:=List.nodup_cons.1 hn
    simp only [Ac]
    refine List.nodup_append.2 ⟨BA.owned_nodup _ _,ih (fun b hb=>hm b (List.mem_cons_of_mem _ hb)) n2,fun g hg g' hg' e=>?_⟩
    subst e
    obtain ⟨c,hc,hg'⟩:=Bv.1 hg'
    rw [BA.ren_owned] at hg hg'
    refine Ac0 h.apart (hm b (by simp)) (hm c (List.mem_cons_of_mem _ hc)) (fun e=>n1 (Ad8.2 ⟨c,hc,?_⟩)) g hg hg'
    have:=congrArg BA.id e
    rw [BA.ren_id,BA.ren_id] at this
    exact this.symm
  exact key S.bk mem h3
 ·exact BA.ren_holds (BA.holds_ext (Env.same_refl 0 0 E) hx (fun _ _=>rfl) (BA.off_none _) (h.holds _ (mem b hb)))
 ·rcases Aw3 h1 i with e | e
  ·rw [e];exact .any
  ·have:=h.slots i
   rw [e] at this
   exact (this.mono hx).ren_
end
section
variable {P : Program} {G : World -> Prop} {σ : Ag} {V w0 : World} {n : Nd} {ro : Option Nat} {K : Exit -> Ag -> Prop}
theorem AW.le {ρ:Nat->Nat} {S:Ag} {c:Code} (hl:LeS ρ S σ) (h:AW P G ro V w0 n c S K):AW P G ro V w0 n c σ K:=fun hG m E a w hn hs=>h hG m _ a w hn (hs.le hl)
theorem Ad0 {p:Nat->Prop} : (∃ m,p m)->∃ m,p m/\∀ k,p k->m<=k:=by
 rintro ⟨m,hm⟩
 induction m using Nat.strongRecOn with
 | _ m ih =>
  by_cases h:∃ k,k < m/\p k
  ·obtain ⟨k,h1,h2⟩:=h
   exact ih k h1 h2
  ·exact ⟨m,hm,fun k hk=>Nat.le_of_not_lt fun hlt=>h ⟨k,hlt,hk⟩⟩
theorem AW.loop {α:Type} (S:α->Ag) (μ:α->Nat) (x0:α) (ρ0:Nat->Nat) {c:Code} (h0:LeS ρ0 (S x0) σ)
  (round:∀ x,AW P G ro V w0 n c (S x) fun e σ'=>match e with
   | .normal=>∃ y ρ,LeS ρ (S y) σ'/\μ y < μ x
   | e=>K e σ'):AW P G ro V w0 n (.loop c) σ K:=fun hG m0 E a w hn hs=>by
 classical
 have hI:∀ (a:Act) (w:World),(∃ x m E,Fm.le m0 m/\St V w0 m E (S x) a w)->∃ k x m E,(Fm.le m0 m/\St V w0 m E (S x) a w)/\μ x=k/\∀ y m' E',Fm.le m0 m'/\St V w0 m' E' (S y) a w->k<=μ y:=fun a w h=>by
  have hex:∃ k,∃ x m E,(Fm.le m0 m/\St V w0 m E (S x) a w)/\μ x=k:=by
   obtain ⟨x,m,E,h⟩:=h
   exact ⟨_,x,m,E,h,rfl⟩
  obtain ⟨k,⟨x,m,E',h1,h2⟩,h3⟩:=Ad0 hex
  exact ⟨k,x,m,E',h1,h2,fun y m2 E2 h4=>h3 _ ⟨y,m2,E2,h4,rfl⟩⟩
 let m:Act->World->Nat:=fun a w=>if h:∃ x m E,Fm.le m0 m/\St V w0 m E (S x) a w then Classical.choose (hI a w h) else 0
 have hm:∀ a w,(∃ x m E,Fm.le m0 m/\St V w0 m E (S x) a w)->∃ x m2 E,(Fm.le m0 m2/\St V w0 m2 E (S x) a w)/\μ x=m a w:=fun a w h=>by
  obtain ⟨x,m2,E,h1,h2,_⟩:=Classical.choose_spec (hI a w h)
  exact ⟨x,m2,E,h1,by simp only [m,dif_pos h];exact h2⟩
 have hm2:∀ a w y m' E',Fm.le m0 m'/\St V w0 m' E' (S y) a w->m a w<=μ y:=fun a w y m' E' h=>by
  have hh:∃ x m E,Fm.le m0 m/\St V w0 m E (S x) a w:=⟨y,m',E',h⟩
  obtain ⟨_,_,_,_,_,h3⟩:=Classical.choose_spec (hI a w hh)
  simp only [m,dif_pos hh]
  exact h3 y m' E' h
 refine wpIn_loop (fun a w=>∃ x m E,Fm.le m0 m/\St V w0 m E (S x) a w) m ⟨x0,_,_,Fm.le.refl m0,hs.le h0⟩ fun a w hi=>?_
 obtain ⟨x,m1,E,⟨hle,h1⟩,h2⟩:=hm a w hi
 refine wpIn_mono (round x hG m1 E a w (hle.nd.trans hn) h1) ?_
 rintro e a' w' ⟨m',E',σ',hle',hK,hs'⟩
 cases e with
 | normal =>
  obtain ⟨y,ρ,hl,hlt⟩:=hK
  have h3:=hs'.le hl
  refine ⟨⟨y,_,_,hle.trans hle',h3⟩,?_⟩
  have:=hm2 a' w' y _ _ ⟨hle.trans hle',h3⟩
  show m a' w' < m a w
  omega
 | _=>exact ⟨m',E',σ',hle.trans hle',hK,hs'⟩
theorem AW.mono {K':Exit->Ag->Prop} {c:Code} (h:AW P G ro V w0 n c σ K) (hk:∀ e σ',K e σ'->K' e σ'):AW P G ro V w0 n c σ K':=fun hG m E a w hn hs =>
 wpIn_mono (h hG m E a w hn hs) fun _ _ _ ⟨m',E',σ',h1,h2,h3⟩=>⟨m',E',σ',h1,hk _ _ h2,h3⟩
theorem AW.adopt {c:Code} (i b e k:Nat) (hi:Cq σ.fr i=.val (.slice none 0 0)) (hf:(Lg b (b+1) σ.fr&&Jq b (b+1) σ.bk)=true) (h:AW P G ro V w0 n c ⟨(i,.own b) :: σ.fr,.row b e k [] :: σ.bk⟩ K):AW P G ro V w0 n c σ K:=fun hG m0 E a w hn hs=>by
 rw [Bool.and_eq_true] at hf
 have hE:Env.same b (b+1) E ⟨E.blk,fun x=>if x=b then .slice none 0 0 else E.row x⟩:=fun x hx=>by
  have:¬ x=b:=by omega
  simp [this]
 have ho:Ac ⟨E.blk,fun x=>if x=b then .slice none 0 0 else E.row x⟩ [.row b e k []]=[]:=by simp [Ac,BA.owned,Value.ownBlock]
 have hs2:=hs.add (E':=⟨E.blk,fun x=>if x=b then .slice none 0 0 else E.row x⟩) (nb:=[.row b e k []]) (Below.refl _ w) hE hf.1 hf.2 (by rw [ho];exact List.nodup_nil) (fun g hg=>by rw [ho] at hg;cases hg) (fun x hx=>by
  simp only [List.mem_singleton] at hx
  subst hx
  refine ⟨?_,fun g hg=>by simp [Value.ownBlock] at hg⟩
  simp only [if_true]
  exact Ah.nil_ _ _ _)
 refine h hG m0 _ a w hn ⟨hs2.ext,hs2.low,hs2.apart,hs2.base,hs2.holds,fun j=>?_,hs2.size,hs2.defers,hs2.hold⟩
 simp only [Cq]
 split
 ·rename_i e1
  subst e1
  have:=hs.slots j
  rw [hi] at this
  generalize a.tmps.getD j undef=u at this
  cases this
  exact .own (by simp)
 ·exact hs2.slots j
end
-- what is known of numbers that were read
def IV.ok:IV->Prop
 | .val v=>okV v
 | .sl k l=>l.length<=1073741824/\okR k l
 | .pt cs=>okC cs
where
 okR (k:Nat):List (List IV)->Prop
  | []=>True
  | cs :: l=>(cs.length=k/\okC cs)/\okR k l
 okC:List IV->Prop
  | []=>True
  | c :: cs=>IV.ok c/\okC cs
theorem Ak0:∀ {cs:List IV},(∀ (j:Nat) c,cs[j]? = some c->c.ok)->IV.ok.okC cs
 | [],_=>trivial
 | c :: cs,h=>⟨h 0 c rfl,Ak0 fun j d hd=>h (j+1) d (by simpa using hd)⟩
theorem Bz0 {k:Nat} : ∀ {l:List (List IV)},(∀ (i:Nat) cs,l[i]? = some cs->cs.length=k/\∀ (j:Nat) c,cs[j]? = some c->c.ok)->IV.ok.okR k l
 | [],_=>trivial
 | cs :: l,h=>⟨⟨(h 0 cs rfl).1,Ak0 (h 0 cs rfl).2⟩,Bz0 fun i ds hd=>h (i+1) ds (by simpa using hd)⟩
theorem Cp.ok {X:World} {v:Value} {i:IV} (h:Cp X v i):i.ok:=by
 induction h with
 | val h=>exact h
 | nil h=>exact ⟨by simp,trivial⟩
 | sl f h0 h1 h2 h3 h4 h5 h6 ih=>exact ⟨h2,Bz0 fun i cs hi=>⟨h4 cs (List.mem_of_getElem? hi),fun j c hj=>ih i j cs c hi hj⟩⟩
 | pt f h1 h2 ih=>exact Ak0 fun j c hj=>ih j c hj
theorem Do {k:Nat} : ∀ {l:List (List IV)},IV.ok.okR k l->∀ cs∈l,cs.length=k/\IV.ok.okC cs
 | [],_,_,h=>by cases h
 | c :: l,h,cs,hm=>by
  rcases List.mem_cons.1 hm with rfl | hm
  ·exact h.1
  ·exact Do h.2 cs hm
def AV.okd:AV->Prop
 | .iv i=>i.ok
 | .ip cs=>IV.ok.okC cs
 | .agg cs=>okds cs
 | .fn _ cs=>okds cs
 | _=>True
where okds:List AV->Prop
 | []=>True
 | c :: cs=>AV.okd c/\okds cs
theorem S6:∀ {cs:List AV},(∀ (j:Nat) c,cs[j]? = some c->c.okd)->AV.okd.okds cs
 | [],_=>trivial
 | c :: cs,h=>⟨h 0 c rfl,S6 fun j d hd=>h (j+1) d (by simpa using hd)⟩
theorem Bd.okd {E:Env} {X:World} {v:Value} {c:AV} (h:Bd E X v c):c.okd:=by
 induction h with
 | iv h=>exact h.ok
 | ip f h1 h2=>exact Ak0 fun j c hj=>(h2 j c hj).ok
 | agg h1 h2 ih=>exact S6 fun j c hj=>ih j _ c (Array.getElem?_eq_getElem (by rw [h1];exact (List.getElem?_eq_some_iff.1 hj).1)) hj
 | fn h1 h2 ih=>exact S6 fun j c hj=>ih j _ c (Array.getElem?_eq_getElem (by rw [h1];exact (List.getElem?_eq_some_iff.1 hj).1)) hj
 | _=>trivial
-- whole functions
def Ub:Nat->List AV->List (Nat×AV)
 | _,[]=>[]
 | i,c :: cs=>(i,c) :: Ub (i+1) cs
theorem Sg:∀ (cs:List AV) (s i:Nat),Cq (Ub s cs) i=if s<=i then (cs[i - s]?).getD .any else .any
 | [],s,i=>by simp [Ub,Cq]
 | c :: cs,s,i=>by
  simp only [Ub,Cq]
  by_cases e:i=s
  ·subst e;simp
  ·rw [if_neg e,Sg cs (s+1) i]
   by_cases h:s+1<=i
   ·rw [if_pos h,if_pos (by omega),show i - s=(i - (s+1))+1 by omega,List.getElem?_cons_succ]
   ·rw [if_neg h,if_neg (by omega)]
def Py (P:Program) (σ:Ag):List ResultVar->(List AV->Prop)->Prop
 | [],K=>K []
 | .tmp t :: r,K=>Py P σ r fun l=>K (Cq σ.fr t :: l)
 | .cell d t :: r,K=>match Cq σ.fr d with
  | .bp b p=>match Ci b σ.bk,tyK P t with
   | some (.box _ cs),some (q,s)=>rdA q s (cs.drop p) fun u=>Py P σ r fun l=>K (u :: l)
   | some (.arr _ cs),some (2,s)=>p=0/\s=cs.length/\Py P σ r fun l=>K (.aggI cs :: l)
   | _,_=>False
  | _=>False
def A21:List AV->AV
 | [c]=>c
 | cs=>.tup cs
section
variable {P : Program} {G : World -> Prop}
def As4 (tmps:Array Value):ResultVar->Sem Value
 | .tmp t=>pure (tmps.getD t undef)
 | .cell d t=>do loadVar t (<- asAddr (tmps.getD d undef))
theorem Qu {V w0:World} {n:Fm} {E:Env} {σ:Ag} {a:Act} {w:World} (hs:St V w0 n E σ a w):∀ (rs:List ResultVar) (K:List AV->Prop),Py P σ rs K->∃ l,K l/\∃ vs:List Value,(rs.mapM (As4 a.tmps)).run P w=.ok vs w/\Au E (vis V w0 w (Ac E σ.bk)) vs l
 | [],K,h=>⟨[],h,[],rfl,Au.nil⟩
 | .tmp t :: r,K,h=>by
  obtain ⟨l,h1,vs,h2,h3⟩:=Qu hs r _ h
  exact ⟨_,h1,a.tmps.getD t undef :: vs,by simp [List.mapM_cons,As4,h2],Au.cons (hs.slots t) h3⟩
 | .cell d t :: r,K,h=>by
  simp only [Py] at h
  split at h
  case h_2=>exact h.elim
  rename_i b p hd
  have hv:=hs.slots d
  rw [hd] at hv
  generalize hu:a.tmps.getD d undef=u at hv
  cases hv
  have load:∀ {v:Value},(Instr.loadAt t (.pointer (some ⟨E.blk b,p,none⟩))).run P w=.ok v w->(loadVar t ⟨E.blk b,p,none⟩).run P w=.ok v w:=fun h=>by
   simpa [Instr.loadAt,Instr.sureAddr] using h
  split at h
  ·rename_i b' cs q s hb ht
   obtain ⟨u,hK,hr⟩:=Bg1 ht h
   obtain ⟨l,h1,vs,h2,h3⟩:=Qu hs r _ hK
   obtain ⟨q1,q2⟩:=G4 hb
   obtain rfl:b'=b:=q2
   obtain ⟨C,e,hB,hC⟩:=hs.holds _ q1
   obtain ⟨v,hv1,hv2⟩:=hr E (vis V w0 w (Ac E σ.bk)) w (E.blk b') p e C hB ⟨by simp [<-hC.1],fun j v d a b=>by
    rw [List.getElem?_drop] at a b
    exact hC.2 _ v d a b⟩
   exact ⟨_,h1,v :: vs,by simp [List.mapM_cons,As4,h2,hu,asAddr,load hv1],Au.cons hv2 h3⟩
  ·rename_i b' cs s hb ht
   obtain ⟨rfl,h0,h⟩:=h
   obtain ⟨l,h1,vs,h2,h3⟩:=Qu hs r _ h
   obtain ⟨q1,q2⟩:=G4 hb
   obtain rfl:b'=b:=q2
   obtain ⟨C,e,hB,hC⟩:=hs.holds _ q1
   obtain ⟨ha,hz⟩:=Gd (w:=w) ht
   have hl:(loadCells ⟨E.blk b',0,none⟩ C.toList.length).run P w=.ok C w:=run_loadCells_list (P:=P) w ⟨E.blk b',0,none⟩ C.toList fun j v hv=>by
    rw [Jb,hB.cell,Nat.zero_add]
    simpa using hv
   rw [hC.len,<-h0] at hl
   exact ⟨_,h1,.agg C :: vs,by simp [List.mapM_cons,As4,h2,hu,asAddr,load (v:=.agg C) (by simp [Instr.loadAt,Instr.sureAddr,loadVar,ha,hz,hl])],Au.cons (.aggI hC) h3⟩
  ·exact h.elim
def Fm.bare (m:Fm):Fm:=⟨m.nd,m.fix,[],fun _=>none,0⟩
theorem St.other {V w0:World} {m:Fm} {E:Env} {σ:Ag} {a:Act} {w w':World} {row:Option Nat} (h:St V w0 m E σ a w) (hg:w.grownBy w' row) (hr:∀ r,row=some r->w0.heap.size<=r/\∃ o:Obj,w.heap[r]? = some o/\N6 o=true):St V w0 m.bare E σ { a with defers:=[] } w':=by
 have hx:Ext (vis V w0 w (Ac E σ.bk)) (vis V w0 w' (Ac E σ.bk)):=D6 hg.size fun p u _ _ h3 h4=>⟨h3,Sf h4 hg fun r e=>(hr r e).2⟩
 have hs:∀ b∈σ.bk,∀ g∈b.owned E,w'.heap[g]? = w.heap[g]? := fun b hb g hgm=>by
  obtain ⟨o,ho,hc⟩:=BA.owned_cells (h.holds b hb) g hgm
  refine hg.block g (Array.getElem?_eq_some_iff.1 ho).1 fun e=>?_
  obtain ⟨_,o',ho',hc'⟩:=hr g e.symm
  rw [ho] at ho'
  obtain rfl:=Option.some.inj ho'
  rw [hc] at hc';cases hc'
 exact ⟨h.ext,h.low.grown hg h.low.size fun g e=>(hr g e).1,h.apart,h.base,fun b hb=>BA.holds_ext (Env.same_refl 0 0 E) hx (hs b hb) b.off_none (h.holds b hb),fun i=>(h.slots i).mono hx,h.size,⟨rfl,List.nodup_nil,fun D hD=>by cases hD⟩,Nat.zero_le _,fun g o e=>by cases e⟩
theorem St.forget {V w0:World} {m:Fm} {E:Env} {σ:Ag} {a:Act} {w:World} (h:St V w0 m E σ a w):St V w0 m.bare E σ { a with defers:=[] } w :=
 ⟨h.ext,h.low,h.apart,h.base,h.holds,h.slots,h.size,⟨rfl,List.nodup_nil,fun D hD=>by cases hD⟩,Nat.zero_le _,fun g o e=>by cases e⟩
theorem St.marks {V w0:World} {m:Fm} {E:Env} {σ:Ag} {a:Act} {w:World} (h:St V w0 m E σ a w):Fc w0.heap.size m.ds w:=⟨h.defers.2.1,fun D hD=>⟨(h.defers.2.2 D hD).1,(h.hold.2 D _ (h.defers.2.2 D hD).2).1⟩⟩
theorem St.shut {V w0:World} {m:Fm} {E:Env} {σ:Ag} {a:Act} {w:World} (h:St V w0 m E σ a w):St V w0 m.bare E σ { a with defers:=[] } (shut m.ds w) :=
 Wo (I:=fun W=>St V w0 m.bare E σ { a with defers:=[] } W) (fun _ _ _ hs hg hr=>hs.other hg hr) m.ds w h.marks h.forget
theorem Bx6:∀ {q s:Nat} {cs:List AV} {K K':AV->Prop},rdA q s cs K->(∀ u,K u->K' u)->rdA q s cs K'
 | 0,_,_ :: _,_,_,h,hk=>hk _ h
 | 0,_,[],_,_,h,_=>(show False from h).elim
 | 1,_,_,_,_,h,hk=>⟨h.1,hk _ h.2⟩
 | _+2,_,_,_,_,h,_=>(show False from h).elim
theorem S2 {P:Program} {σ:Ag} : ∀ {rs:List ResultVar} {K K':List AV->Prop},Py P σ rs K->(∀ l,K l->K' l)->Py P σ rs K'
 | [],_,_,h,hk=>hk _ h
 | .tmp t :: r,_,_,h,hk=>S2 (rs:=r) h fun l=>hk _
 | .cell d t :: r,K,K',h,hk=>by
  simp only [Py] at h ⊢
  split at h
  case h_2=>exact h.elim
  split at h
  ·exact Bx6 h fun u=>fun h=>S2 (rs:=r) h fun l=>hk _
  ·exact ⟨h.1,h.2.1,S2 (rs:=r) h.2.2 fun l=>hk _⟩
  ·exact h.elim
theorem A7.ofS {f : FuncId} {fn : Func} {c : Code} {n : Nat} {rs : List ResultVar} {args : List AV} {r : AV} {nb : List BA} (hf : P.funcs[f]? = some fn) (hb : fn.body = some c) (hname : (fn.name == "runtime.NumGoroutine") = false) (hn : fn.ntmps = n) (hres : fn.results.toList = rs) (hal : args.length <= n)
  (hG:∀ w w',G w->Below w.heap.size w w'->G w')
  (h:AV.okd.okds args->∀ V w0,AW P G none V w0 ⟨n,[],false⟩ c ⟨Ub 0 args,[]⟩ fun e σ=>(e=.ret\/e=.normal)/\Py P σ rs fun l=>∃ ρ,(∀ (E:Env) (X:World) (v:Value),Bd E X v (A21 l)->Bd E X v (r.ren ρ))/\leB ρ σ.bk nb/\(By ρ nb).Nodup):A7 P G f args r nb:=by
 refine ⟨fun vs w=>?_,fun V w E vs hV hGw hargs=>?_⟩
 ·have hname' : ¬ fn.name = "runtime.NumGoroutine" := by simpa using hname
  simp [callFunc,program,Sem.run,hf,hname',hb]
 have hok:AV.okd.okds args:=S6 fun j c hj=>(hargs.2 j _ c (List.getElem?_eq_getElem (by rw [hargs.1];exact (List.getElem?_eq_some_iff.1 hj).1)) hj).okd
 have hsz:vs.size=args.length:=by simpa using hargs.1
 have hs:St V w ⟨⟨n,[],false⟩,fun _=>undef,[],fun _=>none,0⟩ E ⟨Ub 0 args,[]⟩ { tmps:=vs++Array.replicate (fn.ntmps - vs.size) undef,defers:=[] } w:=by
  have hx:Ext V (vis V w w []):=Uh hV (Below.refl _ w)
  refine ⟨hV,Below.refl _ w,List.nodup_nil,(fun g hg=>by cases hg),(fun b hb=>by cases hb),fun i=>?_,⟨(by simp [hn,hsz];omega),fun i hi=>by cases hi⟩,⟨rfl,List.nodup_nil,fun D hD=>by cases hD⟩,Nat.zero_le _,fun g o e=>by cases e⟩
  rw [Sg]
  simp only [Nat.zero_le,if_true,Nat.sub_zero]
  by_cases hi:i < args.length
  ·rw [List.getElem?_eq_getElem hi]
   have:vs[i]? = some (vs[i]'(by omega)):=Array.getElem?_eq_getElem _
   have h2:=hargs.2 i (vs[i]'(by omega)) _ (by rw [Array.getElem?_toList];exact this) (List.getElem?_eq_getElem hi)
   rw [Array.getD_eq_getD_getElem?,Array.getElem?_append_left (by omega),this]
   exact h2.mono hx
  ·rw [List.getElem?_eq_none (by omega)]
   exact .any
 refine (callsIn_wide (n:=0)).1 (callsIn_of_wp_marks (F:=FW none) hf hb trivial (wpIn_mono (h hok V w (fun w' hb'=>hG w w' hGw hb') ⟨⟨n,[],false⟩,fun _=>undef,[],fun _=>none,0⟩ E _ w rfl hs) ?_) rfl)
 rintro e a' w2 ⟨m',E',σ',_,⟨he,hr⟩,hs2⟩
 have hmk:=hs2.marks
 have hdf:=hs2.defers.1
 have hs':=hs2.shut
 have htm:({ a' with defers:=[] } : Act).tmps=a'.tmps:=rfl
 generalize hw':shut m'.ds w2=w' at hs'
 obtain ⟨l,⟨ρ,h1,h2,h3⟩,vs',h4,h5⟩:=Qu hs' rs _ hr
 -- what is handed over
 have hfin:=hs'.le (S:=⟨[],nb⟩) (ρ:=ρ) ⟨trivial,h2,h3⟩
 have hsub:Ext (vis V w w' (Ac E' σ'.bk)) (vis V w w' (Ac (E'.ren ρ) nb)):=D6 (Nat.le_refl _) fun p u _ _ q4 q5=>⟨fun hm=>q4 (by
  obtain ⟨b,hb,hg⟩:=Bv.1 hm
  rw [BA.ren_owned] at hg
  exact Bv.2 ⟨_,(G4 (Sc h2 b hb)).1,hg⟩),q5⟩
 have hv:∃ v,(results fn a'.tmps).run P w'=.ok v w'/\Bd E' (vis V w w' (Ac E' σ'.bk)) v (A21 l):=by
  have hmap:(fn.results.mapM (As4 a'.tmps)).run P w'=.ok vs'.toArray w':=by
   rw [Array.mapM_eq_mapM_toList,hres]
   simp [h4]
  refine ⟨if h:vs'.toArray.size=1 then vs'.toArray[0] else .tuple vs'.toArray,?_,?_⟩
  ·have hfun:results fn a'.tmps=(fn.results.mapM (As4 a'.tmps) >>= fun vs=>pure (if h:vs.size=1 then vs[0] else .tuple vs)):=by
    unfold results
    congr 1
   rw [hfun,Sem.run_bind,hmap]
   rfl
  ·have hlen:=h5.1
   match l,vs',h5,hlen with
   | [c],[v],h5,_=>exact h5.2 0 v c rfl rfl
   | [],[],h5,_=>exact .tup rfl fun j v c a b=>by simp at a
   | c :: d :: l,v :: u :: vs',h5,_ =>
    have:¬ (v :: u :: vs').toArray.size=1:=by simp
    rw [dif_neg this]
    exact .tup (by simpa using h5.1) fun j v c a b=>h5.2 j v c (by simpa using a) b
 obtain ⟨v,hv1,hv2⟩:=hv
 have hpost:∃ v E'',Ending.returned v=.returned v/\True/\(results fn a'.tmps).run P w'=.ok v w'/\E''=E'.ren ρ/\Bd E'' (vis V w w' (Ac E'' nb)) v r:=by
  replace hv2:=h1 _ _ _ hv2
  exact ⟨v,_,rfl,trivial,hv1,rfl,(hv2.mono hsub).ren_⟩
 obtain ⟨v,E'',_,_,hv1,rfl,hv3⟩:=hpost
 subst hw'
 have hend:=Ly (F:=FW none) (n:=0) (P:=P) (fn:=fn) (tmps:=a'.tmps) (R:=fun e w'=>∃ v E',e=.returned v/\Below w.heap.size w w'/\(Ac E' nb).Nodup/\(∀ g∈Ac E' nb,w.heap.size<=g) /\
  (∀ b∈nb,b.holds E' (vis V w w' (Ac E' nb)) w' w.heap.size)/\Bd E' (vis V w w' (Ac E' nb)) v r) m'.ds w2 hmk ⟨v,hv1,v,_,rfl,hs'.low,hfin.apart,hfin.base,hfin.holds,hv3⟩
 rw [<-hdf] at hend
 rcases he with rfl | rfl
 ·exact hend
 ·exact hend
theorem A7.of {f : FuncId} {fn : Func} {c : Code} {n : Nat} {rs : List ResultVar} {args : List AV} {r : AV} {nb : List BA} (hf : P.funcs[f]? = some fn) (hb : fn.body = some c) (hname : (fn.name == "runtime.NumGoroutine") = false) (hn : fn.ntmps = n) (hres : fn.results.toList = rs) (hal : args.length <= n)
  (hG:∀ w w',G w->Below w.heap.size w w'->G w')
  (h:AV.okd.okds args->∀ V w0,AW P G none V w0 ⟨n,[],false⟩ c ⟨Ub 0 args,[]⟩ fun e σ=>(e=.ret\/e=.normal)/\Py P σ rs fun l=>∃ ρ,A21 l=r.ren ρ/\leB ρ σ.bk nb/\(By ρ nb).Nodup):A7 P G f args r nb :=
 A7.ofS hf hb hname hn hres hal hG fun hok V w0=>AW.mono (h hok V w0) fun _ _ ⟨h1,h2⟩=>⟨h1,S2 h2 fun _ ⟨ρ,e,h3⟩=>⟨ρ,fun _ _ _ hv=>e ▸ hv,h3⟩⟩
end
end Go.Proofs.YtblfjaedaijfoaaGreatDoor
