/- Concrete runs: code, rounds, calls. No program is known here. -/
import Derived.Test.YtahgkllhbggmgaaGreatDoorKConO
import Derived.Test.YtahgkllhbggmgaaGreatDoorKAbsAp
import Derived.Test.YtahgkllhbggmgaaGreatDoorKAbsUp
import Derived.Deep.Upon
import Derived.Test.YtahgkllhbggmgaaGreatDoorKDisk
import Derived.LoopNIn
import Derived.RangeFuncNested
set_option linter.all false
set_option linter.unnecessarySimpa false
set_option linter.unusedSimpArgs false
set_option linter.unusedVariables false
namespace Go.Proofs.YtahgkllhbggmgaaGreatDoor
open Go.ChangeShapes Go.WideShapes Go.ChangeAt Go.RowKit
section
variable {P : Program} {L : Operand -> CV} {h h' : GH} {o : Oper} {x : CV} {eqT : Nat -> Bool}
variable {dst : Option Tmp} {ty : TypeId} {pos : String} {after : Array Edge} {gd : Option (Nat × Bool)}
section
variable {ok : Nat -> Prop} {ρ : Nat -> Nat × Nat} {u : Value}
theorem RC.s_inv {c o n k e:Nat} (h:RC ok ρ (.s c o n k e) u):∃ K,u=.slice (some ⟨(ρ c).1,o,none⟩) n K/\ok c/\n<=k/\k<=K/\K<=maxLen/\(e=0->K=k)/\(e≠0->o+K*e<=(ρ c).2):=by cases h;exact ⟨_,rfl,by assumption,by assumption,by assumption,by assumption,by assumption,by assumption⟩
theorem RC.z_inv (h:RC ok ρ .z u):∃ A K,u=.slice (some A) 0 K/\K<=maxLen:=by cases h;exact ⟨_,_,rfl,by assumption⟩
theorem RC.nilS:RC ok ρ (.v (.slice none 0 0)) (.slice none 0 0):=.v fun _ e=>by cases e
theorem RC.nat_inv {y:CV} {n:Nat} (hn:Qf y=some n) (h:RC ok ρ y u):∃ k,u=.int k (n:Nat):=by
 obtain ⟨k,rfl⟩:=B01 hn
 exact ⟨k,h.v_inv⟩
end
theorem Be0 {t:TypeId} {y i:Operand} (e:Zb P t (L y) (L i) h=some (x,h')):Cg P L h ⟨dst,.indexAddr t y i,ty,pos,after,gd⟩ x h':=by
 unfold Zb at e
 split at e
 case h_2=>cases e
 rename_i m hi
 split at e
 ·rename_i c o n k q hy
  split at e
  ·rename_i el z b ht
   obtain ⟨h1,e⟩:=Bj e
   cases e
   simp only [Bool.and_eq_true] at h1
   have hm:=Bk.1 h1.1
   refine Cg.pure_ fun ρ B w a s hL=>?_
   obtain ⟨hu,inf,hi2,hi3,_⟩:=Bw ht
   obtain ⟨kk,hiv⟩:=RC.nat_inv hi (hL i)
   have hyv:=hL y
   rw [hy] at hyv
   obtain ⟨K,hyv,hc,_⟩:=hyv.s_inv
   refine ⟨.pointer (some ⟨(ρ c).1,o+m*z,none⟩),?_,.p hc⟩
   simp only [execOp,hiv,hyv]
   refine C6 ?_
   have h5:¬ ((m:Int) < 0):=by omega
   have h6:(m:Int) < (n:Int):=by omega
   simp [Instr.indexAt,asIntOf,run_underlying hu,h6,sizeOf,typeInfo,hi2,hi3,Dh,hm]
  ·cases e
 ·rename_i c o hy
  split at e
  ·rename_i n q k ht
   obtain ⟨h1,e⟩:=Bj e
   cases e
   simp only [Bool.and_eq_true] at h1
   have hm:=Bk.1 h1.1
   refine Cg.pure_ fun ρ B w a s hL=>?_
   obtain ⟨el,hu,hz⟩:=Le ht
   obtain ⟨_,hz⟩:=Cv (w:=w) hz
   obtain ⟨kk,hiv⟩:=RC.nat_inv hi (hL i)
   have hyv:=hL y
   rw [hy] at hyv
   obtain ⟨hyv,hc⟩:=hyv.p_inv
   refine ⟨.pointer (some ⟨(ρ c).1,o+m*k,none⟩),?_,.p hc⟩
   simp only [execOp,hiv,hyv]
   refine C6 ?_
   have h6:(m:Int) < (n:Int):=by omega
   simp [Instr.indexAt,asIntOf,run_underlying hu,Instr.sureAddr,h6,hz,Dh,hm]
  ·cases e
 ·cases e
theorem Bm5 {t:TypeId} {y i:Operand} (e:Ah4 P t (L y) (L i) h=some (x,h')):Cg P L h ⟨dst,.index t y i,ty,pos,after,gd⟩ x h':=by
 unfold Ah4 at e
 split at e
 case h_2=>cases e
 rename_i m hi
 split at e
 ·rename_i l hy
  split at e
  ·rename_i n q k ht
   obtain ⟨h1,e⟩:=Cw e
   simp only [Option.map_eq_some_iff] at e
   obtain ⟨r,hr,e⟩:=e
   cases e
   have hm:=Bk.1 h1
   refine Cg.pure_ fun ρ B w a s hL=>?_
   obtain ⟨el,hu,hz⟩:=Le ht
   obtain ⟨_,hz2⟩:=Cv (w:=w) hz
   obtain ⟨kk,hiv⟩:=RC.nat_inv hi (hL i)
   have hyv:=hL y
   rw [hy] at hyv
   obtain ⟨vs,hyv,hsz,hvs⟩:=hyv.g_inv
   obtain ⟨v,r1,r2⟩:=Aa7 (w:=w) hz hsz hvs hr
   refine ⟨v,?_,r2⟩
   simp only [execOp,hiv,hyv]
   refine C6 ?_
   have h6:(m:Int) < (n:Int):=by omega
   simp [Instr.index,asIntOf,run_underlying hu,h6,hz2,r1,hm]
  ·cases e
 ·rename_i z hy
  obtain ⟨ht,e⟩:=Cw e
  simp only [Option.map_eq_some_iff] at e
  obtain ⟨b,hb,e⟩:=e
  cases e
  refine Cg.pure_ fun ρ B w a s hL=>⟨_,?_,RC.int⟩
  obtain ⟨kk,hiv⟩:=RC.nat_inv hi (hL i)
  have hyv:=hL y
  rw [hy] at hyv
  simp only [execOp,hiv,hyv.v_inv]
  refine C6 ?_
  have hb2:z[m]? = some b:=by
   have hlt:=(List.getElem?_eq_some_iff.1 hb).1
   have hlt:m < z.size:=by simpa using hlt
   rw [getElem?_pos z m hlt]
   have:=(List.getElem?_eq_some_iff.1 hb).2
   rw [<-this]
   rfl
  simp [Instr.index,asIntOf,run_underlying (Ef ht),hb2]
 ·cases e
theorem Cs0 {t:TypeId} {y:Operand} (e:Bs2 P t (L y) h=some (x,h')):Cg P L h ⟨dst,.call { callee:=.builtin .len,args:=#[y],argTypes:=#[t] },ty,pos,after,gd⟩ x h':=by
 unfold Bs2 at e
 simp only [Option.bind_eq_some_iff] at e
 obtain ⟨n,hn,e⟩:=e
 obtain ⟨h1,e⟩:=Bj e
 cases e
 refine Cg.pure_ fun ρ B w a s hL=>⟨.int .i64 (n:Nat),?_,RC.int⟩
 have hyv:=hL y
 have slr:∀ {A:Option Addr} {m cc:Nat},(Cl P t).isSome=true->(Builtin.len_ #[t] ty #[.slice A m cc]).run P w=.ok (.int .i64 (m:Nat)) w:=fun hs=>by
  obtain ⟨⟨e,k,y⟩,hq⟩:=Option.isSome_iff_exists.1 hs
  simp [Builtin.len_,run_underlying (Bw hq).1,goInt]
 have run:∀ {v:Value},a.eval y=v->(Builtin.len_ #[t] ty #[v]).run P w=.ok (.int .i64 (n:Nat)) w->(execOp a.eval ⟨dst,.call { callee:=.builtin .len,args:=#[y],argTypes:=#[t] },ty,pos,after,gd⟩).run P w=.ok (.value (.int .i64 (n:Nat))) w:=fun hu hr=>by
  simp [execOp,resolve,invoke,builtin,hu,hr]
 unfold Cm6 at hn
 split at hn
 ·rename_i hy
  rw [hy] at h1 hyv
  cases hn
  exact run hyv.v_inv (slr h1)
 ·rename_i hy
  rw [hy] at h1 hyv
  cases hn
  obtain ⟨A,K,hv,_⟩:=hyv.z_inv
  exact run hv (slr h1)
 ·rename_i hy
  rw [hy] at h1 hyv
  cases hn
  obtain ⟨K,hv,_⟩:=hyv.s_inv
  exact run hv (slr h1)
 ·rename_i hy
  rw [hy] at h1 hyv
  cases hn
  exact run hyv.v_inv (by simp [Builtin.len_,run_underlying (Ef h1),goInt])
 ·cases hn
theorem Cs1 {t:TypeId} {y:Operand} (e:Bs3 P t (L y) h=some (x,h')):Cg P L h ⟨dst,.call { callee:=.builtin .cap,args:=#[y],argTypes:=#[t] },ty,pos,after,gd⟩ x h':=by
 unfold Bs3 at e
 cases hq:Cl P t with
 | none=>rw [hq] at e;cases e
 | some q =>
  rw [hq] at e
  have hu:=(Bw hq).1
  have run:∀ {a:Act} {w:World} {A:Option Addr} {n k:Nat},a.eval y=.slice A n k->(execOp a.eval ⟨dst,.call { callee:=.builtin .cap,args:=#[y],argTypes:=#[t] },ty,pos,after,gd⟩).run P w=.ok (.value (.int .i64 (k:Nat))) w:=fun hv=>by
   simp [execOp,resolve,invoke,builtin,hv,Builtin.cap_,run_underlying hu,goInt]
  simp only [Option.isNone_some,cond_false] at e
  split at e
  ·rename_i c o n k hy
   cases e
   refine Cg.pure_ fun ρ B w a s hL=>⟨.int .i64 (k:Nat),?_,RC.int⟩
   have hyv:=hL y
   rw [hy] at hyv
   obtain ⟨K,hv,_,_,_,_,hK,_⟩:=hyv.s_inv
   obtain rfl:=hK rfl
   exact run hv
  ·rename_i hy
   cases e
   refine Cg.pure_ fun ρ B w a s hL=>⟨.int .i64 0,?_,RC.int⟩
   have hyv:=hL y
   rw [hy] at hyv
   exact run hyv.v_inv
  ·cases e
theorem Br2 {mx:Bool} {t:Array TypeId} {y z:Operand} (e:Tx mx (L y) (L z) h=some (x,h')):Cg P L h ⟨dst,.call { callee:=.builtin (bif mx then .max else .min),args:=#[y,z],argTypes:=t },ty,pos,after,gd⟩ x h':=by
 unfold Tx at e
 split at e
 ·rename_i k p k' q hy hz
  cases e
  refine Cg.pure_ fun ρ B w a s hL=>⟨_,?_,RC.int⟩
  have h1:=hL y
  have h2:=hL z
  rw [hy] at h1
  rw [hz] at h2
  cases mx<;>simp [execOp,resolve,invoke,builtin,h1.v_inv,h2.v_inv,Builtin.max_,Builtin.min_,Builtin.max2,Builtin.min2]<;>omega
 ·cases e
theorem Ry {mx:Bool} {x y r:CV} {h h':GH} (e:Tx mx x y h=some (r,h')):∃ k p k' q,x=.v (.int k p)/\y=.v (.int k' q)/\r=.v (.int k (bif mx then max p q else min p q))/\h'=h:=by
 unfold Tx at e
 split at e
 ·cases e;exact ⟨_,_,_,_,rfl,rfl,rfl,rfl⟩
 ·cases e
theorem C04 {t:Array TypeId} {y z y2 z2:Operand} (e:((Tx false (L y) (L z) h).bind fun r=>(Tx false r.1 (L y2) h).bind fun r=>Tx false r.1 (L z2) h)=some (x,h')):Cg P L h ⟨dst,.call { callee:=.builtin .min,args:=#[y,z,y2,z2],argTypes:=t },ty,pos,after,gd⟩ x h':=by
 simp only [Option.bind_eq_some_iff] at e
 obtain ⟨⟨r1,g1⟩,e1,⟨r2,g2⟩,e2,e3⟩:=e
 obtain ⟨k,p,k',q,hy,hz,rfl,rfl⟩:=Ry e1
 obtain ⟨k2,p2,k3,q3,h1,hy2,rfl,rfl⟩:=Ry e2
 cases h1
 obtain ⟨k4,p4,k5,q5,h2,hz2,rfl,rfl⟩:=Ry e3
 cases h2
 refine Cg.pure_ fun ρ B w a s hL=>⟨_,?_,RC.int⟩
 have a1:=hL y
 have a2:=hL z
 have a3:=hL y2
 have a4:=hL z2
 rw [hy] at a1
 rw [hz] at a2
 rw [hy2] at a3
 rw [hz2] at a4
 have m2:∀ (k k':IntKind) (p q:Int),(Builtin.min2 (.int k p) (.int k' q):Sem Value)=pure (.int k (min p q)):=fun k k' p q=>by
  simp only [Builtin.min2]
  congr 2
  omega
 simp [execOp,resolve,invoke,builtin,a1.v_inv,a2.v_inv,a3.v_inv,a4.v_inv,Builtin.min_,m2]
theorem Ai8 {a b:ByteArray} : (a.toList==b.toList)=(a.data.toList==b.data.toList):=by rw [ByteArray.toList_eq,ByteArray.toList_eq]
def Mo (P:Program) (eqT:Nat->Bool):Prop:=∀ t,eqT t=true->∀ (y z:Operand) (p q p' q':Int) (w:World),
 (do eqGuard .eql t y z (.agg #[.int .i64 p,.int .i64 q]) (.agg #[.int .i64 p',.int .i64 q']);binOp .eql t (.agg #[.int .i64 p,.int .i64 q]) (.agg #[.int .i64 p',.int .i64 q']):Sem Value).run P w=.ok (.bool (p==p'&&q==q')) w /\
 (do eqGuard .neq t y z (.agg #[.int .i64 p,.int .i64 q]) (.agg #[.int .i64 p',.int .i64 q']);binOp .neq t (.agg #[.int .i64 p,.int .i64 q]) (.agg #[.int .i64 p',.int .i64 q']):Sem Value).run P w=.ok (.bool !(p==p'&&q==q')) w
theorem Bb9 {ok:Nat->Prop} {ρ:Nat->Nat×Nat} {u:Value} {p q:Int} (h:RC ok ρ (.g [.v (.int .i64 p),.v (.int .i64 q)]) u):u=.agg #[.int .i64 p,.int .i64 q]:=by
 obtain ⟨vs,rfl,h1,h2⟩:=h.g_inv
 have e0:=(h2 0 _ (vs[0]'(by simp at h1;omega)) rfl (Array.getElem?_eq_getElem _)).1.v_inv
 have e1:=(h2 1 _ (vs[1]'(by simp at h1;omega)) rfl (Array.getElem?_eq_getElem _)).1.v_inv
 congr 1
 apply Array.ext
 ·simpa using h1
 ·intro i hi _
  have hi:i < 2:=by simpa [h1] using hi
  match i,hi with
  | 0,_=>simpa using e0
  | 1,_=>simpa using e1
theorem Ai6 {t:TypeId} (h:Ai7 P t=true):P.underlying t=some .bool:=by
 unfold Ai7 at h
 split at h
 ·assumption
 ·cases h
theorem At9 (hE:Mo P eqT) {t:TypeId} {y z:Operand} {b:Bool} (e:eqC P eqT t (L y) (L z)=some b) {ρ:Nat->Nat×Nat} {a:Act} {w:World} (hL:∀ y,RC (okH h) ρ (L y) (a.eval y)) :
  (do eqGuard .eql t y z (a.eval y) (a.eval z);binOp .eql t (a.eval y) (a.eval z):Sem Value).run P w=.ok (.bool b) w/\(do eqGuard .neq t y z (a.eval y) (a.eval z);binOp .neq t (a.eval y) (a.eval z):Sem Value).run P w=.ok (.bool !b) w:=by
 have h1:=hL y
 have h2:=hL z
 generalize L y=p at *
 generalize L z=q at *
 generalize a.eval y=u at *
 generalize a.eval z=v at *
 unfold eqC at e
 split at e
 ·obtain ⟨ht,e⟩:=Bj e
  subst e
  rw [h1.v_inv,h2.v_inv]
  simp [eqGuard,binOp,run_equal_bool w t _ _ (Ai6 ht)]
 ·cases e
  rw [h1.v_inv,h2.v_inv]
  simp [eqGuard,binOp,Op.stringOp,Ai8]
 ·obtain ⟨ht,e⟩:=Bj e
  subst e
  obtain ⟨⟨_,_,_⟩,hq⟩:=Option.isSome_iff_exists.1 ht
  rw [h1.v_inv,h2.v_inv]
  simp [eqGuard,binOp,run_equal_slice_nil w t _ _ _ _ (Bw hq).1]
 ·obtain ⟨ht,e⟩:=Bj e
  subst e
  obtain ⟨⟨_,_,_⟩,hq⟩:=Option.isSome_iff_exists.1 ht
  obtain ⟨K,rfl,_⟩:=h1.s_inv
  rw [h2.v_inv]
  simp [eqGuard,binOp,run_equal_slice_nil w t _ _ _ _ (Bw hq).1]
 ·obtain ⟨ht,e⟩:=Bj e
  subst e
  obtain ⟨⟨_,_,_⟩,hq⟩:=Option.isSome_iff_exists.1 ht
  obtain ⟨A,K,rfl,_⟩:=h1.z_inv
  rw [h2.v_inv]
  simp [eqGuard,binOp,run_equal_slice_nil w t _ _ _ _ (Bw hq).1]
 ·obtain ⟨ht,e⟩:=Bj e
  subst e
  rw [Bb9 h1,Bb9 h2]
  exact hE t ht y z _ _ _ _ w
 ·cases e
theorem Cs3 (hE:Mo P eqT) {op:BinOp} {t tz:TypeId} {y z:Operand} (e:Bs4 P eqT op t (L y) (L z) h=some (x,h')):Cg P L h ⟨dst,.binOp op t y z tz,ty,pos,after,gd⟩ x h':=by
 unfold Bs4 at e
 simp only [Option.map_eq_some_iff] at e
 obtain ⟨r,hr,e⟩:=e
 cases e
 have fin:∀ {v:Value} {r:CV},(∀ (ρ:Nat->Nat×Nat) (a:Act) (w:World),(∀ y,RC (okH h) ρ (L y) (a.eval y))->(do eqGuard op t y z (a.eval y) (a.eval z);binOp op t (a.eval y) (a.eval z):Sem Value).run P w=.ok v w)->(∀ ρ,RC (okH h) ρ r v)->Cg P L h ⟨dst,.binOp op t y z tz,ty,pos,after,gd⟩ r h:=fun h1 h2 =>
  Cg.pure_ fun ρ B w a s hL=>⟨_,by simp only [execOp];exact C6 (h1 ρ a w hL),h2 ρ⟩
 unfold Cs9 at hr
 split at hr
 ·rename_i k a' k' b hy hz
  obtain ⟨hb,hr⟩:=Bj hr
  subst hr
  have hb:=of_decide_eq_true hb
  refine fin (fun ρ a w hL=>?_) fun ρ=>RC.int
  have h1:=hL y
  have h2:=hL z
  rw [hy] at h1
  rw [hz] at h2
  rw [h1.v_inv,h2.v_inv]
  simp [eqGuard,binOp,Op.shift,show ¬ b < 0 by omega]
 ·rename_i k a' k' b hy hz
  obtain ⟨hb,hr⟩:=Bj hr
  subst hr
  have hb:=of_decide_eq_true hb
  refine fin (fun ρ a w hL=>?_) fun ρ=>RC.int
  have h1:=hL y
  have h2:=hL z
  rw [hy] at h1
  rw [hz] at h2
  rw [h1.v_inv,h2.v_inv]
  simp [eqGuard,binOp,Op.shift,show ¬ b < 0 by omega]
 ·rename_i k a' k' b _ _ hy hz
  by_cases hk:k=k'
  case neg=>simp [hk] at hr
  subst hk
  simp only [ne_eq,not_true_eq_false,decide_false,cond_false] at hr
  have both:∀ {ρ:Nat->Nat×Nat} {a:Act},(∀ y,RC (okH h) ρ (L y) (a.eval y))->a.eval y=.int k a'/\a.eval z=.int k b:=fun hL=>by
   have h1:=hL y
   have h2:=hL z
   rw [hy] at h1
   rw [hz] at h2
   exact ⟨h1.v_inv,h2.v_inv⟩
  split at hr
  case h_10 | h_11 =>
   by_cases hb:b=0
   ·simp [hb] at hr
   ·simp only [hb,decide_false,cond_false,Option.some.injEq] at hr
    subst hr
    refine fin (fun ρ a w hL=>?_) fun ρ=>RC.int
    rw [(both hL).1,(both hL).2]
    simp [eqGuard,binOp,Op.intDiv,hb]
  case h_16=>cases hr
  all_goals
   cases hr
   refine fin (fun ρ a w hL=>?_) fun ρ=>by first | exact RC.int | exact RC.bool
   rw [(both hL).1,(both hL).2]
   simp [eqGuard,binOp,Op.intArith,Op.intCmp,Op.intBits]
   try rfl
 ·simp only [Option.map_eq_some_iff] at hr
  obtain ⟨b,hb,rfl⟩:=hr
  exact fin (fun ρ a w hL=>(At9 hE hb hL).1) fun ρ=>RC.bool
 ·simp only [Option.map_eq_some_iff] at hr
  obtain ⟨b,hb,rfl⟩:=hr
  exact fin (fun ρ a w hL=>(At9 hE hb hL).2) fun ρ=>RC.bool
 ·rename_i hy hz
  obtain ⟨hb,hr⟩:=Bj hr
  subst hr
  have hb:=Nat.le_of_ble_eq_true hb
  refine fin (fun ρ a w hL=>?_) fun ρ=>RC.str
  have h1:=hL y
  have h2:=hL z
  rw [hy] at h1
  rw [hz] at h2
  rw [h1.v_inv,h2.v_inv]
  simp [eqGuard,binOp,Op.stringOp]
  omega
 ·cases hr
end
section
variable {P : Program} {L : Operand -> CV} {h h' : GH} {o : Oper} {x : CV} {eqT : Nat -> Bool}
variable {dst : Option Tmp} {ty : TypeId} {pos : String} {after : Array Edge} {gd : Option (Nat × Bool)}
theorem Ui {ρ:Nat->Nat×Nat} {a:Act} {w:World} (hL:∀ y,RC (okH h) ρ (L y) (a.eval y)) {lo hi:Option Operand} {l hh:Option Nat} (hl:(lo.map L).map Qf=l.map some) (hhi:(hi.map L).map Qf=hh.map some) {sl:Bool} {n cap:Nat} (h1:l.getD 0<=hh.getD n) (h2:hh.getD n<=cap) :
  (Instr.sliceBounds sl n cap (lo.map a.eval) (hi.map a.eval) none).run P w=.ok (l.getD 0,hh.getD n,cap) w/\∀ {mx:Operand} {m:Nat},Qf (L mx)=some m->hh.isSome=true->hh.getD n<=m->m<=cap->(Instr.sliceBounds sl n cap (lo.map a.eval) (hi.map a.eval) (some (a.eval mx))).run P w=.ok (l.getD 0,hh.getD n,m) w:=by
 have hlo:(lo.map a.eval=none/\l=none)\/∃ k i,lo.map a.eval=some (.int k ((i:Nat):Int))/\l=some i:=by
  cases lo with
  | none=>cases l with
   | none=>exact .inl ⟨rfl,rfl⟩
   | some i=>simp at hl
  | some p=>cases l with
   | none=>simp at hl
   | some i =>
    simp only [Option.map_some,Option.some.injEq] at hl
    obtain ⟨k,hk⟩:=RC.nat_inv hl (hL p)
    exact .inr ⟨k,i,by simp [hk],rfl⟩
 have hhi':(hi.map a.eval=none/\hh=none)\/∃ k j,hi.map a.eval=some (.int k ((j:Nat):Int))/\hh=some j:=by
  cases hi with
  | none=>cases hh with
   | none=>exact .inl ⟨rfl,rfl⟩
   | some i=>simp at hhi
  | some p=>cases hh with
   | none=>simp at hhi
   | some i =>
    simp only [Option.map_some,Option.some.injEq] at hhi
    obtain ⟨k,hk⟩:=RC.nat_inv hhi (hL p)
    exact .inr ⟨k,i,by simp [hk],rfl⟩
 constructor
 ·rcases hlo with ⟨e1,rfl⟩ | ⟨k1,i,e1,rfl⟩<;>rcases hhi' with ⟨e2,rfl⟩ | ⟨k2,j,e2,rfl⟩<;>rw [e1,e2]<;>simp only [Option.getD_none,Option.getD_some] at h1 h2 ⊢ <;>
   simp [Instr.sliceBounds,Instr.sliceBound,asIntOf,h1,h2]
 ·intro mx m hm hs h3 h4
  obtain ⟨k3,e3⟩:=RC.nat_inv hm (hL mx)
  rw [e3]
  rcases hhi' with ⟨e2,rfl⟩ | ⟨k2,j,e2,rfl⟩
  ·cases hs
  rcases hlo with ⟨e1,rfl⟩ | ⟨k1,i,e1,rfl⟩<;>rw [e1,e2]<;>simp only [Option.getD_none,Option.getD_some] at h1 h2 h3 ⊢ <;>
   simp [Instr.sliceBounds,Instr.sliceBound,asIntOf,h1,h3,h4]
theorem Sg {l:Option Operand} {q:Option Nat} (e:Ba3 (l.map L)=some q):(l.map L).map Qf=q.map some:=by
 cases l with
 | none=>cases e;rfl
 | some p =>
  simp only [Option.map_some,Ba3,Option.map_eq_some_iff] at e
  obtain ⟨n,hn,rfl⟩:=e
  simp [hn]
theorem V5 {ρ:Nat->Nat×Nat} {a:Act} {w:World} (hL:∀ y,RC (okH h) ρ (L y) (a.eval y)) {lo hi mx:Option Operand} {l hh mm:Option Nat} (hl:(lo.map L).map Qf=l.map some) (hhi:(hi.map L).map Qf=hh.map some) (hm:(mx.map L).map Qf=mm.map some) {k:Nat} {y r:CV} (e:Zn k y l hh mm=some r) {u:Value} (hu:RC (okH h) ρ y u) :
  ∃ A n K,u=.slice A n K/\∃ i j m,(∀ sl,(Instr.sliceBounds sl n K (lo.map a.eval) (hi.map a.eval) (mx.map a.eval)).run P w=.ok (i,j,m) w)/\RC (okH h) ρ r (.slice (if m=i then A else A.map (·.add (i*k))) (j - i) (m - i)):=by
 have nomx:mm=none->mx.map a.eval=none:=fun q=>by subst q;cases mx<;>simp at hm ⊢
 have zero:∀ {K:Nat},((mm.isNone || hh.isSome)&&Nat.beq (mm.getD 0) 0&&Nat.beq (l.getD 0) 0&&Nat.beq (hh.getD 0) 0)=true->∃ m,m<=K/\∀ sl,(Instr.sliceBounds sl 0 K (lo.map a.eval) (hi.map a.eval) (mx.map a.eval)).run P w=.ok (0,0,m) w:=fun {K} h1=>by
  simp only [Bool.and_eq_true] at h1
  obtain ⟨⟨⟨q1,q4⟩,q2⟩,q3⟩:=h1
  have q2:=Nat.eq_of_beq_eq_true q2
  have q3:=Nat.eq_of_beq_eq_true q3
  have q4:=Nat.eq_of_beq_eq_true q4
  have hb:=fun sl=>Ui (P:=P) (w:=w) hL hl hhi (sl:=sl) (n:=0) (cap:=K) (by omega) (by omega)
  rw [q2,q3] at hb
  cases mm with
  | none=>exact ⟨K,Nat.le_refl _,fun sl=>by rw [nomx rfl];exact (hb sl).1⟩
  | some m =>
   have q4:m=0:=q4
   subst q4
   cases mx with
   | none=>simp at hm
   | some pm =>
    simp only [Option.map_some,Option.some.injEq] at hm
    exact ⟨0,Nat.zero_le _,fun sl=>(hb sl).2 hm (by simpa using q1) (Nat.le_refl _) (Nat.zero_le _)⟩
 unfold Zn at e
 split at e
 ·obtain ⟨h1,e⟩:=Bj e
  cases e
  obtain rfl:=hu.v_inv
  obtain ⟨m,hm1,hm2⟩:=zero (K:=0) h1
  obtain rfl:m=0:=by omega
  exact ⟨none,0,0,rfl,_,_,_,hm2,RC.nilS⟩
 ·obtain ⟨h1,e⟩:=Bj e
  cases e
  obtain ⟨A,K,rfl,hK⟩:=hu.z_inv
  obtain ⟨m,hm1,hm2⟩:=zero (K:=K) h1
  refine ⟨some A,0,K,rfl,_,_,_,hm2,?_⟩
  split
  ·exact .z (by omega)
  ·exact .z (by omega)
 ·rename_i c o n cp q
  obtain ⟨h1,e⟩:=Cw e
  simp only [Bool.and_eq_true] at h1
  have q1:=Nat.le_of_ble_eq_true h1.1
  have q2:=Nat.le_of_ble_eq_true h1.2
  obtain ⟨K,rfl,hc,p1,p2,p3,p4,p5⟩:=hu.s_inv
  split at e
  ·refine ⟨_,n,K,rfl,_,_,_,fun sl=>by rw [nomx rfl];exact (Ui hL hl hhi q1 (by omega)).1,?_⟩
   cases hz:(Nat.beq (l.getD 0) (hh.getD n)&&Nat.blt 0 (l.getD 0)) with
   | true =>
    rw [hz] at e
    cases e
    simp only [Bool.and_eq_true] at hz
    have:=Nat.eq_of_beq_eq_true hz.1
    rw [<-this,Nat.sub_self]
    split
    ·exact .z (by omega)
    ·exact .z (by omega)
   | false =>
    rw [hz] at e
    obtain ⟨h2,e⟩:=Bj e
    cases e
    have hne:l.getD 0=0\/l.getD 0 < hh.getD n:=by
     rcases Nat.eq_or_lt_of_le q1 with e | e
     ·left
      rw [e] at hz ⊢
      have:Nat.beq (hh.getD n) (hh.getD n)=true:=Nat.beq_refl _
      rw [this,Bool.true_and] at hz
      rcases Nat.eq_zero_or_pos (hh.getD n) with g | g
      ·exact g
      ·rw [Bk.2 g] at hz;cases hz
     ·exact .inr e
    have ha:(if K=l.getD 0 then (some (⟨(ρ c).1,o,none⟩ : Addr)) else (some (⟨(ρ c).1,o,none⟩ : Addr)).map (·.add (l.getD 0*k)))=some ⟨(ρ c).1,o+l.getD 0*k,none⟩:=by
     split
     ·rcases hne with g | g
      ·rw [g];simp
      ·omega
     ·simp [Dh]
    rw [ha]
    refine .s hc (by omega) (by omega) (by omega) (fun g=>by rw [p4 g]) fun g=>?_
    have hk:q=k:=by
     simp only [Bool.or_eq_true] at h2
     rcases h2 with h2 | h2
     ·exact absurd (Nat.eq_of_beq_eq_true h2) g
     ·exact Nat.eq_of_beq_eq_true h2
    have:=p5 g
    subst hk
    have h8:l.getD 0*q+(K - l.getD 0)*q=K*q:=by rw [<-Nat.add_mul];congr 1;omega
    omega
  ·rename_i m _
   obtain ⟨h2,e⟩:=Bj e
   cases e
   simp only [Bool.and_eq_true] at h2
   obtain ⟨⟨h3,h4⟩,h5⟩:=h2
   have h4:=Nat.le_of_ble_eq_true h4
   have h5:=Nat.le_of_ble_eq_true h5
   cases mx with
   | none=>simp at hm
   | some pm =>
    simp only [Option.map_some,Option.some.injEq] at hm
    refine ⟨_,n,K,rfl,_,_,_,fun sl=>(Ui hL hl hhi (cap:=K) q1 (by omega)).2 hm h3 h4 (by omega),?_⟩
    have ha:(if m=l.getD 0 then (some (⟨(ρ c).1,o,none⟩ : Addr)) else (some (⟨(ρ c).1,o,none⟩ : Addr)).map (·.add (l.getD 0*k)))=some ⟨(ρ c).1,(bif Nat.beq m (l.getD 0) then o else o+l.getD 0*k),none⟩:=by
     cases hq:Nat.beq m (l.getD 0) with
     | true=>rw [if_pos (Nat.eq_of_beq_eq_true hq)];rfl
     | false=>rw [if_neg (Nat.ne_of_beq_eq_false hq)];simp [Dh]
    rw [ha]
    exact .s hc (by omega) (Nat.le_refl _) (by omega) (fun _=>rfl) fun g=>absurd rfl g
 ·cases e
theorem Bm4 {t:TypeId} {y:Operand} {lo hi mx:Option Operand} (e:Ah3 P t (L y) (lo.map L) (hi.map L) (mx.map L) h=some (x,h')):Cg P L h ⟨dst,.slice t y lo hi mx,ty,pos,after,gd⟩ x h':=by
 unfold Ah3 at e
 split at e
 case h_2=>cases e
 rename_i l hh mm hl hhi hm
 have hl:=Sg hl
 have hhi:=Sg hhi
 have hm:=Sg hm
 cases hs:Fc P t with
 | true =>
  rw [hs] at e
  simp only [cond_true,Option.map_eq_some_iff] at e
  obtain ⟨r,hr,e⟩:=e
  cases e
  have hu:=Ef hs
  unfold B65 at hr
  split at hr
  ·rename_i z hy
   obtain ⟨h1,hr⟩:=Bj hr
   cases hr
   simp only [Bool.and_eq_true] at h1
   have q1:=Nat.le_of_ble_eq_true h1.1.2
   have q2:=Nat.le_of_ble_eq_true h1.2
   have hmm:mm=none:=by simpa using h1.1.1
   have hmx:mx=none:=by subst hmm;cases mx<;>simp at hm ⊢
   subst hmx
   refine Cg.pure_ fun ρ B w a s hL=>⟨_,?_,RC.str⟩
   have hyv:=hL y
   rw [hy] at hyv
   have hb:=(Ui (P:=P) (w:=w) hL hl hhi (sl:=false) (n:=z.size) (cap:=z.size) q1 q2).1
   simp only [execOp,hyv.v_inv]
   refine C6 ?_
   simp [Instr.sliceAt,Instr.slice,run_underlying hu,hb]
  ·cases hr
 | false =>
  rw [hs] at e
  simp only [cond_false] at e
  split at e
  ·rename_i el k b ht
   simp only [Option.map_eq_some_iff] at e
   obtain ⟨r,hr,e⟩:=e
   cases e
   obtain ⟨hu,inf,hi2,hi3,_⟩:=Bw ht
   refine Cg.pure_ fun ρ B w a s hL=>?_
   obtain ⟨A,n,K,hv,i,j,m,hb,hrc⟩:=V5 (P:=P) (w:=w) hL hl hhi hm hr (hL y)
   refine ⟨_,?_,hrc⟩
   simp only [execOp,hv]
   refine C6 ?_
   simp [Instr.sliceAt,Instr.slice,run_underlying hu,hb true,sizeOf,typeInfo,hi2,hi3]
  ·split at e
   ·rename_i n q k c o ht hy
    obtain ⟨hn,e⟩:=Cw e
    have hn:=Nat.le_of_ble_eq_true hn
    simp only [Option.map_eq_some_iff] at e
    obtain ⟨r,hr,e⟩:=e
    cases e
    obtain ⟨el,hu,hz⟩:=Le ht
    refine Cg.pure_ fun ρ B w a s hL=>?_
    obtain ⟨_,hz⟩:=Cv (w:=w) hz
    have hyv:=hL y
    rw [hy] at hyv
    obtain ⟨hyv,hc⟩:=hyv.p_inv
    obtain ⟨A,n',K,hv,i,j,m,hb,hrc⟩:=V5 (P:=P) (w:=w) hL hl hhi hm hr (.s (K:=n) hc (Nat.le_refl _) (Nat.le_refl _) (by unfold maxLen;omega) (fun _=>rfl) fun g=>absurd rfl g)
    cases hv
    refine ⟨_,?_,hrc⟩
    simp only [execOp,hyv]
    refine C6 ?_
    simp only [Instr.sliceAt,Sem.run_bind,run_underlying hu,Result.andThen_ok,Instr.sureAddr,Sem.run_pure,hb false,hz]
    simp
    split<;>rfl
   ·cases e
end
section
variable {P : Program} {L : Operand -> CV} {h h' : GH} {o : Oper} {x : CV} {eqT : Nat -> Bool}
variable {dst : Option Tmp} {ty : TypeId} {pos : String} {after : Array Edge} {gd : Option (Nat × Bool)}
variable {ok : Nat -> Prop} {ρ : Nat -> Nat × Nat}
theorem B67:∀ (vs:List Value) (off:Nat) (cells:Array Value),off+vs.length<=cells.size->(Pf cells off vs).toList=cells.toList.take off++vs++cells.toList.drop (off+vs.length):=fun vs off cells hv=>by
 apply List.ext_getElem?
 intro j
 have h1:(cells.toList.take off).length=off:=by rw [List.length_take];exact Nat.min_eq_left (by simp;omega)
 rw [Array.getElem?_toList,V7]
 by_cases j1:j < off
 ·rw [if_neg (by omega),List.append_assoc,List.getElem?_append_left (by omega),List.getElem?_take_of_lt j1,Array.getElem?_toList]
 ·by_cases j2:j < off+vs.length
  ·rw [if_pos (by omega),List.getElem?_append_left (by simp [h1];omega),List.getElem?_append_right (by omega),h1]
  ·rw [if_neg (by omega),List.getElem?_append_right (by simp [h1];omega),List.length_append,h1,List.getElem?_drop,Array.getElem?_toList]
   congr 1;omega
theorem Ss {a:Act} (hL:∀ x,RC ok ρ (L x) (a.eval x)) {places:List (Nat×Nat)} : ∀ (parts:List (Nat×Operand)) (cells:Array Value) (cs out:List CV),RCs ok ρ cs cells.toList ->
  Z2 places cs (parts.map fun p=>(p.1,L p.2))=some out->∃ C,Instr.fill (places.toArray[·]?) cells (parts.map fun p=>(p.1,a.eval p.2))=some C/\RCs ok ρ out C.toList
 | [],cells,cs,out,h,hf=>by
  simp only [List.map_nil,Z2,Option.some.injEq] at hf
  subst hf
  exact ⟨cells,rfl,h⟩
 | p :: parts,cells,cs,out,h,hf=>by
  simp only [List.map_cons,Z2] at hf
  split at hf
  ·cases hf
  ·rename_i off size hp
   obtain ⟨hc,hf⟩:=Cw hf
   simp only [Bool.and_eq_true] at hc
   simp only [Option.bind_eq_some_iff] at hf
   obtain ⟨cs',hs,hf⟩:=hf
   obtain ⟨p1,rfl⟩:=H7 hs
   have hm:=(hL p.2).cellsR hc.1
   have hsz:(a.eval p.2).cells.size=size:=by
    have h1:=hm.1
    rw [Nat.eq_of_beq_eq_true hc.2] at h1
    simpa using h1.symm
   have hl:=h.1
   have hml:=hm.1
   have hcs:off+size<=cells.size:=by
    simp at hl hml;omega
   have hn:RCs ok ρ (cs.take off++Gt (L p.2)++cs.drop (off+(Gt (L p.2)).length)) (Pf cells off (a.eval p.2).cells.toList).toList:=by
    have hv:off+(a.eval p.2).cells.toList.length<=cells.size:=by rw [Array.length_toList,hsz];exact hcs
    rw [B67 _ _ _ hv]
    obtain ⟨q1,q2⟩:=RCs.put (C:=cells.toList) (o:=off) h.2 hm (by omega) (by omega) (by rw [Array.length_toList (xs:=cells)];exact hv)
    refine ⟨?_,q2⟩
    simp only [List.length_append,List.length_take,List.length_drop,Array.length_toList] at hl hml ⊢
    omega
   obtain ⟨C,h1,h2⟩:=Ss hL parts (Pf cells off (a.eval p.2).cells.toList) _ out hn hf
   refine ⟨C,?_,h2⟩
   rw [List.map_cons,Sr (off:=off) (size:=size) (by simpa using hp) hsz hcs]
   exact h1
theorem Bm8 {t:TypeId} {parts:Array (Nat×Operand)} (e:Ah9 P t (parts.toList.map fun p=>(p.1,L p.2)) h=some (x,h')):Cg P L h ⟨dst,.build t parts,ty,pos,after,gd⟩ x h':=by
 unfold Ah9 at e
 simp only [Option.bind_eq_some_iff,Option.map_eq_some_iff] at e
 obtain ⟨⟨z0,places⟩,hb,zs,hz1,cs,hf,e⟩:=e
 cases e
 refine Cg.pure_ fun ρ B w a s hL=>?_
 obtain ⟨z1,y1,rfl,y2,_⟩:=A68 (w:=w) hz1
 have hp:(parts.map fun (i,x)=>(i,a.eval x)).toList=parts.toList.map fun p=>(p.1,a.eval p.2):=by simp
 obtain ⟨C,h1,h2⟩:=Ss hL parts.toList z1.cells _ cs (RCs.zeros y2) hf
 have hC:RC (okH h) ρ (.g cs) (.agg C):=.g (by simpa using h2.1.symm) (fun j x u a b=>(h2.2 j x u a (by rw [Array.getElem?_toList];exact b)).1) fun j u b=>h2.one u (by rw [Array.mem_toList_iff];exact Array.mem_of_getElem? b)
 refine ⟨.agg C,?_,hC⟩
 simp only [execOp]
 refine C6 ?_
 unfold Kk at hb
 split at hb
 ·rename_i fs z hu hz
  simp only [Option.map_eq_some_iff,Prod.mk.injEq] at hb
  obtain ⟨l,hl,_,rfl⟩:=hb
  have hm:(fs.mapM fun f=>(do return (f.offset,<-sizeOf f.type):Sem (Nat×Nat))).run P w=.ok l.toArray w:=by
   have h3:=W6 hl (w:=w)
   rw [Array.mapM_eq_mapM_toList]
   simp only [Sem.run_bind,Sem.run_map,h3,Result.andThen_ok,Sem.run_pure]
  simp only [Instr.build,Sem.run_bind,y1,Result.andThen_ok,run_underlying hu,Sem.run_pure,hm,hp,h1]
 ·rename_i n0 e0 z hu hz
  simp only [Option.map_eq_some_iff,Prod.mk.injEq] at hb
  obtain ⟨ie,hie,_,rfl⟩:=hb
  have hs:(sizeOf e0).run P w=.ok ie.size w:=by simp [sizeOf,run_typeInfo w hie]
  have h1':=P8 (pl':=fun i=>some (i*ie.size,ie.size)) (fun k q hq=>by
   simp only [List.getElem?_toArray,List.getElem?_map,Option.map_eq_some_iff] at hq
   obtain ⟨m,hm,rfl⟩:=hq
   obtain ⟨hlt,rfl⟩:=List.getElem?_eq_some_iff.1 hm
   simp) _ _ _ h1
  simp only [Instr.build,Sem.run_bind,y1,Result.andThen_ok,run_underlying hu,hs,Sem.run_pure,hp,h1']
 ·cases hb
theorem Vj (zs:List CV):∀ n,(Qd zs n).length=n*zs.length
 | 0=>by simp [Qd]
 | n+1=>by rw [Qd,List.length_append,Vj zs n,Nat.add_mul];omega
theorem A96 (zs:List CV):∀ (n j:Nat) x,(Qd zs n)[j]? = some x->zs[j % zs.length]? = some x
 | 0,j,x,h=>by simp [Qd] at h
 | n+1,j,x,h=>by
  rw [Qd] at h
  by_cases hj:j < zs.length
  ·rw [List.getElem?_append_left hj] at h
   rwa [Nat.mod_eq_of_lt hj]
  ·rw [List.getElem?_append_right (by omega)] at h
   have:=A96 zs n _ x h
   rwa [<-Nat.mod_eq_sub_mod (by omega)] at this
theorem R8 {zs:Array Value} (h1:∀ v∈zs.toList,v.oneCell'=true) (n:Nat):RCs ok ρ (Qd (zs.toList.map .v) n) (madeCells zs (n*zs.size)).toList:=by
 refine ⟨by rw [Vj];simp [madeCells],fun j x u a b=>?_⟩
 have hj:=(List.getElem?_eq_some_iff.1 a).1
 rw [Vj] at hj
 have a:=A96 _ n j x a
 simp only [List.length_map,Array.length_toList] at a hj
 rw [Array.getElem?_toList] at b
 have hpos:0 < zs.size:=by
  rcases Nat.eq_zero_or_pos zs.size with g | g
  ·rw [g] at hj;omega
  ·exact g
 have hlt:j % zs.size < zs.size:=Nat.mod_lt _ hpos
 have hb:u=zs[j % zs.size]! := by
  simp only [madeCells,Array.getElem?_map,Option.map_eq_some_iff] at b
  obtain ⟨i,hi,rfl⟩:=b
  rw [Array.getElem?_range,if_pos hj] at hi
  cases hi
  rfl
 rw [getElem!_pos zs _ hlt] at hb
 rw [List.getElem?_map,Array.getElem?_toList,Array.getElem?_eq_getElem hlt] at a
 obtain rfl:=Option.some.inj a
 subst hb
 have:=h1 _ (Array.getElem_mem_toList hlt)
 exact ⟨.v (fun a e=>by rw [e] at this;cases this),this⟩
theorem P6 {B:Nat} {w w0 w':World} (s:SR ρ h B w) {l:List CV} {C:Array Value} {t:TypeId} (hw:w'=w0.alloc (.cells C t)) (h0:w0.heap=w.heap/\w0.os=w.os/\w0.tape=w.tape/\w0.output=w.output) (hl:l.length<=C.size)
  (hC:∀ (j:Nat) x u,l[j]? = some x->C[j]? = some u->RC (okH h) ρ x u/\u.oneCell'=true) {n k K e:Nat} (h1:n<=k) (h2:k<=K) (h3:K<=maxLen) (h4:e=0->K=k) (h5:e≠0->K*e<=C.size):∃ ρ',D5 ρ h (S6 h l n k e []).2 B w w' ρ'/\RC (okH (S6 h l n k e []).2) ρ' (S6 h l n k e []).1 (.slice (some ⟨w.heap.size,0,none⟩) n K):=by
 obtain ⟨ρ',e1,e2,p⟩:=Sf s (t:=t) hw h0 C.size (Nat.le_refl _) hl hC
 refine ⟨ρ',p,?_⟩
 have:=RC.s (ρ:=ρ') (o:=0) (n:=n) (k:=k) (K:=K) (e:=e) e2 h1 h2 h3 h4 (fun g=>by rw [e1];have:=h5 g;omega)
 rwa [e1] at this
theorem Gy {t e k y:Nat} {zs:List CV} (hz:Rz P e=some zs) (ht:Cl P t=some (e,k,y)) (hk:Nat.beq zs.length k=true):∃ i z,P.info? e=some i/\i.zero=some z/\i.size=k/\i.bytes=y/\zs=z.cells.toList.map .v/\(∀ v∈z.cells.toList,v.oneCell'=true)/\z.cells.size=k:=by
 have hk:=Nat.eq_of_beq_eq_true hk
 unfold Rz at hz
 split at hz
 ·rename_i q zs' hq
  obtain ⟨h1,rfl⟩:=Bj hz
  obtain ⟨i,z,i1,i2,i3,i4,i5⟩:=Xz ht (by rw [hq];simpa using hk)
  have:zs'=z.cells.toList:=by
   unfold tyZ at hq
   split at hq
   ·rename_i z' _ hz'
    rw [i1] at hz'
    simp only [Option.bind_some,i2,Option.some.injEq] at hz'
    subst hz'
    simp only [Option.some.injEq,Prod.mk.injEq] at hq
    exact hq.2.symm
   ·cases hq
  subst this
  exact ⟨i,z,i1,i2,i3,i4,rfl,List.all_eq_true.1 h1,i5⟩
 ·cases hz
theorem C06 {t:TypeId} {n m:Operand} (e:B34 P t (L n) (L m) h=some (x,h')):Cg P L h ⟨dst,.makeSlice t n m,ty,pos,after,gd⟩ x h':=by
 unfold B34 at e
 split at e
 ·rename_i el k b i j ht hi hj
  simp only [Option.bind_eq_some_iff] at e
  obtain ⟨zs,hz,e⟩:=e
  obtain ⟨h1,e⟩:=Bj e
  simp only [Bool.and_eq_true] at h1
  obtain ⟨⟨⟨⟨q0,q1⟩,q2⟩,q3⟩,q4⟩:=h1
  have q0:=Bk.1 q0
  have q1:=Nat.le_of_ble_eq_true q1
  have q2:=Nat.le_of_ble_eq_true q2
  have q3:=Nat.le_of_ble_eq_true q3
  intro ρ B w a s hL
  obtain ⟨inf,z,i1,i2,i3,i4,rfl,i5,i6⟩:=Gy hz ht q4
  obtain ⟨hu,_⟩:=Bw ht
  obtain ⟨k1,hv1⟩:=RC.nat_inv hi (hL n)
  obtain ⟨k2,hv2⟩:=RC.nat_inv hj (hL m)
  have hj2:j<=16777216:=Nat.le_trans (Nat.le_mul_of_pos_right j q0) q2
  have hrun:=run_make w t el inf z hu i1 i2 k1 k2 (i:Nat) (j:Nat) (by omega) (by omega) (by rw [i4,<-Int.natCast_mul];exact Int.ofNat_le.2 q3) (by omega)
  have hR:=R8 (ok:=okH h) (ρ:=ρ) i5 j
  rw [i6] at hR
  obtain ⟨ρ',p,hr⟩:=P6 s (w':=w.alloc (.cells (madeCells z.cells (j*k)) el)) (l:=Qd (z.cells.toList.map .v) j) (C:=madeCells z.cells (j*k)) (t:=el) rfl ⟨rfl,rfl,rfl,rfl⟩ (Nat.le_of_eq (hR.1.trans Array.length_toList)) (fun jj x u a b=>hR.2 jj x u a (by rw [Array.getElem?_toList];exact b)) (n:=i) (k:=j) (K:=j) (e:=0) q1 (Nat.le_refl _) (by unfold maxLen;omega) (fun _=>rfl) (fun g=>absurd rfl g)
  rw [e] at p hr
  refine ⟨_,_,ρ',.inl ?_,p,hr⟩
  simp only [execOp,hv1,hv2]
  refine C6 ?_
  rw [hrun]
  simp [i3]
 ·cases e
theorem Be2 {t:TypeId} {len:Nat} {parts:Array (Nat×Operand)} (e:Zd P t len (parts.toList.map fun p=>(p.1,L p.2)) h=some (x,h')):Cg P L h ⟨dst,.buildSlice t len parts,ty,pos,after,gd⟩ x h':=by
 unfold Zd at e
 split at e
 ·rename_i el k b ht
  simp only [Option.bind_eq_some_iff] at e
  obtain ⟨zs,hz,e⟩:=e
  obtain ⟨h1,e⟩:=Cw e
  simp only [Bool.and_eq_true] at h1
  obtain ⟨⟨q0,q2⟩,q4⟩:=h1
  have q0:=Bk.1 q0
  have q2:=Nat.le_of_ble_eq_true q2
  simp only [Option.map_eq_some_iff] at e
  obtain ⟨cs,hf,e2⟩:=e
  intro ρ B w a s hL
  obtain ⟨inf,z,i1,i2,i3,i4,rfl,i5,i6⟩:=Gy hz ht q4
  obtain ⟨hu,_⟩:=Bw ht
  have hR:=R8 (ok:=okH h) (ρ:=ρ) i5 len
  rw [i6] at hR
  obtain ⟨C,f1,f2⟩:=Ss hL parts.toList _ _ cs hR hf
  have hj2:len<=16777216:=Nat.le_trans (Nat.le_mul_of_pos_right len q0) q2
  obtain ⟨ρ',p,hr⟩:=P6 s (w':=w.alloc (.cells C el)) (l:=cs) (C:=C) (t:=el) rfl ⟨rfl,rfl,rfl,rfl⟩ (Nat.le_of_eq (f2.1.trans Array.length_toList)) (fun jj x u a b=>f2.2 jj x u a (by rw [Array.getElem?_toList];exact b)) (n:=len) (k:=len) (K:=len) (e:=0) (Nat.le_refl _) (Nat.le_refl _) (by unfold maxLen;omega) (fun _=>rfl) (fun g=>absurd rfl g)
  rw [e2] at p hr
  refine ⟨_,_,ρ',.inl ?_,p,hr⟩
  have hp:(parts.map fun (i,x)=>(i,a.eval x)).toList=parts.toList.map fun p=>(p.1,a.eval p.2):=by simp
  have f1':=P8 (pl':=fun i=>some (i*k,k)) (fun i q hq=>by
   simp only [List.getElem?_toArray,List.getElem?_map,Option.map_eq_some_iff] at hq
   obtain ⟨m,hm,rfl⟩:=hq
   obtain ⟨hlt,rfl⟩:=List.getElem?_eq_some_iff.1 hm
   simp) _ _ _ f1
  simp only [execOp]
  refine C6 ?_
  have hzv:(zeroValue el).run P w=.ok z w:=by simp [zeroValue,run_typeInfo w i1,i2]
  have hsz:(sizeOf el).run P w=.ok k w:=by simp [sizeOf,run_typeInfo w i1,i3]
  have hsm:¬ len*k > 2 ^ 24:=by omega
  by_cases h0:len*k=0
  ·have:len=0:=by
    rcases Nat.mul_eq_zero.1 h0 with g | g
    ·exact g
    ·omega
   subst this
   have hm0:madeCells z.cells (0*k)=#[]:=by simp [madeCells]
   rw [hm0] at f1'
   simp [Instr.buildSlice,run_underlying hu,hsz,newRow,f1',Array.range_zero']
  ·simp only [madeCells] at f1'
   simp [Instr.buildSlice,run_underlying hu,hsz,hsm,h0,hzv,newRow,f1']
 ·cases e
theorem B17 {B:Nat} {w:World} (s:SR ρ h B w) {k:Nat} {y:CV} {m:Nat} {ys:List CV} (e:Sw h k y=some (m,ys)) {t':TypeId} (ht:A76 P t' y=true) {u:Value} (hu:RC (okH h) ρ y u) :
  ∃ news,Src P k t' u m news w/\RCs (okH h) ρ ys news:=by
 unfold Sw at e
 split at e
 ·cases e
  obtain ⟨⟨_,_,_⟩,hq⟩:=Option.isSome_iff_exists.1 ht
  rw [hu.v_inv]
  exact ⟨[],Src.ofNil w (Bw hq).1 0,RCs.nil⟩
 ·cases e
  obtain ⟨⟨_,_,_⟩,hq⟩:=Option.isSome_iff_exists.1 ht
  obtain ⟨A,K,rfl,_⟩:=hu.z_inv
  exact ⟨[],Src.ofSlice w (Bw hq).1 A 0 K [] (by simp) (fun j u h=>by simp at h) (fun u h=>by cases h),RCs.nil⟩
 ·rename_i c o n cp q
  obtain ⟨⟨_,_,_⟩,hq⟩:=Option.isSome_iff_exists.1 ht
  simp only [Option.bind_eq_some_iff,Option.map_eq_some_iff,Prod.mk.injEq] at e
  obtain ⟨l,hl,m',hm,rfl,rfl⟩:=e
  obtain ⟨rfl,h1⟩:=Eb hm
  rw [Lp] at h1 ⊢
  obtain ⟨f,hf⟩:=s.cell hl
  obtain ⟨K,rfl,_⟩:=hu.s_inv
  have hlen:((l.drop o).take (n*k)).length=n*k:=by rw [List.length_take];exact Nat.min_eq_left h1
  have hm:∀ (j:Nat) x,((l.drop o).take (n*k))[j]? = some x->l[o+j]? = some x:=fun j x hj=>by
   have:=(List.getElem?_eq_some_iff.1 hj).1
   rw [hlen] at this
   rwa [List.getElem?_take_of_lt this,List.getElem?_drop] at hj
  have hget:∀ (j:Nat) u,((List.range (n*k)).map fun j=>f (o+j))[j]? = some u->j < n*k/\u=f (o+j):=fun j u hj=>by
   have h2:=(List.getElem?_eq_some_iff.1 hj).1
   simp only [List.length_map,List.length_range] at h2
   rw [List.getElem?_map,List.getElem?_range h2] at hj
   exact ⟨h2,(Option.some.inj hj).symm⟩
  have hR:RCs (okH h) ρ ((l.drop o).take (n*k)) ((List.range (n*k)).map fun j=>f (o+j)):=⟨by rw [hlen];simp,fun j x u a b=>by
   obtain ⟨_,rfl⟩:=hget j u b
   exact (hf _ x (hm j x a)).2⟩
  refine ⟨_,Src.ofSlice w (Bw hq).1 ⟨(ρ c).1,o,none⟩ n K _ (by simp) (fun j u hj=>?_) hR.one,hR⟩
  obtain ⟨h2,rfl⟩:=hget j u hj
  rw [Dh]
  exact (hf _ _ (hm j _ (List.getElem?_eq_getElem (by omega)))).1
 ·rename_i z
  obtain ⟨hk,e⟩:=Bj e
  cases e
  obtain rfl:=Nat.eq_of_beq_eq_true hk
  rw [hu.v_inv]
  refine ⟨byteCells z,Src.ofString w (Ef ht) z,by simp [byteCells],fun j x u a b=>?_⟩
  simp only [byteCells,List.getElem?_map,Option.map_eq_some_iff] at a b
  obtain ⟨q,hq,rfl⟩:=a
  obtain ⟨q',hq',rfl⟩:=b
  rw [hq] at hq'
  obtain rfl:=Option.some.inj hq'
  exact ⟨RC.int,rfl⟩
 ·cases e
theorem Av2 {B:Nat} {w:World} (s:SR ρ h B w) {t t' el k b m:Nat} {news olds:List Value} {ys pre:List CV} (ht:Cl P t=some (el,k,b)) {zs:List CV} (hz:Rz P el=some zs) (hzl:Nat.beq zs.length k=true) {u:Value} (hs:Src P k t' u m news w) (hR:RCs (okH h) ρ ys news) (hm:0 < m)
  {A:Option Addr} {n K:Nat} (hold:(Builtin.firstCells k n (.slice A n K)).run P w.drew=.ok olds.toArray w.drew) (hO:RCs (okH h) ρ pre olds) (hlen:olds.length=n*k) (hg:K < n+m) (hb:(n+m)*b<=140737488355328) (h30:n+m<=1073741824) :
  ∃ G w',n+m<=G/\G<=maxLen/\(Builtin.append_ #[t,t'] ty #[.slice A n K,u]).run P w=.ok (.slice (some ⟨w.heap.size,0,none⟩) (n+m) G) w'/\Below w.heap.size w w'/\∃ C:Array Value,w'.heap[w.heap.size]? = some (.cells C el (0,0))/\C.size=G*k/\(pre++ys).length<=C.size/\∀ (j:Nat) x u,(pre++ys)[j]? = some x->C[j]? = some u->RC (okH h) ρ x u/\u.oneCell'=true:=by
 obtain ⟨inf,z,i1,i2,i3,i4,rfl,i5,i6⟩:=Gy hz ht hzl
 obtain ⟨hu,_⟩:=Bw ht
 subst i3 i4
 have hgr:=run_append_grow_src w t t' ty el inf z hu i1 i2 A n K olds hold u m news hs hg (by omega) (growslice_fits hg hb)
 have g1:=grownCap_ge w (n+m) K el
 have g2:=grownCap_le_maxLen w (n+m) K el (by unfold maxLen;omega)
 generalize grownCap w (n+m) K el=G at hgr g1 g2
 have hol:(pre++ys).length=(olds++news).length:=by rw [List.length_append,List.length_append,hO.1,hR.1]
 have hnews:=hs.newsLen
 have hC:((olds++news).toArray++Builtin.zeroCells z.cells (G - (n+m))).size=G*inf.size:=by
  simp only [Array.size_append,List.size_toArray,List.length_append,Builtin.zeroCells,Array.size_map,Array.size_range,i6,hlen,hnews]
  rw [<-Nat.add_mul,<-Nat.add_mul]
  congr 1;omega
 refine ⟨G,_,g1,g2,hgr,(Below.refl _ w).drew.alloc (Nat.le_refl _) _,_,World.alloc_heap_new _ _,hC,?_,fun j x u a b=>?_⟩
 ·rw [hol];simp
 ·have hj:=(List.getElem?_eq_some_iff.1 a).1
  rw [hol] at hj
  rw [Array.getElem?_append_left (by simpa using hj)] at b
  exact (hO.append hR).2 j x u a (by simpa using b)
theorem SR.extend {B:Nat} {w:World} (s:SR ρ h B w) {c:Nat} {l kin ys:_} {news:List Value} (hc:h.get c=some (.cs l kin false)) (hf:h.fl<=c) (hR:RCs (okH h) ρ ys news) (hb:l.length+ys.length<=(ρ c).2) :
  ∃ w1 ρ',(storeCells ⟨(ρ c).1,l.length,none⟩ news).run P w=.ok () w1/\ρ' h.nx=ρ c/\okH ((h.setT c (.cs l kin true)).new (.cs (l++ys) (c :: kin) false)) h.nx/\D5 ρ h ((h.setT c (.cs l kin true)).new (.cs (l++ys) (c :: kin) false)) B w w1 ρ':=by
 have p1:D5 ρ h (h.setT c (.cs l kin true)) B w w ρ:=s.shut hc hf
 obtain ⟨C,t,fr,h1,h2,h3,h4,h5⟩:=s.holds hc
 obtain rfl:=h2 rfl
 have hB:=s.rel.low c _ hc rfl hf
 have hv:l.length+news.length<=C.size:=by rw [<-hR.1];omega
 have hst:=run_storeCells_at (P:=P) (ρ c).1 l.length t news 0 C w h1 (by simpa using hv) hR.one
 simp only [Nat.add_zero] at hst
 generalize hC':(C.toList.take l.length++news++C.toList.drop (l.length+news.length)).toArray=C' at hst
 have hsz:C'.size=C.size:=by rw [<-hC'];simp;omega
 have hold:∀ j,j < l.length->C'[j]? = C[j]? := fun j hj=>by
  rw [<-hC']
  simp only [List.getElem?_toArray]
  rw [List.append_assoc,List.getElem?_append_left (by simp;omega),List.getElem?_take_of_lt hj,Array.getElem?_toList]
 have hnew:∀ (j:Nat) x u,(l++ys)[j]? = some x->C'[j]? = some u->RC (okH h) ρ x u/\u.oneCell'=true:=fun j x u a b=>by
  by_cases hj:j < l.length
  ·rw [List.getElem?_append_left hj] at a
   rw [hold j hj] at b
   exact h5 j x u a b
  ·rw [List.getElem?_append_right (by omega)] at a
   have hjy:=(List.getElem?_eq_some_iff.1 a).1
   have hn:=hR.1
   rw [<-hC'] at b
   simp only [List.getElem?_toArray] at b
   rw [List.getElem?_append_left (by simp;omega),List.getElem?_append_right (by simp;omega),show (C.toList.take l.length).length=l.length by simp;omega] at b
   exact hR.2 _ x u a b
 have hw1:=setRow_heap w (ρ c).1 C C' t (0,0) h1
 have hother:∀ g,g≠(ρ c).1->(w.setRow (ρ c).1 C').heap[g]? = w.heap[g]? := fun g hg=>setRow_other w _ g _ hg
 have hlow:Below B w (w.setRow (ρ c).1 C'):=⟨rfl,rfl,rfl,by simp,fun g hg=>hother g (by omega)⟩
 have hle:∀ c,okH h c->okH (h.setT c (.cs l kin true)) c:=fun c hc=>hc
 have hhold:∀ d b',(h.setT c (.cs l kin true)).get d=some b'->b'.live=true->((w.setRow (ρ c).1 C').heap[(ρ d).1]? = w.heap[(ρ d).1]? /\ (ρ d).1≠(ρ c).1)\/(b'.holds (okH (h.setT c (.cs l kin true))) ρ (w.setRow (ρ c).1 C') (ρ d)/\Q2 d b' (.cs (l++ys) (c :: kin) false)):=fun d b' q hl=>by
  by_cases hg:(ρ d).1=(ρ c).1
  ·right
   have q0:=GH.get_some q
   have q1:(h.t.set c (.cs l kin true)).get d=some b':=q0.2
   rw [TR.get_set] at q1
   split at q1
   ·rename_i e
    subst e
    cases q1
    exact ⟨⟨C',t,(0,0),hw1,(fun e=>by cases e),by omega,by omega,fun j x u a b=>h5 j x u a (by rw [<-hold j (List.getElem?_eq_some_iff.1 a).1];exact b)⟩,.inl ⟨_,_,_,_,_,rfl,rfl,by simp,by simp⟩⟩
   ·rename_i e
    have q2:=GH.get_of (h:=h) q0.1 q1
    rcases s.rel.apart d c b' _ q2 hc hl rfl hg with g | (⟨l1,k1,l2,k2,r2,e1,e2,e3,e4⟩ | ⟨_,_,_,_,_,g⟩) | (⟨_,_,_,_,_,g,_⟩ | ⟨_,_,_,_,g,_⟩)
    ·exact absurd g e
    ·cases e2
     subst e1
     obtain ⟨D,t',fr',d1,d2,d3,d4,d5⟩:=s.holds q2
     rw [hg,h1] at d1
     cases d1
     exact ⟨⟨C',t,(0,0),by rw [hg];exact hw1,(fun e=>by cases e),by omega,by omega,fun j x u a b=>d5 j x u a (by rw [<-hold j (by have:=(List.getElem?_eq_some_iff.1 a).1;omega)];exact b)⟩,.inl ⟨_,_,_,_,_,rfl,rfl,by simp [e3],by simp;omega⟩⟩
    ·cases g
    ·cases g
    ·cases g
  ·exact .inl ⟨hother _ hg,hg⟩
 obtain ⟨ρ',e1,p2⟩:=p1.sr.name (b:=.cs (l++ys) (c :: kin) false) (g:=ρ c) (w':=w.setRow (ρ c).1 C') hlow hB hhold fun ρ' _ hx _=>⟨C',t,(0,0),hw1,fun _=>rfl,by rw [hsz,List.length_append];omega,by omega,fun j x u a b=>⟨(hnew j x u a b).1.ext hx,(hnew j x u a b).2⟩⟩
 exact ⟨_,ρ',hst,e1,G7 p1.sr _,p1.trans p2⟩
theorem Bf5 {B:Nat} {w:World} (s:SR ρ h B w) {t t' el k b:Nat} {y z r:CV} {u v:Value} (ht:Cl P t=some (el,k,b)) {zs:List CV} (hz:Rz P el=some zs) (hzl:Nat.beq zs.length k=true) (hk:0 < k)
  (hy:RC (okH h) ρ y u) (hv:RC (okH h) ρ z v) (htz:A76 P t' z=true) (e:C13 h k b y z=some (r,h')) :
  ∃ q w' ρ',(Builtin.append_ #[t,t'] ty #[u,v]).run P w=.ok q w'/\D5 ρ h h' B w w' ρ'/\RC (okH h') ρ' r q:=by
 obtain ⟨inf,zz,i1,i2,i3,i4,_⟩:=Gy hz ht hzl
 obtain ⟨hu,_⟩:=Bw ht
 unfold C13 at e
 split at e
 ·cases e
 rename_i m ys he
 obtain ⟨news,hs,hR⟩:=B17 s he htz hv
 have hnl:=hs.newsLen
 have hyl:=hR.1
 have nothing:∀ {A:Option Addr} {n K:Nat},m=0->n<=K->(Builtin.append_ #[t,t'] ty #[.slice A n K,v]).run P w=.ok (.slice A n K) w:=fun {A n K} hm hle=>by
  subst hm
  have:news=[]:=List.eq_nil_of_length_eq_zero (by omega)
  subst this
  exact run_append_nothing w t t' ty el inf hu i1 A n K hle v (by rw [i3];exact hs)
 have mk:∀ {A:Option Addr} {n K:Nat} {pre:List CV} {olds:List Value},0 < m->(Builtin.firstCells k n (.slice A n K)).run P w.drew=.ok olds.toArray w.drew->RCs (okH h) ρ pre olds->olds.length=n*k->K < n+m->(n+m)*b<=140737488355328->n+m<=1073741824->(S6 h (pre++ys) (n+m) (n+m) k [])=(r,h') ->
   ∃ q w' ρ',(Builtin.append_ #[t,t'] ty #[.slice A n K,v]).run P w=.ok q w'/\D5 ρ h h' B w w' ρ'/\RC (okH h') ρ' r q:=fun {A n K pre olds} hm h1 h2 h3 h4 h5 h6 h7=>by
  obtain ⟨G,w',g1,g2,g3,g4,C,g5,g6,g7,g8⟩:=Av2 (ty:=ty) s ht hz hzl hs hR hm h1 h2 h3 h4 h5 h6
  obtain ⟨ρ',e1,p⟩:=s.new (b:=.cs (pre++ys) [] false) (w':=w') (g:=(w.heap.size,C.size)) g4 rfl fun ρ' _ hx _=>⟨C,el,(0,0),g5,fun _=>rfl,g7,Nat.le_refl _,fun j x u a b=>⟨(g8 j x u a b).1.ext hx,(g8 j x u a b).2⟩⟩
  cases h7
  refine ⟨_,w',ρ',g3,p,?_⟩
  have:=RC.s (ρ:=ρ') (o:=0) (n:=n+m) (k:=n+m) (K:=G) (e:=k) (G7 s (.cs (pre++ys) [] false)) (Nat.le_refl _) g1 g2 (fun g=>by omega) (fun g=>by rw [e1];simp only;omega)
  rwa [e1] at this
 split at e
 ·obtain rfl:=hy.v_inv
  cases hm:Nat.beq m 0 with
  | true =>
   rw [hm] at e
   cases e
   exact ⟨_,w,ρ,nothing (Nat.eq_of_beq_eq_true hm) (Nat.le_refl _),D5.refl s,RC.nilS⟩
  | false =>
   rw [hm] at e
   obtain ⟨h1,e⟩:=Bj e
   simp only [Bool.and_eq_true] at h1
   have h2:=Nat.le_of_ble_eq_true h1.1
   have h3:=Nat.le_of_ble_eq_true h1.2
   have hm:=Nat.ne_of_beq_eq_false hm
   exact mk (A:=none) (n:=0) (K:=0) (pre:=[]) (olds:=[]) (by omega) (run_firstCells_none _ _ _ _ _) RCs.nil (by simp) (by omega) (by simpa using h2) (by omega) (by simpa using e)
 ·obtain ⟨A,K,rfl,hK⟩:=hy.z_inv
  obtain ⟨hm,e⟩:=Bj e
  cases e
  exact ⟨_,w,ρ,nothing (Nat.eq_of_beq_eq_true hm) (Nat.zero_le _),D5.refl s,.z hK⟩
 ·rename_i c o n cp q
  obtain ⟨K,rfl,hc,p1,p2,p3,p4,p5⟩:=hy.s_inv
  cases hm:Nat.beq m 0 with
  | true =>
   rw [hm] at e
   cases e
   exact ⟨_,w,ρ,nothing (Nat.eq_of_beq_eq_true hm) (by omega),D5.refl s,hy⟩
  | false =>
   rw [hm] at e
   have hm:=Nat.ne_of_beq_eq_false hm
   simp only [cond_false] at e
   -- cells are stored in place
   have room:∀ {w1:World},n+m<=K->(storeCells ⟨(ρ c).1,o+n*k,none⟩ news).run P w=.ok () w1->(∀ j,j < news.length->(w.cell? ⟨(ρ c).1,o+n*k+j,none⟩).isSome=true)->(∀ j,j < news.length->w.frozen? ⟨(ρ c).1,o+n*k+j,none⟩=false) ->
     (Builtin.append_ #[t,t'] ty #[.slice (some ⟨(ρ c).1,o,none⟩) n K,v]).run P w=.ok (.slice (some ⟨(ρ c).1,o,none⟩) (n+m) K) w1:=fun {w1} g1 g2 g3 g4=>by
    have h1:=run_append_room_src w t t' ty el inf hu i1 (ρ c).1 o n K v m news (by rw [i3];exact hs) g1 (by rw [i3];exact g3) (by rw [i3];exact g4)
    have h2:=run_storeCells_cells (P:=P) (ρ c).1 (o+n*k) news 0 w (by simpa using g3) (by simpa using g4) hs.one
    rw [g2] at h2
    simp only [Nat.add_zero,Result.ok.injEq,true_and] at h2
    rw [h1,i3,<-h2]
   have blk:∀ {l kin:_},h.get c=some (.cs l kin false)->o+n*k+news.length<=l.length\/o+n*k+news.length<=(ρ c).2->(∀ j,j < news.length->(w.cell? ⟨(ρ c).1,o+n*k+j,none⟩).isSome=true)/\∀ j,j < news.length->w.frozen? ⟨(ρ c).1,o+n*k+j,none⟩=false:=fun {l kin} g1 g2=>by
    obtain ⟨C,t1,fr,h1,h2,h3,h4,_⟩:=s.holds g1
    obtain rfl:=h2 rfl
    refine ⟨fun j hj=>?_,fun j hj=>?_⟩
    ·have:o+n*k+j < C.size:=by rcases g2 with g2 | g2<;>omega
     simp [World.cell?,h1,Array.getElem?_eq_getElem this]
    ·simp [World.frozen?,h1]
   cases hr:Nat.ble (n+m) cp with
   | true =>
    rw [hr] at e
    simp only [cond_true,Option.bind_eq_some_iff,Option.map_eq_some_iff] at e
    obtain ⟨l,hl,l',hs',h2,hw,e⟩:=e
    cases e
    have hr:=Nat.le_of_ble_eq_true hr
    have hput:l'=l.take (o+n*k)++ys++l.drop (o+n*k+ys.length)/\o+n*k<=l.length/\(o+n*k+ys.length<=l.length\/o+n*k+ys.length<=(ρ c).2):=by
     cases hq:(Nat.beq q k&&Nat.beq l.length (o+n*k)) with
     | true =>
      rw [hq] at hs'
      cases hs'
      simp only [Bool.and_eq_true] at hq
      have q1:=Nat.eq_of_beq_eq_true hq.1
      have q2:=Nat.eq_of_beq_eq_true hq.2
      refine ⟨by rw [<-q2];simp,by omega,.inr ?_⟩
      have:=p5 (by omega)
      rw [q1] at this
      have h8:(n+m)*k<=K*k:=Nat.mul_le_mul_right _ (by omega)
      rw [Nat.add_mul] at h8
      omega
     | false =>
      rw [hq] at hs'
      obtain ⟨q1,q2⟩:=H7 hs'
      exact ⟨q2,by omega,.inl q1⟩
    obtain ⟨w1,r1,r2⟩:=s.store (P:=P) hl hw hput.1 hput.2.1 hR hput.2.2
    obtain ⟨l0,kin,g1,_,hok,_⟩:=s.wr hw
    obtain ⟨kin',ro',g2⟩:=GH.cells_some hl
    rw [g1] at g2
    cases g2
    obtain ⟨b1,b2⟩:=blk g1 (by rw [<-hyl];exact hput.2.2)
    refine ⟨_,w1,ρ,room (by omega) r1 b1 b2,r2,?_⟩
    rw [hok]
    exact .s hc (by omega) p2 p3 p4 p5
   | false =>
    rw [hr] at e
    have hr:¬ n+m<=cp:=fun g=>by rw [Nat.ble_eq_true_of_le g] at hr;cases hr
    obtain ⟨hfit,e⟩:=Cw e
    simp only [Bool.and_eq_true] at hfit
    have f1:=Nat.le_of_ble_eq_true hfit.1
    have f2:=Nat.le_of_ble_eq_true hfit.2
    split at e
    case h_2=>cases e
    rename_i l kin ro hg
    simp only [Option.bind_eq_some_iff] at e
    obtain ⟨pre,hpre,e⟩:=e
    obtain ⟨rfl,t1⟩:=Eb hpre
    rw [Lp] at t1 e
    obtain ⟨f,hf⟩:=s.cell (show h.cells c=some l by simp [GH.cells,hg])
    have hlen:((l.drop o).take (n*k)).length=n*k:=by rw [List.length_take];exact Nat.min_eq_left t1
    have hat:∀ (j:Nat) x,((l.drop o).take (n*k))[j]? = some x->l[o+j]? = some x:=fun j x hj=>by
     have:=(List.getElem?_eq_some_iff.1 hj).1
     rw [hlen] at this
     rwa [List.getElem?_take_of_lt this,List.getElem?_drop] at hj
    have hO:RCs (okH h) ρ ((l.drop o).take (n*k)) ((List.range (n*k)).map fun j=>f (o+j)):=⟨by rw [hlen];simp,fun j x u a b=>by
     have h2:=(List.getElem?_eq_some_iff.1 b).1
     simp only [List.length_map,List.length_range] at h2
     rw [List.getElem?_map,List.getElem?_range h2] at b
     obtain rfl:=Option.some.inj b
     exact (hf _ x (hat j x a)).2⟩
    have hfirst:(Builtin.firstCells k n (.slice (some ⟨(ρ c).1,o,none⟩) n K)).run P w.drew=.ok ((List.range (n*k)).map fun j=>f (o+j)).toArray w.drew:=run_firstCells_some w.drew k n _ n K _ (by simp) fun j u hj=>by
     have h2:=(List.getElem?_eq_some_iff.1 hj).1
     simp only [List.length_map,List.length_range] at h2
     rw [List.getElem?_map,List.getElem?_range h2] at hj
     obtain rfl:=Option.some.inj hj
     rw [Dh]
     exact (hf _ _ (hat j _ (List.getElem?_eq_getElem (by omega)))).1
    cases hq:Nat.beq q 0 with
    | true =>
     rw [hq] at e
     have:=p4 (Nat.eq_of_beq_eq_true hq)
     exact mk (by omega) hfirst hO (by simp) (by omega) f1 f2 (by simpa using e)
    | false =>
     rw [hq] at e
     simp only [cond_false] at e
     obtain ⟨hc4,e3⟩:=Bj e
     clear e
     simp only [Bool.and_eq_true,Bool.not_eq_true'] at hc4
     obtain ⟨⟨⟨⟨c1,c2⟩,c3⟩,c4⟩,c5⟩:=hc4
     obtain rfl:=Nat.eq_of_beq_eq_true c1
     obtain rfl:=Nat.eq_of_beq_eq_true c2
     have c3:=Nat.eq_of_beq_eq_true c3
     subst c4
     have c5:=Nat.le_of_ble_eq_true c5
     have hl0:(l.drop 0).take (n*q)=l:=by rw [List.drop_zero,<-c3,List.take_length]
     rw [hl0] at e3 hO hlen
     cases e3
     by_cases hroom:n+m<=K
     ·have h9:=p5 (by omega)
      have h8:(n+m)*q<=K*q:=Nat.mul_le_mul_right _ (by omega)
      rw [Nat.add_mul] at h8
      obtain ⟨w1,ρ',r1,r2,r3,r4⟩:=s.extend (P:=P) hg c5 hR (by omega)
      obtain ⟨b1,b2⟩:=blk hg (.inr (by omega))
      rw [c3] at r1
      refine ⟨_,w1,ρ',room hroom (by simpa using r1) b1 b2,r4,?_⟩
      have:=RC.s (ρ:=ρ') (o:=0) (n:=n+m) (k:=n+m) (K:=K) (e:=q) r3 (Nat.le_refl _) hroom p3 (fun g=>by omega) (fun g=>by rw [r2];exact p5 g)
      rwa [r2] at this
     ·obtain ⟨G,w',g1,g2,g3,g4,C,g5,g6,g7,g8⟩:=Av2 (ty:=ty) s ht hz hzl hs hR (by omega) hfirst hO (by simp) (by omega) f1 f2
      have p1':D5 ρ h (h.setT c (.cs l kin true)) B w w ρ:=s.shut hg c5
      obtain ⟨ρ',e1,p⟩:=p1'.sr.new (b:=.cs (l++ys) (c :: kin) false) (w':=w') (g:=(w.heap.size,C.size)) g4 rfl fun ρ' _ hx _=>⟨C,el,(0,0),g5,fun _=>rfl,g7,Nat.le_refl _,fun j x u a b=>⟨(g8 j x u a b).1.ext hx,(g8 j x u a b).2⟩⟩
      refine ⟨_,w',ρ',g3,p1'.trans p,?_⟩
      have:=RC.s (ρ:=ρ') (o:=0) (n:=n+m) (k:=n+m) (K:=G) (e:=q) (G7 p1'.sr (.cs (l++ys) (c :: kin) false)) (Nat.le_refl _) g1 g2 (fun g=>by omega) (fun g=>by have h7:ρ' h.nx=_:=e1;rw [show (h.setT c (GB.cs l kin true)).nx=h.nx from rfl,h7];simp only;omega)
      rwa [e1] at this
 ·cases e
theorem S4 (w:World) (t tx ty e:TypeId) (i:TypeInfo) (z:Value) (k:IntKind) (kk:IntKind) (ht:P.underlying t=some (.slice e)) (hk:P.underlying tx=some (.int k)) (hi:P.info? e=some i) (hz:i.zero=some z) (m:Nat) (hm:0 < m) (h30:m<=16777216) (hb:m*i.bytes<=140737488355328) (hs:0 < i.size) :
  (Builtin.append_ #[t,tx] ty #[.slice none 0 0,.int kk (m:Nat)]).run P w=.ok (.slice (some ⟨w.heap.size,0,none⟩) m (grownCap w m 0 e)) (w.drew.alloc (.cells (Builtin.zeroCells z.cells m++Builtin.zeroCells z.cells (grownCap w m 0 e - m)) e)):=by
 have wm:IntKind.i64.wrap (m:Int)=m:=by rw [IntKind.wrap_i64];omega
 have h1:¬ ((m:Int) < 0):=by omega
 have h2:¬ ((m:Int)*(i.bytes:Int) > 2 ^ 48):=by
  rw [<-Int.natCast_mul]
  have:((m*i.bytes:Nat):Int)<=140737488355328:=Int.ofNat_le.2 hb
  omega
 have h2':¬ (281474976710656 < (m:Int)*(i.bytes:Int)):=by simpa using h2
 have h3:¬ m=0:=by omega
 have h4:¬ m*i.size=0:=fun h=>by rcases Nat.mul_eq_zero.1 h with g | g<;>omega
 have h5:¬ (9223372036854775807 < (m:Int)):=by omega
 have h6:¬ (281474976710656 < Builtin.nextslicecap m 0*i.bytes):=by rw [nextslicecap_zero hm];omega
 simp [Builtin.append_,run_underlying ht,run_underlying hk,asInt,asIntOf,wm,h1,h2',h3,h4,h5,h6,sizeOf,typeInfo,zeroValue,hi,hz,Question.forced,newRow,grownCap,Builtin.firstCells]
theorem Cs4 {t t':TypeId} {y z:Operand} (e:Bs5 P t t' (L y) (L z) h=some (x,h')):Cg P L h ⟨dst,.call { callee:=.builtin .append,args:=#[y,z],argTypes:=#[t,t'] },ty,pos,after,gd⟩ x h':=by
 unfold Bs5 at e
 split at e
 case h_2=>cases e
 rename_i el k b ht
 simp only [Option.bind_eq_some_iff] at e
 obtain ⟨zs,hz,e⟩:=e
 obtain ⟨h1,e⟩:=Cw e
 simp only [Bool.and_eq_true] at h1
 have hk:=Bk.1 h1.1
 intro ρ B w a s hL
 have exec:∀ {v':Value} {w':World},(Builtin.append_ #[t,t'] ty #[a.eval y,a.eval z]).run P w=.ok v' w'->(execOp a.eval ⟨dst,.call { callee:=.builtin .append,args:=#[y,z],argTypes:=#[t,t'] },ty,pos,after,gd⟩).run P w=.ok (.value v') w':=fun h3=>by
  simp [execOp,resolve,invoke,builtin,h3]
 split at e
 ·rename_i kk n hz2
  split at e
  ·rename_i _ _ k2 ht2 hy
   have e:(bif Nat.blt 0 n.toNat&&Nat.ble (n.toNat*b) 140737488355328&&Nat.ble (n.toNat*k) 16777216 then some (S6 h (Qd zs n.toNat) n.toNat n.toNat k []) else none)=some (x,h'):=e
   obtain ⟨h2,e5⟩:=Bj e
   clear e
   simp only [Bool.and_eq_true] at h2
   obtain ⟨⟨b1,b2⟩,b3⟩:=h2
   have q1:=Bk.1 b1
   have q2:=Nat.le_of_ble_eq_true b2
   have q3:=Nat.le_of_ble_eq_true b3
   obtain ⟨inf,zz,i1,i2,i3,i4,rfl,i5,i6⟩:=Gy hz ht h1.2
   obtain ⟨hu,_⟩:=Bw ht
   have hyv:=hL y
   rw [hy] at hyv
   have hzv:=hL z
   rw [hz2] at hzv
   obtain ⟨m,hm⟩ : ∃ m:Nat,n.toNat=m:=⟨_,rfl⟩
   rw [hm] at q1 q2 q3 e5
   have hn:n=(m:Nat):=by omega
   subst hn
   have hmk:m<=16777216:=Nat.le_trans (Nat.le_mul_of_pos_right m hk) q3
   have hrun:=S4 (P:=P) w t t' ty el inf zz k2 kk hu (Ld ht2) i1 i2 m q1 hmk (by rw [i4];exact q2) (by omega)
   have g1:=grownCap_ge w m 0 el
   have g2:=grownCap_le_maxLen w m 0 el (by unfold maxLen;omega)
   generalize grownCap w m 0 el=G at hrun g1 g2
   have hR:=R8 (ok:=okH h) (ρ:=ρ) i5 m
   rw [i6] at hR
   have hzc:∀ q,(Builtin.zeroCells zz.cells q)=madeCells zz.cells (q*k):=fun q=>by simp [Builtin.zeroCells,madeCells,i6]
   rw [hzc,hzc] at hrun
   have hCs:(madeCells zz.cells (m*k)++madeCells zz.cells ((G - m)*k)).size=G*k:=by
    simp only [Array.size_append,madeCells,Array.size_map,Array.size_range]
    rw [<-Nat.add_mul];congr 1;omega
   have hl:=hR.1.trans Array.length_toList
   obtain ⟨ρ',p,hr⟩:=P6 s (w':=_) (w0:=w.drew) (l:=Qd (zz.cells.toList.map .v) m) (C:=madeCells zz.cells (m*k)++madeCells zz.cells ((G - m)*k)) (t:=el) rfl ⟨rfl,rfl,rfl,rfl⟩ (by rw [Array.size_append];omega) (fun j x u a b=>hR.2 j x u a (by
    rw [Array.getElem?_append_left (by have:=(List.getElem?_eq_some_iff.1 a).1;omega)] at b
    rw [Array.getElem?_toList];exact b)) (n:=m) (k:=m) (K:=G) (e:=k) (Nat.le_refl _) g1 g2 (fun g=>by omega) (fun g=>by rw [hCs];exact Nat.le_refl _)
   rw [e5] at p hr
   exact ⟨_,_,ρ',.inl (exec (by rw [hyv.v_inv,hzv.v_inv];exact hrun)),p,hr⟩
  ·cases e
 ·rename_i hz3
  obtain ⟨h2,e⟩:=Cw e
  obtain ⟨q,w',ρ',r1,r2,r3⟩:=Bf5 (ty:=ty) s ht hz h1.2 hk (hL y) (hL z) h2 e
  exact ⟨q,w',ρ',.inl (exec r1),r2,r3⟩
theorem Cr9 {t:TypeId} {r:Option Operand} (e:Bs1 P t (r.map L) h=some (x,h')):Cg P L h ⟨dst,.makeMap t r,ty,pos,after,gd⟩ x h':=by
 unfold Bs1 at e
 split at e
 case h_2=>cases e
 rename_i k z ht
 have run:∀ {a:Act} {w:World},(∀ y,r=some y->∃ q m,a.eval y=.int q m)->(execOp a.eval ⟨dst,.makeMap t r,ty,pos,after,gd⟩).run P w=.ok (.value (.map (some w.heap.size))) (w.alloc (.map #[] 0)):=fun {a w} hr=>by
  obtain ⟨kt,et,hu,_,_⟩:=Lc (w:=w) ht
  cases r with
  | none=>simp [execOp,Instr.makeMap]
  | some y =>
   obtain ⟨q,m,hx⟩:=hr y rfl
   simp [execOp,Instr.makeMap,hx,run_underlying hu,asInt,asIntOf]
 have fin:(∀ {ρ:Nat->Nat×Nat} {a:Act},(∀ y,RC (okH h) ρ (L y) (a.eval y))->∀ y,r=some y->∃ q m,a.eval y=.int q m)->(CV.m h.nx,h.new (.mp k []))=(x,h')->Cg P L h ⟨dst,.makeMap t r,ty,pos,after,gd⟩ x h':=fun h1 e ρ B w a s hL=>by
  cases e
  obtain ⟨ρ',e1,p⟩:=s.new (b:=.mp k []) (w':=w.alloc (.map #[] 0)) (g:=(w.heap.size,0)) (An (Below.refl _ w)) rfl fun ρ' _ hx _=>⟨#[],0,World.alloc_heap_new _ _,rfl⟩
  refine ⟨_,_,ρ',.inl (run (h1 hL)),p,?_⟩
  have:=RC.m (ρ:=ρ') (G7 s (.mp k []))
  rwa [e1] at this
 split at e
 ·rename_i hr
  exact fin (fun hL y hy=>by subst hy;simp at hr) (Option.some.inj e)
 ·rename_i kk m hr
  refine fin (fun hL y hy=>?_) (Option.some.inj e)
  subst hy
  simp only [Option.map_some,Option.some.injEq] at hr
  have:=hL y
  rw [hr] at this
  exact ⟨kk,m,this.v_inv⟩
 ·cases e
end
section
variable {P : Program} {L : Operand -> CV} {h h' : GH} {o : Oper} {x : CV} {eqT : Nat -> Bool}
variable {dst : Option Tmp} {ty : TypeId} {pos : String} {after : Array Edge} {gd : Option (Nat × Bool)}
variable {ρ : Nat -> Nat × Nat}
theorem Wo {B:Nat} {w:World} (s:SR ρ h B w) {k:Nat} {y:CV} {m:Nat} {ys:List CV} (e:Sw h k y=some (m,ys)) {t':TypeId} (ht:A76 P t' y=true) {u:Value} (hu:RC (okH h) ρ y u) (q:Nat) (hq:q<=m) :
  (Builtin.lenOf u).run P w=.ok m w/\∀ {ys':List CV},Qw ys (q*k)=some ys'->∃ news:List Value,(Builtin.firstCells k q u).run P w=.ok news.toArray w/\RCs (okH h) ρ ys' news/\news.length=q*k:=by
 unfold Sw at e
 split at e
 ·cases e
  rw [hu.v_inv]
  obtain rfl:q=0:=by omega
  refine ⟨rfl,fun hy=>⟨[],run_firstCells_none _ _ _ _ _,?_,by simp⟩⟩
  obtain ⟨rfl,_⟩:=Eb hy
  simpa using RCs.nil
 ·cases e
  obtain ⟨A,K,rfl,_⟩:=hu.z_inv
  obtain rfl:q=0:=by omega
  refine ⟨rfl,fun hy=>⟨[],run_firstCells_some w k 0 A 0 K [] (by simp) (fun j u h=>by simp at h),?_,by simp⟩⟩
  obtain ⟨rfl,_⟩:=Eb hy
  simpa using RCs.nil
 ·rename_i c o n cp q'
  simp only [Option.bind_eq_some_iff,Option.map_eq_some_iff,Prod.mk.injEq] at e
  obtain ⟨l,hl,m',hm,rfl,rfl⟩:=e
  obtain ⟨rfl,h1⟩:=Eb hm
  rw [Lp] at h1 ⊢
  obtain ⟨f,hf⟩:=s.cell hl
  obtain ⟨K,rfl,_⟩:=hu.s_inv
  refine ⟨rfl,fun hy=>?_⟩
  obtain ⟨rfl,h2⟩:=Eb hy
  have hle:q*k<=n*k:=Nat.mul_le_mul_right _ hq
  rw [List.take_take,Nat.min_eq_left hle]
  have hlen:((l.drop o).take (q*k)).length=q*k:=by rw [List.length_take];omega
  have hm:∀ (j:Nat) x,((l.drop o).take (q*k))[j]? = some x->l[o+j]? = some x:=fun j x hj=>by
   have:=(List.getElem?_eq_some_iff.1 hj).1
   rw [hlen] at this
   rwa [List.getElem?_take_of_lt this,List.getElem?_drop] at hj
  have hget:∀ (j:Nat) u,((List.range (q*k)).map fun j=>f (o+j))[j]? = some u->j < q*k/\u=f (o+j):=fun j u hj=>by
   have h2:=(List.getElem?_eq_some_iff.1 hj).1
   simp only [List.length_map,List.length_range] at h2
   rw [List.getElem?_map,List.getElem?_range h2] at hj
   exact ⟨h2,(Option.some.inj hj).symm⟩
  refine ⟨_,run_firstCells_some w k q ⟨(ρ c).1,o,none⟩ n K ((List.range (q*k)).map fun j=>f (o+j)) (by simp) (fun j u hj=>?_),⟨by rw [hlen];simp,fun j x u a b=>?_⟩,by simp⟩
  ·obtain ⟨h2,rfl⟩:=hget j u hj
   rw [Dh]
   exact (hf _ _ (hm j _ (List.getElem?_eq_getElem (by omega)))).1
  ·obtain ⟨_,rfl⟩:=hget j u b
   exact (hf _ x (hm j x a)).2
 ·rename_i z
  obtain ⟨hk,e⟩:=Bj e
  cases e
  obtain rfl:=Nat.eq_of_beq_eq_true hk
  rw [hu.v_inv]
  refine ⟨rfl,fun hy=>?_⟩
  obtain ⟨rfl,h2⟩:=Eb hy
  simp only [Nat.mul_one] at h2 ⊢
  refine ⟨((byteCells z).take q),?_,⟨by simp [byteCells],fun j x u a b=>?_⟩,by rw [List.length_take];simp [byteCells] at h2 ⊢;omega⟩
  ·simp [Builtin.firstCells,byteCells]
   apply Array.ext'
   simp
  ·have hj:j < q:=by have:=(List.getElem?_eq_some_iff.1 a).1;simp at this;omega
   rw [List.getElem?_take_of_lt hj] at a b
   simp only [byteCells,List.getElem?_map,Option.map_eq_some_iff] at a b
   obtain ⟨q,hq,rfl⟩:=a
   obtain ⟨q',hq',rfl⟩:=b
   rw [hq] at hq'
   obtain rfl:=Option.some.inj hq'
   exact ⟨RC.int,rfl⟩
 ·cases e
theorem Bm7 {t:TypeId} {y:Operand} (e:Ah6 P t (L y) h=some (x,h')):Cg P L h ⟨dst,.call { callee:=.builtin .clear,args:=#[y],argTypes:=#[t] },ty,pos,after,gd⟩ x h':=by
 unfold Ah6 at e
 split at e
 case h_2=>cases e
 rename_i el k b ht
 obtain ⟨hu,_⟩:=Bw ht
 intro ρ B w a s hL
 have exec:∀ {w':World},(Builtin.clear_ #[t] ty #[a.eval y]).run P w=.ok (.tuple #[]) w'->(execOp a.eval ⟨dst,.call { callee:=.builtin .clear,args:=#[y],argTypes:=#[t] },ty,pos,after,gd⟩).run P w=.ok (.value (.tuple #[])) w':=fun h3=>by
  simp [execOp,resolve,invoke,builtin,h3]
 have none_:∀ {A:Option Addr} {K:Nat},a.eval y=.slice A 0 K->(CV.v undef,h)=(x,h')->∃ v w' ρ',((execOp a.eval ⟨dst,.call { callee:=.builtin .clear,args:=#[y],argTypes:=#[t] },ty,pos,after,gd⟩).run P w=.ok (.value v) w'\/((execOp a.eval ⟨dst,.call { callee:=.builtin .clear,args:=#[y],argTypes:=#[t] },ty,pos,after,gd⟩).run P w=.ok .skip w'/\v=undef))/\D5 ρ h h' B w w' ρ'/\RC (okH h') ρ' x v:=fun {A K} hy e=>by
  cases e
  refine ⟨_,w,ρ,.inl (exec ?_),D5.refl s,RC.undef⟩
  rw [hy]
  cases A<;>simp [Builtin.clear_,run_underlying hu]
 split at e
 ·rename_i hy
  have hyv:=hL y
  rw [hy] at hyv
  exact none_ hyv.v_inv (Option.some.inj e)
 ·rename_i hy
  have hyv:=hL y
  rw [hy] at hyv
  obtain ⟨A,K,hyv,_⟩:=hyv.z_inv
  exact none_ hyv (Option.some.inj e)
 ·rename_i c o n cp q hy
  have hyv:=hL y
  rw [hy] at hyv
  obtain ⟨K,hyv,hc,p1,p2,p3,p4,p5⟩:=hyv.s_inv
  cases hn:Nat.beq n 0 with
  | true =>
   rw [hn] at e
   obtain rfl:=Nat.eq_of_beq_eq_true hn
   exact none_ hyv (Option.some.inj e)
  | false =>
   rw [hn] at e
   simp only [cond_false,Option.bind_eq_some_iff] at e
   obtain ⟨z,hz,e⟩:=e
   obtain ⟨hk,e⟩:=Cw e
   simp only [Option.bind_eq_some_iff,Option.map_eq_some_iff] at e
   obtain ⟨l,hl,l',hs',h2,hw,e⟩:=e
   cases e
   have hn0:=Nat.ne_of_beq_eq_false hn
   obtain ⟨inf,zz,i1,i2,i3,i4,rfl,i5,i6⟩:=Gy hz ht hk
   have hR:=R8 (ok:=okH h) (ρ:=ρ) i5 n
   obtain ⟨q1,q2⟩:=H7 hs'
   obtain ⟨w1,r1,r2⟩:=s.store (P:=P) hl hw q2 (by omega) hR (.inl q1)
   have hzc:(Builtin.zeroCells zz.cells n)=madeCells zz.cells (n*zz.cells.size):=by simp [Builtin.zeroCells,madeCells]
   refine ⟨_,w1,ρ,.inl (exec ?_),r2,RC.undef⟩
   rw [hyv]
   obtain ⟨n,rfl⟩ : ∃ m,n=m+1:=⟨n - 1,by omega⟩
   simp [Builtin.clear_,run_underlying hu,zeroValue,typeInfo,i1,i2,hzc,r1]
 ·cases e
theorem C09 {t t':TypeId} {y z:Operand} (e:B37 P t t' (L y) (L z) h=some (x,h')):Cg P L h ⟨dst,.call { callee:=.builtin .copy,args:=#[y,z],argTypes:=#[t,t'] },ty,pos,after,gd⟩ x h':=by
 unfold B37 at e
 split at e
 case h_2=>cases e
 rename_i el k b ht
 simp only [Option.bind_eq_some_iff] at e
 obtain ⟨⟨m,ys⟩,he,e⟩:=e
 obtain ⟨hs2,e⟩:=Cw e
 obtain ⟨hu,inf,i1,i3,_⟩:=Bw ht
 intro ρ B w a s hL
 have exec:∀ {v':Value} {w':World},(Builtin.copy_ #[t,t'] ty #[a.eval y,a.eval z]).run P w=.ok v' w'->(execOp a.eval ⟨dst,.call { callee:=.builtin .copy,args:=#[y,z],argTypes:=#[t,t'] },ty,pos,after,gd⟩).run P w=.ok (.value v') w':=fun h3=>by
  simp [execOp,resolve,invoke,builtin,h3]
 have zero:∀ {A:Option Addr} {K:Nat},a.eval y=.slice A 0 K->(CV.v (.int .i64 0),h)=(x,h')->∃ v w' ρ',((execOp a.eval ⟨dst,.call { callee:=.builtin .copy,args:=#[y,z],argTypes:=#[t,t'] },ty,pos,after,gd⟩).run P w=.ok (.value v) w'\/((execOp a.eval ⟨dst,.call { callee:=.builtin .copy,args:=#[y,z],argTypes:=#[t,t'] },ty,pos,after,gd⟩).run P w=.ok .skip w'/\v=undef))/\D5 ρ h h' B w w' ρ'/\RC (okH h') ρ' x v:=fun {A K} hy e=>by
  cases e
  obtain ⟨h1,h2⟩:=Wo (P:=P) s he hs2 (hL z) 0 (Nat.zero_le _)
  obtain ⟨news,h3,h4,h5⟩:=h2 (ys':=[]) (by rw [Nat.zero_mul];cases ys<;>rfl)
  have:news=[]:=List.eq_nil_of_length_eq_zero (by omega)
  subst this
  refine ⟨.int .i64 0,w,ρ,.inl (exec ?_),D5.refl s,RC.int⟩
  rw [hy]
  have hm0:Nat.min m 0=0:=Nat.min_zero _
  cases A<;>simp [Builtin.copy_,run_underlying hu,h1,sizeOf,typeInfo,i1,i3,hm0,h3,storeCells,goInt]
 split at e
 ·rename_i c o n cp q hy
  simp only [Option.bind_eq_some_iff,Option.map_eq_some_iff] at e
  obtain ⟨ys',hy',l,hl,l',hs',h2,hw,e⟩:=e
  cases e
  have hyv:=hL y
  rw [hy] at hyv
  obtain ⟨K,hyv,hc,p1,p2,p3,p4,p5⟩:=hyv.s_inv
  obtain ⟨h1,h3⟩:=Wo (P:=P) s he hs2 (hL z) (Nat.min m n) (Nat.min_le_left _ _)
  obtain ⟨news,h4,h5,h6⟩:=h3 hy'
  obtain ⟨q1,q2⟩:=H7 hs'
  obtain ⟨w1,r1,r2⟩:=s.store (P:=P) hl hw q2 (by omega) h5 (.inl q1)
  refine ⟨.int .i64 (Nat.min m n:Nat),w1,ρ,.inl (exec ?_),r2,RC.int⟩
  rw [hyv]
  simp [Builtin.copy_,run_underlying hu,h1,sizeOf,typeInfo,i1,i3,h4,r1,goInt]
 ·rename_i hy
  have hyv:=hL y
  rw [hy] at hyv
  obtain ⟨A,K,hyv,_⟩:=hyv.z_inv
  exact zero hyv (Option.some.inj e)
 ·rename_i hy
  have hyv:=hL y
  rw [hy] at hyv
  exact zero hyv.v_inv (Option.some.inj e)
 ·cases e
theorem Yi {v:Value} (h:v.oneCell'=true):∀ a,v≠.agg a:=fun a e=>by subst e;cases h
theorem Bx3 {kv:List (Int×Value)} {m:Int} {u:Value} (h1:kv.all (fun e=>e.2.oneCell')=true) (h2:J3 kv m=some u):u.oneCell'=true:=by
 induction kv with
 | nil=>cases h2
 | cons p r ih =>
  obtain ⟨i,v⟩:=p
  simp only [List.all_cons,Bool.and_eq_true] at h1
  simp only [J3] at h2
  split at h2
  ·cases h2;exact h1.1
  ·exact ih h1.2 h2
theorem C07 {t:TypeId} {y i:Operand} {okb:Bool} (e:B35 P t (L y) (L i) okb h=some (x,h')):Cg P L h ⟨dst,.lookup t y i okb,ty,pos,after,gd⟩ x h':=by
 unfold B35 at e
 split at e
 case h_2=>cases e
 rename_i c k' m hy hi
 split at e
 case h_2=>cases e
 rename_i k z k'' kv ht hg
 obtain ⟨h1,e⟩:=Bj e
 cases e
 simp only [Bool.and_eq_true,decide_eq_true_eq,Bool.not_eq_true'] at h1
 obtain ⟨⟨⟨⟨rfl,rfl⟩,rfl⟩,hz1⟩,hk1⟩:=h1
 refine Cg.pure_ fun ρ B w a s hL=>?_
 obtain ⟨kt,et,h1,h2,z1⟩:=Lc (w:=w) ht
 obtain ⟨es,cl,p1,p2⟩:=s.holds hg
 have hyv:=hL y
 rw [hy] at hyv
 have hiv:=hL i
 rw [hi] at hiv
 have hkey:=MapKept.run_checkKey (P:=P) (w:=w) h2 (k:=.int k'' m) (by simp [MapKept.IsKey]) es.isEmpty 9999
 rcases Rq (k:=k'') (m:=m) 0 p2 with ⟨f1,f2,_⟩ | ⟨j,v,f1,f2,_⟩
 ·rw [f2]
  have hf:=MapKept.run_findKey (P:=P) (w:=w) h2 f1
  refine ⟨z,?_,.v (Yi hz1)⟩
  simp only [execOp,hyv.m_inv.1,hiv.v_inv]
  refine C6 ?_
  simp [Instr.lookup,run_underlying h1,MapKept.run_getObj_map p1,hkey,hf,z1]
 ·rw [f2]
  have hf:=MapKept.run_findKey (P:=P) (w:=w) h2 f1
  refine ⟨v,?_,.v (Yi (Bx3 hk1 f2))⟩
  simp only [execOp,hyv.m_inv.1,hiv.v_inv]
  refine C6 ?_
  simp [Instr.lookup,run_underlying h1,MapKept.run_getObj_map p1,hkey,hf]
theorem C05 {t:TypeId} {y i z:Operand} (e:B33 P t (L y) (L i) (L z) h=some (x,h')):Cg P L h ⟨dst,.mapUpdate t y i z,ty,pos,after,gd⟩ x h':=by
 unfold B33 at e
 split at e
 case h_2=>cases e
 rename_i c k' m u hy hi hz
 split at e
 case h_2=>cases e
 rename_i k zz k'' kv ht hg
 obtain ⟨h1,e⟩:=Cw e
 simp only [Bool.and_eq_true,decide_eq_true_eq] at h1
 obtain ⟨rfl,rfl⟩:=h1
 simp only [Option.map_eq_some_iff] at e
 obtain ⟨h2',hp,e⟩:=e
 cases e
 intro ρ B w a s hL
 obtain ⟨kt,et,h1,h2,_⟩:=Lc (w:=w) ht
 obtain ⟨es,cl,p1,p2⟩:=s.holds hg
 have hyv:=hL y
 rw [hy] at hyv
 have hiv:=hL i
 rw [hi] at hiv
 have hzv:=hL z
 rw [hz] at hzv
 have hkey:=MapKept.run_checkKey (P:=P) (w:=w) h2 (k:=.int k'' m) (by simp [MapKept.IsKey]) false 9999
 have hlt:=(Array.getElem?_eq_some_iff.1 p1).1
 have fin:∀ (es':Array MapEntry) (cl':Nat),es'.toList.map (fun e=>(e.key,e.val))=(K3 kv m u).map (fun x=>(Value.int k'' x.1,x.2))->(execOp a.eval ⟨dst,.mapUpdate t y i z,ty,pos,after,gd⟩).run P w=.ok .skip (w.putObj (ρ c).1 (.map es' cl'))->∃ v w' ρ',((execOp a.eval ⟨dst,.mapUpdate t y i z,ty,pos,after,gd⟩).run P w=.ok (.value v) w'\/((execOp a.eval ⟨dst,.mapUpdate t y i z,ty,pos,after,gd⟩).run P w=.ok .skip w'/\v=undef))/\D5 ρ h h' B w w' ρ'/\RC (okH h') ρ' (.v undef) v:=fun es' cl' q1 q2=>by
  refine ⟨undef,_,ρ,.inr ⟨q2,rfl⟩,s.put hp hg (fun _ _ _ g=>by cases g) rfl (by simp) ⟨rfl,rfl,rfl⟩ (fun g hg'=>World.putObj_heap_other hg') ⟨es',cl',World.putObj_heap_same hlt,q1⟩,RC.undef⟩
 rcases Rq (k:=k'') (m:=m) 0 p2 with ⟨f1,f2,f3⟩ | ⟨j,v,f1,f2,⟨e,f4,f5⟩,f6⟩
 ·have hf:=MapKept.run_findKey (P:=P) (w:=w) h2 f1
  refine fin (es.push { key:=.int k'' m,val:=u,born:=cl }) (cl+1) (by rw [f3];simp [p2]) ?_
  simp only [execOp,hyv.m_inv.1,hiv.v_inv,hzv.v_inv]
  simp [Instr.mapUpdate,run_underlying h1,MapKept.run_getObj_map p1,hkey,hf,MapKept.run_setObj_map _ p1,World.putObj]
 ·have hf:=MapKept.run_findKey (P:=P) (w:=w) h2 f1
  simp only [Nat.zero_add] at hf
  have hst:=MapKept.run_keyThatStays (P:=P) (w:=w) (d:=.int k'') (k:=.int k'' m) (by simp [MapKept.IsKey])
  have hk:((es[j]?).map (·.key)).getD (Value.int k'' m)=.int k'' m:=by rw [<-Array.getElem?_toList,f4];exact f5
  refine fin (es.modify j fun e=>{ e with key:=.int k'' m,val:=u }) cl (by rw [Array.toList_modify];exact f6 _ _ rfl) ?_
  simp only [execOp,hyv.m_inv.1,hiv.v_inv,hzv.v_inv]
  simp [Instr.mapUpdate,run_underlying h1,MapKept.run_getObj_map p1,hkey,hf,hk,hst,MapKept.run_setObj_map _ p1,World.putObj]
theorem Tu:∀ {l:List CV} {ns:List Nat},A44 l=some ns->ns.length=l.length/\∀ (i n:Nat),ns[i]? = some n->l[i]? = some (.v (.int .u8 (n:Nat)))
 | [],ns,e=>by cases e;exact ⟨rfl,fun i n h=>by simp at h⟩
 | x :: l,ns,e=>by
  simp only [A44] at e
  split at e
  ·rename_i n r h1 h2
   cases e
   obtain ⟨h3,h4⟩:=Tu h2
   refine ⟨by simp [h3],fun i m hi=>?_⟩
   cases i with
   | zero =>
    simp at hi;subst hi
    unfold u8C at h1
    split at h1
    ·cases h1;rfl
    ·cases h1
   | succ i=>exact h4 i m (by simpa using hi)
  ·cases e
theorem C10 {sr d:TypeId} {y:Operand} (e:Bd2 P sr d h (L y)=some (x,h')):Cg P L h ⟨dst,.convert sr d y,ty,pos,after,gd⟩ x h':=by
 unfold Bd2 at e
 split at e
 ·rename_i k m hy
  split at e
  ·rename_i k1 k2 h1 h2
   cases e
   refine Cg.pure_ fun ρ B w a s hL=>⟨.int k2 (k2.wrap m),?_,RC.int⟩
   have hyv:=hL y
   rw [hy] at hyv
   simp only [execOp,hyv.v_inv]
   exact C6 (by simp [convert,run_underlying (Ld h1),run_underlying (Ld h2),Conv.intToInt])
  ·cases e
 ·rename_i hy
  obtain ⟨h1,e⟩:=Bj e
  cases e
  simp only [Bool.and_eq_true] at h1
  obtain ⟨el,h3,h4⟩:=Gz h1.1
  refine Cg.pure_ fun ρ B w a s hL=>⟨.string ByteArray.empty,?_,RC.str⟩
  have hyv:=hL y
  rw [hy] at hyv
  simp only [execOp,hyv.v_inv]
  exact C6 (by rw [run_convert_bytes_string w sr d el none _ _ h3 h4 (Ef h1.2)];simp [Conv.bytesToString])
 ·rename_i z hy
  obtain ⟨h1,e⟩:=Bj e
  cases e
  simp only [Bool.and_eq_true] at h1
  obtain ⟨el,h3,h4⟩:=Gz h1.1.2
  have h5:=Nat.le_of_ble_eq_true h1.2
  intro ρ B w a s hL
  have hyv:=hL y
  rw [hy] at hyv
  have hrun:=Lib.run_convert_string_bytes (P:=P) w sr d el z (Ef h1.1.1) h3 h4
  have hb:Below w.heap.size w (Lib.bytesWorld w el z):=⟨rfl,rfl,rfl,by rw [Lib.bytesWorld_size];omega,fun k hk=>Lib.bytesWorld_at_old w el z k hk⟩
  have g1:=grownCap_ge w z.size 0 el
  have g2:=grownCap_le_maxLen w z.size 0 el (by unfold maxLen;omega)
  have hzl:z.data.size=z.size:=rfl
  have hsz:(Lib.bytesCells w el z).size=grownCap w z.size 0 el:=by simp [Lib.bytesCells,hzl];omega
  obtain ⟨ρ',e1,p⟩:=s.new (b:=.cs (z.data.toList.map fun b=>CV.v (.int .u8 (b.toNat:Nat))) [] true) (w':=Lib.bytesWorld w el z) (g:=(w.heap.size,(Lib.bytesCells w el z).size)) hb rfl fun ρ' _ hx _=>⟨_,el,_,Lib.bytesWorld_at_new w el z,(fun e=>by cases e),by rw [hsz];simp [hzl];exact g1,Nat.le_refl _,fun j x u a b=>by
   simp only [List.getElem?_map,Option.map_eq_some_iff] at a
   obtain ⟨q,hq,rfl⟩:=a
   have hj:=(List.getElem?_eq_some_iff.1 hq).1
   rw [Lib.bytesCells,Array.getElem?_append_left (by simpa using hj),Array.getElem?_map,<-Array.getElem?_toList,hq] at b
   cases b
   exact ⟨RC.int,rfl⟩⟩
  refine ⟨.slice (some ⟨w.heap.size,0,none⟩) z.size (grownCap w z.size 0 el),_,ρ',.inl ?_,p,?_⟩
  ·simp only [execOp,hyv.v_inv]
   exact C6 hrun
  ·have:=RC.s (ρ:=ρ') (o:=0) (n:=z.size) (k:=z.size) (K:=grownCap w z.size 0 el) (e:=1) (G7 s (.cs (z.data.toList.map fun b=>CV.v (.int .u8 (b.toNat:Nat))) [] true)) (Nat.le_refl _) g1 g2 (fun g=>by omega) (fun g=>by rw [e1,hsz];simp)
   rwa [e1] at this
 ·rename_i c o n k q hy
  cases hq:(Kj P sr&&Nat.beq sr d) with
  | true =>
   rw [hq] at e
   simp only [cond_true] at e
   simp only [Bool.and_eq_true] at hq
   obtain ⟨hs,hd⟩:=hq
   obtain rfl:=Nat.eq_of_beq_eq_true hd
   obtain ⟨el,h3,h4⟩:=Gz hs
   split at e
   ·rename_i l hg
    simp only [Option.map_eq_some_iff] at e
    obtain ⟨h2,hp,e⟩:=e
    cases e
    intro ρ B w a s hL
    have hyv:=hL y
    rw [hy] at hyv
    obtain ⟨hf,rfl⟩:=GH.put_some hp
    obtain ⟨K,hv,hc,_⟩:=hyv.s_inv
    obtain ⟨C,t,fr,b1,b2,b3,b4,b5⟩:=s.holds hg
    obtain rfl:=b2 rfl
    obtain ⟨f1,f2,_⟩:=Bc0 (n:=C.size) (show Blk w (ρ c).1 t C from b1)
    have hB:=s.rel.low c _ hg rfl hf
    have hrun:(convert sr sr (.slice (some ⟨(ρ c).1,o,none⟩) n K)).run P w=.ok (.slice (some ⟨(ρ c).1,o,none⟩) n K) (w.freeze ⟨(ρ c).1,C.size,none⟩ 1):=by
     have hsh:w.shape? (ρ c).1=some (t,C.size):=by
      unfold World.shape?
      rw [b1]
     simp [convert,run_underlying h3,run_underlying h4,markStringish,hsh]
    have hcells:∃ fr,(w.freeze ⟨(ρ c).1,C.size,none⟩ 1).heap[(ρ c).1]? = some (.cells C t fr):=⟨_,by simp [World.freeze,Array.getElem?_modify,b1];rfl⟩
    obtain ⟨fr2,hcells⟩:=hcells
    refine ⟨.slice (some ⟨(ρ c).1,o,none⟩) n K,_,ρ,.inl ?_,s.turn (w':=w.freeze ⟨(ρ c).1,C.size,none⟩ 1) hg rfl hf (kin:=[]) (b:=.cs l [] true) (t':=h.t.set c (.cs l [] true)) (fun k hk=>by cases hk) (fun d=>by rw [TR.get_set];simp) (fun d b' q l2 hr=>?_) (by rw [f1];exact Nat.le_refl _) ⟨by simp [World.freeze],by simp [World.freeze],by simp [World.freeze]⟩ (fun g hg'=>f2 g hg') ⟨C,t,fr2,hcells,(fun e=>by cases e),b3,b4,b5⟩,?_⟩
    ·simp only [execOp,hv]
     exact C6 hrun
    ·rcases s.rel.apart d c b' _ q hg l2 rfl hr with g | (⟨_,_,_,_,_,_,g,g',_⟩ | ⟨_,_,_,_,_,g⟩) | (⟨_,_,_,_,_,g,_⟩ | ⟨_,_,_,_,g,_⟩)
     ·exact .inl g
     ·cases g;cases g'
     ·cases g
     ·cases g
     ·cases g
    ·rw [<-hv];exact hyv
   ·cases e
  | false =>
   rw [hq] at e
   simp only [cond_false] at e
   obtain ⟨h1,e⟩:=Cw e
   simp only [Bool.and_eq_true] at h1
   simp only [Option.bind_eq_some_iff,Option.map_eq_some_iff] at e
   obtain ⟨l,hl,bs,hbs,ns,hns,e⟩:=e
   cases e
   obtain ⟨el,h3,h4⟩:=Gz h1.1
   obtain ⟨rfl,t1⟩:=Eb hbs
   rw [Lp] at t1 hns
   obtain ⟨n1,n2⟩:=Tu hns
   refine Cg.pure_ fun ρ B w a s hL=>⟨.string (T7 ns),?_,RC.str⟩
   have hyv:=hL y
   rw [hy] at hyv
   obtain ⟨K,hv,_⟩:=hyv.s_inv
   obtain ⟨f,hf⟩:=s.cell hl
   have hlen:ns.length=n:=by rw [n1,List.length_take];exact Nat.min_eq_left t1
   simp only [execOp,hv]
   refine C6 (run_convert_bytes_arg w sr el h3 h4 (ρ c).1 o n K (ns.map fun (b:Nat)=>(b:Int)) (by simpa using hlen) (fun i hi=>?_) d (Ef h1.2))
   have hns:=n2 i _ (List.getElem?_eq_getElem (by omega))
   rw [List.getElem?_take_of_lt hi,List.getElem?_drop] at hns
   obtain ⟨g1,g2,_⟩:=hf _ _ hns
   rw [g1,g2.v_inv]
   simp [List.getD,List.getElem?_map,List.getElem?_eq_getElem (show i < ns.length by omega)]
 ·cases e
def Al2 (o:Oper):Bool :=
 match o.op with
 | .call { callee:=.value _,args:=_,argTypes:=_ }=>false
 | _=>true
theorem Bj0 (hE:Mo P eqT) {rec:Lt->GH->Option (CV×GH)} (hp:Al2 o=true) (e:opC P eqT rec L h o=some (x,h')):Cg P L h o x h':=by
 obtain ⟨dst,op,ty,pos,after,gd⟩:=o
 unfold opC at e
 cases op with
 | move y=>cases e;exact Cg.pure_ fun ρ B w a s hL=>⟨a.eval y,rfl,hL y⟩
 | assign y=>cases e;exact Cg.pure_ fun ρ B w a s hL=>⟨a.eval y,rfl,hL y⟩
 | pick c y z=>exact C03 e
 | alloc t=>exact Bm9 e
 | box t y=>exact Cs2 e
 | build t ps=>exact Bm8 e
 | buildSlice t n ps=>exact Be2 e
 | load t y=>exact C08 e
 | store t y z=>exact Bm3 e
 | nilCheck y=>exact Cr8 e
 | binOp op t y z tz=>exact Cs3 hE e
 | unOp op t y=>exact Di2 e
 | convert sr d y=>exact C10 e
 | makeFunc fn first caps=>exact Di3 e
 | makeMap t r=>exact Cr9 e
 | makeSlice t n m=>exact C06 e
 | slice t y lo hi mx=>exact Bm4 e
 | fieldAddr t y f=>exact Be1 e
 | field t y f=>exact Bm6 e
 | indexAddr t y i=>exact Be0 e
 | index t y i=>exact Bm5 e
 | lookup t y i okb=>exact C07 e
 | mapUpdate t y i z=>exact C05 e
 | extract y i=>exact B26 e
 | call c =>
  obtain ⟨callee,args,ats⟩:=c
  cases callee with
  | value f=>cases hp
  | invoke r m=>cases e
  | builtin b =>
   replace e:Ah8 P b ats.toList (args.toList.map L) h=some (x,h'):=e
   have arr:∀ {α:Type} {xs:Array α} {l:List α},xs.toList=l->xs=l.toArray:=fun h=>by rw [<-h]
   have two:∀ {p q:CV},args.toList.map L=[p,q]->∃ y z,args=#[y,z]/\L y=p/\L z=q:=fun {p q} h=>by
    match hl:args.toList,h with
    | [y,z],h=>exact ⟨y,z,arr hl,by simpa using h⟩
   have Bc1:∀ {p q r s:CV},args.toList.map L=[p,q,r,s]->∃ y z y2 z2,args=#[y,z,y2,z2]/\L y=p/\L z=q/\L y2=r/\L z2=s:=fun {p q r s} h=>by
    match hl:args.toList,h with
    | [y,z,y2,z2],h=>exact ⟨y,z,y2,z2,arr hl,by simpa using h⟩
   have one:∀ {p:CV},args.toList.map L=[p]->∃ y,args=#[y]/\L y=p:=fun {p} h=>by
    match hl:args.toList,h with
    | [y],h=>exact ⟨y,arr hl,by simpa using h⟩
   unfold Ah8 at e
   split at e
   ·rename_i h1 h2
    obtain ⟨y,z,rfl,rfl,rfl⟩:=two h2
    obtain rfl:=arr h1
    exact Cs4 e
   ·rename_i h1 h2
    obtain ⟨y,z,rfl,rfl,rfl⟩:=two h2
    obtain rfl:=arr h1
    exact C09 e
   ·rename_i h1 h2
    obtain ⟨y,rfl,rfl⟩:=one h2
    obtain rfl:=arr h1
    exact Cs0 e
   ·rename_i h1 h2
    obtain ⟨y,rfl,rfl⟩:=one h2
    obtain rfl:=arr h1
    exact Bm7 e
   ·rename_i h1 h2
    obtain ⟨y,rfl,rfl⟩:=one h2
    obtain rfl:=arr h1
    exact Cs1 e
   ·rename_i h2
    obtain ⟨y,z,rfl,rfl,rfl⟩:=two h2
    exact Br2 (mx:=true) e
   ·rename_i h2
    obtain ⟨y,z,rfl,rfl,rfl⟩:=two h2
    exact Br2 (mx:=false) e
   ·rename_i h2
    obtain ⟨y,z,y2,z2,rfl,rfl,rfl,rfl,rfl⟩:=Bc1 h2
    exact C04 e
   ·cases e
 | _=>cases e
end
section
variable {P : Program} {L : Operand -> CV} {h h' : GH} {o : Oper} {x : CV} {eqT : Nat -> Bool} {ρ : Nat -> Nat × Nat}
def RCL (ok:Nat->Prop) (ρ:Nat->Nat×Nat) (l:List CV) (vs:Array Value):Prop:=vs.size=l.length/\∀ (j:Nat) x u,l[j]? = some x->vs[j]? = some u->RC ok ρ x u
def Ki (P:Program) (ρ:Nat->Nat×Nat) (h:GH):Prop:=∀ g,g < P.globals.size->okH h g/\(ρ g).1=g
theorem Ki.post {B:Nat} {w w':World} {ρ':Nat->Nat×Nat} (hg:Ki P ρ h) (p:D5 ρ h h' B w w' ρ'):Ki P ρ' h':=fun g hl=>⟨p.le.ok (hg g hl).1,by rw [p.same g (hg g hl).1.1];exact (hg g hl).2⟩
def Ke (P:Program) (rec:Lt->GH->Option (CV×GH)):Prop :=
 (∀ f l h x h',rec (.call f l) h=some (x,h')->∀ (ρ:Nat->Nat×Nat) (B:Nat) (w:World) (vs:Array Value),SR ρ h B w->Ki P ρ h->RCL (okH h) ρ l vs ->
  (∀ (w:World),(callFunc f vs).run P w=.ok (.enter f vs) w)/\Calls P f vs w fun e w'=>∃ v ρ',e=.returned v/\D5 ρ h h' B w w' ρ'/\RC (okH h') ρ' x v) /\
 (∀ c l h x h',rec (.round c l) h=some (x,h')->∀ (ρ:Nat->Nat×Nat) (B:Nat) (w:World) (vs:Array Value),SR ρ h B w->Ki P ρ h->okH h c->RCL (okH h) ρ l vs ->
  YieldAt (FW none) 0 P (ρ c).1 vs w fun e w'=>∃ v ρ',e=.returned v/\D5 ρ h h' B w w' ρ'/\RC (okH h') ρ' x v)
def OpG (P:Program) (L:Operand->CV) (h:GH) (o:Oper) (x:CV) (h':GH):Prop :=
 ∀ (ρ:Nat->Nat×Nat) (B:Nat) (w:World) (a:Act) (ro:Option Nat),SR ρ h B w->Ki P ρ h->(∀ y,RC (okH h) ρ (L y) (a.eval y)) ->
  ∀ (N:Act->World->Prop) (Q:Exit->Act->World->Prop),(∀ ρ' v w',D5 ρ h h' B w w' ρ'->RC (okH h') ρ' x v->N (a.put o.dst v) w')->o.wpIn (FW ro) 0 P a w N Q
theorem Cg.ok (hr:Cg P L h o x h') (hd:∀ c,o.op≠.defer c):OpG P L h o x h':=fun ρ B w a ro s _ hL N Q hN=>by
 obtain ⟨v,w',ρ',h1,h2,h3⟩:=hr ρ B w a s hL
 refine Fa hd ?_
 unfold Oper.wp
 rcases h1 with h1 | ⟨h1,rfl⟩
 ·rw [h1];exact hN ρ' v w' h2 h3
 ·rw [h1];exact hN ρ' undef w' h2 h3
theorem RCL.map {a:Act} {args:Array Operand} (hL:∀ y,RC (okH h) ρ (L y) (a.eval y)):RCL (okH h) ρ (args.toList.map L) (args.map a.eval):=⟨by simp,fun j x u e1 e2=>by
 rw [List.getElem?_map,Option.map_eq_some_iff] at e1
 rw [Array.getElem?_map,Option.map_eq_some_iff] at e2
 obtain ⟨y,e3,rfl⟩:=e1
 obtain ⟨y',e4,rfl⟩:=e2
 rw [Array.getElem?_toList,e4] at e3
 obtain rfl:=Option.some.inj e3
 exact hL _⟩
theorem RCL.append {ok:Nat->Prop} {l m:List CV} {vs us:Array Value} (h1:RCL ok ρ l vs) (h2:RCL ok ρ m us):RCL ok ρ (l++m) (vs++us):=⟨by simp [h1.1,h2.1],fun j x u a b=>by
 by_cases hj:j < l.length
 ·rw [List.getElem?_append_left hj] at a
  rw [Array.getElem?_append_left (by rw [h1.1];exact hj)] at b
  exact h1.2 j x u a b
 ·rw [List.getElem?_append_right (by omega)] at a
  rw [Array.getElem?_append_right (by rw [h1.1];omega),h1.1] at b
  exact h2.2 _ x u a b⟩
theorem Am6 (hE:Mo P eqT) {rec:Lt->GH->Option (CV×GH)} (hR:Ke P rec) (e:opC P eqT rec L h o=some (x,h')):OpG P L h o x h':=by
 cases hp:Al2 o with
 | true=>exact (Bj0 hE hp e).ok fun c hc=>by unfold opC at e;rw [hc] at e;cases e
 | false =>
  obtain ⟨dst,op,ty,pos,after,gd⟩:=o
  unfold Al2 at hp
  split at hp
  case h_2=>cases hp
  rename_i fo args ats ho
  simp only at ho
  subst ho
  have e:Ah7 rec (L fo) (args.toList.map L) h=some (x,h'):=e
  intro ρ B w a ro s hgl hL N Q hN
  unfold Ah7 at e
  split at e
  ·rename_i f caps hfo
   have hfv:=hL fo
   rw [hfo] at hfv
   generalize hfe:a.eval fo=u at hfv
   cases hfv with
   | @f _ _ vs p1 p2 =>
    have hargs:RCL (okH h) ρ (args.toList.map L++caps) (args.map a.eval++vs):=(RCL.map hL).append ⟨p1,p2⟩
    obtain ⟨hen,hcall⟩:=hR.1 f _ h x h' e ρ B w _ s hgl hargs
    have hexec:(execOp a.eval ⟨dst,.call { callee:=.value fo,args,argTypes:=ats },ty,pos,after,gd⟩).run P w=.ok (.enter f (args.map a.eval++vs)) w:=by
     simp [execOp,resolve,hfe,Deferred.ofValue,invoke,hen]
    refine Fa (fun c hc=>by cases hc) ?_
    unfold Oper.wp
    rw [hexec,Oper.upon_enter]
    refine hcall.mono ?_
    rintro e w' ⟨v,ρ',rfl,q1,q2⟩
    exact hN ρ' v w' q1 q2
  ·rename_i c hfo
   have hfv:=hL fo
   rw [hfo] at hfv
   generalize hfe:a.eval fo=u at hfv
   cases hfv with
   | y hc =>
    obtain ⟨fnl,tmps,assign,body,hy,hRd⟩:=hR.2 c _ h x h' e ρ B w _ s hgl hc (RCL.map hL)
    refine ⟨fun _ _=>trivial,?_⟩
    have hexec:((⟨dst,.call { callee:=.value fo,args,argTypes:=ats },ty,pos,after,gd⟩ : Oper).semAt (FW ro).round a.eval).run P w=.ok (.round (ρ c).1 fnl tmps assign body) w:=by
     rw [Oper.semAt_plain _ _ _ (by intro c e;cases e)]
     generalize a.eval=ev at hfe hy ⊢
     simp [execOp,resolve,invoke,hfe,go_sem,hy]
    rw [hexec]
    refine ⟨(fun e=>by cases e),RoundIn.mono (F:=FW ro) hRd ?_⟩
    rintro e W' ⟨v,ρ',rfl,q1,q2⟩
    exact hN ρ' v W' q1 q2
  ·cases e
end
section
variable {P : Program} {eqT : Nat -> Bool} {rec : Lt -> GH -> Option (CV × GH)} {ρ : Nat -> Nat × Nat} {B : Nat}
theorem Cl3 {x:Option CV} : Option.rec (motive:=fun _=>CV) (.v undef) (fun x=>x) x=x.getD (.v undef):=by cases x<;>rfl
theorem A34 {h:GH} {sl:Bg} {n:Nat} {a:Act} (hs:SlR (okH h) ρ sl n a.tmps) (hg:Ki P ρ h) (y:Operand):RC (okH h) ρ (evC P sl y) (a.eval y):=by
 cases y with
 | tmp t =>
  have h1:evC P sl (.tmp t)=(sl.get t).getD (.v undef):=Cl3
  rw [h1]
  exact hs.2 t
 | const v=>exact RC.ofV v
 | global g =>
  show RC _ _ (bif Nat.blt g P.globals.size then CV.p g 0 else .u) (.pointer (some ⟨g,0,none⟩))
  cases hq:Nat.blt g P.globals.size with
  | false=>exact .u
  | true =>
   obtain ⟨h1,h2⟩:=hg g (Bk.1 hq)
   have:=RC.p (ρ:=ρ) (o:=0) h1
   rwa [h2] at this
 | func f=>exact .f rfl fun j x u a=>by simp at a
theorem B40 {ok:Nat->Prop} {ops:List Oper} {sl:Bg} {n:Nat} {a:Act} (hs:SlR ok ρ sl n a.tmps) {o:Oper} {b:Bool} (e:Qp ops sl o=some b):Region.wanted o (yielded ops.toArray a.tmps)=b:=by
 unfold Region.wanted
 unfold Qp at e
 cases hg:o.guard with
 | none=>rw [hg] at e;cases e;rfl
 | some g =>
  obtain ⟨j,want⟩:=g
  rw [hg] at e
  have e:Wd ops sl j want=some b:=e
  unfold Wd at e
  split at e
  case h_2=>cases e
  rename_i d hd
  obtain ⟨o',ho',hd'⟩:=Option.bind_eq_some_iff.1 hd
  have hv:=hs.2 d
  have hy:∀ u,a.tmps.getD d undef=u->u≠undef->a.tmps[d]? = some u:=fun u hu hne=>by
   rw [Array.getD_eq_getD_getElem?] at hu
   cases hdd:a.tmps[d]? with
   | none=>rw [hdd] at hu;exact absurd hu.symm hne
   | some y=>rw [hdd] at hu;simp at hu;rw [hu]
  split at e
  ·rename_i x hx
   cases e
   rw [hx] at hv
   have h1:=hy _ hv.v_inv (by intro h;cases h)
   simp [yielded,ho',hd',h1]
  ·rename_i t hx
   cases e
   rw [hx] at hv
   have h1:a.tmps.getD d undef=.tuple t:=hv.v_inv
   rw [Array.getD_eq_getD_getElem?] at h1
   cases hdd:a.tmps[d]? with
   | none=>simp [yielded,ho',hd',hdd]
   | some y=>rw [hdd] at h1;simp at h1;simp [yielded,ho',hd',hdd,h1]
  ·cases e
theorem As7 {ok:Nat->Prop} {sl sl':Bg} {n:Nat} {a:Act} (hs:SlR ok ρ sl n a.tmps) {d:Option Tmp} {x:CV} {v:Value} (hv:RC ok ρ x v) (e:Vm sl n d x=some sl'):SlR ok ρ sl' n (a.put d v).tmps/\(a.put d v).defers=a.defers:=by
 cases d with
 | none=>cases e;exact ⟨hs,rfl⟩
 | some d =>
  have e:Bool.rec (motive:=fun _=>Option Bg) none (some (sl.set d x)) (Nat.ble (Nat.succ d) n)=some sl':=e
  cases hq:Nat.ble (Nat.succ d) n with
  | false=>rw [hq] at e;cases e
  | true =>
   rw [hq] at e
   cases e
   have hd:d < n:=Nat.le_of_ble_eq_true hq
   refine ⟨⟨by simp [Act.put,hs.1],fun i=>?_⟩,rfl⟩
   rw [TR.get_set]
   show RC ok ρ _ ((a.tmps.setIfInBounds d v).getD i undef)
   by_cases hi:i=d
   ·subst hi
    rw [if_pos rfl,Array.getD_eq_getD_getElem?,Array.getElem?_setIfInBounds_self_of_lt (by rw [hs.1];exact hd)]
    exact hv
   ·rw [if_neg hi,Array.getD_eq_getD_getElem?,Array.getElem?_setIfInBounds_ne (Ne.symm hi),<-Array.getD_eq_getD_getElem?]
    exact hs.2 i
theorem Vp (hE:Mo P eqT) (hR:Ke P rec) {ops:List Oper} {n:Nat} {ro:Option Nat} {Q:Exit->Act->World->Prop} : ∀ (l:List Oper) (sl sl':Bg) (h h':GH),Bw4 P eqT rec ops n l sl h=some (sl',h')->∀ (ρ:Nat->Nat×Nat) (w:World) (a:Act),SR ρ h B w->Ki P ρ h->SlR (okH h) ρ sl n a.tmps ->
  (∀ ρ' a' w',D5 ρ h h' B w w' ρ'->SlR (okH h') ρ' sl' n a'.tmps->a'.defers=a.defers->Q .normal a' w')->wpListIn (FW ro) 0 P ops.toArray Q l a w
 | [],sl,sl',h,h',e,ρ,w,a,s,hg,hs,hQ=>by
  cases e
  exact hQ ρ a w (D5.refl s) hs rfl
 | o :: r,sl,sl',h,h',e,ρ,w,a,s,hg,hs,hQ=>by
  have e:goC P eqT rec ops n o (Bw4 P eqT rec ops n r) sl h=some (sl',h'):=e
  refine wpListIn_step fun K hK=>?_
  unfold goC at e
  cases hw:Qp ops sl o with
  | none=>rw [hw] at e;cases e
  | some b =>
   have hwr:=B40 hs hw
   rw [hw] at e
   cases b with
   | true =>
    rw [if_pos hwr]
    cases ho:opC P eqT rec (evC P sl) h o with
    | none=>simp only [ho] at e;cases e
    | some p =>
     obtain ⟨x,h1⟩:=p
     simp only [ho] at e
     cases hp:Vm sl n o.dst x with
     | none=>simp only [hp] at e;cases e
     | some sl1 =>
      simp only [hp] at e
      refine Am6 hE hR ho ρ B w a ro s hg (A34 hs hg) K Q fun ρ1 v w1 p1 hv=>hK _ _ ?_
      obtain ⟨q1,q2⟩:=As7 (hs.ext p1.ext) hv hp
      exact Vp hE hR r sl1 sl' h1 h' e ρ1 w1 _ p1.sr (hg.post p1) q1 fun ρ' a' w' p2 q3 q4=>hQ ρ' a' w' (p1.trans p2) q3 (q4.trans q2)
   | false =>
    rw [if_neg (by rw [hwr];simp)]
    cases hp:Vm sl n o.dst (.v undef) with
    | none=>simp only [hp] at e;cases e
    | some sl1 =>
     simp only [hp] at e
     obtain ⟨q1,q2⟩:=As7 hs (v:=undef) RC.undef hp
     exact ⟨fun _ _=>trivial,hK _ _ (Vp hE hR r sl1 sl' h h' e ρ w _ s hg q1 fun ρ' a' w' p2 q3 q4=>hQ ρ' a' w' p2 q3 (q4.trans q2))⟩
end
def Ex.toExit:Ex->Exit
 | .normal=>.normal
 | .exit id=>.exit id
 | .ret=>.ret
structure CR (P:Program) (ρ:Nat->Nat×Nat) (s:FrS) (B:Nat) (a:Act) (w:World):Prop where
 sr:SR ρ s.h B w
 gl:Ki P ρ s.h
 sl:SlR (okH s.h) ρ s.sl s.n a.tmps
 lt:∀ d∈s.ds,d < s.h.nx
 ds:a.defers=Fq (s.ds.map fun d=>(ρ d).1)
def Aq7 (P:Program) (ρ:Nat->Nat×Nat) (s s':FrS) (B:Nat) (w:World) (e:Ex) (e':Exit) (a':Act) (w':World):Prop:=e'=e.toExit/\∃ ρ',D5 ρ s.h s'.h B w w' ρ'/\CR P ρ' s' B a' w'/\s'.n=s.n
def Xa (P:Program) (eqT:Nat->Bool) (rec:Lt->GH->Option (CV×GH)):Prop:=∀ (B:Nat) (id:Nat) (ops:Array Oper) (n:Nat) (l:List DI) (sl sl':Bg) (h h':GH) (ro:Option Nat) (Q:Exit->Act->World->Prop),Wq ops.toList=some l->drC P eqT rec ops.toList n l 0 [] [] sl h=some (sl',h') ->
 ∀ (ρ:Nat->Nat×Nat) (w:World) (a:Act),SR ρ h B w->Ki P ρ h->SlR (okH h) ρ sl n a.tmps->(∀ ρ' a' w',D5 ρ h h' B w w' ρ'->SlR (okH h') ρ' sl' n a'.tmps->a'.defers=a.defers->Q .normal a' w')->(Code.region id ops true).wpIn (FW ro) 0 P Q a w
section
variable {P : Program} {eqT : Nat -> Bool} {rec : Lt -> GH -> Option (CV × GH)} {ρ ρ' : Nat -> Nat × Nat} {B : Nat} {s s' : FrS} {a : Act} {w w' : World}
theorem CR.next (c:CR P ρ s B a w) {sl:Bg} {h:GH} {a':Act} (p:D5 ρ s.h h B w w' ρ') (hs:SlR (okH h) ρ' sl s.n a'.tmps) (hd:a'.defers=a.defers):CR P ρ' ⟨sl,s.n,s.ds,h⟩ B a' w' :=
 ⟨p.sr,c.gl.post p,hs,fun d hd=>Nat.lt_of_lt_of_le (c.lt d hd) p.le.nx,by
  rw [hd,c.ds]
  congr 1
  exact List.map_congr_left fun d hd=>by rw [p.same d (c.lt d hd)]⟩
theorem Vf {c:Code} {F:Fence} {f:FrS->Option (Ex×FrS)} (hf:∀ s s' e,f s=some (e,s')->∀ ρ w a,CR P ρ s B a w->(∀ l,F.round=some l->True)->c.wpIn F 0 P (Aq7 P ρ s s' B w e) a w):∀ (m:Nat) (s s':FrS) (e:Ex),Yv f m s=some (e,s')->∀ ρ w a,CR P ρ s B a w->Code.roundsIn F 0 P c (Aq7 P ρ s s' B w e) m a w
 | 0,s,s',e,h,_,_,_,_=>by cases h
 | m+1,s,s',e,h,ρ,w,a,hc=>by
  have h:(match f s with
   | some (.normal,s')=>Yv f m s'
   | r=>r)=some (e,s'):=h
  cases hfs:f s with
  | none=>rw [hfs] at h;cases h
  | some p =>
   obtain ⟨e1,s1⟩:=p
   rw [hfs] at h
   refine wpIn_mono (hf s s1 e1 hfs ρ w a hc fun _ _=>trivial) ?_
   rintro e' a' w' ⟨rfl,ρ',p1,c1,hn⟩
   cases e1 with
   | normal =>
    have:=Vf hf m s1 s' e h ρ' w' a' c1
    refine roundsIn_mono' this ?_
    rintro e2 a2 w2 ⟨rfl,ρ2,p2,c2,hn2⟩
    exact ⟨rfl,ρ2,p1.trans p2,c2,hn2.trans hn⟩
   | exit id=>cases h;exact ⟨rfl,ρ',p1,c1,hn⟩
   | ret=>cases h;exact ⟨rfl,ρ',p1,c1,hn⟩
where roundsIn_mono' {F:Fence} {c:Code} {Q Q':Exit->Act->World->Prop} : ∀ {m:Nat} {a:Act} {w:World},Code.roundsIn F 0 P c Q m a w->(∀ e a w,Q e a w->Q' e a w)->Code.roundsIn F 0 P c Q' m a w
 | 0,_,_,h,_=>h.elim
 | m+1,a,w,h,hq=>wpIn_mono h fun e a' w' h'=>by
  cases e with
  | normal=>exact roundsIn_mono' h' hq
  | _=>exact hq _ _ _ h'
def roA (ρ:Nat->Nat×Nat) (ro:Option Nat):Option Nat:=ro.map fun l=>(ρ l).1
theorem A87 {h h':GH} {ro:Option Nat} (p:D5 ρ h h' B w w' ρ') (hr:∀ l,ro=some l->l < h.nx):roA ρ' ro=roA ρ ro:=by
 cases ro with
 | none=>rfl
 | some l=>simp [roA,p.same l (hr l rfl)]
theorem Ay4 (hR:Ke P rec) {ro:Option Nat} {g:Operand} {ps:Array Tmp} {asg bd:Code} {e:Ex} (h:Al0 P rec ro g ps.toList asg bd s=some (e,s')) (c:CR P ρ s B a w):(Code.rangeFunc g ps asg bd).wpIn (FW (roA ρ ro)) 0 P (Aq7 P ρ s s' B w e) a w:=by
 unfold Al0 at h
 split at h
 case h_2=>cases h
 rename_i gf caps hge
 split at h
 case h_2=>cases h
 rename_i d h1 ds hm
 split at h
 case h_2=>cases h
 rename_i r h2 hrec
 have hgv:=A34 c.sl c.gl g
 rw [hge] at hgv
 generalize hfe:a.eval g=u at hgv
 cases hgv with
 | @f _ _ lb p1 p2 =>
  refine wpIn_rangeFunc fun fn hfn=>?_
  -- the record is laid
  obtain ⟨l,mark,w1,ρ1,q1,q2,q3,q4,q5,q6⟩ : ∃ (l:Nat) (mark:List Deferred) (w1:World) (ρ1:Nat->Nat×Nat),(Instr.enterLoop fn a.tmps ps asg bd (FW (roA ρ ro)).round).run P w=.ok (l,mark) w1 /\
    D5 ρ s.h (h1.new (.lp ⟨.ready,none,s.sl,s.n,ps.toList,asg,bd,d⟩)) B w w1 ρ1/\(ρ1 h1.nx).1=l/\okH (h1.new (.lp ⟨.ready,none,s.sl,s.n,ps.toList,asg,bd,d⟩)) h1.nx/\(∀ d∈ds,d < h1.nx)/\mark++a.defers=Fq (ds.map fun d=>(ρ1 d).1):=by
   unfold Bp5 at hm
   split at hm
   ·rename_i l0
    split at hm
    ·rename_i L hL
     cases hm
     obtain ⟨fn0,tm0,hl0,hok,_⟩:=c.sr.holds hL
     obtain ⟨ρ1,e1,p⟩:=c.sr.new (b:=.lp ⟨.ready,none,s.sl,s.n,ps.toList,asg,bd,L.d⟩) (w':=w.alloc (.loop { state:=.ready,pending:=none,fn,tmps:=a.tmps,params:=ps,assign:=asg,body:=bd,defers:=(ρ L.d).1 })) (g:=(w.heap.size,0)) (An (Below.refl _ w)) rfl fun ρ' _ hx _=>⟨fn,a.tmps,by rw [(hx _ hok).2];exact World.alloc_heap_new _ _,(hx _ hok).1,c.sl.ext hx⟩
     refine ⟨w.heap.size,[],_,ρ1,run_enterLoop_inner hl0 fn a.tmps ps asg bd,p,by rw [e1],G7 c.sr _,c.lt,?_⟩
     rw [List.nil_append,c.ds]
     congr 1
     exact List.map_congr_left fun d hd=>by rw [p.same d (c.lt d hd)]
    ·cases hm
   ·cases hm
    obtain ⟨ρ0,e0,p0⟩:=c.sr.new (b:=.df) (w':=w.alloc (.deferred (some []))) (g:=(w.heap.size,0)) (An (Below.refl _ w)) rfl fun ρ' _ hx _=>World.alloc_heap_new _ _
    have hd0:okH (s.h.new .df) s.h.nx:=G7 c.sr _
    obtain ⟨ρ1,e1,p1⟩:=p0.sr.new (b:=.lp ⟨.ready,none,s.sl,s.n,ps.toList,asg,bd,s.h.nx⟩) (w':=(w.alloc (.deferred (some []))).alloc (.loop { state:=.ready,pending:=none,fn,tmps:=a.tmps,params:=ps,assign:=asg,body:=bd,defers:=w.heap.size })) (g:=(w.heap.size+1,0)) (An (Below.refl _ _)) (by simp) fun ρ' _ hx _=>⟨fn,a.tmps,by
     rw [(hx _ hd0).2,e0]
     have:=World.alloc_heap_new (w.alloc (.deferred (some []))) (.loop { state:=.ready,pending:=none,fn,tmps:=a.tmps,params:=ps,assign:=asg,body:=bd,defers:=w.heap.size })
     simpa using this,(hx _ hd0).1,(c.sl.ext p0.ext).ext hx⟩
    refine ⟨w.heap.size+1,[{ target:=.collected w.heap.size,args:=#[] }],_,ρ1,run_enterLoop_outer fn a.tmps ps asg bd,p0.trans p1,by rw [e1],G7 p0.sr _,fun d hd=>?_,?_⟩
    ·rcases List.mem_cons.1 hd with rfl | hd
     ·exact Nat.lt_succ_self _
     ·exact Nat.lt_succ_of_lt (c.lt d hd)
    ·have hs0:(ρ1 s.h.nx).1=w.heap.size:=by rw [p1.same _ (Nat.lt_succ_self _),e0]
     simp only [List.map_cons,Fq,hs0]
     rw [c.ds]
     simp only [Fq,List.map_map,List.singleton_append,List.cons.injEq,true_and]
     exact List.map_congr_left fun d hd=>by simp [(p0.trans p1).same d (c.lt d hd)]
  have hargs:RCL (okH (h1.new (.lp ⟨.ready,none,s.sl,s.n,ps.toList,asg,bd,d⟩))) ρ1 (.y h1.nx :: caps) (#[.func (.yield l) #[] #[]]++lb):=by
   refine RCL.append (l:=[.y h1.nx]) ⟨rfl,fun j x u e1 e2=>?_⟩ ⟨p1,fun j x u e1 e2=>(p2 j x u e1 e2).ext q2.ext⟩
   cases j with
   | zero =>
    simp at e1 e2
    subst e1 e2
    rw [<-q3]
    exact .y q4
   | succ j=>simp at e1
  obtain ⟨hen,hcall⟩:=hR.1 gf _ _ _ _ hrec ρ1 B w1 _ q2.sr (c.gl.post q2) hargs
  refine ⟨l,mark,w1,{ target:=.fn (.func gf) lb,args:=#[.func (.yield l) #[] #[]] },w1,gf,#[.func (.yield l) #[] #[]]++lb,w1,q1,?_,fun _ _=>trivial,?_,(fun e=>by cases e),?_⟩
  ·simp only [resolve,hfe]
   simp [go_sem]
  ·simp [invoke,go_sem,hen]
  refine callsIn_wide.2 (hcall.mono ?_)
  rintro e2 w3 ⟨v,ρ2,rfl,r1,_⟩
  unfold Cp6 at h
  split at h
  case h_2=>cases h
  rename_i L hL
  by_cases hb:(L.st==.busy)=true
  ·rw [hb] at h;cases h
  have hb':L.st≠.busy:=fun e=>hb (by rw [e];rfl)
  rw [show (L.st==.busy)=false by simpa using hb] at h
  simp only [cond_false] at h
  split at h
  case h_2=>cases h
  rename_i h3 hput
  obtain ⟨fn2,tm2,hl2,hok2,hsl2⟩:=r1.sr.holds hL
  have hc2:(ρ2 h1.nx).1=l:=by rw [r1.same _ q4.1,q3]
  have hlt2:=(Array.getElem?_eq_some_iff.1 hl2).1
  have hend:=run_endLoop (P:=P) (l:=l) (w:=w3) (by rw [<-hc2];exact hl2) hb'
  have p3:=r1.sr.put hput hL (fun _ _ _ g=>by cases g) rfl (w':=w3.putObj (ρ2 h1.nx).1 (.loop { state:=.exhausted,pending:=L.pe,fn:=fn2,tmps:=tm2,params:=L.ps.toArray,assign:=L.asg,body:=L.bd,defers:=(ρ2 L.d).1 })) (by simp) ⟨rfl,rfl,rfl⟩ (fun g hg=>World.putObj_heap_other hg) ⟨fn2,tm2,World.putObj_heap_same hlt2,hok2,hsl2⟩
  have pall:=q2.trans (r1.trans p3)
  have c3:CR P ρ2 ⟨s.sl,s.n,ds,h3⟩ B { a with defers:=mark++a.defers } (w3.putObj l (.loop { state:=.exhausted,pending:=L.pe,fn:=fn2,tmps:=tm2,params:=L.ps.toArray,assign:=L.asg,body:=L.bd,defers:=(ρ2 L.d).1 })):=by
   rw [hc2] at pall
   refine ⟨pall.sr,c.gl.post pall,c.sl.ext pall.ext,fun d hd=>Nat.lt_of_lt_of_le (q5 d hd) (Nat.le_trans (Nat.le_succ _) (r1.trans p3).le.nx),?_⟩
   show mark++a.defers=_
   rw [q6]
   congr 1
   exact List.map_congr_left fun d hd=>by rw [r1.same d (Nat.lt_trans (q5 d hd) q4.1)]
  rw [hc2] at pall
  refine ⟨L.pe,_,hend,?_⟩
  split at h
  ·cases h
   rename_i hpe
   simp only [hpe]
   rw [hpe] at pall c3
   exact ⟨rfl,ρ2,pall,c3,rfl⟩
  ·cases h
   rename_i hpe
   simp only [hpe]
   rw [hpe] at pall c3
   exact wpIn_ret ⟨rfl,ρ2,pall,c3,rfl⟩
  ·cases h
   rename_i id hpe
   simp only [hpe]
   rw [hpe] at pall c3
   exact wpIn_exit ⟨rfl,ρ2,pall,c3,rfl⟩
  ·cases h
theorem W8 {s1:FrS} {w1:World} {e:Ex} {e':Exit} {a':Act} (p:D5 ρ s.h s1.h B w w1 ρ') (hn:s1.n=s.n) (h:Aq7 P ρ' s1 s' B w1 e e' a' w'):Aq7 P ρ s s' B w e e' a' w':=by
 obtain ⟨h1,ρ2,p2,c2,hn2⟩:=h
 exact ⟨h1,ρ2,p.trans p2,c2,hn2.trans hn⟩
theorem F6 (hE:Mo P eqT) (hR:Ke P rec) (hD:Xa P eqT rec) (fu:Nat) {ro:Option Nat} : ∀ (c:Code) (s s':FrS) (e:Ex),Gs P eqT rec fu ro c s=some (e,s')->∀ (ρ:Nat->Nat×Nat) (w:World) (a:Act),CR P ρ s B a w->(∀ l,ro=some l->l < s.h.nx)->c.wpIn (FW (roA ρ ro)) 0 P (Aq7 P ρ s s' B w e) a w
 | .skip,s,s',e,h,ρ,w,a,hc,_=>by cases h;exact wpIn_skip ⟨rfl,ρ,D5.refl hc.sr,hc,rfl⟩
 | .label _,s,s',e,h,ρ,w,a,hc,_=>by cases h;exact wpIn_label ⟨rfl,ρ,D5.refl hc.sr,hc,rfl⟩
 | .exit id,s,s',e,h,ρ,w,a,hc,_=>by cases h;exact wpIn_exit ⟨rfl,ρ,D5.refl hc.sr,hc,rfl⟩
 | .ret,s,s',e,h,ρ,w,a,hc,_=>by cases h;exact wpIn_ret ⟨rfl,ρ,D5.refl hc.sr,hc,rfl⟩
 | .goto _,s,s',e,h,_,_,_,_,_=>by cases h
 | .refuse _,s,s',e,h,_,_,_,_,_=>by cases h
 | .region id ops dr,s,s',e,h,ρ,w,a,hc,_=>by
  have h:Bv8 P eqT rec dr ops.toList s=some (e,s'):=h
  unfold Bv8 at h
  split at h
  ·simp only [Option.map_eq_some_iff] at h
   obtain ⟨⟨sl',h'⟩,h1,h⟩:=h
   cases h
   rw [<-Array.toArray_toList (xs:=ops)]
   refine wpIn_region_lit (Vp hE hR _ _ _ _ _ h1 ρ w a hc.sr hc.gl hc.sl fun ρ' a' w' p q1 q2=>⟨rfl,ρ',p,hc.next p q1 q2,rfl⟩)
  ·split at h
   ·rename_i l hl
    simp only [Option.map_eq_some_iff] at h
    obtain ⟨⟨sl',h'⟩,h1,h⟩:=h
    cases h
    exact hD B id ops s.n l _ _ _ _ _ _ hl h1 ρ w a hc.sr hc.gl hc.sl fun ρ' a' w' p q1 q2=>⟨rfl,ρ',p,hc.next p q1 q2,rfl⟩
   ·cases h
 | .seq x y,s,s',e,h,ρ,w,a,hc,hro=>by
  have h:Bv1 (Gs P eqT rec fu ro x) (Gs P eqT rec fu ro y) s=some (e,s'):=h
  unfold Bv1 at h
  cases hx:Gs P eqT rec fu ro x s with
  | none=>rw [hx] at h;cases h
  | some p =>
   obtain ⟨e1,s1⟩:=p
   rw [hx] at h
   refine wpIn_seq (wpIn_mono (F6 hE hR hD fu x s s1 e1 hx ρ w a hc hro) ?_)
   rintro e' a' w' ⟨rfl,ρ',p1,c1,hn⟩
   cases e1 with
   | normal =>
    have:=F6 hE hR hD fu y s1 s' e h ρ' w' a' c1 fun l hl=>Nat.lt_of_lt_of_le (hro l hl) p1.le.nx
    rw [A87 p1 hro] at this
    exact wpIn_mono this fun e2 a2 w2 h2=>W8 p1 hn h2
   | exit id=>cases h;exact ⟨rfl,ρ',p1,c1,hn⟩
   | ret=>cases h;exact ⟨rfl,ρ',p1,c1,hn⟩
 | .cond c x y,s,s',e,h,ρ,w,a,hc,hro=>by
  have h:Bd3 P c (Gs P eqT rec fu ro x) (Gs P eqT rec fu ro y) s=some (e,s'):=h
  unfold Bd3 at h
  have hv:=A34 hc.sl hc.gl c
  split at h
  ·rename_i he
   rw [he] at hv
   exact wpIn_cond_true hv.v_inv (F6 hE hR hD fu x s s' e h ρ w a hc hro)
  ·rename_i he
   rw [he] at hv
   exact wpIn_cond_false hv.v_inv (F6 hE hR hD fu y s s' e h ρ w a hc hro)
  ·cases h
 | .block id x,s,s',e,h,ρ,w,a,hc,hro=>by
  have h:Aq3 id (Gs P eqT rec fu ro x) s=some (e,s'):=h
  unfold Aq3 at h
  cases hx:Gs P eqT rec fu ro x s with
  | none=>rw [hx] at h;cases h
  | some p =>
   obtain ⟨e1,s1⟩:=p
   rw [hx] at h
   refine wpIn_block (wpIn_mono (F6 hE hR hD fu x s s1 e1 hx ρ w a hc hro) ?_)
   rintro e' a' w' ⟨rfl,ρ',p1,c1,hn⟩
   cases e1 with
   | exit j =>
    simp only [Ex.toExit,Exit.inBlock]
    cases hj:Nat.beq j id with
    | true =>
     simp only [hj,cond_true] at h
     cases h
     rw [if_pos (Nat.eq_of_beq_eq_true hj)]
     exact ⟨rfl,ρ',p1,c1,hn⟩
    | false =>
     simp only [hj,cond_false] at h
     cases h
     rw [if_neg (Nat.ne_of_beq_eq_false hj)]
     exact ⟨rfl,ρ',p1,c1,hn⟩
   | normal=>cases h;exact ⟨rfl,ρ',p1,c1,hn⟩
   | ret=>cases h;exact ⟨rfl,ρ',p1,c1,hn⟩
 | .loop c,s,s',e,h,ρ,w,a,hc,hro=>by
  have h:Yv (Gs P eqT rec fu ro c) fu s=some (e,s'):=h
  have key:∀ (m:Nat) (s s':FrS) (e:Ex),Yv (Gs P eqT rec fu ro c) m s=some (e,s')->∀ (ρ1:Nat->Nat×Nat) (w:World) (a:Act),CR P ρ1 s B a w->(∀ l,ro=some l->l < s.h.nx)->roA ρ1 ro=roA ρ ro->Code.roundsIn (FW (roA ρ ro)) 0 P c (Aq7 P ρ1 s s' B w e) m a w:=by
   intro m
   induction m with
   | zero=>intro s s' e h;cases h
   | succ m ih =>
    intro s s' e h ρ1 w a hc hro he
    have h:(match Gs P eqT rec fu ro c s with
     | some (.normal,s')=>Yv (Gs P eqT rec fu ro c) m s'
     | r=>r)=some (e,s'):=h
    cases hfs:Gs P eqT rec fu ro c s with
    | none=>rw [hfs] at h;cases h
    | some p =>
     obtain ⟨e1,s1⟩:=p
     rw [hfs] at h
     have hx:=F6 hE hR hD fu c s s1 e1 hfs ρ1 w a hc hro
     rw [he] at hx
     refine wpIn_mono hx ?_
     rintro e' a' w' ⟨rfl,ρ',p1,c1,hn⟩
     cases e1 with
     | normal =>
      exact Vf.roundsIn_mono' (ih s1 s' e h ρ' w' a' c1 (fun l hl=>Nat.lt_of_lt_of_le (hro l hl) p1.le.nx) ((A87 p1 hro).trans he)) fun e2 a2 w2 h2=>W8 p1 hn h2
     | exit id=>cases h;exact ⟨rfl,ρ',p1,c1,hn⟩
     | ret=>cases h;exact ⟨rfl,ρ',p1,c1,hn⟩
  exact wpIn_loop_rounds fu (key fu s s' e h ρ w a hc hro rfl)
 | .rangeFunc g ps asg bd,s,s',e,h,ρ,w,a,hc,_=>Ay4 hR h hc
 | .scope c,s,s',e,h,ρ,w,a,hc,hro=>by
  refine Jd (wpIn_mono (F6 hE hR hD fu c s s' e h ρ w a hc hro) ?_)
  rintro e' a' w' ⟨rfl,h2⟩
  cases e<;>exact ⟨rfl,h2⟩
end
end Go.Proofs.YtahgkllhbggmgaaGreatDoor
