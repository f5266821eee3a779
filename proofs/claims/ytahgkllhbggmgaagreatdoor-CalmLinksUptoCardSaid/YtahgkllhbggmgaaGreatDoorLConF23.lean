/- A closed fact, by reckoning, call by call (written by fct.py). -/
import Derived.Test.YtahgkllhbggmgaaGreatDoorLConT
import Derived.Test.YtahgkllhbggmgaaGreatDoorLSortWorld
import Derived.LoopNIn
import Derived.RangeFuncNested
import Derived.Test.YtahgkllhbggmgaaGreatDoorLAbsDraw2
import Derived.Test.YtahgkllhbggmgaaGreatDoorLDisk
import Derived.Test.YtahgkllhbggmgaaGreatDoorLNdLaid
set_option linter.all false
set_option linter.unnecessarySimpa false
set_option linter.unusedSimpArgs false
set_option linter.unusedVariables false
namespace Go.Proofs.YtahgkllhbggmgaaGreatDoor
open Go.ChangeShapes Go.WideShapes Go.ChangeAt Go.RowKit
section
variable {P : Program} {L : Operand -> CV} {h h' : GH} {o : Oper} {x : CV} {eqT : Nat -> Bool}
variable {dst : Option Tmp} {ty : TypeId} {pos : String} {after : Array Edge} {gd : Option (Nat × Bool)}
variable {ρ : Nat -> Nat × Nat}
theorem Ye {B:Nat} {w:World} (s:SR ρ h B w) {k:Nat} {y:CV} {m:Nat} {ys:List CV} (e:Ui h k y=some (m,ys)) {t':TypeId} (ht:Af0 P t' y=true) {u:Value} (hu:RC (okH h) ρ y u) (q:Nat) (hq:q<=m) :
  (Builtin.lenOf u).run P w=.ok m w/\∀ {ys':List CV},S5 ys (q*k)=some ys'->∃ news:List Value,(Builtin.firstCells k q u).run P w=.ok news.toArray w/\RCs (okH h) ρ ys' news/\news.length=q*k:=by
 unfold Ui at e
 split at e
 ·cases e
  rw [hu.v_inv]
  obtain rfl:q=0:=by omega
  refine ⟨rfl,fun hy=>⟨[],run_firstCells_none _ _ _ _ _,?_,by simp⟩⟩
  obtain ⟨rfl,_⟩:=Eo hy
  simpa using RCs.nil
 ·cases e
  obtain ⟨A,K,rfl,_⟩:=hu.z_inv
  obtain rfl:q=0:=by omega
  refine ⟨rfl,fun hy=>⟨[],run_firstCells_some w k 0 A 0 K [] (by simp) (fun j u h=>by simp at h),?_,by simp⟩⟩
  obtain ⟨rfl,_⟩:=Eo hy
  simpa using RCs.nil
 ·rename_i c o n cp q'
  simp only [Option.bind_eq_some_iff,Option.map_eq_some_iff,Prod.mk.injEq] at e
  obtain ⟨l,hl,m',hm,rfl,rfl⟩:=e
  obtain ⟨rfl,h1⟩:=Eo hm
  rw [Mi] at h1 ⊢
  obtain ⟨f,hf⟩:=s.cell hl
  obtain ⟨K,rfl,_⟩:=hu.s_inv
  refine ⟨rfl,fun hy=>?_⟩
  obtain ⟨rfl,h2⟩:=Eo hy
  have hle:q*k<=n*k:=Nat.mul_le_mul_right _ hq
  rw [List.take_take,Nat.min_eq_left hle]
  have hlen:((l.drop o).take (q*k)).length=q*k:=by rw [List.length_take];omega
  have hm:∀ (j:Nat) x,((l.drop o).take (q*k))[j]? = some x->l[o+j]? = some x:=fun j x hj=>by
   have:=(List.getElem?_eq_some_iff.1 hj).1
   rw [hlen] at this
   rwa [List.getElem?_take_of_lt this,List.getElem?_drop] at hj
  have hget:∀ (j:Nat) u,((List.range (q*k)).map fun j=>f (o+j))[j]? = some u->j < q*k/\u=f (o+j):=fun j u hj=>by
   have h2:=(List.getElem?_eq_some_iff.1 hj).1
   simp only [List.length_map,List.length_range] at h2
   rw [List.getElem?_map,List.getElem?_range h2] at hj
   exact ⟨h2,(Option.some.inj hj).symm⟩
  refine ⟨_,run_firstCells_some w k q ⟨(ρ c).1,o,none⟩ n K ((List.range (q*k)).map fun j=>f (o+j)) (by simp) (fun j u hj=>?_),⟨by rw [hlen];simp,fun j x u a b=>?_⟩,by simp⟩
  ·obtain ⟨h2,rfl⟩:=hget j u hj
   rw [Dq]
   exact (hf _ _ (hm j _ (List.getElem?_eq_getElem (by omega)))).1
  ·obtain ⟨_,rfl⟩:=hget j u b
   exact (hf _ x (hm j x a)).2
 ·rename_i z
  obtain ⟨hk,e⟩:=Bl e
  cases e
  obtain rfl:=Nat.eq_of_beq_eq_true hk
  rw [hu.v_inv]
  refine ⟨rfl,fun hy=>?_⟩
  obtain ⟨rfl,h2⟩:=Eo hy
  simp only [Nat.mul_one] at h2 ⊢
  refine ⟨((byteCells z).take q),?_,⟨by simp [byteCells],fun j x u a b=>?_⟩,by rw [List.length_take];simp [byteCells] at h2 ⊢;omega⟩
  ·simp [Builtin.firstCells,byteCells]
   apply Array.ext'
   simp
  ·have hj:j < q:=by have:=(List.getElem?_eq_some_iff.1 a).1;simp at this;omega
   rw [List.getElem?_take_of_lt hj] at a b
   simp only [byteCells,List.getElem?_map,Option.map_eq_some_iff] at a b
   obtain ⟨q,hq,rfl⟩:=a
   obtain ⟨q',hq',rfl⟩:=b
   rw [hq] at hq'
   obtain rfl:=Option.some.inj hq'
   exact ⟨RC.int,rfl⟩
 ·cases e
theorem C03 {t:TypeId} {y:Operand} (e:Ap4 P t (L y) h=some (x,h')):Co P L h ⟨dst,.call { callee:=.builtin .clear,args:=#[y],argTypes:=#[t] },ty,pos,after,gd⟩ x h':=by
 unfold Ap4 at e
 split at e
 case h_2=>cases e
 rename_i el k b ht
 obtain ⟨hu,_⟩:=C3 ht
 intro ρ B w a s hL
 have exec:∀ {w':World},(Builtin.clear_ #[t] ty #[a.eval y]).run P w=.ok (.tuple #[]) w'->(execOp a.eval ⟨dst,.call { callee:=.builtin .clear,args:=#[y],argTypes:=#[t] },ty,pos,after,gd⟩).run P w=.ok (.value (.tuple #[])) w':=fun h3=>by
  simp [execOp,resolve,invoke,builtin,h3]
 have none_:∀ {A:Option Addr} {K:Nat},a.eval y=.slice A 0 K->(CV.v undef,h)=(x,h')->∃ v w' ρ',((execOp a.eval ⟨dst,.call { callee:=.builtin .clear,args:=#[y],argTypes:=#[t] },ty,pos,after,gd⟩).run P w=.ok (.value v) w'\/((execOp a.eval ⟨dst,.call { callee:=.builtin .clear,args:=#[y],argTypes:=#[t] },ty,pos,after,gd⟩).run P w=.ok .skip w'/\v=undef))/\Df ρ h h' B w w' ρ'/\RC (okH h') ρ' x v:=fun {A K} hy e=>by
  cases e
  refine ⟨_,w,ρ,.inl (exec ?_),Df.refl s,RC.undef⟩
  rw [hy]
  cases A<;>simp [Builtin.clear_,run_underlying hu]
 split at e
 ·rename_i hy
  have hyv:=hL y
  rw [hy] at hyv
  exact none_ hyv.v_inv (Option.some.inj e)
 ·rename_i hy
  have hyv:=hL y
  rw [hy] at hyv
  obtain ⟨A,K,hyv,_⟩:=hyv.z_inv
  exact none_ hyv (Option.some.inj e)
 ·rename_i c o n cp q hy
  have hyv:=hL y
  rw [hy] at hyv
  obtain ⟨K,hyv,hc,p1,p2,p3,p4,p5⟩:=hyv.s_inv
  cases hn:Nat.beq n 0 with
  | true =>
   rw [hn] at e
   obtain rfl:=Nat.eq_of_beq_eq_true hn
   exact none_ hyv (Option.some.inj e)
  | false =>
   rw [hn] at e
   simp only [cond_false,Option.bind_eq_some_iff] at e
   obtain ⟨z,hz,e⟩:=e
   obtain ⟨hk,e⟩:=D7 e
   simp only [Option.bind_eq_some_iff,Option.map_eq_some_iff] at e
   obtain ⟨l,hl,l',hs',h2,hw,e⟩:=e
   cases e
   have hn0:=Nat.ne_of_beq_eq_false hn
   obtain ⟨inf,zz,i1,i2,i3,i4,rfl,i5,i6⟩:=J0 hz ht hk
   have hR:=Sh (ok:=okH h) (ρ:=ρ) i5 n
   obtain ⟨q1,q2⟩:=J5 hs'
   obtain ⟨w1,r1,r2⟩:=s.store (P:=P) hl hw q2 (by omega) hR (.inl q1)
   have hzc:(Builtin.zeroCells zz.cells n)=madeCells zz.cells (n*zz.cells.size):=by simp [Builtin.zeroCells,madeCells]
   refine ⟨_,w1,ρ,.inl (exec ?_),r2,RC.undef⟩
   rw [hyv]
   obtain ⟨n,rfl⟩ : ∃ m,n=m+1:=⟨n - 1,by omega⟩
   simp [Builtin.clear_,run_underlying hu,zeroValue,typeInfo,i1,i2,hzc,r1]
 ·cases e
theorem Cf0 {t t':TypeId} {y z:Operand} (e:Bf1 P t t' (L y) (L z) h=some (x,h')):Co P L h ⟨dst,.call { callee:=.builtin .copy,args:=#[y,z],argTypes:=#[t,t'] },ty,pos,after,gd⟩ x h':=by
 unfold Bf1 at e
 split at e
 case h_2=>cases e
 rename_i el k b ht
 simp only [Option.bind_eq_some_iff] at e
 obtain ⟨⟨m,ys⟩,he,e⟩:=e
 obtain ⟨hs2,e⟩:=D7 e
 obtain ⟨hu,inf,i1,i3,_⟩:=C3 ht
 intro ρ B w a s hL
 have exec:∀ {v':Value} {w':World},(Builtin.copy_ #[t,t'] ty #[a.eval y,a.eval z]).run P w=.ok v' w'->(execOp a.eval ⟨dst,.call { callee:=.builtin .copy,args:=#[y,z],argTypes:=#[t,t'] },ty,pos,after,gd⟩).run P w=.ok (.value v') w':=fun h3=>by
  simp [execOp,resolve,invoke,builtin,h3]
 have zero:∀ {A:Option Addr} {K:Nat},a.eval y=.slice A 0 K->(CV.v (.int .i64 0),h)=(x,h')->∃ v w' ρ',((execOp a.eval ⟨dst,.call { callee:=.builtin .copy,args:=#[y,z],argTypes:=#[t,t'] },ty,pos,after,gd⟩).run P w=.ok (.value v) w'\/((execOp a.eval ⟨dst,.call { callee:=.builtin .copy,args:=#[y,z],argTypes:=#[t,t'] },ty,pos,after,gd⟩).run P w=.ok .skip w'/\v=undef))/\Df ρ h h' B w w' ρ'/\RC (okH h') ρ' x v:=fun {A K} hy e=>by
  cases e
  obtain ⟨h1,h2⟩:=Ye (P:=P) s he hs2 (hL z) 0 (Nat.zero_le _)
  obtain ⟨news,h3,h4,h5⟩:=h2 (ys':=[]) (by rw [Nat.zero_mul];cases ys<;>rfl)
  have:news=[]:=List.eq_nil_of_length_eq_zero (by omega)
  subst this
  refine ⟨.int .i64 0,w,ρ,.inl (exec ?_),Df.refl s,RC.int⟩
  rw [hy]
  have hm0:Nat.min m 0=0:=Nat.min_zero _
  cases A<;>simp [Builtin.copy_,run_underlying hu,h1,sizeOf,typeInfo,i1,i3,hm0,h3,storeCells,goInt]
 split at e
 ·rename_i c o n cp q hy
  simp only [Option.bind_eq_some_iff,Option.map_eq_some_iff] at e
  obtain ⟨ys',hy',l,hl,l',hs',h2,hw,e⟩:=e
  cases e
  have hyv:=hL y
  rw [hy] at hyv
  obtain ⟨K,hyv,hc,p1,p2,p3,p4,p5⟩:=hyv.s_inv
  obtain ⟨h1,h3⟩:=Ye (P:=P) s he hs2 (hL z) (Nat.min m n) (Nat.min_le_left _ _)
  obtain ⟨news,h4,h5,h6⟩:=h3 hy'
  obtain ⟨q1,q2⟩:=J5 hs'
  obtain ⟨w1,r1,r2⟩:=s.store (P:=P) hl hw q2 (by omega) h5 (.inl q1)
  refine ⟨.int .i64 (Nat.min m n:Nat),w1,ρ,.inl (exec ?_),r2,RC.int⟩
  rw [hyv]
  simp [Builtin.copy_,run_underlying hu,h1,sizeOf,typeInfo,i1,i3,h4,r1,goInt]
 ·rename_i hy
  have hyv:=hL y
  rw [hy] at hyv
  obtain ⟨A,K,hyv,_⟩:=hyv.z_inv
  exact zero hyv (Option.some.inj e)
 ·rename_i hy
  have hyv:=hL y
  rw [hy] at hyv
  exact zero hyv.v_inv (Option.some.inj e)
 ·cases e
theorem A10 {v:Value} (h:v.oneCell'=true):∀ a,v≠.agg a:=fun a e=>by subst e;cases h
theorem Cb3 {kv:List (Int×Value)} {m:Int} {u:Value} (h1:kv.all (fun e=>e.2.oneCell')=true) (h2:Jq kv m=some u):u.oneCell'=true:=by
 induction kv with
 | nil=>cases h2
 | cons p r ih =>
  obtain ⟨i,v⟩:=p
  simp only [List.all_cons,Bool.and_eq_true] at h1
  simp only [Jq] at h2
  split at h2
  ·cases h2;exact h1.1
  ·exact ih h1.2 h2
theorem Ce8 {t:TypeId} {y i:Operand} {okb:Bool} (e:Be9 P t (L y) (L i) okb h=some (x,h')):Co P L h ⟨dst,.lookup t y i okb,ty,pos,after,gd⟩ x h':=by
 unfold Be9 at e
 split at e
 case h_2=>cases e
 rename_i c k' m hy hi
 split at e
 case h_2=>cases e
 rename_i k z k'' kv ht hg
 obtain ⟨h1,e⟩:=Bl e
 cases e
 simp only [Bool.and_eq_true,decide_eq_true_eq,Bool.not_eq_true'] at h1
 obtain ⟨⟨⟨⟨rfl,rfl⟩,rfl⟩,hz1⟩,hk1⟩:=h1
 refine Co.pure_ fun ρ B w a s hL=>?_
 obtain ⟨kt,et,h1,h2,z1⟩:=M0 (w:=w) ht
 obtain ⟨es,cl,p1,p2⟩:=s.holds hg
 have hyv:=hL y
 rw [hy] at hyv
 have hiv:=hL i
 rw [hi] at hiv
 have hkey:=MapKept.run_checkKey (P:=P) (w:=w) h2 (k:=.int k'' m) (by simp [MapKept.IsKey]) es.isEmpty 9999
 rcases Sz (k:=k'') (m:=m) 0 p2 with ⟨f1,f2,_⟩ | ⟨j,v,f1,f2,_⟩
 ·rw [f2]
  have hf:=MapKept.run_findKey (P:=P) (w:=w) h2 f1
  refine ⟨z,?_,.v (A10 hz1)⟩
  simp only [execOp,hyv.m_inv.1,hiv.v_inv]
  refine Ca ?_
  simp [Instr.lookup,run_underlying h1,MapKept.run_getObj_map p1,hkey,hf,z1]
 ·rw [f2]
  have hf:=MapKept.run_findKey (P:=P) (w:=w) h2 f1
  refine ⟨v,?_,.v (A10 (Cb3 hk1 f2))⟩
  simp only [execOp,hyv.m_inv.1,hiv.v_inv]
  refine Ca ?_
  simp [Instr.lookup,run_underlying h1,MapKept.run_getObj_map p1,hkey,hf]
theorem Ce6 {t:TypeId} {y i z:Operand} (e:Be7 P t (L y) (L i) (L z) h=some (x,h')):Co P L h ⟨dst,.mapUpdate t y i z,ty,pos,after,gd⟩ x h':=by
 unfold Be7 at e
 split at e
 case h_2=>cases e
 rename_i c k' m u hy hi hz
 split at e
 case h_2=>cases e
 rename_i k zz k'' kv ht hg
 obtain ⟨h1,e⟩:=D7 e
 simp only [Bool.and_eq_true,decide_eq_true_eq] at h1
 obtain ⟨rfl,rfl⟩:=h1
 simp only [Option.map_eq_some_iff] at e
 obtain ⟨h2',hp,e⟩:=e
 cases e
 intro ρ B w a s hL
 obtain ⟨kt,et,h1,h2,_⟩:=M0 (w:=w) ht
 obtain ⟨es,cl,p1,p2⟩:=s.holds hg
 have hyv:=hL y
 rw [hy] at hyv
 have hiv:=hL i
 rw [hi] at hiv
 have hzv:=hL z
 rw [hz] at hzv
 have hkey:=MapKept.run_checkKey (P:=P) (w:=w) h2 (k:=.int k'' m) (by simp [MapKept.IsKey]) false 9999
 have hlt:=(Array.getElem?_eq_some_iff.1 p1).1
 have fin:∀ (es':Array MapEntry) (cl':Nat),es'.toList.map (fun e=>(e.key,e.val))=(Kw kv m u).map (fun x=>(Value.int k'' x.1,x.2))->(execOp a.eval ⟨dst,.mapUpdate t y i z,ty,pos,after,gd⟩).run P w=.ok .skip (w.putObj (ρ c).1 (.map es' cl'))->∃ v w' ρ',((execOp a.eval ⟨dst,.mapUpdate t y i z,ty,pos,after,gd⟩).run P w=.ok (.value v) w'\/((execOp a.eval ⟨dst,.mapUpdate t y i z,ty,pos,after,gd⟩).run P w=.ok .skip w'/\v=undef))/\Df ρ h h' B w w' ρ'/\RC (okH h') ρ' (.v undef) v:=fun es' cl' q1 q2=>by
  refine ⟨undef,_,ρ,.inr ⟨q2,rfl⟩,s.put hp hg (fun _ _ _ g=>by cases g) rfl (by simp) ⟨rfl,rfl,rfl⟩ (fun g hg'=>World.putObj_heap_other hg') ⟨es',cl',World.putObj_heap_same hlt,q1⟩,RC.undef⟩
 rcases Sz (k:=k'') (m:=m) 0 p2 with ⟨f1,f2,f3⟩ | ⟨j,v,f1,f2,⟨e,f4,f5⟩,f6⟩
 ·have hf:=MapKept.run_findKey (P:=P) (w:=w) h2 f1
  refine fin (es.push { key:=.int k'' m,val:=u,born:=cl }) (cl+1) (by rw [f3];simp [p2]) ?_
  simp only [execOp,hyv.m_inv.1,hiv.v_inv,hzv.v_inv]
  simp [Instr.mapUpdate,run_underlying h1,MapKept.run_getObj_map p1,hkey,hf,MapKept.run_setObj_map _ p1,World.putObj]
 ·have hf:=MapKept.run_findKey (P:=P) (w:=w) h2 f1
  simp only [Nat.zero_add] at hf
  have hst:=MapKept.run_keyThatStays (P:=P) (w:=w) (d:=.int k'') (k:=.int k'' m) (by simp [MapKept.IsKey])
  have hk:((es[j]?).map (·.key)).getD (Value.int k'' m)=.int k'' m:=by rw [<-Array.getElem?_toList,f4];exact f5
  refine fin (es.modify j fun e=>{ e with key:=.int k'' m,val:=u }) cl (by rw [Array.toList_modify];exact f6 _ _ rfl) ?_
  simp only [execOp,hyv.m_inv.1,hiv.v_inv,hzv.v_inv]
  simp [Instr.mapUpdate,run_underlying h1,MapKept.run_getObj_map p1,hkey,hf,hk,hst,MapKept.run_setObj_map _ p1,World.putObj]
theorem Vk:∀ {l:List CV} {ns:List Nat},Ab0 l=some ns->ns.length=l.length/\∀ (i n:Nat),ns[i]? = some n->l[i]? = some (.v (.int .u8 (n:Nat)))
 | [],ns,e=>by cases e;exact ⟨rfl,fun i n h=>by simp at h⟩
 | x :: l,ns,e=>by
  simp only [Ab0] at e
  split at e
  ·rename_i n r h1 h2
   cases e
   obtain ⟨h3,h4⟩:=Vk h2
   refine ⟨by simp [h3],fun i m hi=>?_⟩
   cases i with
   | zero =>
    simp at hi;subst hi
    unfold u8C at h1
    split at h1
    ·cases h1;rfl
    ·cases h1
   | succ i=>exact h4 i m (by simpa using hi)
  ·cases e
theorem Cf1 {sr d:TypeId} {y:Operand} (e:Bp3 P sr d h (L y)=some (x,h')):Co P L h ⟨dst,.convert sr d y,ty,pos,after,gd⟩ x h':=by
 unfold Bp3 at e
 split at e
 ·rename_i k m hy
  split at e
  ·rename_i k1 k2 h1 h2
   cases e
   refine Co.pure_ fun ρ B w a s hL=>⟨.int k2 (k2.wrap m),?_,RC.int⟩
   have hyv:=hL y
   rw [hy] at hyv
   simp only [execOp,hyv.v_inv]
   exact Ca (by simp [convert,run_underlying (M1 h1),run_underlying (M1 h2),Conv.intToInt])
  ·cases e
 ·rename_i hy
  obtain ⟨h1,e⟩:=Bl e
  cases e
  simp only [Bool.and_eq_true] at h1
  obtain ⟨el,h3,h4⟩:=J1 h1.1
  refine Co.pure_ fun ρ B w a s hL=>⟨.string ByteArray.empty,?_,RC.str⟩
  have hyv:=hL y
  rw [hy] at hyv
  simp only [execOp,hyv.v_inv]
  exact Ca (by rw [run_convert_bytes_string w sr d el none _ _ h3 h4 (Eu h1.2)];simp [Conv.bytesToString])
 ·rename_i z hy
  obtain ⟨h1,e⟩:=Bl e
  cases e
  simp only [Bool.and_eq_true] at h1
  obtain ⟨el,h3,h4⟩:=J1 h1.1.2
  have h5:=Nat.le_of_ble_eq_true h1.2
  intro ρ B w a s hL
  have hyv:=hL y
  rw [hy] at hyv
  have hrun:=Lib.run_convert_string_bytes (P:=P) w sr d el z (Eu h1.1.1) h3 h4
  have hb:Below w.heap.size w (Lib.bytesWorld w el z):=⟨rfl,rfl,rfl,by rw [Lib.bytesWorld_size];omega,fun k hk=>Lib.bytesWorld_at_old w el z k hk⟩
  have g1:=grownCap_ge w z.size 0 el
  have g2:=grownCap_le_maxLen w z.size 0 el (by unfold maxLen;omega)
  have hzl:z.data.size=z.size:=rfl
  have hsz:(Lib.bytesCells w el z).size=grownCap w z.size 0 el:=by simp [Lib.bytesCells,hzl];omega
  obtain ⟨ρ',e1,p⟩:=s.new (b:=.cs (z.data.toList.map fun b=>CV.v (.int .u8 (b.toNat:Nat))) [] true) (w':=Lib.bytesWorld w el z) (g:=(w.heap.size,(Lib.bytesCells w el z).size)) hb rfl fun ρ' _ hx _=>⟨_,el,_,Lib.bytesWorld_at_new w el z,(fun e=>by cases e),by rw [hsz];simp [hzl];exact g1,Nat.le_refl _,fun j x u a b=>by
   simp only [List.getElem?_map,Option.map_eq_some_iff] at a
   obtain ⟨q,hq,rfl⟩:=a
   have hj:=(List.getElem?_eq_some_iff.1 hq).1
   rw [Lib.bytesCells,Array.getElem?_append_left (by simpa using hj),Array.getElem?_map,<-Array.getElem?_toList,hq] at b
   cases b
   exact ⟨RC.int,rfl⟩⟩
  refine ⟨.slice (some ⟨w.heap.size,0,none⟩) z.size (grownCap w z.size 0 el),_,ρ',.inl ?_,p,?_⟩
  ·simp only [execOp,hyv.v_inv]
   exact Ca hrun
  ·have:=RC.s (ρ:=ρ') (o:=0) (n:=z.size) (k:=z.size) (K:=grownCap w z.size 0 el) (e:=1) (Gn s (.cs (z.data.toList.map fun b=>CV.v (.int .u8 (b.toNat:Nat))) [] true)) (Nat.le_refl _) g1 g2 (fun g=>by omega) (fun g=>by rw [e1,hsz];simp)
   rwa [e1] at this
 ·rename_i c o n k q hy
  cases hq:(Lf P sr&&Nat.beq sr d) with
  | true =>
   rw [hq] at e
   simp only [cond_true] at e
   simp only [Bool.and_eq_true] at hq
   obtain ⟨hs,hd⟩:=hq
   obtain rfl:=Nat.eq_of_beq_eq_true hd
   obtain ⟨el,h3,h4⟩:=J1 hs
   split at e
   ·rename_i l hg
    simp only [Option.map_eq_some_iff] at e
    obtain ⟨h2,hp,e⟩:=e
    cases e
    intro ρ B w a s hL
    have hyv:=hL y
    rw [hy] at hyv
    obtain ⟨hf,rfl⟩:=GH.put_some hp
    obtain ⟨K,hv,hc,_⟩:=hyv.s_inv
    obtain ⟨C,t,fr,b1,b2,b3,b4,b5⟩:=s.holds hg
    obtain rfl:=b2 rfl
    obtain ⟨f1,f2,_⟩:=Bo0 (n:=C.size) (show Blk w (ρ c).1 t C from b1)
    have hB:=s.rel.low c _ hg rfl hf
    have hrun:(convert sr sr (.slice (some ⟨(ρ c).1,o,none⟩) n K)).run P w=.ok (.slice (some ⟨(ρ c).1,o,none⟩) n K) (w.freeze ⟨(ρ c).1,C.size,none⟩ 1):=by
     have hsh:w.shape? (ρ c).1=some (t,C.size):=by
      unfold World.shape?
      rw [b1]
     simp [convert,run_underlying h3,run_underlying h4,markStringish,hsh]
    have hcells:∃ fr,(w.freeze ⟨(ρ c).1,C.size,none⟩ 1).heap[(ρ c).1]? = some (.cells C t fr):=⟨_,by simp [World.freeze,Array.getElem?_modify,b1];rfl⟩
    obtain ⟨fr2,hcells⟩:=hcells
    refine ⟨.slice (some ⟨(ρ c).1,o,none⟩) n K,_,ρ,.inl ?_,s.turn (w':=w.freeze ⟨(ρ c).1,C.size,none⟩ 1) hg rfl hf (kin:=[]) (b:=.cs l [] true) (t':=h.t.set c (.cs l [] true)) (fun k hk=>by cases hk) (fun d=>by rw [TR.get_set];simp) (fun d b' q l2 hr=>?_) (by rw [f1];exact Nat.le_refl _) ⟨by simp [World.freeze],by simp [World.freeze],by simp [World.freeze]⟩ (fun g hg'=>f2 g hg') ⟨C,t,fr2,hcells,(fun e=>by cases e),b3,b4,b5⟩,?_⟩
    ·simp only [execOp,hv]
     exact Ca hrun
    ·rcases s.rel.apart d c b' _ q hg l2 rfl hr with g | (⟨_,_,_,_,_,_,g,g',_⟩ | ⟨_,_,_,_,_,g⟩) | (⟨_,_,_,_,_,g,_⟩ | ⟨_,_,_,_,g,_⟩)
     ·exact .inl g
     ·cases g;cases g'
     ·cases g
     ·cases g
     ·cases g
    ·rw [<-hv];exact hyv
   ·cases e
  | false =>
   rw [hq] at e
   simp only [cond_false] at e
   obtain ⟨h1,e⟩:=D7 e
   simp only [Bool.and_eq_true] at h1
   simp only [Option.bind_eq_some_iff,Option.map_eq_some_iff] at e
   obtain ⟨l,hl,bs,hbs,ns,hns,e⟩:=e
   cases e
   obtain ⟨el,h3,h4⟩:=J1 h1.1
   obtain ⟨rfl,t1⟩:=Eo hbs
   rw [Mi] at t1 hns
   obtain ⟨n1,n2⟩:=Vk hns
   refine Co.pure_ fun ρ B w a s hL=>⟨.string (Uy ns),?_,RC.str⟩
   have hyv:=hL y
   rw [hy] at hyv
   obtain ⟨K,hv,_⟩:=hyv.s_inv
   obtain ⟨f,hf⟩:=s.cell hl
   have hlen:ns.length=n:=by rw [n1,List.length_take];exact Nat.min_eq_left t1
   simp only [execOp,hv]
   refine Ca (run_convert_bytes_arg w sr el h3 h4 (ρ c).1 o n K (ns.map fun (b:Nat)=>(b:Int)) (by simpa using hlen) (fun i hi=>?_) d (Eu h1.2))
   have hns:=n2 i _ (List.getElem?_eq_getElem (by omega))
   rw [List.getElem?_take_of_lt hi,List.getElem?_drop] at hns
   obtain ⟨g1,g2,_⟩:=hf _ _ hns
   rw [g1,g2.v_inv]
   simp [List.getD,List.getElem?_map,List.getElem?_eq_getElem (show i < ns.length by omega)]
 ·cases e
def Au1 (o:Oper):Bool :=
 match o.op with
 | .call { callee:=.value _,args:=_,argTypes:=_ }=>false
 | _=>true
theorem Bw2 (hE:Mn P eqT) {rec:Mm->GH->Option (CV×GH)} (hp:Au1 o=true) (e:opC P eqT rec L h o=some (x,h')):Co P L h o x h':=by
 obtain ⟨dst,op,ty,pos,after,gd⟩:=o
 unfold opC at e
 cases op with
 | move y=>cases e;exact Co.pure_ fun ρ B w a s hL=>⟨a.eval y,rfl,hL y⟩
 | assign y=>cases e;exact Co.pure_ fun ρ B w a s hL=>⟨a.eval y,rfl,hL y⟩
 | pick c y z=>exact Ce4 e
 | alloc t=>exact C05 e
 | box t y=>exact D64 e
 | build t ps=>exact C04 e
 | buildSlice t n ps=>exact Bq6 e
 | load t y=>exact Ce9 e
 | store t y z=>exact Bz9 e
 | nilCheck y=>exact D60 e
 | binOp op t y z tz=>exact D65 hE e
 | unOp op t y=>exact Dw8 e
 | convert sr d y=>exact Cf1 e
 | makeFunc fn first caps=>exact Dw9 e
 | makeMap t r=>exact D61 e
 | makeSlice t n m=>exact Ce7 e
 | slice t y lo hi mx=>exact C00 e
 | fieldAddr t y f=>exact Bq5 e
 | field t y f=>exact C02 e
 | indexAddr t y i=>exact Bq4 e
 | index t y i=>exact C01 e
 | lookup t y i okb=>exact Ce8 e
 | mapUpdate t y i z=>exact Ce6 e
 | extract y i=>exact Bd8 e
 | call c =>
  obtain ⟨callee,args,ats⟩:=c
  cases callee with
  | value f=>cases hp
  | invoke r m=>cases e
  | builtin b =>
   replace e:Ap6 P b ats.toList (args.toList.map L) h=some (x,h'):=e
   have arr:∀ {α:Type} {xs:Array α} {l:List α},xs.toList=l->xs=l.toArray:=fun h=>by rw [<-h]
   have two:∀ {p q:CV},args.toList.map L=[p,q]->∃ y z,args=#[y,z]/\L y=p/\L z=q:=fun {p q} h=>by
    match hl:args.toList,h with
    | [y,z],h=>exact ⟨y,z,arr hl,by simpa using h⟩
   have Bo1:∀ {p q r s:CV},args.toList.map L=[p,q,r,s]->∃ y z y2 z2,args=#[y,z,y2,z2]/\L y=p/\L z=q/\L y2=r/\L z2=s:=fun {p q r s} h=>by
    match hl:args.toList,h with
    | [y,z,y2,z2],h=>exact ⟨y,z,y2,z2,arr hl,by simpa using h⟩
   have one:∀ {p:CV},args.toList.map L=[p]->∃ y,args=#[y]/\L y=p:=fun {p} h=>by
    match hl:args.toList,h with
    | [y],h=>exact ⟨y,arr hl,by simpa using h⟩
   unfold Ap6 at e
   split at e
   ·rename_i h1 h2
    obtain ⟨y,z,rfl,rfl,rfl⟩:=two h2
    obtain rfl:=arr h1
    exact D66 e
   ·rename_i h1 h2
    obtain ⟨y,z,rfl,rfl,rfl⟩:=two h2
    obtain rfl:=arr h1
    exact Cf0 e
   ·rename_i h1 h2
    obtain ⟨y,rfl,rfl⟩:=one h2
    obtain rfl:=arr h1
    exact D62 e
   ·rename_i h1 h2
    obtain ⟨y,rfl,rfl⟩:=one h2
    obtain rfl:=arr h1
    exact C03 e
   ·rename_i h1 h2
    obtain ⟨y,rfl,rfl⟩:=one h2
    obtain rfl:=arr h1
    exact D63 e
   ·rename_i h2
    obtain ⟨y,z,rfl,rfl,rfl⟩:=two h2
    exact C49 (mx:=true) e
   ·rename_i h2
    obtain ⟨y,z,rfl,rfl,rfl⟩:=two h2
    exact C49 (mx:=false) e
   ·rename_i h2
    obtain ⟨y,z,y2,z2,rfl,rfl,rfl,rfl,rfl⟩:=Bo1 h2
    exact Ce5 e
   ·cases e
 | _=>cases e
end
section
variable {P : Program} {L : Operand -> CV} {h h' : GH} {o : Oper} {x : CV} {eqT : Nat -> Bool} {ρ : Nat -> Nat × Nat}
def RCL (ok:Nat->Prop) (ρ:Nat->Nat×Nat) (l:List CV) (vs:Array Value):Prop:=vs.size=l.length/\∀ (j:Nat) x u,l[j]? = some x->vs[j]? = some u->RC ok ρ x u
def Le (P:Program) (ρ:Nat->Nat×Nat) (h:GH):Prop:=∀ g,g < P.globals.size->okH h g/\(ρ g).1=g
theorem Le.post {B:Nat} {w w':World} {ρ':Nat->Nat×Nat} (hg:Le P ρ h) (p:Df ρ h h' B w w' ρ'):Le P ρ' h':=fun g hl=>⟨p.le.ok (hg g hl).1,by rw [p.same g (hg g hl).1.1];exact (hg g hl).2⟩
def La (P:Program) (rec:Mm->GH->Option (CV×GH)):Prop :=
 (∀ f l h x h',rec (.call f l) h=some (x,h')->∀ (ρ:Nat->Nat×Nat) (B:Nat) (w:World) (vs:Array Value),SR ρ h B w->Le P ρ h->RCL (okH h) ρ l vs ->
  (∀ (w:World),(callFunc f vs).run P w=.ok (.enter f vs) w)/\Calls P f vs w fun e w'=>∃ v ρ',e=.returned v/\Df ρ h h' B w w' ρ'/\RC (okH h') ρ' x v) /\
 (∀ c l h x h',rec (.round c l) h=some (x,h')->∀ (ρ:Nat->Nat×Nat) (B:Nat) (w:World) (vs:Array Value),SR ρ h B w->Le P ρ h->okH h c->RCL (okH h) ρ l vs ->
  YieldAt (FW none) 0 P (ρ c).1 vs w fun e w'=>∃ v ρ',e=.returned v/\Df ρ h h' B w w' ρ'/\RC (okH h') ρ' x v)
def OpG (P:Program) (L:Operand->CV) (h:GH) (o:Oper) (x:CV) (h':GH):Prop :=
 ∀ (ρ:Nat->Nat×Nat) (B:Nat) (w:World) (a:Act) (ro:Option Nat),SR ρ h B w->Le P ρ h->(∀ y,RC (okH h) ρ (L y) (a.eval y)) ->
  ∀ (N:Act->World->Prop) (Q:Exit->Act->World->Prop),(∀ ρ' v w',Df ρ h h' B w w' ρ'->RC (okH h') ρ' x v->N (a.put o.dst v) w')->o.wpIn (FW ro) 0 P a w N Q
theorem Co.ok (hr:Co P L h o x h') (hd:∀ c,o.op≠.defer c):OpG P L h o x h':=fun ρ B w a ro s _ hL N Q hN=>by
 obtain ⟨v,w',ρ',h1,h2,h3⟩:=hr ρ B w a s hL
 refine Ft hd ?_
 unfold Oper.wp
 rcases h1 with h1 | ⟨h1,rfl⟩
 ·rw [h1];exact hN ρ' v w' h2 h3
 ·rw [h1];exact hN ρ' undef w' h2 h3
theorem RCL.map {a:Act} {args:Array Operand} (hL:∀ y,RC (okH h) ρ (L y) (a.eval y)):RCL (okH h) ρ (args.toList.map L) (args.map a.eval):=⟨by simp,fun j x u e1 e2=>by
 rw [List.getElem?_map,Option.map_eq_some_iff] at e1
 rw [Array.getElem?_map,Option.map_eq_some_iff] at e2
 obtain ⟨y,e3,rfl⟩:=e1
 obtain ⟨y',e4,rfl⟩:=e2
 rw [Array.getElem?_toList,e4] at e3
 obtain rfl:=Option.some.inj e3
 exact hL _⟩
theorem RCL.append {ok:Nat->Prop} {l m:List CV} {vs us:Array Value} (h1:RCL ok ρ l vs) (h2:RCL ok ρ m us):RCL ok ρ (l++m) (vs++us):=⟨by simp [h1.1,h2.1],fun j x u a b=>by
 by_cases hj:j < l.length
 ·rw [List.getElem?_append_left hj] at a
  rw [Array.getElem?_append_left (by rw [h1.1];exact hj)] at b
  exact h1.2 j x u a b
 ·rw [List.getElem?_append_right (by omega)] at a
  rw [Array.getElem?_append_right (by rw [h1.1];omega),h1.1] at b
  exact h2.2 _ x u a b⟩
theorem Av5 (hE:Mn P eqT) {rec:Mm->GH->Option (CV×GH)} (hR:La P rec) (e:opC P eqT rec L h o=some (x,h')):OpG P L h o x h':=by
 cases hp:Au1 o with
 | true=>exact (Bw2 hE hp e).ok fun c hc=>by unfold opC at e;rw [hc] at e;cases e
 | false =>
  obtain ⟨dst,op,ty,pos,after,gd⟩:=o
  unfold Au1 at hp
  split at hp
  case h_2=>cases hp
  rename_i fo args ats ho
  simp only at ho
  subst ho
  have e:Ap5 rec (L fo) (args.toList.map L) h=some (x,h'):=e
  intro ρ B w a ro s hgl hL N Q hN
  unfold Ap5 at e
  split at e
  ·rename_i f caps hfo
   have hfv:=hL fo
   rw [hfo] at hfv
   generalize hfe:a.eval fo=u at hfv
   cases hfv with
   | @f _ _ vs p1 p2 =>
    have hargs:RCL (okH h) ρ (args.toList.map L++caps) (args.map a.eval++vs):=(RCL.map hL).append ⟨p1,p2⟩
    obtain ⟨hen,hcall⟩:=hR.1 f _ h x h' e ρ B w _ s hgl hargs
    have hexec:(execOp a.eval ⟨dst,.call { callee:=.value fo,args,argTypes:=ats },ty,pos,after,gd⟩).run P w=.ok (.enter f (args.map a.eval++vs)) w:=by
     simp [execOp,resolve,hfe,Deferred.ofValue,invoke,hen]
    refine Ft (fun c hc=>by cases hc) ?_
    unfold Oper.wp
    rw [hexec,Oper.upon_enter]
    refine hcall.mono ?_
    rintro e w' ⟨v,ρ',rfl,q1,q2⟩
    exact hN ρ' v w' q1 q2
  ·rename_i c hfo
   have hfv:=hL fo
   rw [hfo] at hfv
   generalize hfe:a.eval fo=u at hfv
   cases hfv with
   | y hc =>
    obtain ⟨fnl,tmps,assign,body,hy,hRd⟩:=hR.2 c _ h x h' e ρ B w _ s hgl hc (RCL.map hL)
    refine ⟨fun _ _=>trivial,?_⟩
    have hexec:((⟨dst,.call { callee:=.value fo,args,argTypes:=ats },ty,pos,after,gd⟩ : Oper).semAt (FW ro).round a.eval).run P w=.ok (.round (ρ c).1 fnl tmps assign body) w:=by
     rw [Oper.semAt_plain _ _ _ (by intro c e;cases e)]
     generalize a.eval=ev at hfe hy ⊢
     simp [execOp,resolve,invoke,hfe,go_sem,hy]
    rw [hexec]
    refine ⟨(fun e=>by cases e),RoundIn.mono (F:=FW ro) hRd ?_⟩
    rintro e W' ⟨v,ρ',rfl,q1,q2⟩
    exact hN ρ' v W' q1 q2
  ·cases e
end
section
variable {P : Program} {eqT : Nat -> Bool} {rec : Mm -> GH -> Option (CV × GH)} {ρ : Nat -> Nat × Nat} {B : Nat}
theorem Cz3 {x:Option CV} : Option.rec (motive:=fun _=>CV) (.v undef) (fun x=>x) x=x.getD (.v undef):=by cases x<;>rfl
theorem A99 {h:GH} {sl:Bm} {n:Nat} {a:Act} (hs:SlR (okH h) ρ sl n a.tmps) (hg:Le P ρ h) (y:Operand):RC (okH h) ρ (evC P sl y) (a.eval y):=by
 cases y with
 | tmp t =>
  have h1:evC P sl (.tmp t)=(sl.get t).getD (.v undef):=Cz3
  rw [h1]
  exact hs.2 t
 | const v=>exact RC.ofV v
 | global g =>
  show RC _ _ (bif Nat.blt g P.globals.size then CV.p g 0 else .u) (.pointer (some ⟨g,0,none⟩))
  cases hq:Nat.blt g P.globals.size with
  | false=>exact .u
  | true =>
   obtain ⟨h1,h2⟩:=hg g (Bs.1 hq)
   have:=RC.p (ρ:=ρ) (o:=0) h1
   rwa [h2] at this
 | func f=>exact .f rfl fun j x u a=>by simp at a
theorem Bf4 {ok:Nat->Prop} {ops:List Oper} {sl:Bm} {n:Nat} {a:Act} (hs:SlR ok ρ sl n a.tmps) {o:Oper} {b:Bool} (e:Rz ops sl o=some b):Region.wanted o (yielded ops.toArray a.tmps)=b:=by
 unfold Region.wanted
 unfold Rz at e
 cases hg:o.guard with
 | none=>rw [hg] at e;cases e;rfl
 | some g =>
  obtain ⟨j,want⟩:=g
  rw [hg] at e
  have e:Y4 ops sl j want=some b:=e
  unfold Y4 at e
  split at e
  case h_2=>cases e
  rename_i d hd
  obtain ⟨o',ho',hd'⟩:=Option.bind_eq_some_iff.1 hd
  have hv:=hs.2 d
  have hy:∀ u,a.tmps.getD d undef=u->u≠undef->a.tmps[d]? = some u:=fun u hu hne=>by
   rw [Array.getD_eq_getD_getElem?] at hu
   cases hdd:a.tmps[d]? with
   | none=>rw [hdd] at hu;exact absurd hu.symm hne
   | some y=>rw [hdd] at hu;simp at hu;rw [hu]
  split at e
  ·rename_i x hx
   cases e
   rw [hx] at hv
   have h1:=hy _ hv.v_inv (by intro h;cases h)
   simp [yielded,ho',hd',h1]
  ·rename_i t hx
   cases e
   rw [hx] at hv
   have h1:a.tmps.getD d undef=.tuple t:=hv.v_inv
   rw [Array.getD_eq_getD_getElem?] at h1
   cases hdd:a.tmps[d]? with
   | none=>simp [yielded,ho',hd',hdd]
   | some y=>rw [hdd] at h1;simp at h1;simp [yielded,ho',hd',hdd,h1]
  ·cases e
theorem B23 {ok:Nat->Prop} {sl sl':Bm} {n:Nat} {a:Act} (hs:SlR ok ρ sl n a.tmps) {d:Option Tmp} {x:CV} {v:Value} (hv:RC ok ρ x v) (e:Xi sl n d x=some sl'):SlR ok ρ sl' n (a.put d v).tmps/\(a.put d v).defers=a.defers:=by
 cases d with
 | none=>cases e;exact ⟨hs,rfl⟩
 | some d =>
  have e:Bool.rec (motive:=fun _=>Option Bm) none (some (sl.set d x)) (Nat.ble (Nat.succ d) n)=some sl':=e
  cases hq:Nat.ble (Nat.succ d) n with
  | false=>rw [hq] at e;cases e
  | true =>
   rw [hq] at e
   cases e
   have hd:d < n:=Nat.le_of_ble_eq_true hq
   refine ⟨⟨by simp [Act.put,hs.1],fun i=>?_⟩,rfl⟩
   rw [TR.get_set]
   show RC ok ρ _ ((a.tmps.setIfInBounds d v).getD i undef)
   by_cases hi:i=d
   ·subst hi
    rw [if_pos rfl,Array.getD_eq_getD_getElem?,Array.getElem?_setIfInBounds_self_of_lt (by rw [hs.1];exact hd)]
    exact hv
   ·rw [if_neg hi,Array.getD_eq_getD_getElem?,Array.getElem?_setIfInBounds_ne (Ne.symm hi),<-Array.getD_eq_getD_getElem?]
    exact hs.2 i
theorem Xm (hE:Mn P eqT) (hR:La P rec) {ops:List Oper} {n:Nat} {ro:Option Nat} {Q:Exit->Act->World->Prop} : ∀ (l:List Oper) (sl sl':Bm) (h h':GH),Ca5 P eqT rec ops n l sl h=some (sl',h')->∀ (ρ:Nat->Nat×Nat) (w:World) (a:Act),SR ρ h B w->Le P ρ h->SlR (okH h) ρ sl n a.tmps ->
  (∀ ρ' a' w',Df ρ h h' B w w' ρ'->SlR (okH h') ρ' sl' n a'.tmps->a'.defers=a.defers->Q .normal a' w')->wpListIn (FW ro) 0 P ops.toArray Q l a w
 | [],sl,sl',h,h',e,ρ,w,a,s,hg,hs,hQ=>by
  cases e
  exact hQ ρ a w (Df.refl s) hs rfl
 | o :: r,sl,sl',h,h',e,ρ,w,a,s,hg,hs,hQ=>by
  have e:goC P eqT rec ops n o (Ca5 P eqT rec ops n r) sl h=some (sl',h'):=e
  refine wpListIn_step fun K hK=>?_
  unfold goC at e
  cases hw:Rz ops sl o with
  | none=>rw [hw] at e;cases e
  | some b =>
   have hwr:=Bf4 hs hw
   rw [hw] at e
   cases b with
   | true =>
    rw [if_pos hwr]
    cases ho:opC P eqT rec (evC P sl) h o with
    | none=>simp only [ho] at e;cases e
    | some p =>
     obtain ⟨x,h1⟩:=p
     simp only [ho] at e
     cases hp:Xi sl n o.dst x with
     | none=>simp only [hp] at e;cases e
     | some sl1 =>
      simp only [hp] at e
      refine Av5 hE hR ho ρ B w a ro s hg (A99 hs hg) K Q fun ρ1 v w1 p1 hv=>hK _ _ ?_
      obtain ⟨q1,q2⟩:=B23 (hs.ext p1.ext) hv hp
      exact Xm hE hR r sl1 sl' h1 h' e ρ1 w1 _ p1.sr (hg.post p1) q1 fun ρ' a' w' p2 q3 q4=>hQ ρ' a' w' (p1.trans p2) q3 (q4.trans q2)
   | false =>
    rw [if_neg (by rw [hwr];simp)]
    cases hp:Xi sl n o.dst (.v undef) with
    | none=>simp only [hp] at e;cases e
    | some sl1 =>
     simp only [hp] at e
     obtain ⟨q1,q2⟩:=B23 hs (v:=undef) RC.undef hp
     exact ⟨fun _ _=>trivial,hK _ _ (Xm hE hR r sl1 sl' h h' e ρ w _ s hg q1 fun ρ' a' w' p2 q3 q4=>hQ ρ' a' w' p2 q3 (q4.trans q2))⟩
end
def Ex.toExit:Ex->Exit
 | .normal=>.normal
 | .exit id=>.exit id
 | .ret=>.ret
structure CR (P:Program) (ρ:Nat->Nat×Nat) (s:FrS) (B:Nat) (a:Act) (w:World):Prop where
 sr:SR ρ s.h B w
 gl:Le P ρ s.h
 sl:SlR (okH s.h) ρ s.sl s.n a.tmps
 lt:∀ d∈s.ds,d < s.h.nx
 ds:a.defers=G8 (s.ds.map fun d=>(ρ d).1)
def B00 (P:Program) (ρ:Nat->Nat×Nat) (s s':FrS) (B:Nat) (w:World) (e:Ex) (e':Exit) (a':Act) (w':World):Prop:=e'=e.toExit/\∃ ρ',Df ρ s.h s'.h B w w' ρ'/\CR P ρ' s' B a' w'/\s'.n=s.n
def Yy (P:Program) (eqT:Nat->Bool) (rec:Mm->GH->Option (CV×GH)):Prop:=∀ (B:Nat) (id:Nat) (ops:Array Oper) (n:Nat) (l:List DI) (sl sl':Bm) (h h':GH) (ro:Option Nat) (Q:Exit->Act->World->Prop),Yg ops.toList=some l->drC P eqT rec ops.toList n l 0 [] [] sl h=some (sl',h') ->
 ∀ (ρ:Nat->Nat×Nat) (w:World) (a:Act),SR ρ h B w->Le P ρ h->SlR (okH h) ρ sl n a.tmps->(∀ ρ' a' w',Df ρ h h' B w w' ρ'->SlR (okH h') ρ' sl' n a'.tmps->a'.defers=a.defers->Q .normal a' w')->(Code.region id ops true).wpIn (FW ro) 0 P Q a w
section
variable {P : Program} {eqT : Nat -> Bool} {rec : Mm -> GH -> Option (CV × GH)} {ρ ρ' : Nat -> Nat × Nat} {B : Nat} {s s' : FrS} {a : Act} {w w' : World}
theorem CR.next (c:CR P ρ s B a w) {sl:Bm} {h:GH} {a':Act} (p:Df ρ s.h h B w w' ρ') (hs:SlR (okH h) ρ' sl s.n a'.tmps) (hd:a'.defers=a.defers):CR P ρ' ⟨sl,s.n,s.ds,h⟩ B a' w' :=
 ⟨p.sr,c.gl.post p,hs,fun d hd=>Nat.lt_of_lt_of_le (c.lt d hd) p.le.nx,by
  rw [hd,c.ds]
  congr 1
  exact List.map_congr_left fun d hd=>by rw [p.same d (c.lt d hd)]⟩
theorem Xc {c:Code} {F:Fence} {f:FrS->Option (Ex×FrS)} (hf:∀ s s' e,f s=some (e,s')->∀ ρ w a,CR P ρ s B a w->(∀ l,F.round=some l->True)->c.wpIn F 0 P (B00 P ρ s s' B w e) a w):∀ (m:Nat) (s s':FrS) (e:Ex),A21 f m s=some (e,s')->∀ ρ w a,CR P ρ s B a w->Code.roundsIn F 0 P c (B00 P ρ s s' B w e) m a w
 | 0,s,s',e,h,_,_,_,_=>by cases h
 | m+1,s,s',e,h,ρ,w,a,hc=>by
  have h:(match f s with
   | some (.normal,s')=>A21 f m s'
   | r=>r)=some (e,s'):=h
  cases hfs:f s with
  | none=>rw [hfs] at h;cases h
  | some p =>
   obtain ⟨e1,s1⟩:=p
   rw [hfs] at h
   refine wpIn_mono (hf s s1 e1 hfs ρ w a hc fun _ _=>trivial) ?_
   rintro e' a' w' ⟨rfl,ρ',p1,c1,hn⟩
   cases e1 with
   | normal =>
    have:=Xc hf m s1 s' e h ρ' w' a' c1
    refine roundsIn_mono' this ?_
    rintro e2 a2 w2 ⟨rfl,ρ2,p2,c2,hn2⟩
    exact ⟨rfl,ρ2,p1.trans p2,c2,hn2.trans hn⟩
   | exit id=>cases h;exact ⟨rfl,ρ',p1,c1,hn⟩
   | ret=>cases h;exact ⟨rfl,ρ',p1,c1,hn⟩
where roundsIn_mono' {F:Fence} {c:Code} {Q Q':Exit->Act->World->Prop} : ∀ {m:Nat} {a:Act} {w:World},Code.roundsIn F 0 P c Q m a w->(∀ e a w,Q e a w->Q' e a w)->Code.roundsIn F 0 P c Q' m a w
 | 0,_,_,h,_=>h.elim
 | m+1,a,w,h,hq=>wpIn_mono h fun e a' w' h'=>by
  cases e with
  | normal=>exact roundsIn_mono' h' hq
  | _=>exact hq _ _ _ h'
def roA (ρ:Nat->Nat×Nat) (ro:Option Nat):Option Nat:=ro.map fun l=>(ρ l).1
theorem Ag6 {h h':GH} {ro:Option Nat} (p:Df ρ h h' B w w' ρ') (hr:∀ l,ro=some l->l < h.nx):roA ρ' ro=roA ρ ro:=by
 cases ro with
 | none=>rfl
 | some l=>simp [roA,p.same l (hr l rfl)]
theorem B88 (hR:La P rec) {ro:Option Nat} {g:Operand} {ps:Array Tmp} {asg bd:Code} {e:Ex} (h:At9 P rec ro g ps.toList asg bd s=some (e,s')) (c:CR P ρ s B a w):(Code.rangeFunc g ps asg bd).wpIn (FW (roA ρ ro)) 0 P (B00 P ρ s s' B w e) a w:=by
 unfold At9 at h
 split at h
 case h_2=>cases h
 rename_i gf caps hge
 split at h
 case h_2=>cases h
 rename_i d h1 ds hm
 split at h
 case h_2=>cases h
 rename_i r h2 hrec
 have hgv:=A99 c.sl c.gl g
 rw [hge] at hgv
 generalize hfe:a.eval g=u at hgv
 cases hgv with
 | @f _ _ lb p1 p2 =>
  refine wpIn_rangeFunc fun fn hfn=>?_
  -- the record is laid
  obtain ⟨l,mark,w1,ρ1,q1,q2,q3,q4,q5,q6⟩ : ∃ (l:Nat) (mark:List Deferred) (w1:World) (ρ1:Nat->Nat×Nat),(Instr.enterLoop fn a.tmps ps asg bd (FW (roA ρ ro)).round).run P w=.ok (l,mark) w1 /\
    Df ρ s.h (h1.new (.lp ⟨.ready,none,s.sl,s.n,ps.toList,asg,bd,d⟩)) B w w1 ρ1/\(ρ1 h1.nx).1=l/\okH (h1.new (.lp ⟨.ready,none,s.sl,s.n,ps.toList,asg,bd,d⟩)) h1.nx/\(∀ d∈ds,d < h1.nx)/\mark++a.defers=G8 (ds.map fun d=>(ρ1 d).1):=by
   unfold C35 at hm
   split at hm
   ·rename_i l0
    split at hm
    ·rename_i L hL
     cases hm
     obtain ⟨fn0,tm0,hl0,hok,_⟩:=c.sr.holds hL
     obtain ⟨ρ1,e1,p⟩:=c.sr.new (b:=.lp ⟨.ready,none,s.sl,s.n,ps.toList,asg,bd,L.d⟩) (w':=w.alloc (.loop { state:=.ready,pending:=none,fn,tmps:=a.tmps,params:=ps,assign:=asg,body:=bd,defers:=(ρ L.d).1 })) (g:=(w.heap.size,0)) (Ap (Below.refl _ w)) rfl fun ρ' _ hx _=>⟨fn,a.tmps,by rw [(hx _ hok).2];exact World.alloc_heap_new _ _,(hx _ hok).1,c.sl.ext hx⟩
     refine ⟨w.heap.size,[],_,ρ1,run_enterLoop_inner hl0 fn a.tmps ps asg bd,p,by rw [e1],Gn c.sr _,c.lt,?_⟩
     rw [List.nil_append,c.ds]
     congr 1
     exact List.map_congr_left fun d hd=>by rw [p.same d (c.lt d hd)]
    ·cases hm
   ·cases hm
    obtain ⟨ρ0,e0,p0⟩:=c.sr.new (b:=.df) (w':=w.alloc (.deferred (some []))) (g:=(w.heap.size,0)) (Ap (Below.refl _ w)) rfl fun ρ' _ hx _=>World.alloc_heap_new _ _
    have hd0:okH (s.h.new .df) s.h.nx:=Gn c.sr _
    obtain ⟨ρ1,e1,p1⟩:=p0.sr.new (b:=.lp ⟨.ready,none,s.sl,s.n,ps.toList,asg,bd,s.h.nx⟩) (w':=(w.alloc (.deferred (some []))).alloc (.loop { state:=.ready,pending:=none,fn,tmps:=a.tmps,params:=ps,assign:=asg,body:=bd,defers:=w.heap.size })) (g:=(w.heap.size+1,0)) (Ap (Below.refl _ _)) (by simp) fun ρ' _ hx _=>⟨fn,a.tmps,by
     rw [(hx _ hd0).2,e0]
     have:=World.alloc_heap_new (w.alloc (.deferred (some []))) (.loop { state:=.ready,pending:=none,fn,tmps:=a.tmps,params:=ps,assign:=asg,body:=bd,defers:=w.heap.size })
     simpa using this,(hx _ hd0).1,(c.sl.ext p0.ext).ext hx⟩
    refine ⟨w.heap.size+1,[{ target:=.collected w.heap.size,args:=#[] }],_,ρ1,run_enterLoop_outer fn a.tmps ps asg bd,p0.trans p1,by rw [e1],Gn p0.sr _,fun d hd=>?_,?_⟩
    ·rcases List.mem_cons.1 hd with rfl | hd
     ·exact Nat.lt_succ_self _
     ·exact Nat.lt_succ_of_lt (c.lt d hd)
    ·have hs0:(ρ1 s.h.nx).1=w.heap.size:=by rw [p1.same _ (Nat.lt_succ_self _),e0]
     simp only [List.map_cons,G8,hs0]
     rw [c.ds]
     simp only [G8,List.map_map,List.singleton_append,List.cons.injEq,true_and]
     exact List.map_congr_left fun d hd=>by simp [(p0.trans p1).same d (c.lt d hd)]
  have hargs:RCL (okH (h1.new (.lp ⟨.ready,none,s.sl,s.n,ps.toList,asg,bd,d⟩))) ρ1 (.y h1.nx :: caps) (#[.func (.yield l) #[] #[]]++lb):=by
   refine RCL.append (l:=[.y h1.nx]) ⟨rfl,fun j x u e1 e2=>?_⟩ ⟨p1,fun j x u e1 e2=>(p2 j x u e1 e2).ext q2.ext⟩
   cases j with
   | zero =>
    simp at e1 e2
    subst e1 e2
    rw [<-q3]
    exact .y q4
   | succ j=>simp at e1
  obtain ⟨hen,hcall⟩:=hR.1 gf _ _ _ _ hrec ρ1 B w1 _ q2.sr (c.gl.post q2) hargs
  refine ⟨l,mark,w1,{ target:=.fn (.func gf) lb,args:=#[.func (.yield l) #[] #[]] },w1,gf,#[.func (.yield l) #[] #[]]++lb,w1,q1,?_,fun _ _=>trivial,?_,(fun e=>by cases e),?_⟩
  ·simp only [resolve,hfe]
   simp [go_sem]
  ·simp [invoke,go_sem,hen]
  refine callsIn_wide.2 (hcall.mono ?_)
  rintro e2 w3 ⟨v,ρ2,rfl,r1,_⟩
  unfold D38 at h
  split at h
  case h_2=>cases h
  rename_i L hL
  by_cases hb:(L.st==.busy)=true
  ·rw [hb] at h;cases h
  have hb':L.st≠.busy:=fun e=>hb (by rw [e];rfl)
  rw [show (L.st==.busy)=false by simpa using hb] at h
  simp only [cond_false] at h
  split at h
  case h_2=>cases h
  rename_i h3 hput
  obtain ⟨fn2,tm2,hl2,hok2,hsl2⟩:=r1.sr.holds hL
  have hc2:(ρ2 h1.nx).1=l:=by rw [r1.same _ q4.1,q3]
  have hlt2:=(Array.getElem?_eq_some_iff.1 hl2).1
  have hend:=run_endLoop (P:=P) (l:=l) (w:=w3) (by rw [<-hc2];exact hl2) hb'
  have p3:=r1.sr.put hput hL (fun _ _ _ g=>by cases g) rfl (w':=w3.putObj (ρ2 h1.nx).1 (.loop { state:=.exhausted,pending:=L.pe,fn:=fn2,tmps:=tm2,params:=L.ps.toArray,assign:=L.asg,body:=L.bd,defers:=(ρ2 L.d).1 })) (by simp) ⟨rfl,rfl,rfl⟩ (fun g hg=>World.putObj_heap_other hg) ⟨fn2,tm2,World.putObj_heap_same hlt2,hok2,hsl2⟩
  have pall:=q2.trans (r1.trans p3)
  have c3:CR P ρ2 ⟨s.sl,s.n,ds,h3⟩ B { a with defers:=mark++a.defers } (w3.putObj l (.loop { state:=.exhausted,pending:=L.pe,fn:=fn2,tmps:=tm2,params:=L.ps.toArray,assign:=L.asg,body:=L.bd,defers:=(ρ2 L.d).1 })):=by
   rw [hc2] at pall
   refine ⟨pall.sr,c.gl.post pall,c.sl.ext pall.ext,fun d hd=>Nat.lt_of_lt_of_le (q5 d hd) (Nat.le_trans (Nat.le_succ _) (r1.trans p3).le.nx),?_⟩
   show mark++a.defers=_
   rw [q6]
   congr 1
   exact List.map_congr_left fun d hd=>by rw [r1.same d (Nat.lt_trans (q5 d hd) q4.1)]
  rw [hc2] at pall
  refine ⟨L.pe,_,hend,?_⟩
  split at h
  ·cases h
   rename_i hpe
   simp only [hpe]
   rw [hpe] at pall c3
   exact ⟨rfl,ρ2,pall,c3,rfl⟩
  ·cases h
   rename_i hpe
   simp only [hpe]
   rw [hpe] at pall c3
   exact wpIn_ret ⟨rfl,ρ2,pall,c3,rfl⟩
  ·cases h
   rename_i id hpe
   simp only [hpe]
   rw [hpe] at pall c3
   exact wpIn_exit ⟨rfl,ρ2,pall,c3,rfl⟩
  ·cases h
theorem Y0 {s1:FrS} {w1:World} {e:Ex} {e':Exit} {a':Act} (p:Df ρ s.h s1.h B w w1 ρ') (hn:s1.n=s.n) (h:B00 P ρ' s1 s' B w1 e e' a' w'):B00 P ρ s s' B w e e' a' w':=by
 obtain ⟨h1,ρ2,p2,c2,hn2⟩:=h
 exact ⟨h1,ρ2,p.trans p2,c2,hn2.trans hn⟩
theorem Fo (hE:Mn P eqT) (hR:La P rec) (hD:Yy P eqT rec) (fu:Nat) {ro:Option Nat} : ∀ (c:Code) (s s':FrS) (e:Ex),Hh P eqT rec fu ro c s=some (e,s')->∀ (ρ:Nat->Nat×Nat) (w:World) (a:Act),CR P ρ s B a w->(∀ l,ro=some l->l < s.h.nx)->c.wpIn (FW (roA ρ ro)) 0 P (B00 P ρ s s' B w e) a w
 | .skip,s,s',e,h,ρ,w,a,hc,_=>by cases h;exact wpIn_skip ⟨rfl,ρ,Df.refl hc.sr,hc,rfl⟩
 | .label _,s,s',e,h,ρ,w,a,hc,_=>by cases h;exact wpIn_label ⟨rfl,ρ,Df.refl hc.sr,hc,rfl⟩
 | .exit id,s,s',e,h,ρ,w,a,hc,_=>by cases h;exact wpIn_exit ⟨rfl,ρ,Df.refl hc.sr,hc,rfl⟩
 | .ret,s,s',e,h,ρ,w,a,hc,_=>by cases h;exact wpIn_ret ⟨rfl,ρ,Df.refl hc.sr,hc,rfl⟩
 | .goto _,s,s',e,h,_,_,_,_,_=>by cases h
 | .refuse _,s,s',e,h,_,_,_,_,_=>by cases h
 | .region id ops dr,s,s',e,h,ρ,w,a,hc,_=>by
  have h:C99 P eqT rec dr ops.toList s=some (e,s'):=h
  unfold C99 at h
  split at h
  ·simp only [Option.map_eq_some_iff] at h
   obtain ⟨⟨sl',h'⟩,h1,h⟩:=h
   cases h
   rw [<-Array.toArray_toList (xs:=ops)]
   refine wpIn_region_lit (Xm hE hR _ _ _ _ _ h1 ρ w a hc.sr hc.gl hc.sl fun ρ' a' w' p q1 q2=>⟨rfl,ρ',p,hc.next p q1 q2,rfl⟩)
  ·split at h
   ·rename_i l hl
    simp only [Option.map_eq_some_iff] at h
    obtain ⟨⟨sl',h'⟩,h1,h⟩:=h
    cases h
    exact hD B id ops s.n l _ _ _ _ _ _ hl h1 ρ w a hc.sr hc.gl hc.sl fun ρ' a' w' p q1 q2=>⟨rfl,ρ',p,hc.next p q1 q2,rfl⟩
   ·cases h
 | .seq x y,s,s',e,h,ρ,w,a,hc,hro=>by
  have h:C93 (Hh P eqT rec fu ro x) (Hh P eqT rec fu ro y) s=some (e,s'):=h
  unfold C93 at h
  cases hx:Hh P eqT rec fu ro x s with
  | none=>rw [hx] at h;cases h
  | some p =>
   obtain ⟨e1,s1⟩:=p
   rw [hx] at h
   refine wpIn_seq (wpIn_mono (Fo hE hR hD fu x s s1 e1 hx ρ w a hc hro) ?_)
   rintro e' a' w' ⟨rfl,ρ',p1,c1,hn⟩
   cases e1 with
   | normal =>
    have:=Fo hE hR hD fu y s1 s' e h ρ' w' a' c1 fun l hl=>Nat.lt_of_lt_of_le (hro l hl) p1.le.nx
    rw [Ag6 p1 hro] at this
    exact wpIn_mono this fun e2 a2 w2 h2=>Y0 p1 hn h2
   | exit id=>cases h;exact ⟨rfl,ρ',p1,c1,hn⟩
   | ret=>cases h;exact ⟨rfl,ρ',p1,c1,hn⟩
 | .cond c x y,s,s',e,h,ρ,w,a,hc,hro=>by
  have h:Bp4 P c (Hh P eqT rec fu ro x) (Hh P eqT rec fu ro y) s=some (e,s'):=h
  unfold Bp4 at h
  have hv:=A99 hc.sl hc.gl c
  split at h
  ·rename_i he
   rw [he] at hv
   exact wpIn_cond_true hv.v_inv (Fo hE hR hD fu x s s' e h ρ w a hc hro)
  ·rename_i he
   rw [he] at hv
   exact wpIn_cond_false hv.v_inv (Fo hE hR hD fu y s s' e h ρ w a hc hro)
  ·cases h
 | .block id x,s,s',e,h,ρ,w,a,hc,hro=>by
  have h:Az6 id (Hh P eqT rec fu ro x) s=some (e,s'):=h
  unfold Az6 at h
  cases hx:Hh P eqT rec fu ro x s with
  | none=>rw [hx] at h;cases h
  | some p =>
   obtain ⟨e1,s1⟩:=p
   rw [hx] at h
   refine wpIn_block (wpIn_mono (Fo hE hR hD fu x s s1 e1 hx ρ w a hc hro) ?_)
   rintro e' a' w' ⟨rfl,ρ',p1,c1,hn⟩
   cases e1 with
   | exit j =>
    simp only [Ex.toExit,Exit.inBlock]
    cases hj:Nat.beq j id with
    | true =>
     simp only [hj,cond_true] at h
     cases h
     rw [if_pos (Nat.eq_of_beq_eq_true hj)]
     exact ⟨rfl,ρ',p1,c1,hn⟩
    | false =>
     simp only [hj,cond_false] at h
     cases h
     rw [if_neg (Nat.ne_of_beq_eq_false hj)]
     exact ⟨rfl,ρ',p1,c1,hn⟩
   | normal=>cases h;exact ⟨rfl,ρ',p1,c1,hn⟩
   | ret=>cases h;exact ⟨rfl,ρ',p1,c1,hn⟩
 | .loop c,s,s',e,h,ρ,w,a,hc,hro=>by
  have h:A21 (Hh P eqT rec fu ro c) fu s=some (e,s'):=h
  have key:∀ (m:Nat) (s s':FrS) (e:Ex),A21 (Hh P eqT rec fu ro c) m s=some (e,s')->∀ (ρ1:Nat->Nat×Nat) (w:World) (a:Act),CR P ρ1 s B a w->(∀ l,ro=some l->l < s.h.nx)->roA ρ1 ro=roA ρ ro->Code.roundsIn (FW (roA ρ ro)) 0 P c (B00 P ρ1 s s' B w e) m a w:=by
   intro m
   induction m with
   | zero=>intro s s' e h;cases h
   | succ m ih =>
    intro s s' e h ρ1 w a hc hro he
    have h:(match Hh P eqT rec fu ro c s with
     | some (.normal,s')=>A21 (Hh P eqT rec fu ro c) m s'
     | r=>r)=some (e,s'):=h
    cases hfs:Hh P eqT rec fu ro c s with
    | none=>rw [hfs] at h;cases h
    | some p =>
     obtain ⟨e1,s1⟩:=p
     rw [hfs] at h
     have hx:=Fo hE hR hD fu c s s1 e1 hfs ρ1 w a hc hro
     rw [he] at hx
     refine wpIn_mono hx ?_
     rintro e' a' w' ⟨rfl,ρ',p1,c1,hn⟩
     cases e1 with
     | normal =>
      exact Xc.roundsIn_mono' (ih s1 s' e h ρ' w' a' c1 (fun l hl=>Nat.lt_of_lt_of_le (hro l hl) p1.le.nx) ((Ag6 p1 hro).trans he)) fun e2 a2 w2 h2=>Y0 p1 hn h2
     | exit id=>cases h;exact ⟨rfl,ρ',p1,c1,hn⟩
     | ret=>cases h;exact ⟨rfl,ρ',p1,c1,hn⟩
  exact wpIn_loop_rounds fu (key fu s s' e h ρ w a hc hro rfl)
 | .rangeFunc g ps asg bd,s,s',e,h,ρ,w,a,hc,_=>B88 hR h hc
 | .scope c,s,s',e,h,ρ,w,a,hc,hro=>by
  refine Jy (wpIn_mono (Fo hE hR hD fu c s s' e h ρ w a hc hro) ?_)
  rintro e' a' w' ⟨rfl,h2⟩
  cases e<;>exact ⟨rfl,h2⟩
end
section
variable {P : Program} {eqT : Nat -> Bool} {rec : Mm -> GH -> Option (CV × GH)} {ρ ρ' : Nat -> Nat × Nat} {B : Nat} {s s' : FrS} {a : Act} {w w' : World} {h h' : GH}
theorem SlR.set {ok:Nat->Prop} {sl:Bm} {n:Nat} {tmps:Array Value} (hs:SlR ok ρ sl n tmps) {d:Nat} {x:CV} {v:Value} (hd:d < n) (hv:RC ok ρ x v):SlR ok ρ (sl.set d x) n (tmps.setIfInBounds d v):=by
 refine ⟨by simp [hs.1],fun i=>?_⟩
 rw [TR.get_set]
 by_cases hi:i=d
 ·subst hi
  rw [if_pos rfl,Array.getD_eq_getD_getElem?,Array.getElem?_setIfInBounds_self_of_lt (by rw [hs.1];exact hd)]
  exact hv
 ·rw [if_neg hi,Array.getD_eq_getD_getElem?,Array.getElem?_setIfInBounds_ne (Ne.symm hi),<-Array.getD_eq_getD_getElem?]
  exact hs.2 i
theorem Ai0 {ok:Nat->Prop} {n:Nat} : ∀ (ps:List Tmp) (l:List CV) (vs:List Value) (sl sl':Bm) (tmps:Array Value),Ai1 ps l sl n=some sl'->vs.length=l.length->(∀ (j:Nat) x u,l[j]? = some x->vs[j]? = some u->RC ok ρ x u)->SlR ok ρ sl n tmps->SlR ok ρ sl' n ((ps.zip vs).foldl (fun t pv=>t.setIfInBounds pv.1 pv.2) tmps)/\ps.length=l.length
 | [],[],vs,sl,sl',tmps,e,hl,_,hs=>by
  cases e
  obtain rfl:=List.eq_nil_of_length_eq_zero hl
  exact ⟨hs,rfl⟩
 | [],_ :: _,vs,sl,sl',tmps,e,hl,_,hs=>by cases e
 | _ :: _,[],vs,sl,sl',tmps,e,hl,_,hs=>by cases e
 | p :: ps,x :: l,vs,sl,sl',tmps,e,hl,hv,hs=>by
  cases vs with
  | nil=>simp at hl
  | cons v vs =>
   simp only [Ai1] at e
   obtain ⟨hp,e⟩:=D7 e
   obtain ⟨h1,h2⟩:=Ai0 ps l vs _ sl' _ e (by simpa using hl) (fun j x u a b=>hv (j+1) x u (by simpa using a) (by simpa using b)) (hs.set (Bs.1 hp) (hv 0 x v rfl rfl))
   exact ⟨h1,by simp [h2]⟩
theorem Bs8 {l:Nat} : (FW none).inRound l=FW (some l):=rfl
theorem B82 (hE:Mn P eqT) (hR:La P rec) (hD:Yy P eqT rec) (fu:Nat) {c:Nat} {l:List CV} {x:CV} (s0:SR ρ h B w) (hg:Le P ρ h) {vs:Array Value} (hvs:RCL (okH h) ρ l vs) {L:GL} (hL:h.get c=some (.lp L)) {sl:Bm} (hsl:Ai1 L.ps l L.sl L.n=some sl)
  {s1:FrS} (h1:Hh P eqT rec fu (some c) L.asg ⟨sl,L.n,[],h⟩=some (.normal,s1)) (hd1:s1.ds=[]) {L1:GL} (hL1:s1.h.get c=some (.lp L1)) (hst:L1.st=.ready) {hb:GH} (hb1:s1.h.put c (.lp { L1 with st:=.busy })=some hb)
  {e:Ex} {s2:FrS} (h2:Hh P eqT rec fu (some c) L.bd ⟨s1.sl,L.n,[],hb⟩=some (e,s2)) (hd2:s2.ds=[]) {L2:GL} (hL2:s2.h.get c=some (.lp L2)) {j:Option Code} (hj:j=match e with
   | .normal=>none
   | .ret=>some .ret
   | .exit id=>some (.exit id)) (he:s2.h.put c (.lp { L2 with st:=if j.isNone then .ready else .done,pe:=j })=some h') :
  YieldAt (FW none) 0 P (ρ c).1 vs w fun e w'=>∃ v ρ',e=.returned v/\Df ρ h h' B w w' ρ'/\RC (okH h') ρ' (.v (.bool j.isNone)) v:=by
 obtain ⟨fn,tmps,hl,hok,hsl0⟩:=s0.holds hL
 obtain ⟨p1,p2⟩:=Ai0 (ρ:=ρ) L.ps l vs.toList L.sl sl tmps hsl (by simpa using hvs.1) (fun j x u a b=>hvs.2 j x u a (by rw [<-Array.getElem?_toList];exact b)) hsl0
 have hc:=(s0.ok hL).1
 have hy:=run_yield (P:=P) (args:=vs) hl (by simp [p2,hvs.1])
 refine ⟨_,_,_,_,hy,roundIn_of_wpIn trivial ?_⟩
 simp only
 rw [Bs8]
 have hfold:(L.ps.toArray.zip vs).foldl (fun t (p,v)=>t.setIfInBounds p v) tmps=(L.ps.zip vs.toList).foldl (fun t pv=>t.setIfInBounds pv.1 pv.2) tmps:=by
  rw [<-Array.foldl_toList,Array.toList_zip]
 have c0:CR P ρ ⟨sl,L.n,[],h⟩ B { tmps:=(L.ps.toArray.zip vs).foldl (fun t (p,v)=>t.setIfInBounds p v) tmps,defers:=[] } w:=⟨s0,hg,by rw [hfold];exact p1,(fun d hd=>by cases hd),rfl⟩
 have w1:=Fo hE hR hD fu (ro:=some c) L.asg _ _ _ h1 ρ w _ c0 fun l hl=>by cases hl;exact hc
 refine wpIn_mono w1 ?_
 rintro e' a1 wa ⟨rfl,ρ1,q1,c1,hn1⟩
 obtain ⟨fn1,tmps1,hl1,hok1,hsl1⟩:=c1.sr.holds hL1
 have hc1:(ρ1 c).1=(ρ c).1:=by rw [q1.same c hc]
 have hbeg:=run_beginRound (P:=P) (l:=(ρ c).1) (w:=wa) (by rw [<-hc1];exact hl1) hst
 refine ⟨_,hbeg,?_⟩
 have hlt1:=(Array.getElem?_eq_some_iff.1 hl1).1
 have pb:=c1.sr.put hb1 hL1 (fun _ _ _ g=>by cases g) rfl (w':=wa.putObj (ρ1 c).1 (.loop { state:=.busy,pending:=L1.pe,fn:=fn1,tmps:=tmps1,params:=L1.ps.toArray,assign:=L1.asg,body:=L1.bd,defers:=(ρ1 L1.d).1 })) (by simp) ⟨rfl,rfl,rfl⟩ (fun g hg=>World.putObj_heap_other hg) ⟨fn1,tmps1,World.putObj_heap_same hlt1,hok1,hsl1⟩
 rw [hc1] at pb
 have cb:CR P ρ1 ⟨s1.sl,L.n,[],hb⟩ B a1 (wa.putObj (ρ c).1 (.loop { state:=.busy,pending:=L1.pe,fn:=fn1,tmps:=tmps1,params:=L1.ps.toArray,assign:=L1.asg,body:=L1.bd,defers:=(ρ1 L1.d).1 })):=by
  refine ⟨pb.sr,c1.gl.post pb,?_,(fun d hd=>by cases hd),?_⟩
  ·have:=c1.sl.ext pb.ext
   rw [hn1] at this
   exact this
  ·rw [c1.ds,hd1]
 have w2:=Fo hE hR hD fu (ro:=some c) L.bd _ _ _ h2 ρ1 _ a1 cb fun l hl=>by cases hl;exact Nat.lt_of_lt_of_le hc (q1.trans pb).le.nx
 have hro:roA ρ1 (some c)=some (ρ c).1:=by simp [roA,hc1]
 rw [hro] at w2
 refine wpIn_mono w2 ?_
 rintro e' a2 wb ⟨rfl,ρ2,q2,c2,hn2⟩
 obtain ⟨fn2,tmps2,hl2,hok2,hsl2⟩:=c2.sr.holds hL2
 have hc2:(ρ2 c).1=(ρ c).1:=by rw [q2.same c (Nat.lt_of_lt_of_le hc (q1.trans pb).le.nx),hc1]
 have hlt2:=(Array.getElem?_eq_some_iff.1 hl2).1
 have fin:∃ v w',(Instr.endRound (ρ c).1 j).run P wb=.ok v w'/\∃ v' ρ',Ending.returned v=.returned v'/\Df ρ h h' B w w' ρ'/\RC (okH h') ρ' (.v (.bool j.isNone)) v':=by
  have hend:=run_endRound (P:=P) (l:=(ρ c).1) (w:=wb) j (by rw [<-hc2];exact hl2)
  have pe:=c2.sr.put he hL2 (fun _ _ _ g=>by cases g) rfl (w':=wb.putObj (ρ2 c).1 (.loop { state:=if j.isNone then .ready else .done,pending:=j,fn:=fn2,tmps:=tmps2,params:=L2.ps.toArray,assign:=L2.asg,body:=L2.bd,defers:=(ρ2 L2.d).1 })) (by simp) ⟨rfl,rfl,rfl⟩ (fun g hg=>World.putObj_heap_other hg) ⟨fn2,tmps2,World.putObj_heap_same hlt2,hok2,hsl2⟩
  rw [hc2] at pe
  exact ⟨_,_,hend,_,ρ2,rfl,q1.trans (pb.trans (q2.trans pe)),RC.bool⟩
 cases e with
 | normal=>subst hj;exact fin
 | ret=>subst hj;exact fin
 | exit id=>subst hj;exact fin
theorem B20 {sl:Bm} {n:Nat} (s0:SR ρ h B w) {tmps:Array Value} (hs:SlR (okH h) ρ sl n tmps):∀ (rs:List ResultVar) (l:List CV),rs.mapM (C95 P sl h)=some l->∃ vs:List Value,(rs.mapM (Xe tmps)).run P w=.ok vs w/\vs.length=l.length/\∀ (j:Nat) x u,l[j]? = some x->vs[j]? = some u->RC (okH h) ρ x u
 | [],l,e=>by
  simp at e;subst e
  exact ⟨[],rfl,rfl,fun j x u a=>by simp at a⟩
 | r :: rs,l,e=>by
  simp only [List.mapM_cons,Option.bind_eq_bind,Option.bind_eq_some_iff,Option.pure_def,Option.some.injEq] at e
  obtain ⟨x,hx,l',hl,rfl⟩:=e
  obtain ⟨vs,h1,h2,h3⟩:=B20 s0 hs rs l' hl
  have hone:∃ v,(Xe tmps r).run P w=.ok v w/\RC (okH h) ρ x v:=by
   cases r with
   | tmp t =>
    have hv:=hs.2 t
    have hx:sl.get t=some x:=hx
    rw [hx] at hv
    exact ⟨tmps.getD t undef,rfl,hv⟩
   | cell d t =>
    simp only [C95] at hx
    split at hx
    ·rename_i q n' c o ht hd
     simp only [Option.bind_eq_some_iff] at hx
     obtain ⟨l0,hl0,hx⟩:=hx
     have hv:=hs.2 d
     rw [hd] at hv
     obtain ⟨v,r1,r2⟩:=Bk0 (P:=P) s0 ht hl0 hx
     have hpv:=(show RC (okH h) ρ (.p c o) (tmps.getD d undef) from hv).p_inv.1
     have r1':(loadVar t ⟨(ρ c).1,o,none⟩).run P w=.ok v w:=by simpa [Instr.loadAt,Instr.sureAddr] using r1
     refine ⟨v,?_,r2⟩
     simp [Xe,hpv,asAddr,r1']
    ·cases hx
  obtain ⟨v,r1,r2⟩:=hone
  refine ⟨v :: vs,by simp [List.mapM_cons,r1,h1],by simp [h2],fun j y u a b=>?_⟩
  cases j with
  | zero=>simp at a b;subst a b;exact r2
  | succ j=>exact h3 j y u (by simpa using a) (by simpa using b)
theorem Ao5 {ok:Nat->Prop} : ∀ (l:List CV) (i:Nat) (sl:Bm) (t:Nat),(Yx i l sl).get t=if i<=t/\t < i+l.length then l[t - i]? else sl.get t
 | [],i,sl,t=>by simp [Yx];omega
 | x :: l,i,sl,t=>by
  rw [Yx,Ao5 (ok:=ok) l (i+1),TR.get_set]
  by_cases h1:t=i
  ·subst h1
   rw [if_neg (by omega),if_pos rfl,if_pos (by simp)]
   simp
  ·by_cases h2:i+1<=t/\t < i+1+l.length
   ·rw [if_pos h2,if_pos (by simp;omega),show t - i=(t - (i+1))+1 by omega]
    simp
   ·rw [if_neg h2,if_neg h1,if_neg (by simp;omega)]
theorem Af5 {fn:Func} {tmps:Array Value} {R:Ending->World->Prop} : ∀ (ds:List Nat) (h h':GH) (ρ:Nat->Nat×Nat) (w:World),Af6 ds h=some h'->SR ρ h B w->(∀ w',Df ρ h h' B w w' ρ->LeavesInM (FW none) 0 P fn tmps R [] .returning w')->LeavesInM (FW none) 0 P fn tmps R (G8 (ds.map fun d=>(ρ d).1)) .returning w
 | [],h,h',ρ,w,e,s,hq=>by cases e;exact hq w (Df.refl s)
 | d :: ds,h,h',ρ,w,e,s,hq=>by
  simp only [Af6] at e
  split at e
  ·rename_i hd
   simp only [Option.bind_eq_some_iff] at e
   obtain ⟨h1,hp,e⟩:=e
   have hw:w.heap[(ρ d).1]? = some (.deferred (some [])):=s.holds hd
   have p1:=s.put hp hd (fun _ _ _ g=>by cases g) rfl (w':=w.putObj (ρ d).1 (.deferred none)) (by simp) ⟨rfl,rfl,rfl⟩ (fun g hg=>World.putObj_heap_other hg) trivial
   exact ⟨by simp,.inl ⟨(ρ d).1,_,rfl,run_takeDeferred hw,Af5 ds h1 h' ρ _ e p1.sr fun w' p2=>hq w' (p1.trans p2)⟩⟩
  ·cases e
def Lb (P:Program) (gw:FuncId) (l:List CV) (h:GH) (x:CV) (h':GH):Prop:=∀ (ρ:Nat->Nat×Nat) (B:Nat) (w:World) (vs:Array Value),SR ρ h B w->Le P ρ h->RCL (okH h) ρ l vs ->
 (∀ (w:World),(callFunc gw vs).run P w=.ok (.enter gw vs) w)/\Calls P gw vs w fun e w'=>∃ v ρ',e=.returned v/\Df ρ h h' B w w' ρ'/\RC (okH h') ρ' x v
def Be4 (P:Program) (sp:Sp):Prop:=∀ f g,sp f=some g->∀ l h x h',g h l=some (x,h')->Lb P f l h x h'
def Cg1 (P:Program) (gw:Nat):Prop:=∀ l h x h',B35 h l=some (x,h')->Lb P gw l h x h'
theorem Bq3 (hE : Mn P eqT) (hR : La P rec) (hD : Yy P eqT rec) (fu : Nat) {f : FuncId} {fn : Func} {c : Code} {l : List CV} {vs : Array Value} {e : Ex} {x : CV} (hf : P.funcs[f]? = some fn) (hb : fn.body = some c) (hname : (fn.name == "runtime.NumGoroutine") = false) (hal : l.length <= fn.ntmps)
  (s0:SR ρ h B w) (hg:Le P ρ h) (hvs:RCL (okH h) ρ l vs) (hc:Hh P eqT rec fu none c ⟨Yx 0 l .lf,fn.ntmps,[],h⟩=some (e,s)) (he:∀ id,e≠.exit id) (hsh:Af6 s.ds s.h=some h') (hr:C94 P s.sl h' fn.results.toList=some x) :
  (∀ (w:World),(callFunc f vs).run P w=.ok (.enter f vs) w)/\Calls P f vs w fun e w'=>∃ v ρ',e=.returned v/\Df ρ h h' B w w' ρ'/\RC (okH h') ρ' x v:=by
 have hname' : ¬ fn.name = "runtime.NumGoroutine" := by simpa using hname
 refine ⟨fun w=>by simp [callFunc,program,Sem.run,hf,hname',hb],?_⟩
 have hsz:=hvs.1
 have c0:CR P ρ ⟨Yx 0 l .lf,fn.ntmps,[],h⟩ B { tmps:=vs++Array.replicate (fn.ntmps - vs.size) undef,defers:=[] } w:=by
  refine ⟨s0,hg,⟨by simp;omega,fun i=>?_⟩,(fun d hd=>by cases hd),rfl⟩
  rw [Ao5 (ok:=okH h)]
  simp only [Nat.zero_le,true_and,Nat.zero_add,Nat.sub_zero]
  by_cases hi:i < l.length
  ·rw [if_pos hi,List.getElem?_eq_getElem hi]
   have hv:vs[i]? = some (vs[i]'(by omega)):=Array.getElem?_eq_getElem _
   rw [Array.getD_eq_getD_getElem?,Array.getElem?_append_left (by omega),hv]
   exact hvs.2 i _ _ (List.getElem?_eq_getElem hi) hv
  ·rw [if_neg hi]
   show RC _ _ (.v undef) _
   rw [Array.getD_eq_getD_getElem?,Array.getElem?_append_right (by omega),Array.getElem?_replicate]
   split<;>exact RC.undef
 refine (callsIn_wide (n:=0)).1 (callsIn_of_wp_marks (F:=FW none) hf hb trivial (wpIn_mono (Fo hE hR hD fu (ro:=none) c _ _ _ hc ρ w _ c0 fun l hl=>by cases hl) ?_) rfl)
 rintro e' a' w2 ⟨rfl,ρ',p1,c1,hn⟩
 have hend:LeavesInM (FW none) 0 P fn a'.tmps (fun e w'=>∃ v ρ',e=.returned v/\Df ρ h h' B w w' ρ'/\RC (okH h') ρ' x v) a'.defers .returning w2:=by
  rw [c1.ds]
  refine Af5 (B:=B) s.ds s.h h' ρ' w2 hsh c1.sr fun w3 p2=>?_
  have hsl:=c1.sl.ext p2.ext
  unfold C94 at hr
  simp only [Option.map_eq_some_iff] at hr
  obtain ⟨rl,hrl,hx⟩:=hr
  obtain ⟨us,r1,r2,r3⟩:=B20 p2.sr hsl _ _ hrl
  have hmap:(fn.results.mapM (Xe a'.tmps)).run P w3=.ok us.toArray w3:=by
   rw [Array.mapM_eq_mapM_toList]
   simp [r1]
  have hfun:results fn a'.tmps=(fn.results.mapM (Xe a'.tmps) >>= fun vs=>pure (if h:vs.size=1 then vs[0] else .tuple vs)):=by
   unfold results
   congr 1
  have hres:(results fn a'.tmps).run P w3=.ok (if h:us.toArray.size=1 then us.toArray[0] else .tuple us.toArray) w3:=by
   rw [hfun,Sem.run_bind,hmap]
   rfl
  refine ⟨_,hres,_,ρ',rfl,p1.trans p2,?_⟩
  match rl,us,r2,r3,hx with
  | [y],[u],_,r3,hx =>
   have hx:y=x:=hx
   subst hx
   exact r3 0 y u rfl rfl
  | [],[],_,_,hx =>
   have hx:CV.t []=x:=hx
   subst hx
   exact .t rfl fun j x u a=>by simp at a
  | y :: y' :: r,u :: u' :: us,r2,r3,hx =>
   have hx:CV.t (y :: y' :: r)=x:=hx
   subst hx
   have:¬ (u :: u' :: us).toArray.size=1:=by simp
   rw [dif_neg this]
   exact .t (by simpa using r2) fun j x w a b=>r3 j x w a (by simpa using b)
 cases e with
 | exit id=>exact absurd rfl (he id)
 | normal=>exact hend
 | ret=>exact hend
theorem B19 {sp:Sp} (hE:Mn P eqT) (hG:Be4 P sp) (hD:∀ rec,La P rec->Yy P eqT rec):∀ fu,La P (X9 P eqT sp fu)
 | 0=>⟨(fun f l h x h' e=>by cases e),(fun c l h x h' e=>by cases e)⟩
 | fu+1=>by
  have hR:=B19 hE hG hD fu
  constructor
  ·intro f l h x h' e ρ B w vs s0 hg hvs
   simp only [X9] at e
   cases hq:sp f with
   | some g =>
    rw [hq] at e
    exact hG f g hq l h x h' e ρ B w vs s0 hg hvs
   | none =>
    rw [hq] at e
    simp only at e
    split at e
    case h_2=>cases e
    rename_i fn hf
    split at e
    case h_2=>cases e
    rename_i c hb
    cases hn : (fn.name == "runtime.NumGoroutine" || Nat.blt fn.ntmps l.length) with
    | true=>rw [hn] at e;cases e
    | false =>
     rw [hn] at e
     simp only [Bool.or_eq_false_iff] at hn
     simp only [cond_false] at e
     have hal:l.length<=fn.ntmps:=by
      rcases Nat.lt_or_ge fn.ntmps l.length with g | g
      ·rw [Bs.2 g] at hn;cases hn.2
      ·exact g
     split at e
     ·cases e
     ·rename_i e1 s1 hne hc
      split at e
      ·rename_i h2 hsh
       simp only [Option.map_eq_some_iff] at e
       obtain ⟨y,hr,e⟩:=e
       cases e
       exact Bq3 hE hR (hD _ hR) fu hf hb hn.1 hal s0 hg hvs hc (fun id g=>hne id g) hsh hr
      ·cases e
     ·cases e
  ·intro c l h x h' e ρ B w vs s0 hg hok hvs
   simp only [X9] at e
   split at e
   case h_2=>cases e
   rename_i L hL
   split at e
   case h_2=>cases e
   rename_i sl hsl
   cases hst:(L.st==.ready) with
   | false=>rw [hst] at e;cases e
   | true =>
    rw [hst] at e
    simp only [cond_true] at e
    split at e
    case h_2=>cases e
    rename_i s1 h1
    split at e
    case h_2=>cases e
    rename_i L1 hd1 hL1
    split at e
    case h_2=>cases e
    rename_i hb hb1
    split at e
    case h_2=>cases e
    rename_i e2 s2 h2
    split at e
    case h_2=>cases e
    rename_i L2 hd2 hL2
    simp only [Option.map_eq_some_iff] at e
    obtain ⟨h3,he,e⟩:=e
    cases e
    cases hs1:(L1.st==.ready) with
    | false=>rw [hs1] at hb1;cases hb1
    | true =>
     rw [hs1] at hb1
     simp only [cond_true] at hb1
     have hst1:L1.st=.ready:=by cases hq:L1.st<;>rw [hq] at hs1<;>first | rfl | cases hs1
     cases e2<;>exact B82 (x:=.u) hE hR (hD _ hR) fu s0 hg hvs hL hsl h1 hd1 hL1 hst1 hb1 h2 hd2 hL2 rfl he
end
theorem Am5 {acc:List Nat} {j:Nat} : ∀ (ds:List Nat) (s:Nat),s.testBit j=true\/(∃ d∈ds,j=d\/(acc.getD d 0).testBit j=true)->(ds.foldl (fun s d=>s|||2 ^ d|||acc.getD d 0) s).testBit j=true
 | [],s,h=>h.elim id fun ⟨_,h,_⟩=>by cases h
 | d :: ds,s,h=>by
  refine Am5 ds _ ?_
  rcases h with h | ⟨d',h1,h2⟩
  ·exact .inl (by simp [Nat.testBit_or,h])
  ·rcases List.mem_cons.1 h1 with rfl | h1
   ·refine .inl ?_
    rcases h2 with rfl | h2
    ·simp [Nat.testBit_or,Nat.testBit_two_pow]
    ·rw [Nat.testBit_or,h2,Bool.or_true]
   ·exact .inr ⟨d',h1,h2⟩
theorem Br6:∀ (r:List (List Nat)) (acc:List Nat) (i j d:Nat),d∈r.getD i []->d < acc.length+i->(j=d\/((bef acc r).getD d 0).testBit j=true)->((bef acc r).getD (acc.length+i) 0).testBit j=true
 | [],acc,i,j,d,h,_,_=>by simp at h
 | ds :: r,acc,0,j,d,h,hd,hj=>by
  simp only [bef,Nat.add_zero] at hd hj ⊢
  rw [Tb r _ acc.length (by simp)]
  simp only [List.getD_eq_getElem?_getD,List.getElem?_append_right (Nat.le_refl _),Nat.sub_self,List.getElem?_cons_zero,Option.getD_some]
  refine Am5 _ _ (.inr ⟨d,by simpa using h,hj.elim Or.inl fun hj=>.inr ?_⟩)
  rw [Tb r _ d (by simp;omega)] at hj
  simpa [List.getD_eq_getElem?_getD,List.getElem?_append_left hd] using hj
 | ds :: r,acc,i+1,j,d,h,hd,hj=>by
  have h':=Br6 r (acc++[ds.foldl (fun s d=>s|||2 ^ d|||acc.getD d 0) 0]) i j d (by simpa using h) (by simp;omega) (by simpa [bef] using hj)
  simp only [bef]
  simpa [Nat.add_assoc,Nat.add_comm 1 i] using h'
section
variable {ops : List Oper}
def ahd (ops:List Oper) (i j:Nat):Prop:=((bef [] (ops.map Cm)).getD i 0).testBit j=true
theorem L9 (hlt:∀ (i:Nat) o,ops[i]? = some o->∀ d∈Cm o,d < i) {i j:Nat} (hi:i < ops.length) (h:ahd ops i j):j < i:=(Px (S:=fun _=>true) hlt (fun _ _ _ _ _ _=>rfl) i hi (fun _ _ _ _=>rfl) j h).2
theorem Be2 (hlt:∀ (i:Nat) o,ops[i]? = some o->∀ d∈Cm o,d < i):∀ (i:Nat),i < ops.length->∀ k j,ahd ops i k->ahd ops k j->ahd ops i j:=by
 intro i
 induction i using Nat.strongRecOn with
 | _ i ih =>
  intro hi k j hk hj
  have ho:ops[i]? = some ops[i]:=List.getElem?_eq_getElem hi
  have hr:(ops.map Cm).getD i []=Cm ops[i]:=by rw [List.getD_eq_getElem?_getD,List.getElem?_map,ho];rfl
  obtain ⟨d,h1,h2⟩:=Az7 (ops.map Cm) [] i k (by rw [List.length_nil,Nat.zero_add];exact hk) (by simpa using hi) (fun d hdm=>by
   rw [hr] at hdm
   simpa using hlt i _ ho d hdm)
  have hdi:=hlt i _ ho d (by rw [hr] at h1;exact h1)
  have:=Br6 (ops.map Cm) [] i j d h1 (by simpa using hdi) (by
   rcases h2 with rfl | h2
   ·exact .inr hj
   ·exact .inr (ih d hdi (by omega) k j h2 hj))
  rw [List.length_nil,Nat.zero_add] at this
  exact this
end
section
variable {P : Program} {eqT : Nat -> Bool} {rec : Mm -> GH -> Option (CV × GH)} {L L' : Operand -> CV} {h : GH}
theorem U7 {l:List Operand} (e:∀ y∈l,L y=L' y):l.map L=l.map L':=List.map_congr_left e
theorem B98 {o:Oper} (e:∀ y∈o.op.operands.toList,L y=L' y):opC P eqT rec L h o=opC P eqT rec L' h o:=by
 obtain ⟨dst,op,ty,pos,after,gd⟩:=o
 unfold opC
 cases op with
 | build t ps =>
  have:(ps.toList.map fun p=>(p.1,L p.2))=ps.toList.map fun p=>(p.1,L' p.2):=List.map_congr_left fun p hp=>by rw [e p.2 (by simp only [Op.operands];exact List.mem_map.2 ⟨p,hp,rfl⟩)]
  simp only [opD,this]
 | buildSlice t n ps =>
  have:(ps.toList.map fun p=>(p.1,L p.2))=ps.toList.map fun p=>(p.1,L' p.2):=List.map_congr_left fun p hp=>by rw [e p.2 (by simp only [Op.operands];exact List.mem_map.2 ⟨p,hp,rfl⟩)]
  simp only [opD,this]
 | makeFunc fn first caps =>
  have:caps.toList.map L=caps.toList.map L':=U7 fun y hy=>e y (by simp only [Op.operands,Array.toList_append,List.mem_append];exact .inr hy)
  simp only [opD,this]
 | makeMap t r =>
  cases r with
  | none=>rfl
  | some y=>simp only [opD,Option.map_some,e y (by simp [Op.operands])]
 | slice t x lo hi mx =>
  have h1:=e x (by simp [Op.operands])
  have h2:lo.map L=lo.map L':=by cases lo with | none=>rfl | some y=>simp only [Option.map_some,e y (by simp [Op.operands])]
  have h3:hi.map L=hi.map L':=by cases hi with | none=>rfl | some y=>simp only [Option.map_some,e y (by simp [Op.operands])]
  have h4:mx.map L=mx.map L':=by cases mx with | none=>rfl | some y=>simp only [Option.map_some,e y (by simp [Op.operands])]
  simp only [opD,h1,h2,h3,h4]
 | call c =>
  obtain ⟨callee,args,ats⟩:=c
  cases callee with
  | value f =>
   have h1:=e f (by simp [Op.operands,Call.operands])
   have h2:args.toList.map L=args.toList.map L':=U7 fun y hy=>e y (by simp only [Op.operands,Call.operands];simp at hy ⊢;try (exact .inr hy))
   simp only [opD,Bf2,h1,h2]
  | invoke r m=>rfl
  | builtin b =>
   have h2:args.toList.map L=args.toList.map L':=U7 fun y hy=>e y (by simp only [Op.operands,Call.operands];simp at hy ⊢;try (exact hy))
   simp only [opD,Bf2,h2]
 | _=>first | rfl | (simp only [Op.operands,List.mem_cons,List.not_mem_nil,or_false,forall_eq_or_imp,forall_eq] at e;simp only [opD,e])
end
def dn (f:Nat->Nat):Nat->List Nat
 | 0=>[]
 | j+1=>f j :: dn f j
theorem Ay8 (f:Nat->Nat):∀ (i j:Nat),j < i->(dn f i).getD (i - 1 - j) 0=f j
 | 0,j,h=>by omega
 | i+1,j,h=>by
  by_cases hj:j=i
  ·subst hj;simp [dn]
  ·have:=Ay8 f i j (by omega)
   rw [show i+1 - 1 - j=(i - 1 - j)+1 by omega]
   simpa [dn] using this
theorem Pr {f g:Nat->Nat} : ∀ (i:Nat),(∀ j,j < i->f j=g j)->dn f i=dn g i
 | 0,_=>rfl
 | i+1,h=>by simp only [dn];rw [h i (by omega),Pr i fun j hj=>h j (by omega)]
theorem R1 (a b:List (Nat×Nat)) (c:Nat):Cv (a++b) c=(Cv a c || Cv b c):=by
 induction a with
 | nil=>rfl
 | cons p a ih=>simp only [List.cons_append,Cv,ih,Bool.or_assoc]
theorem Sv (a:Nat) (f:Nat->Nat) (c:Nat):∀ (j:Nat),Cv (Rt a (dn f j) (j - 1) (f j)) c=true↔∃ k,k < j/\a.testBit k=false/\f k<=c/\c < f (k+1)
 | 0=>by simp [dn,Rt,Cv]
 | j+1=>by
  have ih:=Sv a f c j
  have split:(∃ k,k < j+1/\a.testBit k=false/\f k<=c/\c < f (k+1))↔(a.testBit j=false/\f j<=c/\c < f (j+1))\/∃ k,k < j/\a.testBit k=false/\f k<=c/\c < f (k+1) :=
   ⟨fun ⟨k,h1,h2⟩=>by
    by_cases hk:k=j
    ·subst hk;exact .inl h2
    ·exact .inr ⟨k,by omega,h2⟩,fun h=>h.elim (fun h=>⟨j,by omega,h⟩) fun ⟨k,h1,h2⟩=>⟨k,by omega,h2⟩⟩
  rw [split,<-ih]
  simp only [dn,Nat.add_sub_cancel,Rt]
  cases hb:(Nat.beq (f j) (f (j+1)) || a.testBit j) with
  | true =>
   simp only [cond_true]
   rw [Bool.or_eq_true] at hb
   refine ⟨.inr,fun h=>h.elim (fun ⟨h1,h2,h3⟩=>?_) id⟩
   rcases hb with hb | hb
   ·have:=Nat.eq_of_beq_eq_true hb;omega
   ·rw [h1] at hb;cases hb
  | false =>
   simp only [cond_false,Cv,Bool.or_eq_true,Bool.and_eq_true]
   rw [Bool.or_eq_false_iff] at hb
   refine or_congr ⟨fun ⟨h1,h2⟩=>⟨hb.2,Nat.le_of_ble_eq_true h1,Bs.1 h2⟩,fun ⟨_,h1,h2⟩=>⟨Nat.ble_eq_true_of_le h1,Bs.2 h2⟩⟩ Iff.rfl
section
variable {P : Program} {eqT : Nat -> Bool} {rec : Mm -> GH -> Option (CV × GH)} {ops : List Oper} {n : Nat}
structure Bs4 (P:Program) (eqT:Nat->Bool) (rec:Mm->GH->Option (CV×GH)) (ops:List Oper) (n:Nat) (d:DI) (i:Nat) (H:Nat->GH) (Sl:Nat->Bm) (X:Nat->CV) (W:Nat->Bool) (bk:Nat->Nat):Prop where
 want:Rz ops (Sl i) d.o=some (W i)
 put:Xi (Sl i) n d.o.dst (X i)=some (Sl (i+1))
 blk:W i=true->bk i=Nb (evC P (Sl i)) d.o
 no:W i=false->X i=.v undef/\H (i+1)=H i
 yes:W i=true->Bd1 P eqT rec d i (dn (fun j=>(H j).nx) i) (dn bk i) (Sl i) (H i)=some (X i,H (i+1))
theorem C24:∀ (l:List DI) (i:Nat) (H0:Nat->GH) (Sl0:Nat->Bm) (X0:Nat->CV) (W0:Nat->Bool) (bk0:Nat->Nat) (sl':Bm) (h':GH),
  drC P eqT rec ops n l i (dn (fun j=>(H0 j).nx) i) (dn bk0 i) (Sl0 i) (H0 i)=some (sl',h') ->
  ∃ H Sl X W bk,(∀ j,j<=i->H j=H0 j/\Sl j=Sl0 j)/\(∀ j,j < i->X j=X0 j/\W j=W0 j/\bk j=bk0 j)/\H (i+l.length)=h'/\Sl (i+l.length)=sl'/\∀ j d,l[j]? = some d->Bs4 P eqT rec ops n d (i+j) H Sl X W bk
 | [],i,H0,Sl0,X0,W0,bk0,sl',h',e=>by
  cases e
  exact ⟨H0,Sl0,X0,W0,bk0,fun _ _=>⟨rfl,rfl⟩,fun _ _=>⟨rfl,rfl,rfl⟩,rfl,rfl,fun j d h=>by simp at h⟩
 | d :: l,i,H0,Sl0,X0,W0,bk0,sl',h',e=>by
  have e:Cd7 P eqT rec ops n d (drC P eqT rec ops n l) i (dn (fun j=>(H0 j).nx) i) (dn bk0 i) (Sl0 i) (H0 i)=some (sl',h'):=e
  have key:∀ (x:CV) (wt:Bool) (b:Nat) (sl1:Bm) (h1:GH),Rz ops (Sl0 i) d.o=some wt->Xi (Sl0 i) n d.o.dst x=some sl1->(wt=true->b=Nb (evC P (Sl0 i)) d.o)->(wt=false->x=.v undef/\h1=H0 i) ->
    (wt=true->Bd1 P eqT rec d i (dn (fun j=>(H0 j).nx) i) (dn bk0 i) (Sl0 i) (H0 i)=some (x,h1))->drC P eqT rec ops n l (i+1) ((H0 i).nx :: dn (fun j=>(H0 j).nx) i) (b :: dn bk0 i) sl1 h1=some (sl',h') ->
    ∃ H Sl X W bk,(∀ j,j<=i->H j=H0 j/\Sl j=Sl0 j)/\(∀ j,j < i->X j=X0 j/\W j=W0 j/\bk j=bk0 j)/\H (i+(d :: l).length)=h'/\Sl (i+(d :: l).length)=sl'/\∀ j d',(d :: l)[j]? = some d'->Bs4 P eqT rec ops n d' (i+j) H Sl X W bk:=by
   intro x wt b sl1 h1 hw hp hb hno hyes hrest
   obtain ⟨H,Sl,X,W,bk,g1,g2,g3,g4,g5⟩:=C24 l (i+1) (fun j=>if j<=i then H0 j else h1) (fun j=>if j<=i then Sl0 j else sl1) (fun j=>if j < i then X0 j else x) (fun j=>if j < i then W0 j else wt) (fun j=>if j < i then bk0 j else b) sl' h' (by
    have e1:dn (fun j=>(if j<=i then H0 j else h1).nx) (i+1)=(H0 i).nx :: dn (fun j=>(H0 j).nx) i:=by
     simp only [dn,Nat.le_refl,if_true]
     rw [Pr (g:=fun j=>(H0 j).nx) i fun j hj=>by rw [if_pos (by omega)]]
    have e2:dn (fun j=>if j < i then bk0 j else b) (i+1)=b :: dn bk0 i:=by
     simp only [dn,Nat.lt_irrefl,if_false]
     rw [Pr (g:=bk0) i fun j hj=>by rw [if_pos hj]]
    rw [e1,e2,if_neg (by omega),if_neg (by omega)]
    exact hrest)
   have gi:=g1 i (by omega)
   have gi1:=g1 (i+1) (by omega)
   have gx:=g2 i (by omega)
   simp only [Nat.le_refl,if_true,Nat.lt_irrefl,if_false,show ¬ i+1<=i by omega] at gi gi1 gx
   refine ⟨H,Sl,X,W,bk,fun j hj=>?_,fun j hj=>?_,by rw [List.length_cons,<-g3];congr 1;omega,by rw [List.length_cons,<-g4];congr 1;omega,fun j d' hd=>?_⟩
   ·have:=g1 j (by omega);simpa [hj] using this
   ·have:=g2 j (by omega);simpa [hj] using this
   ·cases j with
    | zero =>
     have hd:d=d':=by simpa using hd
     subst hd
     have e1:dn (fun j=>(H j).nx) i=dn (fun j=>(H0 j).nx) i:=Pr i fun j hj=>by
      have:=(g1 j (by omega)).1
      rw [this,if_pos (by omega)]
     have e2:dn bk i=dn bk0 i:=Pr i fun j hj=>by
      have:=(g2 j (by omega)).2.2
      rw [this,if_pos hj]
     refine ⟨?_,?_,?_,?_,?_⟩<;>simp only [Nat.add_zero,e1,e2,gi.1,gi.2,gi1.1,gi1.2,gx.1,gx.2.1,gx.2.2]
     ·exact hw
     ·exact hp
     ·exact hb
     ·exact hno
     ·exact hyes
    | succ j =>
     have:=g5 j d' (by simpa using hd)
     rwa [show i+1+j=i+(j+1) by omega] at this
  unfold Cd7 at e
  split at e
  ·rename_i hw
   split at e
   ·rename_i x h1 hdo
    split at e
    ·rename_i sl1 hp
     exact key x true _ sl1 h1 hw hp (fun _=>rfl) (fun h=>by cases h) (fun _=>hdo) e
    ·cases e
   ·cases e
  ·rename_i hw
   split at e
   ·rename_i sl1 hp
    exact key _ false 0 sl1 _ hw hp (fun h=>by cases h) (fun _=>⟨rfl,rfl⟩) (fun h=>by cases h) e
   ·cases e
  ·cases e
theorem Bt5 {ok:Nat->Prop} {ρ:Nat->Nat×Nat} {sl:Bm} {a:Act} {o:Oper} {b:Bool} (hs:∀ j b' d,o.guard=some (j,b')->(ops[j]?).bind (·.dst)=some d->RC ok ρ ((sl.get d).getD (.v undef)) (a.tmps.getD d undef)) (e:Rz ops sl o=some b):Region.wanted o (yielded ops.toArray a.tmps)=b:=by
 unfold Region.wanted
 unfold Rz at e
 cases hg:o.guard with
 | none=>rw [hg] at e;cases e;rfl
 | some g =>
  obtain ⟨j,want⟩:=g
  rw [hg] at e
  have e:Y4 ops sl j want=some b:=e
  unfold Y4 at e
  split at e
  case h_2=>cases e
  rename_i d hd
  obtain ⟨o',ho',hd'⟩:=Option.bind_eq_some_iff.1 hd
  have hv:=hs j want d hg hd
  have hy:∀ u,a.tmps.getD d undef=u->u≠undef->a.tmps[d]? = some u:=fun u hu hne=>by
   rw [Array.getD_eq_getD_getElem?] at hu
   cases hdd:a.tmps[d]? with
   | none=>rw [hdd] at hu;exact absurd hu.symm hne
   | some y=>rw [hdd] at hu;simp at hu;rw [hu]
  split at e
  ·rename_i x hx
   cases e
   rw [hx] at hv
   have h1:=hy _ hv.v_inv (by intro h;cases h)
   simp [yielded,ho',hd',h1]
  ·rename_i t hx
   cases e
   rw [hx] at hv
   have h1:a.tmps.getD d undef=.tuple t:=hv.v_inv
   rw [Array.getD_eq_getD_getElem?] at h1
   cases hdd:a.tmps[d]? with
   | none=>simp [yielded,ho',hd',hdd]
   | some y=>rw [hdd] at h1;simp at h1;simp [yielded,ho',hd',hdd,h1]
  ·cases e
theorem evD {ok:Nat->Prop} {ρ:Nat->Nat×Nat} {sl:Bm} {a:Act} {y:Operand} (hs:∀ t,y=.tmp t->RC ok ρ ((sl.get t).getD (.v undef)) (a.tmps.getD t undef)) (hg:∀ g,g < P.globals.size->ok g/\(ρ g).1=g):RC ok ρ (evC P sl y) (a.eval y):=by
 cases y with
 | tmp t =>
  have h1:evC P sl (.tmp t)=(sl.get t).getD (.v undef):=Cz3
  rw [h1]
  exact hs t rfl
 | const v=>exact RC.ofV v
 | global g =>
  show RC _ _ (bif Nat.blt g P.globals.size then CV.p g 0 else .u) (.pointer (some ⟨g,0,none⟩))
  cases hq:Nat.blt g P.globals.size with
  | false=>exact .u
  | true =>
   obtain ⟨h1,h2⟩:=hg g (Bs.1 hq)
   have:=RC.p (ρ:=ρ) (o:=0) h1
   rwa [h2] at this
 | func f=>exact .f rfl fun j x u a=>by simp at a
theorem Aq8 {ok:Nat->Prop} {ρ:Nat->Nat×Nat} {w:World} {c o:Nat} {l m l':List CV} {kin:List Nat} (hb:(GB.cs l kin false).holds ok ρ w (ρ c)) (hl':l'=l.take o++m++l.drop (o+m.length)) (ho:o+m.length<=l.length) {vs:List Value} (hm:RCs ok ρ m vs) :
  ∃ w1,(storeCells ⟨(ρ c).1,o,none⟩ vs).run P w=.ok () w1/\(GB.cs l' [] false).holds ok ρ w1 (ρ c)/\(w1.os=w.os/\w1.tape=w.tape/\w1.output=w.output)/\w.heap.size<=w1.heap.size/\∀ g,g≠(ρ c).1->w1.heap[g]? = w.heap[g]? := by
 obtain ⟨C,t,fr,h1,h2,h3,h4,h5⟩:=hb
 obtain rfl:=h2 rfl
 have hC:l.length<=C.toList.length:=by simpa using h3
 have hv:o+vs.length<=C.size:=by rw [<-hm.1];omega
 have hst:=run_storeCells_at (P:=P) (ρ c).1 o t vs 0 C w h1 (by simpa using hv) hm.one
 refine ⟨_,hst,?_,⟨rfl,rfl,rfl⟩,by simp,fun g hg=>setRow_other w _ g _ hg⟩
 obtain ⟨p1,p2⟩:=RCs.put (C:=C.toList) (fun j x u a b=>h5 j x u a (by rw [<-Array.getElem?_toList];exact b)) hm (show o<=l.length by omega) hC (by simpa using hv)
 simp only [Nat.add_zero]
 refine ⟨_,t,(0,0),setRow_heap w _ C _ t (0,0) h1,fun _=>rfl,?_,?_,?_⟩
 ·rw [hl'];simpa using p1
 ·simp only [List.size_toArray,List.length_append,List.length_take,List.length_drop,Array.length_toList];omega
 ·rw [hl']
  exact fun j x u a b=>p2 j x u a (by simpa using b)
theorem B70 {L:Operand->CV} {h h':GH} {o:Oper} {x:CV} (hk:D3 o=2) (hs:B15 h (Nb L o)=true) (e:opC P eqT rec L h o=some (x,h')) :
  ∃ c l l',Nb L o=c+1/\h.get c=some (.cs l [] false)/\h.fl<=c/\h'=⟨h.t.set c (.cs l' [] false),h.nx,h.fl,h.hid⟩/\x=.v undef/\(∃ y∈o.op.operands.toList,∃ off,L y=.p c off) /\
   ∀ (ok:Nat->Prop) (ρ:Nat->Nat×Nat) (w:World) (a:Act),(GB.cs l [] false).holds ok ρ w (ρ c)->(∀ y,y∈o.op.operands.toList->RC ok ρ (L y) (a.eval y)) ->
    ∃ w1,(execOp a.eval o).run P w=.ok .skip w1/\(GB.cs l' [] false).holds ok ρ w1 (ρ c)/\(w1.os=w.os/\w1.tape=w.tape/\w1.output=w.output)/\w.heap.size<=w1.heap.size/\∀ g,g≠(ρ c).1->w1.heap[g]? = w.heap[g]? := by
 obtain ⟨dst,op,ty,pos,after,gd⟩:=o
 unfold D3 at hk
 split at hk<;>try cases hk
 rename_i t y z ho
 simp only at ho
 subst ho
 have e:Wk P t (L y) (L z) h=some (x,h'):=e
 unfold Wk at e
 split at e
 ·rename_i c o hy
  split at e
  ·rename_i q n ht
   simp only [Option.bind_eq_some_iff] at e
   obtain ⟨l,hl,e⟩:=e
   obtain ⟨h1,e⟩:=D7 e
   simp only [Bool.and_eq_true,Option.bind_eq_some_iff,Option.map_eq_some_iff] at h1 e
   obtain ⟨l',hset,h2,hw,e⟩:=e
   cases e
   obtain ⟨p1,p2⟩:=J5 hset
   have hbk:Nb L ⟨dst,.store t y z,ty,pos,after,gd⟩=c+1:=by simp only [Nb,hy]
   obtain ⟨l0,kin,hc,hf,hq,rfl⟩:=GH.wr_some hw
   rw [hbk] at hs
   obtain ⟨kin',ro',hc'⟩:=GH.cells_some hl
   rw [hc] at hc'
   injection hc' with hc'
   injection hc' with q1 q2 q3
   subst q1
   have hkin:kin=[]:=by
    unfold B15 at hs
    rw [Nat.add_sub_cancel,hc] at hs
    cases kin with
    | nil=>rfl
    | cons=>cases hs
   subst hkin
   refine ⟨c,l0,l',hbk,hc,hf,rfl,rfl,⟨y,by simp [Op.operands],o,hy⟩,fun ok ρ w a hb hL=>?_⟩
   have hyv:=hL y (by simp [Op.operands])
   rw [hy] at hyv
   have hm:=(hL z (by simp [Op.operands])).cellsR h1.1
   have hn:=Nat.eq_of_beq_eq_true h1.2
   obtain ⟨w1,r1,r2⟩:=Aq8 (P:=P) hb p2 p1 hm
   obtain ⟨ha,hz⟩:=D5 (w:=w) ht
   have hsz:(a.eval z).cells.size=n:=by have:=hm.1;rw [hn] at this;simpa using this.symm
   refine ⟨w1,?_,r2⟩
   simp only [execOp,hyv.p_inv.1,Instr.storeAt,Instr.sureAddr,storeVar]
   simp [hz,hsz,r1]
  ·cases e
 ·cases e
theorem Ap9 {ro:Option Nat} {o:Oper} {a:Act} {w:World} {C:Prop} (h:o.wpIn (FW ro) 0 P a w (fun _ _=>C) (fun _ _ _=>False)):C:=by
 have h:=h.2
 have hroom:∀ k,(FW ro).room k:=fun k _ h=>by cases h
 have out:¬ LetsOut fun _ _ _=>False:=fun ⟨_,_,h⟩=>h
 generalize (o.semAt (FW ro).round a.eval).run P w=r at h
 cases r with
 | ok x w' =>
  cases x with
  | value v=>exact h
  | skip=>exact h
  | defer d=>exact h
  | enter f args =>
   obtain ⟨e,w'',fr,hr,_⟩:=h.2.2 [] (hroom _)
   cases e with
   | returned v=>exact hr
   | panicked ch=>exact hr.elim
   | outgrown=>exact (out hr).elim
  | row r args =>
   obtain ⟨v,w'',hr,_⟩:=h.2 (Frame.ofRow P r args .normal) [] (hroom _)
   exact hr
  | round l f tmps assign body =>
   obtain ⟨e,w'',hr,_⟩:=h.2.2 (Frame.round l f tmps assign body .normal) [] (hroom _)
   cases e with
   | returned v=>exact hr
   | panicked ch=>exact hr.elim
   | outgrown=>exact (out hr).elim
  | _=>exact h.elim
 | halt x w'=>cases x<;>exact h.elim
end
def Nk (ops:List Oper) (i j:Nat):Prop:=¬ ahd ops i j/\¬ ahd ops j i/\i≠j
theorem Nk.symm {ops:List Oper} {i j:Nat} (h:Nk ops i j):Nk ops j i:=⟨h.2.1,h.1,Ne.symm h.2.2⟩
structure DrF (ops:List Oper) (i:Nat) (d:DI):Prop where
 op:ops[i]? = some d.o
 an:∀ j,d.an.testBit j=true↔ahd ops i j
 cut:d.cut=true->∀ j,j < ops.length->¬ Nk ops i j
 cf:∀ j o',j < i->ops[j]? = some o'->Nk ops i j->(D3 d.o=1/\D3 o'=2\/D3 d.o=2/\D3 o'=1\/D3 d.o=2/\D3 o'=2)->j∈d.cf
 bad:d.bad=false->∀ j o',ops[j]? = some o'->Nk ops i j->¬ (D3 d.o=3/\D3 o'=2)/\¬ (D3 d.o=2/\D3 o'=3)
 slot:∀ t∈Ca0 d.o,∀ j,By ops j=some t->i=j\/ahd ops i j\/ahd ops j i
 guard:∀ j b,d.o.guard=some (j,b)->ahd ops i j
theorem Y8 {ops:List Oper} {i j:Nat} : (!(((bef [] (ops.map Cm)).getD i 0).testBit j || ((bef [] (ops.map Cm)).getD j 0).testBit i || i==j))=true↔Nk ops i j:=by
 unfold Nk ahd
 cases ((bef [] (ops.map Cm)).getD i 0).testBit j<;>cases ((bef [] (ops.map Cm)).getD j 0).testBit i<;>simp
theorem Aa3 {ops:List Oper} {l:List DI} (h:Yg ops=some l):(Ss ops.toArray=true/\(Fq ops).Nodup)/\l.length=ops.length/\∀ i d,l[i]? = some d->DrF ops i d:=by
 unfold Yg at h
 obtain ⟨hok,h⟩:=D7 h
 unfold D49 at hok
 simp only [Bool.and_eq_true,List.all_eq_true,List.mem_range] at hok
 obtain ⟨⟨h1,h2⟩,h3⟩:=hok
 obtain rfl:=Option.some.inj h
 refine ⟨⟨h1,N0 h2⟩,by simp,fun i d hd=>?_⟩
 rw [List.getElem?_map,Option.map_eq_some_iff] at hd
 obtain ⟨⟨o,i'⟩,hz,hd⟩:=hd
 rw [List.getElem?_zipIdx] at hz
 obtain ⟨o',ho,hz⟩:=Option.map_eq_some_iff.1 hz
 cases hz
 rw [Nat.zero_add] at hd
 have hi:=(List.getElem?_eq_some_iff.1 ho).1
 have h3:=h3 i hi
 rw [ho] at h3
 simp only [Bool.and_eq_true,List.all_eq_true,List.mem_range] at h3
 obtain ⟨h4,h5⟩:=h3
 subst hd
 refine ⟨ho,fun j=>Iff.rfl,fun hc j hj hf=>?_,fun j o' hji ho' hf hk=>?_,fun hb j o' ho' hf=>?_,fun t ht j hd=>?_,fun j b hg=>?_⟩
 ·simp only [List.all_eq_true,List.mem_range] at hc
  have:=hc j hj
  rw [Y8.2 hf] at this
  cases this
 ·simp only [List.mem_filter,List.mem_range]
  refine ⟨hji,?_⟩
  rw [Y8.2 hf,ho']
  simp only [Option.map_some,Bool.true_and] at hk ⊢
  rcases hk with ⟨a,b⟩ | ⟨a,b⟩ | ⟨a,b⟩<;>(rw [a,b];first | done | rfl)
 ·simp only [List.any_eq_false,List.mem_range] at hb
  have:=hb j (List.getElem?_eq_some_iff.1 ho').1
  rw [Y8.2 hf,ho'] at this
  simp only [Option.map_some,Bool.true_and] at this ⊢
  constructor
  ·rintro ⟨a,b⟩;rw [a,b] at this;exact this rfl
  ·rintro ⟨a,b⟩;rw [a,b] at this;exact this rfl
 ·have:=h5 j (by unfold By at hd;obtain ⟨o'',h,_⟩:=Option.bind_eq_some_iff.1 hd;exact (List.getElem?_eq_some_iff.1 h).1)
  unfold By at hd
  rw [hd] at this
  simp only [Bool.or_eq_true,Bool.not_eq_true',beq_iff_eq] at this
  rcases this with ((h | h) | h) | h
  ·rw [List.contains_eq_mem,decide_eq_false_iff_not] at h;exact absurd ht h
  ·exact .inl h
  ·exact .inr (.inl h)
  ·exact .inr (.inr h)
 ·rw [hg] at h4
  exact h4
section
variable (ops : List Oper) (D : Nat -> DI) (H : Nat -> GH) (Sl : Nat -> Bm) (X : Nat -> CV) (W : Nat -> Bool) (bk : Nat -> Nat) (S : Nat -> Bool)
def tch (i c:Nat):Prop:=W i=true/\((D i).cut=true\/(D3 (D i).o=2/\bk i=c+1)\/((H i).nx<=c/\c < (H (i+1)).nx))
def Qe (i c:Nat):Prop:=c < (H i).nx/\Cv (H 0).hid c=false/\∀ k,k < i->(H k).nx<=c->c < (H (k+1)).nx->ahd ops i k
def okL:Nat->Nat->Prop
 | 0,c=>okH (H 0) c
 | i+1,c=>Qe ops H i c\/((H i).nx<=c/\c < (H (i+1)).nx)
def Ent:Nat->Nat->GB->Nat->Prop
 | 0,c,b,m=>(H 0).get c=some b/\m=0
 | k+1,c,b,m=>(S k=true/\tch D H W bk k c/\(H (k+1)).get c=some b/\m=k+1)\/(¬ (S k=true/\tch D H W bk k c)/\Ent k c b m)
structure FkP (i:Nat):Prop where
 nx:(H i).nx<=(H (i+1)).nx
 fl:(H (i+1)).fl=(H i).fl
 hid:(H (i+1)).hid=(H i).hid
 old:∀ c,c < (H 0).fl->(H (i+1)).t.get c=(H i).t.get c
 keep:∀ c,¬ tch D H W bk i c->(H (i+1)).t.get c=(H i).t.get c
 junk:∀ c,(H (i+1)).nx<=c->(H (i+1)).t.get c=none
 stv:W i=true->(D i).cut=false->D3 (D i).o=2->∃ c,bk i=c+1/\Qe ops H i c/\(H (i+1)).nx=(H i).nx
structure Ctx (P:Program) (eqT:Nat->Bool) (rec:Mm->GH->Option (CV×GH)) (n:Nat):Prop where
 dr:∀ i,i < ops.length->DrF ops i (D i)
 tr:∀ i,i < ops.length->Bs4 P eqT rec ops n (D i) i H Sl X W bk
 lt:∀ (i:Nat) o,ops[i]? = some o->∀ d∈Cm o,d < i
 nd:(Fq ops).Nodup
 fl0:(H 0).fl<=(H 0).nx
 hid0:∀ c,(H 0).fl<=c->Cv (H 0).hid c=false
 junk0:∀ c,(H 0).nx<=c->(H 0).t.get c=none
end
section
variable {ops : List Oper} {D : Nat -> DI} {H : Nat -> GH} {Sl : Nat -> Bm} {X : Nat -> CV} {W : Nat -> Bool} {bk : Nat -> Nat} {S S' : Nat -> Bool} {P : Program} {eqT : Nat -> Bool} {rec : Mm -> GH -> Option (CV × GH)} {n : Nat} {i : Nat}
theorem nxm:∀ {i:Nat},(∀ k,k < i->FkP ops D H W bk k)->∀ {j:Nat},j<=i->(H j).nx<=(H i).nx
 | 0,_,j,h=>by rw [show j=0 by omega];exact Nat.le_refl _
 | i+1,hF,j,h=>by
  by_cases hj:j=i+1
  ·rw [hj];exact Nat.le_refl _
  ·exact Nat.le_trans (nxm (fun k hk=>hF k (by omega)) (by omega)) (hF i (by omega)).nx
theorem Ctx.base (C:Ctx ops D H Sl X W bk P eqT rec n):∀ {i:Nat},(∀ k,k < i->FkP ops D H W bk k)->(H i).fl=(H 0).fl/\(H i).hid=(H 0).hid/\(∀ c,(H i).nx<=c->(H i).t.get c=none)/\∀ c,c < (H 0).fl->(H i).t.get c=(H 0).t.get c
 | 0,_=>⟨rfl,rfl,C.junk0,fun _ _=>rfl⟩
 | i+1,hF=>by
  obtain ⟨h1,h2,_,h4⟩:=C.base (i:=i) fun k hk=>hF k (by omega)
  have f:=hF i (by omega)
  exact ⟨f.fl.trans h1,f.hid.trans h2,f.junk,fun c hc=>(f.old c hc).trans (h4 c hc)⟩
theorem Ctx.slot (C:Ctx ops D H Sl X W bk P eqT rec n):∀ (i:Nat),i<=ops.length->∀ t,(∀ j,j < i->By ops j=some t->(Sl i).get t=some (X j))/\((∀ j,j < i->By ops j≠some t)->(Sl i).get t=(Sl 0).get t)
 | 0,_,t=>⟨fun j h=>by omega,fun _=>rfl⟩
 | i+1,hi,t=>by
  obtain ⟨h1,h2⟩:=C.slot i (by omega) t
  have hp:=(C.tr i (by omega)).put
  have ho:=(C.dr i (by omega)).op
  have hd:By ops i=(D i).o.dst:=by unfold By;rw [ho];rfl
  have get:(Sl (i+1)).get t=if By ops i=some t then some (X i) else (Sl i).get t:=by
   rw [hd]
   unfold Xi at hp
   cases hq:(D i).o.dst with
   | none =>
    rw [hq] at hp
    have hp:some (Sl i)=some (Sl (i+1)):=hp
    rw [<-Option.some.inj hp]
    simp
   | some d =>
    rw [hq] at hp
    simp only at hp
    cases hb:Nat.ble (Nat.succ d) n with
    | false=>rw [hb] at hp;cases hp
    | true =>
     rw [hb] at hp
     have hp:some ((Sl i).set d (X i))=some (Sl (i+1)):=hp
     rw [<-Option.some.inj hp,TR.get_set]
     by_cases ht:t=d
     ·rw [if_pos ht,if_pos (by rw [ht])]
     ·rw [if_neg ht,if_neg (fun e=>ht (Option.some.inj e).symm)]
  rw [get]
  refine ⟨fun j hj hjt=>?_,fun hn=>?_⟩
  ·by_cases hji:j=i
   ·subst hji;rw [if_pos hjt]
   ·rw [if_neg fun e=>hji (Hg C.nd hjt e)]
    exact h1 j (by omega) hjt
  ·rw [if_neg (hn i (by omega))]
   exact h2 fun j hj=>hn j (by omega)
theorem Ent.congr {c:Nat} {b:GB} {m:Nat} : ∀ {K:Nat},(∀ k,k < K->tch D H W bk k c->(S k=true↔S' k=true))->(Ent D H W bk S K c b m↔Ent D H W bk S' K c b m)
 | 0,_=>Iff.rfl
 | K+1,h=>by
  have ih:=Ent.congr (b:=b) (m:=m) (K:=K) fun k hk=>h k (by omega)
  have hK:=h K (by omega)
  have e1:(S K=true/\tch D H W bk K c)↔(S' K=true/\tch D H W bk K c):=⟨fun ⟨a,t⟩=>⟨(hK t).1 a,t⟩,fun ⟨a,t⟩=>⟨(hK t).2 a,t⟩⟩
  have e2:(S K=true/\tch D H W bk K c/\(H (K+1)).get c=some b/\m=K+1)↔(S' K=true/\tch D H W bk K c/\(H (K+1)).get c=some b/\m=K+1):=by rw [<-and_assoc,e1,and_assoc]
  simp only [Ent]
  rw [e1,e2,ih]
theorem Ent.cutoff {c:Nat} {b:GB} {m K:Nat} : ∀ {K':Nat},K<=K'->(∀ k,K<=k->k < K'->¬ (S k=true/\tch D H W bk k c))->(Ent D H W bk S K' c b m↔Ent D H W bk S K c b m)
 | 0,hK,_=>by rw [show K=0 by omega]
 | K'+1,hK,h=>by
  by_cases he:K=K'+1
  ·rw [he]
  ·rw [<-Ent.cutoff (K':=K') (by omega) fun k h1 h2=>h k h1 (by omega)]
   have:=h K' (by omega) (by omega)
   simp only [Ent]
   exact ⟨fun h=>h.elim (fun h=>absurd ⟨h.1,h.2.1⟩ this) (·.2),fun h=>.inr ⟨this,h⟩⟩
theorem Ent.level {c:Nat} {b:GB} {m:Nat} : ∀ {K:Nat},Ent D H W bk S K c b m->m=0\/∃ k,k < K/\m=k+1/\S k=true/\tch D H W bk k c
 | 0,h=>.inl h.2
 | K+1,h=>by
  rcases h with ⟨h1,h2,_,h3⟩ | ⟨_,h⟩
  ·exact .inr ⟨K,by omega,h3,h1,h2⟩
  ·rcases Ent.level h with h | ⟨k,h1,h2⟩
   ·exact .inl h
   ·exact .inr ⟨k,by omega,h2⟩
theorem Ent.of {c:Nat} {b:GB} (hh:∀ k,k < i->¬ tch D H W bk k c->(H (k+1)).get c=some b->(H k).get c=some b) (hs:∀ k,k < i->tch D H W bk k c->S k=true):(H i).get c=some b->∃ m,Ent D H W bk S i c b m:=by
 induction i with
 | zero=>exact fun h=>⟨0,h,rfl⟩
 | succ i ih =>
  intro h
  by_cases ht:tch D H W bk i c
  ·exact ⟨i+1,.inl ⟨hs i (by omega) ht,ht,h,rfl⟩⟩
  ·obtain ⟨m,hm⟩:=ih (fun k hk=>hh k (by omega)) (fun k hk=>hs k (by omega)) (hh i (by omega) ht h)
   exact ⟨m,.inr ⟨fun h=>ht h.2,hm⟩⟩
theorem FkP.get (f:FkP ops D H W bk i) {c:Nat} (ht:¬ tch D H W bk i c):(H (i+1)).get c=(H i).get c:=by rw [GH.get_eq,GH.get_eq,f.hid,f.keep c ht]
theorem Ent.last {c:Nat} {b:GB} {m K:Nat} (hi:i < K) (hS:S i=true) (ht:tch D H W bk i c) (hn:∀ k,i < k->k < K->¬ (S k=true/\tch D H W bk k c)) (h:Ent D H W bk S K c b m):(H (i+1)).get c=some b/\m=i+1:=by
 have h:=(Ent.cutoff (K:=i+1) hi fun k h1 h2=>hn k (by omega) h2).1 h
 rcases h with ⟨_,_,h1,h2⟩ | ⟨h,_⟩
 ·exact ⟨h1,h2⟩
 ·exact absurd ⟨hS,ht⟩ h
theorem Ctx.ok0 (C:Ctx ops D H Sl X W bk P eqT rec n) (hF:∀ k,k < i->FkP ops D H W bk k) {c:Nat} (h:okL ops H 0 c):Qe ops H i c :=
 ⟨Nat.lt_of_lt_of_le h.1 (nxm hF (Nat.zero_le _)),h.2,fun k hk h1 _=>by have:=nxm (fun k' hk'=>hF k' (by omega)) (Nat.zero_le k);have:=h.1;omega⟩
theorem Ctx.okS (C:Ctx ops D H Sl X W bk P eqT rec n) (hi:i < ops.length) (hF:∀ k,k < i->FkP ops D H W bk k) {k:Nat} (hk:ahd ops i k) {c:Nat} (h:okL ops H (k+1) c):Qe ops H i c:=by
 have hki:=L9 C.lt hi hk
 have hm:=nxm hF (show k+1<=i by omega)
 rcases h with ⟨h1,h2,h3⟩ | ⟨h1,h2⟩
 ·have:=(hF k hki).nx
  refine ⟨by omega,h2,fun j hj a b=>?_⟩
  by_cases hjk:j < k
  ·exact Be2 C.lt i hi k j hk (h3 j hjk a b)
  ·have:=nxm (fun k' hk'=>hF k' (by omega)) (show k<=j by omega)
   omega
 ·have h0:=nxm (fun k' hk'=>hF k' (by omega)) (Nat.zero_le k)
  refine ⟨by omega,C.hid0 c (Nat.le_trans C.fl0 (by omega)),fun j hj a b=>?_⟩
  by_cases hjk:j=k
  ·rw [hjk];exact hk
  ·exfalso
   rcases Nat.lt_or_ge j k with h | h
   ·have:=nxm (fun k' hk'=>hF k' (by omega)) (show j+1<=k by omega)
    omega
   ·have:=nxm (fun k' hk'=>hF k' (by omega)) (show k+1<=j by omega)
    omega
theorem Ctx.okT (C:Ctx ops D H Sl X W bk P eqT rec n) (hi:i < ops.length) (hF:∀ k,k < i->FkP ops D H W bk k) {m:Nat} (hm:m=0\/∃ k,m=k+1/\ahd ops i k) {c:Nat} (h:okL ops H m c):Qe ops H i c:=by
 rcases hm with rfl | ⟨k,rfl,hk⟩
 ·exact C.ok0 hF h
 ·exact C.okS hi hF hk h
end
section
variable (ops : List Oper) (D : Nat -> DI) (H : Nat -> GH) (Sl : Nat -> Bm) (X : Nat -> CV) (W : Nat -> Bool) (bk : Nat -> Nat) (n : Nat) (B : Nat) (ρ0 : Nat -> Nat × Nat) (a0 : Act) (w0 : World) (ρ : Nat -> Nat × Nat) (S : Nat -> Bool)
structure Ld (a:Act) (w:World):Prop where
 low0:Below B w0 w
 same:∀ c,c < (H 0).nx->ρ c=ρ0 c
 holds:∀ c b m,Ent D H W bk S ops.length c b m->okL ops H m c/\b.holds (okL ops H m) ρ w (ρ c)
 apart:∀ c d b b' m m',Ent D H W bk S ops.length c b m->Ent D H W bk S ops.length d b' m'->b.live=true->b'.live=true->(ρ c).1=(ρ d).1->c=d\/R3 c b b'\/R3 d b' b
 low:∀ c b m,Ent D H W bk S ops.length c b m->b.live=true->(H 0).fl<=c->B<=(ρ c).1
 base:B<=w.heap.size
 tsz:a.tmps.size=n
 defs:a.defers=a0.defers
 slots1:∀ j t,j < ops.length->By ops j=some t->S j=true->RC (okL ops H (j+1)) ρ (X j) (a.tmps.getD t undef)
 slots0:∀ t,(∀ j,j < ops.length->By ops j=some t->S j=false)->RC (okL ops H 0) ρ (((Sl 0).get t).getD (.v undef)) (a.tmps.getD t undef)
end
theorem Ai3 {a:Act} {dst:Option Tmp} {v:Value} (hd:∀ d,dst=some d->d < a.tmps.size) (t:Nat):(a.put dst v).tmps.getD t undef=if dst=some t then v else a.tmps.getD t undef:=by
 cases dst with
 | none=>simp [Act.put]
 | some d =>
  show (a.tmps.setIfInBounds d v).getD t undef=_
  have hd:=hd d rfl
  by_cases ht:t=d
  ·subst ht
   rw [if_pos rfl,Array.getD_eq_getD_getElem?,Array.getElem?_setIfInBounds_self_of_lt hd];rfl
  ·rw [if_neg fun e=>ht (Option.some.inj e).symm,Array.getD_eq_getD_getElem?,Array.getElem?_setIfInBounds_ne (Ne.symm ht),<-Array.getD_eq_getD_getElem?]
theorem Bv9 {sl sl':Bm} {n:Nat} {dst:Option Tmp} {x:CV} (h:Xi sl n dst x=some sl'):∀ d,dst=some d->d < n:=by
 rintro d rfl
 have h:Bool.rec (motive:=fun _=>Option Bm) none (some (sl.set d x)) (Nat.ble (Nat.succ d) n)=some sl':=h
 cases hq:Nat.ble (Nat.succ d) n with
 | false=>rw [hq] at h;cases h
 | true=>exact Nat.le_of_ble_eq_true hq
theorem SR.junk {ρ:Nat->Nat×Nat} {h:GH} {B:Nat} {w:World} (s:SR ρ h B w) {c:Nat} (hc:h.nx<=c):h.t.get c=none:=by
 cases e:h.t.get c with
 | none=>rfl
 | some b =>
  have:=(s.ok (GH.get_of (s.hid c (Nat.le_trans s.fl hc)) e)).1
  omega
theorem B47 {b i:Nat} {fs:List Nat} : ∀ {cf:List Nat},Bq1 b i fs cf=true->∀ j∈cf,fs.getD (i - 1 - j) 0≠b
 | [],_,j,h=>by cases h
 | k :: r,h,j,hj=>by
  simp only [Bq1,Bool.and_eq_true,Bool.not_eq_true'] at h
  rcases List.mem_cons.1 hj with rfl | hj
  ·exact Nat.ne_of_beq_eq_false h.1
  ·exact B47 h.2 j hj
section
variable {ops : List Oper} {D : Nat -> DI} {H : Nat -> GH} {Sl : Nat -> Bm} {X : Nat -> CV} {W : Nat -> Bool} {bk : Nat -> Nat} {n : Nat} {B : Nat} {ρ0 : Nat -> Nat × Nat} {a0 : Act} {w0 : World} {ρ : Nat -> Nat × Nat} {S : Nat -> Bool} {P : Program} {eqT : Nat -> Bool} {rec : Mm -> GH -> Option (CV × GH)} {i : Nat} {a : Act} {w : World}
theorem Ld.next (C:Ctx ops D H Sl X W bk P eqT rec n) (hi:i < ops.length) (I:Ld ops D H Sl X W bk n B ρ0 a0 w0 ρ S a w)
  (hfree:∀ c k,i < k->k < ops.length->S k=true->tch D H W bk i c->¬ tch D H W bk k c) {ρ':Nat->Nat×Nat} {v:Value} {w':World} (h1:Below B w w')
  (h2:∀ m,(m=0\/∃ k,k < ops.length/\m=k+1/\S k=true)->∀ c,okL ops H m c->ρ' c=ρ c) (h20:∀ c,c < (H 0).nx->ρ' c=ρ c)
  (h3:∀ c b,tch D H W bk i c->(H (i+1)).get c=some b->okL ops H (i+1) c/\b.holds (okL ops H (i+1)) ρ' w' (ρ' c))
  (h4:∀ c b m,Ent D H W bk S ops.length c b m->b.live=true->¬ tch D H W bk i c->w'.heap[(ρ c).1]? = w.heap[(ρ c).1]?)
  (h5:∀ c b d b',tch D H W bk i c->(H (i+1)).get c=some b->((tch D H W bk i d/\(H (i+1)).get d=some b')\/(¬ tch D H W bk i d/\∃ m,Ent D H W bk S ops.length d b' m))->b.live=true->b'.live=true->(ρ' c).1=(ρ' d).1->c=d\/R3 c b b'\/R3 d b' b)
  (h6:∀ c b,tch D H W bk i c->(H (i+1)).get c=some b->b.live=true->(H 0).fl<=c->B<=(ρ' c).1)
  (h7:RC (okL ops H (i+1)) ρ' (X i) v):Ld ops D H Sl X W bk n B ρ0 a0 w0 ρ' (fun j=>S j || decide (j=i)) (a.put (D i).o.dst v) w':=by
 have ent:∀ {c b m},Ent D H W bk (fun j=>S j || decide (j=i)) ops.length c b m->(tch D H W bk i c/\(H (i+1)).get c=some b/\m=i+1)\/(¬ tch D H W bk i c/\Ent D H W bk S ops.length c b m):=fun {c b m} h=>by
  by_cases ht:tch D H W bk i c
  ·refine .inl ⟨ht,Ent.last hi (by simp) ht (fun k hk hkl=>?_) h⟩
   rintro ⟨a1,a2⟩
   simp only [Bool.or_eq_true,decide_eq_true_eq] at a1
   rcases a1 with a1 | a1
   ·exact hfree c k hk hkl a1 ht a2
   ·omega
  ·refine .inr ⟨ht,(Ent.congr fun k _ hkt=>?_).1 h⟩
   simp only [Bool.or_eq_true,decide_eq_true_eq]
   exact ⟨fun h=>h.elim id fun e=>absurd (e ▸ hkt) ht,.inl⟩
 have lev:∀ {c b m},Ent D H W bk S ops.length c b m->(m=0\/∃ k,k < ops.length/\m=k+1/\S k=true):=fun h=>h.level.elim .inl fun ⟨k,a1,a2,a3,_⟩=>.inr ⟨k,a1,a2,a3⟩
 have old:∀ {c b m},Ent D H W bk S ops.length c b m->ρ' c=ρ c:=fun h=>h2 _ (lev h) _ (I.holds _ _ _ h).1
 have hd:=(C.tr i hi).put
 have hdl:∀ d,(D i).o.dst=some d->d < a.tmps.size:=by rw [I.tsz];exact Bv9 hd
 have hdst:By ops i=(D i).o.dst:=by unfold By;rw [(C.dr i hi).op];rfl
 refine ⟨I.low0.trans h1,fun c hc=>(h20 c hc).trans (I.same c hc),fun c b m h=>?_,fun c d b b' m m' h h' l l' e=>?_,fun c b m h l hc=>?_,Nat.le_trans I.base h1.size,?_,?_,fun j t hj hjt hS=>?_,fun t ht=>?_⟩
 ·rcases ent h with ⟨a1,a2,rfl⟩ | ⟨a1,a2⟩
  ·exact h3 c b a1 a2
  ·obtain ⟨p1,p2⟩:=I.holds c b m a2
   refine ⟨p1,?_⟩
   rw [old a2]
   exact p2.ext (fun c' hc'=>⟨hc',h2 m (lev a2) c' hc'⟩) fun hl=>h4 c b m a2 hl a1
 ·rcases ent h with ⟨a1,a2,rfl⟩ | ⟨a1,a2⟩
  ·rcases ent h' with ⟨b1,b2,rfl⟩ | ⟨b1,b2⟩
   ·exact h5 c b d b' a1 a2 (.inl ⟨b1,b2⟩) l l' e
   ·exact h5 c b d b' a1 a2 (.inr ⟨b1,_,b2⟩) l l' e
  ·rcases ent h' with ⟨b1,b2,rfl⟩ | ⟨b1,b2⟩
   ·rcases h5 d b' c b b1 b2 (.inr ⟨a1,_,a2⟩) l' l e.symm with q | q | q
    ·exact .inl q.symm
    ·exact .inr (.inr q)
    ·exact .inr (.inl q)
   ·rw [old a2,old b2] at e
    exact I.apart c d b b' m m' a2 b2 l l' e
 ·rcases ent h with ⟨a1,a2,rfl⟩ | ⟨a1,a2⟩
  ·exact h6 c b a1 a2 l hc
  ·rw [old a2];exact I.low c b m a2 l hc
 ·rw [<-I.tsz]
  cases (D i).o.dst<;>simp [Act.put]
 ·rw [<-I.defs]
  cases (D i).o.dst<;>rfl
 ·rw [Ai3 hdl]
  by_cases hji:j=i
  ·subst hji
   rw [<-hdst,if_pos hjt]
   exact h7
  ·rw [<-hdst,if_neg fun e=>hji (Hg C.nd hjt e)]
   have hS:S j=true:=by simpa [hji] using hS
   exact (I.slots1 j t hj hjt hS).ext fun c hc=>⟨hc,h2 (j+1) (.inr ⟨j,hj,rfl,hS⟩) c hc⟩
 ·rw [Ai3 hdl,<-hdst,if_neg fun e=>by have:=ht i hi e;simp at this]
  exact (I.slots0 t fun j hj hjt=>by have:=ht j hj hjt;simp only [Bool.or_eq_false_iff] at this;exact this.1).ext fun c hc=>⟨hc,h2 0 (.inl rfl) c hc⟩
theorem Ld.read (C:Ctx ops D H Sl X W bk P eqT rec n) (hi:i < ops.length) (hF:∀ k,k < i->FkP ops D H W bk k) (hSi:S i=false) (hcl:∀ k,ahd ops i k->S k=true) (hcl2:∀ k,k < ops.length->S k=true->∀ j,ahd ops k j->S j=true)
  (I:Ld ops D H Sl X W bk n B ρ0 a0 w0 ρ S a w) {t:Nat} (ht:∀ j,By ops j=some t->i=j\/ahd ops i j\/ahd ops j i):RC (Qe ops H i) ρ (((Sl i).get t).getD (.v undef)) (a.tmps.getD t undef):=by
 obtain ⟨s1,s2⟩:=C.slot i (by omega) t
 have zero:(∀ j,j < ops.length->By ops j=some t->S j=false/\i<=j)->RC (Qe ops H i) ρ (((Sl i).get t).getD (.v undef)) (a.tmps.getD t undef):=fun h=>by
  rw [s2 fun j hj hjt=>by have:=(h j (by omega) hjt).2;omega]
  exact (I.slots0 t fun j hj hjt=>(h j hj hjt).1).ext fun c hc=>⟨C.ok0 hF hc,rfl⟩
 by_cases hw:∃ j,j < ops.length/\By ops j=some t
 ·obtain ⟨j,hj,hjt⟩:=hw
  have one:∀ k,By ops k=some t->k=j:=fun k hk=>Hg C.nd hk hjt
  rcases ht j hjt with e | h | h
  ·exact zero fun k _ hk=>by rw [one k hk,<-e];exact ⟨hSi,Nat.le_refl _⟩
  ·rw [s1 j (L9 C.lt hi h) hjt]
   exact (I.slots1 j t hj hjt (hcl j h)).ext fun c hc=>⟨C.okS hi hF h hc,rfl⟩
  ·refine zero fun k _ hk=>?_
   rw [one k hk]
   refine ⟨?_,Nat.le_of_lt (L9 C.lt hj h)⟩
   cases hS:S j with
   | false=>rfl
   | true=>have:=hcl2 j hj hS i h;rw [hSi] at this;cases this
 ·exact zero fun j hj hjt=>absurd ⟨j,hj,hjt⟩ hw
theorem Aa4 {d:DI} {ss fs:List Nat} {sl:Bm} {h:GH} {r:CV×GH} (hc:d.cut=false) (e:Bd1 P eqT rec d i ss fs sl h=some r):d.bad=false/\(∀ j∈d.cf,fs.getD (i - 1 - j) 0≠Nb (evC P sl) d.o) /\
  (D3 d.o=2/\B15 h (Nb (evC P sl) d.o)=true/\opC P eqT rec (evC P sl) h d.o=some r\/D3 d.o≠2/\∃ q,opC P eqT rec (evC P sl) ⟨Pv (D3 d.o) (Nb (evC P sl) d.o) h,h.nx,h.nx,Rt d.an ss (i - 1) h.nx++h.hid⟩ d.o=some (r.1,q)/\Bm2 (D3 d.o) h q=some r.2):=by
 unfold Bd1 at e
 rw [hc] at e
 simp only [cond_false] at e
 cases hq:(d.bad || !Bq1 (Nb (evC P sl) d.o) i fs d.cf) with
 | true=>rw [hq] at e;cases e
 | false =>
  rw [hq] at e
  simp only [cond_false] at e
  rw [Bool.or_eq_false_iff] at hq
  refine ⟨hq.1,B47 (by simpa using hq.2),?_⟩
  cases hk:Nat.beq (D3 d.o) 2 with
  | true =>
   rw [hk] at e
   simp only [cond_true] at e
   obtain ⟨h1,h2⟩:=D7 e
   exact .inl ⟨Nat.eq_of_beq_eq_true hk,h1,h2⟩
  | false =>
   rw [hk] at e
   simp only [cond_false,Option.bind_eq_some_iff,Option.map_eq_some_iff] at e
   obtain ⟨⟨x,q⟩,h1,h',h2,rfl⟩:=e
   exact .inr ⟨Nat.ne_of_beq_eq_false hk,q,h1,h2⟩
theorem Ctx.conf (C:Ctx ops D H Sl X W bk P eqT rec n) (hi:i < ops.length) (hW:W i=true) (hc:(D i).cut=false) {c:Nat} (hk:D3 (D i).o=3\/((D3 (D i).o=1\/D3 (D i).o=2)/\Nb (evC P (Sl i)) (D i).o=c+1)) :
  ∀ k,k < ops.length->Nk ops i k->W k=true->(D k).cut=false->D3 (D k).o=2->bk k≠c+1:=by
 intro k hkl hf hWk hck hkk
 obtain ⟨p1,p2,_⟩:=Aa4 hc ((C.tr i hi).yes hW)
 obtain ⟨q1,q2,_⟩:=Aa4 hck ((C.tr k hkl).yes hWk)
 have ok:=(C.dr k hkl).op
 have oi:=(C.dr i hi).op
 rcases hk with h3 | ⟨h12,hb⟩
 ·exact absurd ⟨h3,hkk⟩ ((C.dr i hi).bad p1 k _ ok hf).1
 ·rcases Nat.lt_or_ge k i with hki | hki
  ·have:=p2 k ((C.dr i hi).cf k _ hki ok hf (by rcases h12 with h | h<;>simp [h,hkk]))
   rw [Ay8 bk i k hki,hb] at this
   exact this
  ·have hne:=hf.2.2
   have:=q2 i ((C.dr k hkl).cf i _ (by omega) oi hf.symm (by rcases h12 with h | h<;>simp [h,hkk]))
   rw [Ay8 bk k i (by omega),(C.tr i hi).blk hW,hb,<-(C.tr k hkl).blk hWk] at this
   exact fun e=>this e.symm
theorem Ctx.near (C:Ctx ops D H Sl X W bk P eqT rec n) (hi:i < ops.length) (hSi:S i=false) (hcl2:∀ k,k < ops.length->S k=true->∀ j,ahd ops k j->S j=true)
  (hF:∀ k,k < ops.length->(k < i\/∃ m,S m=true/\i < m/\m < ops.length/\k<=m)->FkP ops D H W bk k) {c:Nat} (hv:Qe ops H i c) (hcf:∀ k,k < ops.length->Nk ops i k->W k=true->(D k).cut=false->D3 (D k).o=2->bk k≠c+1) :
  ∀ k,k < ops.length->(k < i\/S k=true)->tch D H W bk k c->ahd ops i k:=by
 intro k hk hor ht
 by_cases hik:ahd ops i k
 ·exact hik
 ·exfalso
  have hne:i≠k:=fun e=>by
   subst e
   rcases hor with h | h
   ·omega
   ·rw [hSi] at h;cases h
  have hki:¬ ahd ops k i:=fun h=>by
   rcases hor with h' | h'
   ·have:=L9 C.lt hk h;omega
   ·have:=hcl2 k hk h' i h;rw [hSi] at this;cases this
  have hf:Nk ops i k:=⟨hik,hki,hne⟩
  obtain ⟨hW,h | h | h⟩:=ht
  ·exact (C.dr k hk).cut h i hi hf.symm
  ·cases hc:(D k).cut with
   | true=>exact (C.dr k hk).cut hc i hi hf.symm
   | false=>exact hcf k hk hf hW hc h.1 h.2
  ·rcases Nat.lt_or_ge k i with hki | hki
   ·exact hik (hv.2.2 k hki h.1 h.2)
   ·have hS:S k=true:=hor.elim (fun h'=>by omega) id
    have:=nxm (ops:=ops) (D:=D) (H:=H) (W:=W) (bk:=bk) (i:=k) (fun j hj=>hF j (by omega) (.inr ⟨k,hS,by omega,hk,by omega⟩)) (show i<=k by omega)
    have:=hv.1
    omega
theorem Ctx.view (C:Ctx ops D H Sl X W bk P eqT rec n) (hi:i < ops.length) (hSi:S i=false) (hcl:∀ k,ahd ops i k->S k=true) (hF:∀ k,k < i->FkP ops D H W bk k) {c:Nat} (hn:∀ k,k < ops.length->(k < i\/S k=true)->tch D H W bk k c->ahd ops i k) {b:GB} (h:(H i).get c=some b) :
  ∃ m,Ent D H W bk S ops.length c b m/\(m=0\/∃ k,m=k+1/\ahd ops i k):=by
 obtain ⟨m,hm⟩:=Ent.of (S:=S) (fun k hk ht e=>by rw [<-(hF k hk).get ht];exact e) (fun k hk ht=>hcl k (hn k (by omega) (.inl hk) ht)) h
 refine ⟨m,(Ent.cutoff (by omega) fun k h1 h2=>?_).2 hm,?_⟩
 ·rintro ⟨a1,a2⟩
  have:=L9 C.lt hi (hn k h2 (.inr a1) a2)
  omega
 ·rcases hm.level with h | ⟨k,h1,h2,h3,h4⟩
  ·exact .inl h
  ·exact .inr ⟨k,h2,hn k (by omega) (.inl h1) h4⟩
end
theorem Br8 {k b c:Nat} {h:GH} {g:GB} (e:(Pv k b h).get c=some g):k=3/\h.t.get c=some g\/k=1/\b=c+1/\h.get c=some g:=by
 unfold Pv at e
 cases hk:Nat.beq k 3 with
 | true=>rw [hk] at e;exact .inl ⟨Nat.eq_of_beq_eq_true hk,e⟩
 | false =>
  rw [hk] at e
  simp only [cond_false] at e
  cases hq:(Nat.beq k 1&&Nat.blt 0 b) with
  | false=>rw [hq] at e;cases e
  | true =>
   rw [hq] at e
   simp only [cond_true] at e
   rw [Bool.and_eq_true] at hq
   have hb:=Bs.1 hq.2
   split at e
   ·rename_i g' hg
    rw [TR.get_set] at e
    by_cases hc:c=b - 1
    ·rw [if_pos hc] at e
     obtain rfl:=Option.some.inj e
     exact .inr ⟨Nat.eq_of_beq_eq_true hq.1,by omega,by rw [hc];exact hg⟩
    ·rw [if_neg hc] at e;cases e
   ·cases e
theorem Ba7 {k:Nat} {h r h1:GH} {b:Nat} {hid:List (Nat×Nat)} {ρ:Nat->Nat×Nat} {B:Nat} {w:World} (e:Bm2 k h r=some h1) (hr:HLe ⟨Pv k b h,h.nx,h.nx,hid⟩ r) (s:SR ρ r B w) (hj:∀ c,h.nx<=c->h.t.get c=none) :
  h1.nx=r.nx/\h1.fl=h.fl/\h1.hid=h.hid/\(∀ c,h.nx<=c->c < r.nx->h1.t.get c=r.t.get c)/\(∀ c,c < h.nx->h1.t.get c=h.t.get c)/\∀ c,r.nx<=c->h1.t.get c=none:=by
 have hnx:h.nx<=r.nx:=hr.nx
 unfold Bm2 at e
 cases hk:Nat.beq k 3 with
 | true =>
  rw [hk] at e
  simp only [cond_true,Option.some.injEq] at e
  subst e
  refine ⟨rfl,rfl,rfl,fun _ _ _=>rfl,fun c hc=>?_,fun c hc=>s.junk hc⟩
  have:=hr.old c hc
  have hb:Pv k b h=h.t:=by unfold Pv;rw [hk];rfl
  rw [hb] at this
  exact this
 | false =>
  rw [hk] at e
  simp only [cond_false] at e
  cases hq:Nat.beq r.nx h.nx with
  | true =>
   rw [hq] at e
   simp only [cond_true,Option.some.injEq] at e
   subst e
   have hq:=Nat.eq_of_beq_eq_true hq
   exact ⟨hq.symm,rfl,rfl,fun c _ _=>by omega,fun _ _=>rfl,fun c hc=>hj c (by omega)⟩
  | false =>
   rw [hq] at e
   simp only [cond_false] at e
   obtain ⟨hn,e⟩:=D7 e
   have hn:=Nat.eq_of_beq_eq_true hn
   split at e
   ·rename_i g hg
    obtain rfl:=Option.some.inj e
    refine ⟨hn.symm,rfl,rfl,fun c h1 h2=>?_,fun c hc=>?_,fun c hc=>?_⟩
    ·have:c=h.nx:=by omega
     subst this
     show (h.t.set h.nx g).get h.nx=_
     rw [TR.get_set,if_pos rfl,hg]
    ·show (h.t.set h.nx g).get c=_
     rw [TR.get_set,if_neg (by omega)]
    ·show (h.t.set h.nx g).get c=_
     rw [TR.get_set,if_neg (by omega)]
     exact hj c (by omega)
   ·cases e
section
variable (ops : List Oper) (D : Nat -> DI) (H : Nat -> GH) (W : Nat -> Bool) (bk : Nat -> Nat) (S : Nat -> Bool) (i : Nat)
structure Rdy:Prop where
 hi:i < ops.length
 hSi:S i=false
 hcl:∀ k,ahd ops i k->S k=true
 hcl2:∀ k,k < ops.length->S k=true->∀ j,ahd ops k j->S j=true
 hF:∀ k,k < ops.length->(k < i\/∃ m,S m=true/\i < m/\m < ops.length/\k<=m)->FkP ops D H W bk k
end
section
variable {ops : List Oper} {D : Nat -> DI} {H : Nat -> GH} {Sl : Nat -> Bm} {X : Nat -> CV} {W : Nat -> Bool} {bk : Nat -> Nat} {n : Nat} {B : Nat} {ρ0 : Nat -> Nat × Nat} {a0 : Act} {w0 : World} {ρ : Nat -> Nat × Nat} {S : Nat -> Bool} {P : Program} {eqT : Nat -> Bool} {rec : Mm -> GH -> Option (CV × GH)} {i : Nat} {a : Act} {w : World}
theorem Rdy.lo (R:Rdy ops D H W bk S i):∀ k,k < i->FkP ops D H W bk k:=fun k hk=>R.hF k (by have:=R.hi;omega) (.inl hk)
theorem Rdy.free (C:Ctx ops D H Sl X W bk P eqT rec n) (R:Rdy ops D H W bk S i) {k:Nat} (hk:i < k) (hkl:k < ops.length) (hS:S k=true):Nk ops i k:=⟨(fun h=>by have:=L9 C.lt R.hi h;omega),(fun h=>by have:=R.hcl2 k hkl hS i h;rw [R.hSi] at this;cases this),by omega⟩
theorem B13 (C:Ctx ops D H Sl X W bk P eqT rec n) (R:Rdy ops D H W bk S i) (hW:W i=false) (I:Ld ops D H Sl X W bk n B ρ0 a0 w0 ρ S a w) :
  Ld ops D H Sl X W bk n B ρ0 a0 w0 ρ (fun j=>S j || decide (j=i)) (a.put (D i).o.dst undef) w/\FkP ops D H W bk i:=by
 obtain ⟨e1,e2⟩:=(C.tr i R.hi).no hW
 have nt:∀ {c},¬ tch D H W bk i c:=fun h=>by rw [h.1] at hW;cases hW
 refine ⟨I.next C R.hi (fun c k _ _ _ h=>absurd h nt) (Below.refl _ _) (fun _ _ _ _=>rfl) (fun _ _=>rfl) (fun c b h=>absurd h nt) (fun _ _ _ _ _ _=>rfl) (fun c b d b' h=>absurd h nt) (fun c b h=>absurd h nt) (by rw [e1];exact RC.undef),?_⟩
 exact ⟨by rw [e2];exact Nat.le_refl _,by rw [e2],by rw [e2],fun c _=>by rw [e2],fun c _=>by rw [e2],fun c hc=>by rw [e2] at hc ⊢;exact (C.base R.lo).2.2.1 c hc,fun h=>by rw [h] at hW;cases hW⟩
theorem P7 (C:Ctx ops D H Sl X W bk P eqT rec n) (R:Rdy ops D H W bk S i) (hg:Le P ρ0 (H 0)) (I:Ld ops D H Sl X W bk n B ρ0 a0 w0 ρ S a w):∀ y,y∈(D i).o.op.operands.toList->RC (Qe ops H i) ρ (evC P (Sl i) y) (a.eval y):=fun y hy=>by
 refine evD (fun t e=>?_) fun g hgl=>?_
 ·subst e
  refine I.read C R.hi R.lo R.hSi R.hcl R.hcl2 fun j hj=>(C.dr i R.hi).slot t ?_ j hj
  unfold Ca0
  exact List.mem_filterMap.2 ⟨_,hy,rfl⟩
 ·obtain ⟨h1,h2⟩:=hg g hgl
  exact ⟨C.ok0 R.lo h1,by rw [I.same g h1.1];exact h2⟩
open Classical in
noncomputable def B27 (o:Oper) (L:Operand->CV) (y:Operand):CV:=if y∈o.op.operands.toList then L y else .u
theorem Aj6 {o:Oper} {L:Operand->CV} {h:GH} : opC P eqT rec (B27 o L) h o=opC P eqT rec L h o:=B98 fun y hy=>by unfold B27;rw [if_pos hy]
theorem Aj5 {ok:Nat->Prop} {o:Oper} {L:Operand->CV} (h:∀ y,y∈o.op.operands.toList->RC ok ρ (L y) (a.eval y)) (y:Operand):RC ok ρ (B27 o L y) (a.eval y):=by
 unfold B27
 split
 ·exact h y (by assumption)
 ·exact .u
theorem Bh3 (hE:Mn P eqT) (hR:La P rec) (C:Ctx ops D H Sl X W bk P eqT rec n) (R:Rdy ops D H W bk S i) (hW:W i=true) (hc:(D i).cut=true) (hg:Le P ρ0 (H 0)) (I:Ld ops D H Sl X W bk n B ρ0 a0 w0 ρ S a w) {ro:Option Nat} {N:Act->World->Prop} {Q:Exit->Act->World->Prop}
  (hN:∀ ρ' a' w',Ld ops D H Sl X W bk n B ρ0 a0 w0 ρ' (fun j=>S j || decide (j=i)) a' w'->FkP ops D H W bk i->N a' w'):(D i).o.wpIn (FW ro) 0 P a w N Q:=by
 have e:=(C.tr i R.hi).yes hW
 unfold Bd1 at e
 rw [hc] at e
 simp only [cond_true] at e
 rw [<-Aj6] at e
 obtain ⟨f1,f2,f3,f4⟩:=C.base R.lo
 have all:∀ k,k < i->ahd ops i k:=fun k hk=>by
  by_cases h:ahd ops i k
  ·exact h
  ·have hi:=R.hi
   exact absurd ⟨h,(fun h=>by have:=L9 C.lt (show k < ops.length by omega) h;omega),by omega⟩ ((C.dr i R.hi).cut hc k (by omega))
 have done:∀ k,k < ops.length->S k=true->ahd ops i k:=fun k hk hS=>by
  by_cases h:ahd ops i k
  ·exact h
  ·exact absurd ⟨h,(fun h=>by have:=R.hcl2 k hk hS i h;rw [R.hSi] at this;cases this),(fun h=>by subst h;rw [R.hSi] at hS;cases hS)⟩ ((C.dr i R.hi).cut hc k hk)
 have hv:∀ {c b},(H i).get c=some b->∃ m,Ent D H W bk S ops.length c b m/\(m=0\/∃ k,m=k+1/\ahd ops i k):=fun h=>C.view R.hi R.hSi R.hcl R.lo (fun k hk h _=>h.elim (all k) (done k hk)) h
 have okv:∀ {c},Qe ops H i c->okH (H i) c:=fun h=>⟨h.1,by rw [f2];exact h.2.1⟩
 have n0:=nxm R.lo (Nat.zero_le i)
 have s:SR ρ (H i) B w:=⟨⟨fun c b h=>by
   obtain ⟨m,h1,h2⟩:=hv h
   obtain ⟨p1,p2⟩:=I.holds c b m h1
   exact ⟨okv (C.okT R.hi R.lo h2 p1),p2.ext (fun c' hc'=>⟨okv (C.okT R.hi R.lo h2 hc'),rfl⟩) fun _=>rfl⟩,fun c d b b' h h' l l' e=>by
   obtain ⟨m,h1,_⟩:=hv h
   obtain ⟨m',h1',_⟩:=hv h'
   exact I.apart c d b b' m m' h1 h1' l l' e,fun c b h l hc=>by
   obtain ⟨m,h1,_⟩:=hv h
   exact I.low c b m h1 l (by rw [<-f1];exact hc),I.base⟩,by rw [f1];exact Nat.le_trans C.fl0 n0,fun c hc=>by rw [f2];exact C.hid0 c (by rw [<-f1];exact hc)⟩
 have gl:Le P ρ (H i):=fun g hgl=>by
  obtain ⟨h1,h2⟩:=hg g hgl
  exact ⟨okv (C.ok0 R.lo h1),by rw [I.same g h1.1];exact h2⟩
 refine Av5 hE hR e ρ B w a ro s gl (Aj5 fun y hy=>(P7 C R hg I y hy).ext fun c hc=>⟨okv hc,rfl⟩) N Q fun ρ' v w' p hx=>hN ρ' _ w' ?_ ?_
 ·have ok':∀ {c},okH (H (i+1)) c->okL ops H (i+1) c:=fun {c} h=>by
   by_cases hc:c < (H i).nx
   ·exact .inl ⟨hc,by have:=h.2;rwa [p.le.hid,f2] at this,fun k hk _ _=>all k hk⟩
   ·exact .inr ⟨by omega,h.1⟩
  have tc:∀ c,tch D H W bk i c:=fun c=>⟨hW,.inl hc⟩
  refine I.next C R.hi (fun c k hk hkl hS _=>by have:=L9 C.lt R.hi (done k hkl hS);omega) p.low (fun m hm c hc=>p.same c ?_) (fun c hc=>p.same c (by omega)) (fun c b _ h=>?_) (fun c b m _ _ h=>absurd (tc c) h) (fun c b d b' _ h h' l l' e=>?_) (fun c b _ h l hc=>p.sr.rel.low c b h l (by rw [p.le.fl,f1];exact hc)) (hx.ext fun c hc=>⟨ok' hc,rfl⟩)
  ·exact (C.okT R.hi R.lo (hm.imp id fun ⟨k,h1,h2,h3⟩=>⟨k,h2,done k h1 h3⟩) hc).1
  ·exact ⟨ok' (p.sr.ok h),(p.sr.holds h).ext (fun c' hc'=>⟨ok' hc',rfl⟩) fun _=>rfl⟩
  ·rcases h' with ⟨_,h'⟩ | ⟨h',_⟩
   ·exact p.sr.rel.apart c d b b' h h' l l' e
   ·exact absurd (tc d) h'
 ·exact ⟨p.le.nx,p.le.fl,p.le.hid,fun c hc=>p.le.old c (by rw [f1];exact hc),fun c h=>absurd ⟨hW,.inl hc⟩ h,fun c hc=>p.sr.junk hc,fun _ h=>by rw [hc] at h;cases h⟩
theorem Ar1 (hE:Mn P eqT) (C:Ctx ops D H Sl X W bk P eqT rec n) (R:Rdy ops D H W bk S i) (hW:W i=true) (hc:(D i).cut=false) (hk:D3 (D i).o=2) (hg:Le P ρ0 (H 0)) (I:Ld ops D H Sl X W bk n B ρ0 a0 w0 ρ S a w) {ro:Option Nat} {N:Act->World->Prop} {Q:Exit->Act->World->Prop}
  (hN:∀ ρ' a' w',Ld ops D H Sl X W bk n B ρ0 a0 w0 ρ' (fun j=>S j || decide (j=i)) a' w'->FkP ops D H W bk i->N a' w'):(D i).o.wpIn (FW ro) 0 P a w N Q:=by
 have hi:=R.hi
 obtain ⟨_,_,⟨_,hs,e⟩ | ⟨h,_⟩⟩:=Aa4 hc ((C.tr i hi).yes hW)
 case inr=>exact absurd hk h
 obtain ⟨c,l,l',hb,hget,hfl,hH,hX,⟨y,hy,off,hLy⟩,run⟩:=B70 hk hs e
 have hop:=P7 C R hg I
 have hyv:=hop y hy
 rw [hLy] at hyv
 have hvis:Qe ops H i c:=by
  generalize a.eval y=u at hyv
  cases hyv;assumption
 obtain ⟨f1,f2,f3,f4⟩:=C.base R.lo
 have hbk:bk i=c+1:=by rw [(C.tr i hi).blk hW,hb]
 have near:=C.near hi R.hSi R.hcl2 R.hF hvis (C.conf hi hW hc (.inr ⟨.inr hk,hb⟩))
 obtain ⟨m,hm,hlev⟩:=C.view hi R.hSi R.hcl R.lo near hget
 obtain ⟨p1,p2⟩:=I.holds _ _ m hm
 have hB:=I.low _ _ m hm rfl (by rw [<-f1];exact hfl)
 obtain ⟨w1,r1,r2,r3,r4,r5⟩:=run (Qe ops H i) ρ w a (p2.ext (fun c' hc'=>⟨C.okT hi R.lo hlev hc',rfl⟩) fun _=>rfl) hop
 have hnx:(H (i+1)).nx=(H i).nx:=by rw [hH]
 have tc:∀ {c'},tch D H W bk i c'->c'=c:=fun {c'} h=>by
  rcases h.2 with h | h | h
  ·rw [hc] at h;cases h
  ·have:=h.2;omega
  ·omega
 have tcc:tch D H W bk i c:=⟨hW,.inr (.inl ⟨hk,hbk⟩)⟩
 have far:∀ {d b' m'},Ent D H W bk S ops.length d b' m'->b'.live=true->d≠c->(ρ d).1≠(ρ c).1:=fun {d b' m'} h hl hd he=>by
  rcases I.apart d c b' _ m' m h hm hl rfl he with h | (⟨_,_,_,_,_,_,h,h',_⟩ | ⟨_,_,_,_,_,h⟩) | (⟨_,_,_,_,_,h,_⟩ | ⟨_,_,_,_,h,_⟩)
  ·exact hd h
  ·cases h;cases h'
  ·cases h
  ·cases h
  ·cases h
 have hgc:∀ {b},(H (i+1)).get c=some b->b=.cs l' [] false:=fun {b} h=>by
  have:=(GH.get_some h).2
  rw [hH] at this
  have this:((H i).t.set c (.cs l' [] false)).get c=some b:=this
  rw [TR.get_set,if_pos rfl] at this
  exact (Option.some.inj this).symm
 have hkp:∀ c',c'≠c->(H (i+1)).t.get c'=(H i).t.get c':=fun c' h=>by
  rw [hH]
  show ((H i).t.set c (.cs l' [] false)).get c'=_
  rw [TR.get_set,if_neg h]
 refine Ft (fun q hq=>?_) ?_
 ·unfold D3 at hk;rw [hq] at hk;cases hk
 unfold Oper.wp
 rw [r1]
 refine hN ρ _ w1 ?_ ?_
 ·refine I.next C hi (fun c' k hk hkl hS h1 h2=>?_) ⟨r3.1,r3.2.1,r3.2.2,r4,fun g hg=>r5 g (by omega)⟩ (fun _ _ _ _=>rfl) (fun _ _=>rfl) (fun c' b h h'=>?_) (fun c' b m' h hl ht=>r5 _ (far h hl fun e=>ht (e ▸ tcc))) (fun c' b d b' h h1 h2 l1 l2 he=>?_) (fun c' b h h1 l1 hc'=>?_) (by rw [hX];exact RC.undef)
  ·have:=tc h1
   subst this
   have:=L9 C.lt hi (near k hkl (.inr hS) h2)
   omega
  ·obtain rfl:=tc h
   obtain rfl:=hgc h'
   exact ⟨.inl hvis,r2.ext (fun _ h=>⟨.inl h,rfl⟩) fun _=>rfl⟩
  ·obtain rfl:=tc h
   rcases h2 with ⟨h2,_⟩ | ⟨h2,m',h3⟩
   ·exact .inl (tc h2).symm
   ·exact absurd he.symm (far h3 l2 fun e=>h2 (e ▸ tcc))
  ·obtain rfl:=tc h
   exact hB
 ·refine ⟨by rw [hnx];exact Nat.le_refl _,by rw [hH],by rw [hH],fun c' hc'=>hkp c' (by omega),fun c' h=>hkp c' fun e=>h (e ▸ tcc),fun c' hc'=>?_,fun _ _ _=>⟨c,hbk,hvis,hnx⟩⟩
  rw [hnx] at hc'
  rw [hkp c' (by have:=hvis.1;omega)]
  exact f3 c' hc'
theorem Bh2 (hE:Mn P eqT) (hR:La P rec) (C:Ctx ops D H Sl X W bk P eqT rec n) (R:Rdy ops D H W bk S i) (hW:W i=true) (hc:(D i).cut=false) (hk:D3 (D i).o≠2) (hg:Le P ρ0 (H 0)) (I:Ld ops D H Sl X W bk n B ρ0 a0 w0 ρ S a w) {ro:Option Nat} {N:Act->World->Prop} {Q:Exit->Act->World->Prop}
  (hN:∀ ρ' a' w',Ld ops D H Sl X W bk n B ρ0 a0 w0 ρ' (fun j=>S j || decide (j=i)) a' w'->FkP ops D H W bk i->N a' w'):(D i).o.wpIn (FW ro) 0 P a w N Q:=by
 have hi:=R.hi
 obtain ⟨_,_,⟨h,_⟩ | ⟨_,r,e,hm⟩⟩:=Aa4 hc ((C.tr i hi).yes hW)
 case inl=>exact absurd h hk
 rw [<-Aj6] at e
 have hm:Bm2 (D3 (D i).o) (H i) r=some (H (i+1)):=hm
 obtain ⟨f1,f2,f3,f4⟩:=C.base R.lo
 have n0:=nxm R.lo (Nat.zero_le i)
 have okd:∀ {c} {t:TR GB},okH ⟨t,(H i).nx,(H i).nx,Rt (D i).an (dn (fun j=>(H j).nx) i) (i - 1) (H i).nx++(H i).hid⟩ c↔Qe ops H i c:=fun {c t}=>by
  unfold okH Qe
  simp only
  rw [R1,Bool.or_eq_false_iff,f2]
  refine and_congr Iff.rfl ⟨fun ⟨h1,h2⟩=>⟨h2,fun k hk a1 a2=>?_⟩,fun ⟨h1,h2⟩=>⟨?_,h1⟩⟩
  ·by_cases hh:ahd ops i k
   ·exact hh
   ·have:(D i).an.testBit k=false:=by
     cases hb:(D i).an.testBit k with
     | false=>rfl
     | true=>exact absurd (((C.dr i hi).an k).1 hb) hh
    rw [(Sv (D i).an (fun j=>(H j).nx) c i).2 ⟨k,hk,this,a1,a2⟩] at h1
    cases h1
  ·cases hb:Cv (Rt (D i).an (dn (fun j=>(H j).nx) i) (i - 1) (H i).nx) c with
   | false=>rfl
   | true =>
    obtain ⟨k,q1,q2,q3,q4⟩:=(Sv (D i).an (fun j=>(H j).nx) c i).1 hb
    rw [((C.dr i hi).an k).2 (h2 k q1 q3 q4)] at q2
    cases q2
 have high:∀ c,(H i).nx<=c->Cv (Rt (D i).an (dn (fun j=>(H j).nx) i) (i - 1) (H i).nx++(H i).hid) c=false:=fun c hc=>by
  rw [R1,Bool.or_eq_false_iff,f2]
  refine ⟨?_,C.hid0 c (Nat.le_trans C.fl0 (by omega))⟩
  cases hb:Cv (Rt (D i).an (dn (fun j=>(H j).nx) i) (i - 1) (H i).nx) c with
  | false=>rfl
  | true =>
   obtain ⟨k,q1,q2,q3,q4⟩:=(Sv (D i).an (fun j=>(H j).nx) c i).1 hb
   have:=nxm R.lo (show k+1<=i by omega)
   omega
 have hv:∀ {c b},(⟨Pv (D3 (D i).o) (Nb (evC P (Sl i)) (D i).o) (H i),(H i).nx,(H i).nx,Rt (D i).an (dn (fun j=>(H j).nx) i) (i - 1) (H i).nx++(H i).hid⟩ : GH).get c=some b->Qe ops H i c/\∃ m,Ent D H W bk S ops.length c b m/\(m=0\/∃ k,m=k+1/\ahd ops i k):=fun {c b} h=>by
  obtain ⟨h1,h2⟩:=GH.get_some h
  have h1:Cv (Rt (D i).an (dn (fun j=>(H j).nx) i) (i - 1) (H i).nx++(H i).hid) c=false:=h1
  have h2:(Pv (D3 (D i).o) (Nb (evC P (Sl i)) (D i).o) (H i)).get c=some b:=h2
  have lt:(H i).t.get c=some b->Qe ops H i c:=fun h3=>by
   refine (okd (t:=.lf)).1 ⟨?_,h1⟩
   rcases Nat.lt_or_ge c (H i).nx with h | h
   ·exact h
   ·rw [f3 c h] at h3;cases h3
  rcases Br8 h2 with ⟨k3,h3⟩ | ⟨k1,hb,h3⟩
  ·have hvis:=lt h3
   refine ⟨hvis,C.view hi R.hSi R.hcl R.lo (C.near hi R.hSi R.hcl2 R.hF hvis (C.conf hi hW hc (.inl k3))) (GH.get_of ?_ h3)⟩
   rw [f2];exact hvis.2.1
  ·have hvis:=lt (GH.get_some h3).2
   exact ⟨hvis,C.view hi R.hSi R.hcl R.lo (C.near hi R.hSi R.hcl2 R.hF hvis (C.conf hi hW hc (.inr ⟨.inl k1,hb⟩))) h3⟩
 have s:SR ρ ⟨Pv (D3 (D i).o) (Nb (evC P (Sl i)) (D i).o) (H i),(H i).nx,(H i).nx,Rt (D i).an (dn (fun j=>(H j).nx) i) (i - 1) (H i).nx++(H i).hid⟩ w.heap.size w:=⟨⟨fun c b h=>by
   obtain ⟨h0,m,h1,h2⟩:=hv h
   obtain ⟨p1,p2⟩:=I.holds c b m h1
   exact ⟨okd.2 h0,p2.ext (fun c' hc'=>⟨okd.2 (C.okT hi R.lo h2 hc'),rfl⟩) fun _=>rfl⟩,fun c d b b' h h' l l' e=>by
   obtain ⟨_,m,h1,_⟩:=hv h
   obtain ⟨_,m',h1',_⟩:=hv h'
   exact I.apart c d b b' m m' h1 h1' l l' e,fun c b h l hc=>by
   have:=(hv h).1.1
   have hc:(H i).nx<=c:=hc
   omega,Nat.le_refl _⟩,Nat.le_refl _,high⟩
 have gl:Le P ρ ⟨Pv (D3 (D i).o) (Nb (evC P (Sl i)) (D i).o) (H i),(H i).nx,(H i).nx,Rt (D i).an (dn (fun j=>(H j).nx) i) (i - 1) (H i).nx++(H i).hid⟩:=fun g hgl=>by
  obtain ⟨h1,h2⟩:=hg g hgl
  exact ⟨okd.2 (C.ok0 R.lo h1),by rw [I.same g h1.1];exact h2⟩
 refine Av5 hE hR e ρ w.heap.size w a ro s gl (Aj5 fun y hy=>(P7 C R hg I y hy).ext fun c hc=>⟨okd.2 hc,rfl⟩) N Q fun ρ' v w' p hx=>?_
 obtain ⟨m1,m2,m3,m4,m5,m6⟩:=Ba7 hm p.le p.sr f3
 have hnx:(H i).nx<=r.nx:=p.le.nx
 have hrfl:r.fl=(H i).nx:=p.le.fl
 have tcr:∀ {c},tch D H W bk i c->(H i).nx<=c/\c < (H (i+1)).nx:=fun {c} h=>by
  rcases h.2 with h | h | h
  ·rw [hc] at h;cases h
  ·exact absurd h.1 hk
  ·exact h
 have Fi:FkP ops D H W bk i:=⟨by rw [m1];exact hnx,m2,m3,fun c hc=>m5 c (by have:=C.fl0;omega),fun c h=>by
   rcases Nat.lt_or_ge c (H i).nx with h1 | h1
   ·exact m5 c h1
   ·rcases Nat.lt_or_ge c (H (i+1)).nx with h2 | h2
    ·exact absurd ⟨hW,.inr (.inr ⟨h1,h2⟩)⟩ h
    ·rw [m6 c (by omega),f3 c h1],fun c hc=>m6 c (by omega),fun _ _ h=>absurd h hk⟩
 let ρ2:Nat->Nat×Nat:=fun c=>if (H i).nx<=c/\c < (H (i+1)).nx then ρ' c else ρ c
 have e1:∀ c,c < (H (i+1)).nx->ρ2 c=ρ' c:=fun c hc=>by
  by_cases h:(H i).nx<=c
  ·simp only [ρ2];rw [if_pos ⟨h,hc⟩]
  ·simp only [ρ2];rw [if_neg fun q=>h q.1];exact (p.same c (by show c < (H i).nx;omega)).symm
 have okr:∀ c,okH r c->okL ops H (i+1) c/\ρ2 c=ρ' c:=fun c h=>by
  have hlt:=h.1
  refine ⟨?_,e1 c (by omega)⟩
  rcases Nat.lt_or_ge c (H i).nx with h1 | h1
  ·exact .inl ((okd (t:=.lf)).1 ⟨h1,by have:=h.2;rw [p.le.hid] at this;exact this⟩)
  ·exact .inr ⟨h1,by omega⟩
 have getr:∀ {c b},tch D H W bk i c->(H (i+1)).get c=some b->r.get c=some b:=fun {c b} h h'=>by
  obtain ⟨a1,a2⟩:=tcr h
  refine GH.get_of (p.sr.hid c (by omega)) ?_
  rw [<-m4 c a1 (by omega)]
  exact (GH.get_some h').2
 refine hN ρ2 _ w' (I.next C hi (fun c k hk' hkl hS h1 h2=>?_) (p.low.mono I.base) (fun m hm' c hc'=>?_) (fun c hc'=>?_) (fun c b h h'=>?_) (fun c b m h hl _=>p.low.block _ ((I.holds c b m h).2.lt hl)) (fun c b d b' h h1 h2 l1 l2 he=>?_) (fun c b h h1 l1 _=>?_) (hx.ext okr)) Fi
 ·-- nothing touched twice
  obtain ⟨a1,a2⟩:=tcr h1
  have hf:=R.free C hk' hkl hS
  have fk:=R.hF k hkl (.inr ⟨k,hS,hk',hkl,Nat.le_refl _⟩)
  have mono:=nxm (ops:=ops) (D:=D) (H:=H) (W:=W) (bk:=bk) (i:=k) (fun j hj=>R.hF j (by omega) (.inr ⟨k,hS,hk',hkl,by omega⟩)) (show i+1<=k by omega)
  rcases h2.2 with h | h | h
  ·exact (C.dr k hkl).cut h i hi hf.symm
  ·cases hck:(D k).cut with
   | true=>exact (C.dr k hkl).cut hck i hi hf.symm
   | false =>
    obtain ⟨c',q1,q2,_⟩:=fk.stv h2.1 hck h.1
    have:c'=c:=by have:=h.2;omega
    subst this
    exact hf.2.1 (q2.2.2 i hk' a1 a2)
  ·omega
 ·-- elder names
  have:¬ ((H i).nx<=c/\c < (H (i+1)).nx):=fun ⟨a1,a2⟩=>by
   rcases hm' with rfl | ⟨k,hkl,rfl,hS⟩
   ·have:=hc'.1;omega
   ·rcases Nat.lt_or_ge k i with hki | hki
    ·have mono:=nxm R.lo (show k+1<=i by omega)
     have:=(R.lo k hki).nx
     rcases hc' with h | h
     ·have:=h.1;omega
     ·omega
    ·have hne:i≠k:=fun e=>by subst e;rw [R.hSi] at hS;cases hS
     have mono:=nxm (ops:=ops) (D:=D) (H:=H) (W:=W) (bk:=bk) (i:=k) (fun j hj=>R.hF j (by omega) (.inr ⟨k,hS,by omega,hkl,by omega⟩)) (show i+1<=k by omega)
     rcases hc' with h | h
     ·exact (R.free C (by omega) hkl hS).2.1 (h.2.2 i (by omega) a1 a2)
     ·omega
  simp only [ρ2];rw [if_neg this]
 ·simp only [ρ2];rw [if_neg (by omega)]
 ·have hr:=getr h h'
  obtain ⟨q1,q2⟩:=okr c (p.sr.ok hr)
  exact ⟨q1,by rw [q2];exact (p.sr.holds hr).ext okr fun _=>rfl⟩
 ·have hr:=getr h h1
  rw [e1 c (tcr h).2] at he
  rcases h2 with ⟨h2,h3⟩ | ⟨h2,m,h3⟩
  ·rw [e1 d (tcr h2).2] at he
   exact p.sr.rel.apart c d b b' hr (getr h2 h3) l1 l2 he
  ·have a1:=p.sr.rel.low c b hr l1 (by rw [hrfl];exact (tcr h).1)
   obtain ⟨b1,b2⟩:=I.holds d b' m h3
   have a2:=b2.lt l2
   have a3:ρ2 d=ρ d:=by
    simp only [ρ2]
    rw [if_neg fun q=>h2 ⟨hW,.inr (.inr q)⟩]
   rw [a3] at he
   omega
 ·have hr:=getr h h1
  rw [e1 c (tcr h).2]
  exact Nat.le_trans I.base (p.sr.rel.low c b hr l1 (by rw [hrfl];exact (tcr h).1))
end
section
variable {ops : List Oper} {D : Nat -> DI} {H : Nat -> GH} {Sl : Nat -> Bm} {X : Nat -> CV} {W : Nat -> Bool} {bk : Nat -> Nat} {n : Nat} {B : Nat} {ρ0 : Nat -> Nat × Nat} {a0 : Act} {w0 : World} {ρ : Nat -> Nat × Nat} {S : Nat -> Bool} {P : Program} {eqT : Nat -> Bool} {rec : Mm -> GH -> Option (CV × GH)} {i : Nat} {a : Act} {w : World}
theorem B12 (hE:Mn P eqT) (hR:La P rec) (C:Ctx ops D H Sl X W bk P eqT rec n) (R:Rdy ops D H W bk S i) (hW:W i=true) (hg:Le P ρ0 (H 0)) (I:Ld ops D H Sl X W bk n B ρ0 a0 w0 ρ S a w) {ro:Option Nat} {N:Act->World->Prop} {Q:Exit->Act->World->Prop}
  (hN:∀ ρ' a' w',Ld ops D H Sl X W bk n B ρ0 a0 w0 ρ' (fun j=>S j || decide (j=i)) a' w'->FkP ops D H W bk i->N a' w'):(D i).o.wpIn (FW ro) 0 P a w N Q:=by
 cases hc:(D i).cut with
 | true=>exact Bh3 hE hR C R hW hc hg I hN
 | false =>
  by_cases hk:D3 (D i).o=2
  ·exact Ar1 hE C R hW hc hk hg I hN
  ·exact Bh2 hE hR C R hW hc hk hg I hN
theorem B71 (hE:Mn P eqT) (hR:La P rec) (C:Ctx ops D H Sl X W bk P eqT rec n) (R:Rdy ops D H W bk S i) (hg:Le P ρ0 (H 0)) (I:Ld ops D H Sl X W bk n B ρ0 a0 w0 ρ S a w) :
  ∃ ρ' a' w',Ld ops D H Sl X W bk n B ρ0 a0 w0 ρ' (fun j=>S j || decide (j=i)) a' w'/\FkP ops D H W bk i:=by
 cases hW:W i with
 | false=>exact ⟨_,_,_,B13 C R hW I⟩
 | true=>exact Ap9 (ro:=none) (B12 hE hR C R hW hg I fun ρ' a' w' h1 h2=>⟨ρ',a',w',h1,h2⟩)
theorem C52 (hE:Mn P eqT) (hR:La P rec) (C:Ctx ops D H Sl X W bk P eqT rec n) (hg:Le P ρ0 (H 0)) (I:Ld ops D H Sl X W bk n B ρ0 a0 w0 ρ (fun _=>false) a w) :
  ∀ i,i<=ops.length->(∀ k,k < i->FkP ops D H W bk k)/\∃ ρ' a' w',Ld ops D H Sl X W bk n B ρ0 a0 w0 ρ' (fun j=>decide (j < i)) a' w'
 | 0,_=>⟨fun k hk=>by omega,ρ,a,w,by simpa using I⟩
 | i+1,hi=>by
  obtain ⟨h1,ρ',a',w',h2⟩:=C52 hE hR C hg I i (by omega)
  have R:Rdy ops D H W bk (fun j=>decide (j < i)) i:=⟨hi,by simp,fun k hk=>by simpa using L9 C.lt hi hk,fun k hk hS j hj=>by
   have:=L9 C.lt hk hj
   simp only [decide_eq_true_eq] at hS ⊢
   omega,fun k hk h=>h.elim (h1 k) fun ⟨m,hS,hm,_⟩=>by
    simp only [decide_eq_true_eq] at hS
    omega⟩
  obtain ⟨ρ2,a2,w2,h3,h4⟩:=B71 hE hR C R hg h2
  refine ⟨fun k hk=>?_,ρ2,a2,w2,?_⟩
  ·by_cases hki:k=i
   ·rw [hki];exact h4
   ·exact h1 k (by omega)
  ·have:(fun j=>decide (j < i+1))=fun j=>decide (j < i) || decide (j=i):=by
    funext j
    rw [Bool.eq_iff_iff]
    simp only [decide_eq_true_eq,Bool.or_eq_true]
    omega
   rw [this]
   exact h3
end
theorem Bz3 {P:Program} {eqT:Nat->Bool} {rec:Mm->GH->Option (CV×GH)} (hP:P.follows .mixedOrders=true) (hE:Mn P eqT) (hR:La P rec):Yy P eqT rec:=by
 intro B id ops n l sl sl' h h' ro Q hdr hdc ρ w a s hg hs hQ
 obtain ⟨ops⟩:=ops
 have hdr:Yg ops=some l:=hdr
 have hdc:drC P eqT rec ops n l 0 [] [] sl h=some (sl',h'):=hdc
 obtain ⟨⟨hlex,hnd⟩,hlen,hdf⟩:=Aa3 hdr
 obtain ⟨H,Sl,X,W,bk,t1,_,t3,t4,t5⟩:=C24 (P:=P) (eqT:=eqT) (rec:=rec) (ops:=ops) (n:=n) l 0 (fun _=>h) (fun _=>sl) (fun _=>.u) (fun _=>false) (fun _=>0) sl' h' hdc
 obtain ⟨rfl,rfl⟩:=t1 0 (Nat.le_refl _)
 rw [Nat.zero_add,hlen] at t3 t4
 subst t3 t4
 let D:Nat->DI:=fun i=>l[i]?.getD ⟨default,false,0,[],false⟩
 have hD:∀ i,i < ops.length->l[i]? = some (D i):=fun i hi=>by
  have:l[i]? = some (l[i]'(by omega)):=List.getElem?_eq_getElem _
  simp only [D,this,Option.getD_some]
 have hlt:∀ (i:Nat) o,ops[i]? = some o->∀ d∈Cm o,d < i:=fun i o ho d hd=>by
  have hi:=(List.getElem?_eq_some_iff.1 ho).1
  have hlk:=List.all_eq_true.1 hlex i (List.mem_range.2 (by simpa using hi))
  have ho':ops.toArray[i]? = some o:=by simpa using ho
  rw [ho'] at hlk
  simp only [Option.map_some,Option.getD_some] at hlk
  rw [Array.all_eq_true_iff_forall_mem] at hlk
  unfold Cm at hd
  obtain ⟨e,he,hb⟩:=List.mem_filterMap.1 hd
  split at hb
  ·rename_i hbi
   obtain rfl:=Option.some.inj hb
   simpa [hbi] using hlk e (by simpa using he)
  ·cases hb
 have C:Ctx ops D H Sl X W bk P eqT rec n:=⟨fun i hi=>hdf i _ (hD i hi),fun i hi=>by have:=t5 i _ (hD i hi);rwa [Nat.zero_add] at this,hlt,hnd,s.fl,s.hid,fun c hc=>s.junk hc⟩
 have ent0:∀ {c b m},Ent D H W bk (fun _=>false) ops.length c b m->(H 0).get c=some b/\m=0:=fun {c b m} h=>(Ent.cutoff (K:=0) (Nat.zero_le _) fun k _ _ q=>by cases q.1).1 h
 have I0:Ld ops D H Sl X W bk n B ρ a w ρ (fun _=>false) a w.drew:=by
  refine ⟨⟨rfl,rfl,rfl,Nat.le_refl _,fun _ _=>rfl⟩,fun _ _=>rfl,fun c b m h=>?_,fun c d b b' m m' h1 h2 l1 l2 e=>s.rel.apart c d b b' (ent0 h1).1 (ent0 h2).1 l1 l2 e,fun c b m h hl hc=>s.rel.low c b (ent0 h).1 hl hc,s.rel.base,hs.1,rfl,(fun j t _ _ h=>by cases h),fun t _=>hs.2 t⟩
  obtain ⟨h1,rfl⟩:=ent0 h
  exact ⟨s.ok h1,(s.holds h1).ext (fun _ h=>⟨h,rfl⟩) fun _=>rfl⟩
 have F:=(C52 hE hR C hg I0 ops.length (Nat.le_refl _)).1
 refine Nj hP hlex (fun S a' w'=>∃ ρ',Ld ops D H Sl X W bk n B ρ a w ρ' S a' w') ⟨ρ,I0⟩ ?_ ?_
 ·rintro i o S a1 w1 ho hSi haf hcl ⟨ρ1,I⟩
  have ho':ops[i]? = some o:=by simpa using ho
  have hi:=(List.getElem?_eq_some_iff.1 ho').1
  have hoD:=(C.dr i hi).op
  rw [ho'] at hoD
  obtain rfl:=Option.some.inj hoD
  have hdep:∀ {o:Oper} {T:Nat->Bool},(∀ e∈o.after,Region.binds .any e=true->T e.on=true)->∀ d∈Cm o,T d=true:=fun {o T} h d hd=>by
   unfold Cm at hd
   obtain ⟨e,he,hb⟩:=List.mem_filterMap.1 hd
   split at hb
   ·rename_i hbi
    obtain rfl:=Option.some.inj hb
    exact h e (by simpa using he) hbi
   ·cases hb
  have hcl':∀ (k:Nat) o',ops[k]? = some o'->S k=true->∀ d∈Cm o',S d=true:=fun k o' hk hSk=>hdep (hcl k o' (by simpa using hk) hSk)
  have R:Rdy ops D H W bk S i:=⟨hi,hSi,fun k hk=>(Px hlt hcl' i hi (fun o2 ho2=>by
   rw [ho'] at ho2
   obtain rfl:=Option.some.inj ho2
   exact hdep haf) k hk).1,fun k hk hSk j hj=>(Px hlt hcl' k hk (fun o2 ho2=>hcl' k o2 ho2 hSk) j hj).1,fun k hk _=>F k hk⟩
  have hw:=Bt5 (a:=a1) (fun j b' d hgd hjd=>I.read C hi R.lo R.hSi R.hcl R.hcl2 fun j' hj'=>.inr (.inl (by rw [Hg C.nd hj' hjd];exact (C.dr i hi).guard j b' hgd))) (C.tr i hi).want
  refine wpListIn_step fun K hK=>?_
  cases hW:W i with
  | true =>
   rw [hW] at hw
   rw [if_pos hw]
   exact B12 hE hR C R hW hg I fun ρ' a' w' h1 _=>hK _ _ ⟨ρ',h1⟩
  | false =>
   rw [hW] at hw
   rw [if_neg (by rw [hw];simp)]
   exact ⟨fun _ _=>trivial,hK _ _ ⟨ρ1,(B13 C R hW I).1⟩⟩
 ·rintro S a1 w1 hall ⟨ρ1,I⟩
  have hall:∀ i,i < ops.length->S i=true:=fun i hi=>hall i (by simpa using hi)
  obtain ⟨f1,f2,f3,f4⟩:=C.base F
  have hn:∀ {k},k<=ops.length->(H k).nx<=(H ops.length).nx:=fun hk=>nxm F hk
  have oke:∀ {m c},(m=0\/∃ k,k < ops.length/\m=k+1)->okL ops H m c->okH (H ops.length) c:=fun {m c} hm h=>by
   rcases hm with rfl | ⟨k,hk,rfl⟩
   ·exact ⟨Nat.lt_of_lt_of_le h.1 (hn (Nat.zero_le _)),by rw [f2];exact h.2⟩
   ·have h1:=hn (show k+1<=ops.length from hk)
    have h2:=(F k hk).nx
    rcases h with h | h
    ·exact ⟨by have:=h.1;omega,by rw [f2];exact h.2.1⟩
    ·exact ⟨by omega,by rw [f2];exact C.hid0 c (Nat.le_trans C.fl0 (Nat.le_trans (nxm (fun j hj=>F j (by omega)) (Nat.zero_le k)) h.1))⟩
  have hv:∀ {c b},(H ops.length).get c=some b->∃ m,Ent D H W bk S ops.length c b m/\(m=0\/∃ k,k < ops.length/\m=k+1):=fun {c b} h=>by
   obtain ⟨m,hm⟩:=Ent.of (S:=S) (fun k hk ht e=>by rw [<-(F k hk).get ht];exact e) (fun k hk _=>hall k hk) h
   exact ⟨m,hm,hm.level.elim .inl fun ⟨k,h1,h2,_⟩=>.inr ⟨k,h1,h2⟩⟩
  refine hQ ρ1 a1 w1 ⟨⟨hn (Nat.zero_le _),f1,f2,f4⟩,I.same,⟨⟨fun c b h=>?_,fun c d b b' h h' l l' e=>?_,fun c b h hl hc=>?_,I.base⟩,by rw [f1];exact Nat.le_trans C.fl0 (hn (Nat.zero_le _)),fun c hc=>by rw [f2];exact C.hid0 c (by rw [<-f1];exact hc)⟩,I.low0⟩ ⟨I.tsz,fun t=>?_⟩ I.defs
  ·obtain ⟨m,h1,h2⟩:=hv h
   obtain ⟨p1,p2⟩:=I.holds c b m h1
   exact ⟨oke h2 p1,p2.ext (fun c' hc'=>⟨oke h2 hc',rfl⟩) fun _=>rfl⟩
  ·obtain ⟨m,h1,_⟩:=hv h
   obtain ⟨m',h1',_⟩:=hv h'
   exact I.apart c d b b' m m' h1 h1' l l' e
  ·obtain ⟨m,h1,_⟩:=hv h
   exact I.low c b m h1 hl (by rw [<-f1];exact hc)
  ·obtain ⟨s1,s2⟩:=C.slot ops.length (Nat.le_refl _) t
   by_cases hw:∃ j,j < ops.length/\By ops j=some t
   ·obtain ⟨j,hj,hjt⟩:=hw
    rw [s1 j hj hjt]
    exact (I.slots1 j t hj hjt (hall j hj)).ext fun c hc=>⟨oke (.inr ⟨j,hj,rfl⟩) hc,rfl⟩
   ·rw [s2 fun j hj hjt=>hw ⟨j,hj,hjt⟩]
    exact (I.slots0 t fun j hj hjt=>absurd ⟨j,hj,hjt⟩ hw).ext fun c hc=>⟨oke (.inl rfl) hc,rfl⟩
theorem Bi8 {P:Program} {eqT:Nat->Bool} {sp:Sp} (hP:P.follows .mixedOrders=true) (hE:Mn P eqT) (hG:Be4 P sp) (fu:Nat):La P (X9 P eqT sp fu):=B19 hE hG (fun _ hR=>Bz3 hP hE hR) fu
def D37 (t:Nat):Bool:=Nat.beq t 38
theorem A30:Mn Tryz.prog D37:=fun t ht y z p q r s w=>by
 obtain rfl:t=38:=Nat.eq_of_beq_eq_true ht
 constructor
 ·by_cases h1:p=r<;>by_cases h2:q=s<;>go_simp<;>simp [h1,h2]
 ·by_cases h1:p=r<;>by_cases h2:q=s<;>go_simp<;>simp [h1,h2]
section
variable {P : Program} {ρ : Nat -> Nat × Nat} {h h' : GH} {B : Nat} {w : World}
theorem RCL.two {ok:Nat->Prop} {x y:CV} {vs:Array Value} (hv:RCL ok ρ [x,y] vs):∃ u v,vs=#[u,v]/\RC ok ρ x u/\RC ok ρ y v:=by
 have hsz:vs.size=2:=hv.1
 refine ⟨vs[0],vs[1],?_,hv.2 0 _ _ rfl (Array.getElem?_eq_getElem _),hv.2 1 _ _ rfl (Array.getElem?_eq_getElem _)⟩
 apply Array.ext
 ·simp [hsz]
 ·intro i h1 h2
  match i,h1,h2 with
  | 0,_,_=>rfl
  | 1,_,_=>rfl
  | i+2,h1,_=>omega
end
theorem Bx9:Cg1 Tryz.prog 369:=by
 intro l h x h' e ρ B w vs s _ hvs
 obtain ⟨nm,hnm,hf⟩:=A96.f4
 refine ⟨fun w=>by
  have hf:Tryz.prog.funcs[369]? = _:=hf
  have hnm' : ¬ nm = "runtime.NumGoroutine" := by simpa using hnm
  simp [callFunc,program,Sem.run,hf,Body8.n4,hnm'],?_⟩
 have hz1:Tj Tryz.prog 5=some [.v (.int .u8 0)]:=by kernel_rfl
 have ht:Cq Tryz.prog 44=some (5,1,1):=by kernel_rfl
 obtain ⟨i0,z0,hi0,hz0,hs0,hb0,hzc,hz2,hzs⟩:=J0 hz1 ht rfl
 unfold B35 at e
 split at e
 ·-- nil
  rename_i n
  obtain ⟨u0,u1,rfl,q0,q1⟩:=hvs.two
  obtain rfl:=q0.v_inv
  obtain rfl:=q1.v_inv
  obtain ⟨hc,e⟩:=Bl e
  simp only [Bool.and_eq_true] at hc
  have n0:=Bs.1 hc.1
  have n1:=Nat.le_of_ble_eq_true hc.2
  cases e
  have hG1:=grownCap_ge w (0+n) 0 5
  have hG2:=grownCap_le_maxLen w (0+n) 0 5 (by unfold maxLen;omega)
  refine (Any8.slices_Grow_grow A96 i0 z0 hi0 hz0 (by omega) none 0 0 n [] w (by omega) (by omega) (by rw [hb0];omega) (by omega) (by simp) (fun _=>rfl) (fun a e=>by cases e)).mono ?_
  rintro e w' ⟨rfl,rfl⟩
  have hG1':0+n<=grownCap w (0+n) 0 (Pj.t 25):=hG1
  have hG2':grownCap w (0+n) 0 (Pj.t 25)<=maxLen:=hG2
  generalize grownCap w (0+n) 0 (Pj.t 25)=G at hG1' hG2'
  generalize hC:(_:Array Value)++Builtin.zeroCells z0.cells (G - (0+n))=C'
  have hsz:C'.size=G:=by
   rw [<-hC]
   simp [Builtin.zeroCells,hzs]
   omega
  obtain ⟨ρ',p1,p2⟩:=Q9 s (w0:=w.drew) (w':=w.drew.alloc (.cells C' (Pj.t 25))) (C:=C') (l:=[]) (t:=Pj.t 25) rfl ⟨rfl,rfl,rfl,rfl⟩ (by simp) (fun j x u a=>by simp at a) (n:=0) (k:=n) (K:=G) (e:=1) (by omega) (by omega) hG2' (fun h=>by cases h) (fun _=>by omega)
  exact ⟨_,ρ',rfl,p1,p2⟩
 ·rename_i c m cp e0 n
  obtain ⟨u0,u1,rfl,q0,q1⟩:=hvs.two
  obtain ⟨K,rfl,okc,k1,k2,k3,k4,k5⟩:=q0.s_inv
  obtain rfl:=q1.v_inv
  split at e
  case h_2=>cases e
  rename_i cells kin hg
  obtain ⟨hc,e⟩:=Bl e
  simp only [Bool.and_eq_true,Bool.or_eq_true] at hc
  obtain ⟨⟨⟨⟨c1,c2⟩,c3⟩,c4⟩,c5⟩:=hc
  have n0:=Bs.1 c1
  have n1:=Nat.le_of_ble_eq_true c2
  have c3:=Nat.eq_of_beq_eq_true c3
  have c4:=Nat.le_of_ble_eq_true c4
  cases e
  obtain ⟨C,t,fr,h1,h2,h3,h4,h5⟩:=s.holds hg
  have hKC:K<=C.size:=by
   rcases c5 with c5 | ⟨c5,c6⟩
   ·have:=k5 (by rw [Nat.eq_of_beq_eq_true c5];omega)
    rw [Nat.eq_of_beq_eq_true c5] at this
    omega
   ·have:=k4 (Nat.eq_of_beq_eq_true c5)
    have:=Nat.eq_of_beq_eq_true c6
    omega
  by_cases hroom:m+n<=K
  ·have he:e0=1:=by
    rcases c5 with c5 | ⟨c5,c6⟩
    ·exact Nat.eq_of_beq_eq_true c5
    ·have:=k4 (Nat.eq_of_beq_eq_true c5)
     have:=Nat.eq_of_beq_eq_true c6
     omega
   subst he
   have k5:=k5 (by omega)
   obtain ⟨w1,ρ',r1,r2,r3,r4⟩:=s.extend (P:=Tryz.prog) (ys:=[]) (news:=[]) hg c4 ⟨rfl,fun j x u a=>by simp at a⟩ (by simp only [List.length_nil];omega)
   have hw:(Result.ok () w:Result Unit)=.ok () w1:=r1
   obtain rfl:w=w1:=by cases hw;rfl
   rw [List.append_nil] at r3 r4
   refine (Any8.slices_Grow_room A96 _ m K n w (by omega) (by unfold maxLen at k3;omega) (by omega) hroom).mono ?_
   rintro e w' ⟨rfl,rfl⟩
   refine ⟨_,ρ',rfl,r4,?_⟩
   have:=RC.s (ρ:=ρ') (o:=0) (n:=m) (k:=m+n) (K:=K) (e:=1) r3 (by omega) hroom k3 (fun g=>by cases g) (fun _=>by rw [r2];exact k5)
   rwa [r2] at this
  ·have hG1:=grownCap_ge w (m+n) K 5
   have hG2:=grownCap_le_maxLen w (m+n) K 5 (by unfold maxLen;omega)
   refine (Any8.slices_Grow_grow A96 i0 z0 hi0 hz0 (by omega) (some ⟨(ρ c).1,0,none⟩) m K n (C.toList.take K) w (by omega) (by omega) (by rw [hb0];omega) (by omega) (by rw [hs0];simp;omega) (fun e=>by cases e) (fun a e j u hj=>by
    cases e
    have hj':C[j]? = some u:=by
     rw [List.getElem?_take] at hj
     split at hj
     ·rwa [Array.getElem?_toList] at hj
     ·cases hj
    simp [Dq,World.cell?,h1,hj'])).mono ?_
   rintro e w' ⟨rfl,rfl⟩
   have hG1':m+n<=grownCap w (m+n) K (Pj.t 25):=hG1
   have hG2':grownCap w (m+n) K (Pj.t 25)<=maxLen:=hG2
   generalize grownCap w (m+n) K (Pj.t 25)=G at hG1' hG2'
   generalize hC':(C.toList.take K).toArray++Builtin.zeroCells z0.cells (m+n - K)++Builtin.zeroCells z0.cells (G - (m+n))=C'
   have hsz:C'.size=G:=by
    rw [<-hC']
    simp only [Array.size_append,Builtin.zeroCells,Array.size_map,Array.size_range,hzs,List.size_toArray,List.length_take,Array.length_toList]
    omega
   have p1':Df ρ h (h.setT c (.cs cells kin true)) B w w ρ:=s.shut hg c4
   obtain ⟨ρ',e1,p⟩:=p1'.sr.new (b:=.cs cells (c :: kin) false) (w':=w.drew.alloc (.cells C' (Pj.t 25))) (g:=(w.heap.size,C'.size)) ((Below.refl _ w).drew.alloc (Nat.le_refl _) _) rfl fun ρ' _ hx _=>⟨C',Pj.t 25,(0,0),World.alloc_heap_new _ _,fun _=>rfl,by omega,Nat.le_refl _,fun j x u a b=>by
    have hj:=(List.getElem?_eq_some_iff.1 a).1
    have hb:C[j]? = some u:=by
     rw [<-hC',Array.getElem?_append_left (by simp only [Array.size_append,List.size_toArray,List.length_take,Array.length_toList];omega),Array.getElem?_append_left (by simp only [List.size_toArray,List.length_take,Array.length_toList];omega),List.getElem?_toArray,List.getElem?_take,if_pos (by omega),Array.getElem?_toList] at b
     exact b
    exact ⟨(h5 j x u a hb).1.ext hx,(h5 j x u a hb).2⟩⟩
   refine ⟨_,ρ',rfl,p1'.trans p,?_⟩
   have:=RC.s (ρ:=ρ') (o:=0) (n:=m) (k:=m+n) (K:=G) (e:=1) (Gn p1'.sr (.cs cells (c :: kin) false)) (by omega) hG1' hG2' (fun g=>by cases g) (fun g=>by have h7:ρ' h.nx=_:=e1;rw [show (h.setT c (GB.cs cells kin true)).nx=h.nx from rfl,h7];simp only;omega)
   rwa [e1] at this
 ·cases e
noncomputable def spG:Sp:=fun f=>bif Nat.beq f 369 then some B35 else none
theorem Tn:Be4 Tryz.prog spG:=fun f g h l h0 x h' e=>by
 unfold spG at h
 cases hq:Nat.beq f 369 with
 | false=>rw [hq] at h;cases h
 | true =>
  rw [hq] at h
  obtain rfl:B35=g:=by simpa using h
  obtain rfl:=Nat.eq_of_beq_eq_true hq
  exact Bx9 l h0 x h' e
noncomputable def h0C (N:Nat) (tabs:List (Nat×IntKind×List Nat)):GH:=⟨tabs.foldr (fun p t=>t.set p.1 (.cs (p.2.2.map fun n=>.v (.int p.2.1 (n:Nat))) [] true)) .lf,N,N,[]⟩
theorem A95 {N:Nat} : ∀ {tabs:List (Nat×IntKind×List Nat)} {c:Nat} {b:GB},(h0C N tabs).t.get c=some b->∃ p∈tabs,c=p.1/\b=.cs (p.2.2.map fun n=>.v (.int p.2.1 (n:Nat))) [] true
 | [],c,b,h=>by cases h
 | p :: r,c,b,h=>by
  have h:((h0C N r).t.set p.1 (.cs (p.2.2.map fun n=>.v (.int p.2.1 (n:Nat))) [] true)).get c=some b:=h
  rw [TR.get_set] at h
  by_cases hc:c=p.1
  ·rw [if_pos hc] at h
   exact ⟨p,by simp,hc,(Option.some.inj h).symm⟩
  ·rw [if_neg hc] at h
   obtain ⟨q,h1,h2⟩:=A95 h
   exact ⟨q,List.mem_cons_of_mem _ h1,h2⟩
theorem Yr {w:World} {g j:Nat} {v:Value} (h:w.cell? ⟨g,j,none⟩=some v):∃ C t fr,w.heap[g]? = some (.cells C t fr)/\C[j]? = some v:=by
 unfold World.cell? at h
 split at h
 ·rename_i C t fr hg
  exact ⟨C,t,fr,hg,by simpa using h⟩
 ·cases h
theorem Cb7 {N:Nat} {tabs:List (Nat×IntKind×List Nat)} {w:World} (ht:∀ p∈tabs,p.1 < N/\0 < p.2.2.length/\∀ j,j < p.2.2.length->w.cell? ⟨p.1,j,none⟩=some (.int p.2.1 (p.2.2.getD j 0:Nat))):SR (fun c=>(c,0)) (h0C N tabs) w.heap.size w:=by
 refine ⟨⟨fun c b h=>?_,fun c d b b' _ _ _ _ e=>.inl e,fun c b h _ hc=>?_,Nat.le_refl _⟩,Nat.le_refl _,fun _ _=>rfl⟩
 ·obtain ⟨p,hp,rfl,rfl⟩:=A95 (GH.get_some h).2
  obtain ⟨h1,h2,h3⟩:=ht p hp
  refine ⟨⟨h1,rfl⟩,?_⟩
  obtain ⟨C,t,fr,hg,h0⟩:=Yr (h3 0 h2)
  have hC:∀ j,j < p.2.2.length->C[j]? = some (.int p.2.1 (p.2.2.getD j 0:Nat)):=fun j hj=>by
   obtain ⟨C',t',fr',hg',h0'⟩:=Yr (h3 j hj)
   rw [hg] at hg'
   cases hg'
   exact h0'
  have hlen:p.2.2.length<=C.size:=by
   have:=(Array.getElem?_eq_some_iff.1 (hC (p.2.2.length - 1) (by omega))).1
   omega
  refine ⟨C,t,fr,hg,(fun e=>by cases e),by simpa using hlen,Nat.zero_le _,fun j x u a b=>?_⟩
  rw [List.getElem?_map,Option.map_eq_some_iff] at a
  obtain ⟨n,hn,rfl⟩:=a
  have hj:=(List.getElem?_eq_some_iff.1 hn).1
  rw [hC j hj,List.getD_eq_getElem?_getD,hn] at b
  obtain rfl:=Option.some.inj b
  exact ⟨RC.int,rfl⟩
 ·obtain ⟨p,hp,rfl,_⟩:=A95 (GH.get_some h).2
  have:=(ht p hp).1
  have hc:N<=p.1:=hc
  omega
def Bi5:Option (CV×GH)->Bool
 | some (.v (.bool b),_)=>b
 | _=>false
theorem Bp5 {P : Program} {eqT : Nat -> Bool} {sp : Sp} (hP : P.follows .mixedOrders = true) (hE : Mn P eqT) (hG : Be4 P sp) {f : FuncId} {fn : Func} {c : Code} {fu : Nat} {tabs : List (Nat × IntKind × List Nat)} (hf : P.funcs[f]? = some fn) (hb : fn.body = some c) (hname : (fn.name == "runtime.NumGoroutine") = false)
  (hr:Bi5 (X9 P eqT sp fu (.call f []) (h0C P.globals.size tabs))=true) {G:World->Prop} (hT:∀ w,G w->∀ p∈tabs,p.1 < P.globals.size/\0 < p.2.2.length/\∀ j,j < p.2.2.length->w.cell? ⟨p.1,j,none⟩=some (.int p.2.1 (p.2.2.getD j 0:Nat))):A7 P G f [] (.val (.bool true)) []:=by
 refine ⟨fun vs w=>?_,fun V w E vs hV hGw hargs=>?_⟩
 ·have hname' : ¬ fn.name = "runtime.NumGoroutine" := by simpa using hname
  simp [callFunc,program,Sem.run,hf,hname',hb]
 ·obtain rfl:vs=#[]:=by
   have:=hargs.1
   simpa using this
  obtain ⟨h',hrun⟩ : ∃ h',X9 P eqT sp fu (.call f []) (h0C P.globals.size tabs)=some (.v (.bool true),h'):=by
   unfold Bi5 at hr
   split at hr
   ·rename_i b h' e
    subst hr
    exact ⟨h',e⟩
   ·cases hr
  have s:=Cb7 (hT w hGw)
  refine (((Bi8 hP hE hG fu).1 f [] _ _ _ hrun _ _ w #[] s (fun g hg=>⟨⟨hg,rfl⟩,rfl⟩) ⟨rfl,fun j x u a=>by simp at a⟩).2).mono ?_
  rintro e w' ⟨v,ρ',rfl,p,hv⟩
  obtain rfl:=hv.v_inv
  exact ⟨_,E,rfl,p.low,by simp [Ac],by simp [Ac],by simp,.val⟩
def Cf4:Value->Value->Bool
 | .int k n,.int k' n'=>decide (k=k')&&decide (n=n')
 | .bool a,.bool b=>a==b
 | .string a,.string b=>a.data.toList==b.data.toList
 | .slice none 0 0,.slice none 0 0=>true
 | .tuple a,.tuple b=>a.isEmpty&&b.isEmpty
 | _,_=>false
theorem C06 {a b:Value} (h:Cf4 a b=true):a=b:=by
 unfold Cf4 at h
 split at h
 ·simp only [Bool.and_eq_true,decide_eq_true_eq] at h
  rw [h.1,h.2]
 ·simpa using h
 ·rename_i a b
  have:=eq_of_beq h
  obtain ⟨a⟩:=a
  obtain ⟨b⟩:=b
  have:a=b:=Array.toList_inj.1 this
  rw [this]
 ·rfl
 ·simp only [Bool.and_eq_true,Array.isEmpty_iff] at h
  rw [h.1,h.2]
 ·cases h
mutual
def Nr:CV->CV->Bool
 | .v x,.v y=>Cf4 x y
 | .p c o,.p c' o'=>Nat.beq c c'&&Nat.beq o o'
 | .s c o n k e,.s c' o' n' k' e'=>Nat.beq c c'&&Nat.beq o o'&&Nat.beq n n'&&Nat.beq k k'&&Nat.beq e e'
 | .z,.z=>true
 | .g l,.g m=>Ab3 l m
 | .t l,.t m=>Ab3 l m
 | _,_=>false
def Ab3:List CV->List CV->Bool
 | [],[]=>true
 | x :: l,y :: m=>Nr x y&&Ab3 l m
 | _,_=>false
end
mutual
theorem B49:∀ {x y:CV},Nr x y=true->x=y
 | .v x,y,h=>by
  cases y with
  | v y=>simp only [Nr] at h;rw [C06 h]
  | _=>simp [Nr] at h
 | .p c o,y,h=>by
  cases y with
  | p c' o'=>simp only [Nr,Bool.and_eq_true] at h;rw [Nat.eq_of_beq_eq_true h.1,Nat.eq_of_beq_eq_true h.2]
  | _=>simp [Nr] at h
 | .s c o n k e,y,h=>by
  cases y with
  | s c' o' n' k' e' =>
   simp only [Nr,Bool.and_eq_true] at h
   obtain ⟨⟨⟨⟨h1,h2⟩,h3⟩,h4⟩,h5⟩:=h
   rw [Nat.eq_of_beq_eq_true h1,Nat.eq_of_beq_eq_true h2,Nat.eq_of_beq_eq_true h3,Nat.eq_of_beq_eq_true h4,Nat.eq_of_beq_eq_true h5]
  | _=>simp [Nr] at h
 | .z,y,h=>by
  cases y with
  | z=>rfl
  | _=>simp [Nr] at h
 | .g l,y,h=>by
  cases y with
  | g m=>simp only [Nr] at h;rw [Ta h]
  | _=>simp [Nr] at h
 | .t l,y,h=>by
  cases y with
  | t m=>simp only [Nr] at h;rw [Ta h]
  | _=>simp [Nr] at h
 | .f _ _,_,h=>by simp [Nr] at h
 | .y _,_,h=>by simp [Nr] at h
 | .m _,_,h=>by simp [Nr] at h
 | .u,_,h=>by simp [Nr] at h
theorem Ta:∀ {l m:List CV},Ab3 l m=true->l=m
 | [],[],_=>rfl
 | x :: l,y :: m,h=>by
  simp only [Ab3,Bool.and_eq_true] at h
  rw [B49 h.1,Ta h.2]
 | [],_ :: _,h=>by simp [Ab3] at h
 | _ :: _,[],h=>by simp [Ab3] at h
end
structure Ce where
 c:Nat
 l:List CV
def Ce.gb (e:Ce):GB:=.cs e.l [] true
noncomputable def Fw (es:List Ce) (t:TR GB):TR GB:=es.foldr (fun e t=>t.set e.c e.gb) t
theorem Kf {t:TR GB} {c:Nat} {b:GB} : ∀ {es:List Ce},(Fw es t).get c=some b->(∃ e∈es,c=e.c/\b=e.gb)\/(t.get c=some b/\∀ e∈es,c≠e.c)
 | [],h=>.inr ⟨h,fun e he=>by cases he⟩
 | e :: es,h=>by
  have h:((Fw es t).set e.c e.gb).get c=some b:=h
  rw [TR.get_set] at h
  by_cases hc:c=e.c
  ·rw [if_pos hc] at h
   exact .inl ⟨e,by simp,hc,(Option.some.inj h).symm⟩
  ·rw [if_neg hc] at h
   rcases Kf h with ⟨e',h1,h2⟩ | ⟨h1,h2⟩
   ·exact .inl ⟨e',List.mem_cons_of_mem _ h1,h2⟩
   ·refine .inr ⟨h1,fun e' he'=>?_⟩
    rcases List.mem_cons.1 he' with rfl | he'
    ·exact hc
    ·exact h2 e' he'
noncomputable def Bx8 (h:GH) (e:Ce):Bool :=
 match h.get e.c with
 | some (.cs l _ _)=>Ab3 l e.l
 | _=>false
theorem Am2 {h:GH} {e:Ce} (hh:Bx8 h e=true):∃ kin ro,h.get e.c=some (.cs e.l kin ro):=by
 unfold Bx8 at hh
 split at hh
 ·rename_i l kin ro hg
  exact ⟨kin,ro,by rw [hg,Ta hh]⟩
 ·cases hh
theorem GB.holds.read {ok:Nat->Prop} {ρ:Nat->Nat×Nat} {w:World} {a:Nat×Nat} {l:List CV} {kin:List Nat} {ro:Bool} (h:(GB.cs l kin ro).holds ok ρ w a):(GB.cs l [] true).holds ok ρ w a:=by
 obtain ⟨C,t,fr,h1,_,h3⟩:=h
 exact ⟨C,t,fr,h1,(fun e=>by cases e),h3⟩
def iC (n:Int):CV:=.v (.int .i64 n)
def by8 (l:List Nat):List CV:=l.map fun n=>.v (.int .u8 (n:Nat))
def Ae1 (tabs:List (Nat×IntKind×List Nat)):List Ce:=tabs.map fun p=>⟨p.1,p.2.2.map fun n=>.v (.int p.2.1 (n:Nat))⟩
structure Fct where
 l:List CV
 es:List Ce
 nx:Nat
 x:CV
 es':List Ce
 nx':Nat
noncomputable def Fct.hin (F:Fct):GH:=⟨Fw F.es .lf,F.nx,F.nx,[]⟩
noncomputable def Fct.hout (F:Fct):GH:=⟨Fw F.es' (Fw F.es .lf),F.nx',F.nx,[]⟩
noncomputable def Fct.ran (F:Fct) (r:Option (CV×GH)):Bool :=
 match r with
 | some (x,h)=>Nr x F.x&&Nat.beq h.nx F.nx'&&F.es'.all fun e=>Nat.ble F.nx e.c&&Bx8 h e
 | none=>false
theorem SR.sub {ρ:Nat->Nat×Nat} {h h2:GH} {B:Nat} {w:World} (s:SR ρ h B w) (hs:∀ c b,h2.get c=some b->∃ l kin ro,b=.cs l [] true/\h.get c=some (.cs l kin ro)) (h1:h2.nx=h.nx) (h3:h2.fl=h.fl) (h4:h2.hid=h.hid):SR ρ h2 B w:=by
 have ok:okH h2=okH h:=by unfold okH;rw [h1,h4]
 refine ⟨⟨fun c b e=>?_,fun c d b b' e e' _ _ _=>?_,fun c b e l hc=>?_,s.rel.base⟩,by rw [h1,h3];exact s.fl,fun c hc=>by rw [h4];exact s.hid c (by rw [<-h3];exact hc)⟩
 ·obtain ⟨l,kin,ro,rfl,hg⟩:=hs c b e
  rw [ok]
  exact ⟨s.ok hg,(s.holds hg).read⟩
 ·obtain ⟨l,kin,ro,rfl,hg⟩:=hs c b e
  obtain ⟨l',kin',ro',rfl,hg'⟩:=hs d b' e'
  exact .inr (.inl (.inr ⟨_,_,_,_,rfl,rfl⟩))
 ·obtain ⟨l,kin,ro,rfl,hg⟩:=hs c b e
  exact s.rel.low c _ hg rfl (by rw [<-h3];exact hc)
theorem Fct.ok {P:Program} {eqT:Nat->Bool} {sp:Sp} (hP:P.follows .mixedOrders=true) (hE:Mn P eqT) (hG:Be4 P sp) {f:FuncId} {fu:Nat} (F:Fct) (hr:F.ran (X9 P eqT sp fu (.call f F.l) F.hin)=true):Lb P f F.l F.hin F.x F.hout:=by
 intro ρ B w vs s hg hvs
 unfold Fct.ran at hr
 split at hr
 case h_2=>cases hr
 rename_i x h hrun
 simp only [Bool.and_eq_true,List.all_eq_true] at hr
 obtain ⟨⟨h1,h2⟩,h3⟩:=hr
 obtain rfl:=B49 h1
 have h2:=Nat.eq_of_beq_eq_true h2
 obtain ⟨q1,q2⟩:=(Bi8 hP hE hG fu).1 f F.l _ _ _ hrun ρ B w vs s hg hvs
 refine ⟨q1,q2.mono ?_⟩
 rintro e w' ⟨v,ρ',rfl,p,hv⟩
 have ok:okH F.hout=okH h:=by
  unfold okH
  rw [show F.hout.nx=h.nx from h2.symm,p.le.hid]
  rfl
 refine ⟨v,ρ',rfl,⟨⟨by rw [show F.hout.nx=h.nx from h2.symm];exact p.le.nx,rfl,rfl,fun c hc=>?_⟩,p.same,p.sr.sub (fun c b e=>?_) h2.symm p.le.fl.symm p.le.hid.symm,p.low⟩,by rw [ok];exact hv⟩
 ·have hc:c < F.nx:=hc
  show (Fw F.es' (Fw F.es .lf)).get c=(Fw F.es .lf).get c
  have low:∀ e∈F.es',c≠e.c:=fun e he=>by have:=Nat.le_of_ble_eq_true (h3 e he).1;omega
  have key:∀ es:List Ce,(∀ e∈es,c≠e.c)->∀ t:TR GB,(Fw es t).get c=t.get c:=fun es=>by
   induction es with
   | nil=>exact fun _ _=>rfl
   | cons e es ih =>
    intro hl t
    show ((Fw es t).set e.c e.gb).get c=_
    rw [TR.get_set,if_neg (hl e (by simp)),ih (fun e' he'=>hl e' (List.mem_cons_of_mem _ he')) t]
  exact key _ low _
 ·obtain ⟨_,e⟩:=GH.get_some e
  rcases Kf e with ⟨e',he',rfl,rfl⟩ | ⟨e,_⟩
  ·obtain ⟨kin,ro,hg⟩:=Am2 (h3 e' he').2
   exact ⟨_,kin,ro,rfl,hg⟩
  ·have hin:F.hin.get c=some b:=GH.get_of rfl e
   have hlt:=(s.ok hin).1
   obtain ⟨e',_,_,rfl⟩ : ∃ e'∈F.es,c=e'.c/\b=e'.gb:=by
    rcases Kf e with h | ⟨h,_⟩
    ·exact h
    ·cases h
   refine ⟨e'.l,[],true,rfl,GH.get_of (by rw [p.le.hid];rfl) ?_⟩
   rw [p.le.old c hlt]
   exact e
mutual
def okN (p:Nat->Bool):CV->Bool
 | .p c _=>p c
 | .s c _ _ _ _=>p c
 | .g l=>Aj8 p l
 | .t l=>Aj8 p l
 | .f _ l=>Aj8 p l
 | .y c=>p c
 | .m c=>p c
 | _=>true
def Aj8 (p:Nat->Bool):List CV->Bool
 | []=>true
 | x :: l=>okN p x&&Aj8 p l
end
theorem P9 {p:Nat->Bool} : ∀ {l:List CV},Aj8 p l=true->∀ (j:Nat) x,l[j]? = some x->okN p x=true
 | x :: l,h,0,y,e=>by
  simp only [Aj8,Bool.and_eq_true] at h
  simp at e
  rw [<-e];exact h.1
 | x :: l,h,j+1,y,e=>by
  simp only [Aj8,Bool.and_eq_true] at h
  exact P9 h.2 j y (by simpa using e)
 | [],_,j,y,e=>by simp at e
theorem RC.okN {ok ok':Nat->Prop} {p:Nat->Bool} {ρ:Nat->Nat×Nat} (hp:∀ c,ok c->p c=true->ok' c) {x:CV} {v:Value} (h:RC ok ρ x v):Go.Proofs.YtahgkllhbggmgaaGreatDoor.okN p x=true->RC ok' ρ x v:=by
 induction h with
 | v h1=>exact fun _=>.v h1
 | p h1=>exact fun e=>.p (hp _ h1 e)
 | s h1 h2 h3 h4 h5 h6=>exact fun e=>.s (hp _ h1 e) h2 h3 h4 h5 h6
 | z h1=>exact fun _=>.z h1
 | g h1 _ h3 ih=>exact fun e=>.g h1 (fun j x u a b=>ih j x u a b (P9 e j x a)) h3
 | t h1 _ ih=>exact fun e=>.t h1 fun j x u a b=>ih j x u a b (P9 e j x a)
 | f h1 _ ih=>exact fun e=>.f h1 fun j x u a b=>ih j x u a b (P9 e j x a)
 | y h1=>exact fun e=>.y (hp _ h1 e)
 | m h1=>exact fun e=>.m (hp _ h1 e)
 | u=>exact fun _=>.u
noncomputable def Fct.use (F:Fct) (h:GH) (l:List CV):Option (CV×GH) :=
 bif (h.hid.isEmpty || (okN (fun c=>!Cv h.hid c) F.x&&F.es'.all fun e=>Aj8 (fun c=>!Cv h.hid c) e.l))&&Ab3 l F.l&&Nat.beq h.nx F.nx&&F.es.all (Bx8 h)&&F.es'.all (fun e=>Nat.ble F.nx e.c) then some (F.x,⟨Fw F.es' h.t,F.nx',h.fl,h.hid⟩) else none
theorem Fct.use_ok {P:Program} {f:FuncId} {F:Fct} (hF:Lb P f F.l F.hin F.x F.hout) {h:GH} {l:List CV} {x:CV} {h':GH} (e:F.use h l=some (x,h')):Lb P f l h x h':=by
 intro ρ B w vs s hg hvs
 unfold Fct.use at e
 obtain ⟨hc,e2⟩:=Bl e
 clear e
 simp only [Bool.and_eq_true,Bool.or_eq_true,List.all_eq_true,List.isEmpty_iff] at hc
 obtain ⟨⟨⟨⟨hh,h1⟩,h2⟩,h3⟩,h4⟩:=hc
 obtain rfl:=Ta h1
 have h2:=Nat.eq_of_beq_eq_true h2
 injection e2 with e3 e4
 subst e3 e4
 have okin:∀ c,okH h c->okH F.hin c/\ρ c=ρ c:=fun c hc=>⟨⟨by show c < F.nx;have:=hc.1;omega,rfl⟩,rfl⟩
 have inG:∀ {c b},F.hin.get c=some b->∃ l kin ro,b=.cs l [] true/\h.get c=some (.cs l kin ro):=fun {c b} e=>by
  rcases Kf (GH.get_some e).2 with ⟨e',he',rfl,rfl⟩ | ⟨e,_⟩
  ·obtain ⟨kin,ro,hg⟩:=Am2 (h3 e' he')
   exact ⟨_,kin,ro,rfl,hg⟩
  ·cases e
 have s1:SR ρ F.hin w.heap.size w:=by
  refine ⟨⟨fun c b e=>?_,fun c d b b' e e' _ _ _=>?_,fun c b e _ hc=>?_,Nat.le_refl _⟩,Nat.le_refl _,fun _ _=>rfl⟩
  ·obtain ⟨l,kin,ro,rfl,hg⟩:=inG e
   exact ⟨(okin c (s.ok hg)).1,(s.holds hg).read.ext okin fun _=>rfl⟩
  ·obtain ⟨l,kin,ro,rfl,hg⟩:=inG e
   obtain ⟨l',kin',ro',rfl,hg'⟩:=inG e'
   exact .inr (.inl (.inr ⟨_,_,_,_,rfl,rfl⟩))
  ·obtain ⟨l,kin,ro,rfl,hg⟩:=inG e
   have:=(s.ok hg).1
   have hc:F.nx<=c:=hc
   omega
 obtain ⟨q1,q2⟩:=hF ρ w.heap.size w vs s1 (fun g hgl=>⟨(okin g (hg g hgl).1).1,(hg g hgl).2⟩) ⟨hvs.1,fun j x u a b=>(hvs.2 j x u a b).ext okin⟩
 refine ⟨q1,q2.mono ?_⟩
 rintro e w' ⟨v,ρ',rfl,p,hv⟩
 have hnx:F.nx<=F.nx':=p.le.nx
 have okp:∀ c,okH F.hout c->(fun c=>!Cv h.hid c) c=true->okH (⟨Fw F.es' h.t,F.nx',h.fl,h.hid⟩ : GH) c:=fun c h1 h2=>⟨h1.1,by simpa using h2⟩
 have vis:∀ x,(h.hid=[]\/okN (fun c=>!Cv h.hid c) x=true)->∀ v,RC (okH F.hout) ρ' x v->RC (okH (⟨Fw F.es' h.t,F.nx',h.fl,h.hid⟩ : GH)) ρ' x v:=fun x hx v hv=>by
  rcases hx with hx | hx
  ·exact hv.ext fun c hc=>⟨⟨hc.1,by show Cv h.hid c=false;rw [hx];rfl⟩,rfl⟩
  ·exact hv.okN okp hx
 have same:∀ c,c < h.nx->ρ' c=ρ c:=fun c hc=>p.same c (by show c < F.nx;omega)
 have okx:∀ c,okH h c->okH (⟨Fw F.es' h.t,F.nx',h.fl,h.hid⟩ : GH) c/\ρ' c=ρ c:=fun c hc=>⟨⟨by show c < F.nx';have:=hc.1;omega,hc.2⟩,same c hc.1⟩
 have low:∀ {c},c < F.nx->∀ e∈F.es',c≠e.c:=fun {c} hc e he=>by have:=Nat.le_of_ble_eq_true (h4 e he);omega
 have split:∀ {c b},(⟨Fw F.es' h.t,F.nx',h.fl,h.hid⟩ : GH).get c=some b->(F.nx<=c/\F.hout.get c=some b)\/h.get c=some b:=fun {c b} e=>by
  have e0:Cv h.hid c=false:=(GH.get_some e).1
  have e:=(GH.get_some e).2
  rcases Kf e with ⟨e',he',rfl,rfl⟩ | ⟨e,_⟩
  ·refine .inl ⟨Nat.le_of_ble_eq_true (h4 e' he'),?_⟩
   refine GH.get_of rfl ?_
   show (Fw F.es' (Fw F.es .lf)).get e'.c=_
   have key:∀ (es:List Ce) (t t':TR GB) b,(Fw es t).get e'.c=some b->(∃ e∈es,e'.c=e.c)->(Fw es t').get e'.c=some b:=fun es=>by
    induction es with
    | nil=>rintro t t' b _ ⟨_,h,_⟩;cases h
    | cons a es ih =>
     intro t t' b h1 h2
     have h1:((Fw es t).set a.c a.gb).get e'.c=some b:=h1
     show ((Fw es t').set a.c a.gb).get e'.c=some b
     rw [TR.get_set] at h1 ⊢
     by_cases hc:e'.c=a.c
     ·rw [if_pos hc] at h1 ⊢;exact h1
     ·rw [if_neg hc] at h1 ⊢
      obtain ⟨z,hz,hz2⟩:=h2
      rcases List.mem_cons.1 hz with rfl | hz
      ·exact absurd hz2 hc
      ·exact ih t t' b h1 ⟨z,hz,hz2⟩
   exact key F.es' h.t _ _ e ⟨e',he',rfl⟩
  ·exact .inr (GH.get_of e0 e)
 refine ⟨v,ρ',rfl,⟨⟨by show h.nx<=F.nx';omega,rfl,rfl,fun c hc=>?_⟩,same,⟨⟨fun c b e=>?_,fun c d b b' e e' l l' hr=>?_,fun c b e l hc=>?_,Nat.le_trans s.rel.base p.low.size⟩,by show h.fl<=F.nx';have:=s.fl;omega,s.hid⟩,p.low.mono s.rel.base⟩,vis _ (hh.imp id (·.1)) _ hv⟩
 ·have:=s.fl
  have hc:c < h.fl:=hc
  show (Fw F.es' h.t).get c=h.t.get c
  have key:∀ es:List Ce,(∀ e∈es,c≠e.c)->∀ t:TR GB,(Fw es t).get c=t.get c:=fun es=>by
   induction es with
   | nil=>exact fun _ _=>rfl
   | cons e es ih =>
    intro hl t
    show ((Fw es t).set e.c e.gb).get c=_
    rw [TR.get_set,if_neg (hl e (by simp)),ih (fun e' he'=>hl e' (List.mem_cons_of_mem _ he')) t]
  exact key _ (low (by omega)) _
 ·have e0:Cv h.hid c=false:=(GH.get_some e).1
  rcases split e with ⟨h5,e⟩ | e
  ·refine ⟨⟨(p.sr.ok e).1,e0⟩,?_⟩
   obtain ⟨e',he',hb⟩ : ∃ e'∈F.es',b=e'.gb:=by
    rcases Kf (GH.get_some e).2 with ⟨e',he',_,hb⟩ | ⟨q,_⟩
    ·exact ⟨e',he',hb⟩
    ·have:=(s1.ok (GH.get_of (h:=F.hin) rfl q)).1
     have:c < F.nx:=this
     omega
   subst hb
   obtain ⟨C,t,fr,g1,g2,g3,g4,g5⟩:=p.sr.holds e
   exact ⟨C,t,fr,g1,g2,g3,g4,fun j x u a b=>⟨vis x (hh.imp id fun q=>P9 (q.2 e' he') j x a) u (g5 j x u a b).1,(g5 j x u a b).2⟩⟩
  ·refine ⟨(okx c (s.ok e)).1,?_⟩
   rw [same c (s.ok e).1]
   exact (s.holds e).ext okx fun hl=>p.low.block _ ((s.holds e).lt hl)
 ·rcases split e with ⟨h5,e⟩ | e<;>rcases split e' with ⟨h6,e'⟩ | e'
  ·exact p.sr.rel.apart c d b b' e e' l l' hr
  ·have a1:=p.sr.rel.low c b e l h5
   have a2:=(s.holds e').lt l'
   rw [same d (s.ok e').1] at hr
   omega
  ·have a1:=p.sr.rel.low d b' e' l' h6
   have a2:=(s.holds e).lt l
   rw [same c (s.ok e).1] at hr
   omega
  ·rw [same c (s.ok e).1,same d (s.ok e').1] at hr
   exact s.rel.apart c d b b' e e' l l' hr
 ·rcases split e with ⟨h5,e⟩ | e
  ·exact Nat.le_trans s.rel.base (p.sr.rel.low c b e l h5)
  ·rw [same c (s.ok e).1]
   exact s.rel.low c b e l hc
def Wv:List (Nat×IntKind×List Nat):=[(0,.u32,Bg7),(1,.u8,Lib.deBruijn64tab)]
theorem Bu1 (w:World) (h:R5 w):∀ p∈Wv,p.1 < Tryz.prog.globals.size/\0 < p.2.2.length/\∀ j,j < p.2.2.length->w.cell? ⟨p.1,j,none⟩=some (.int p.2.1 (p.2.2.getD j 0:Nat)):=fun p hp=>by
 have hN:Tryz.prog.globals.size=2:=by kernel_rfl
 rw [hN]
 rcases List.mem_cons.1 hp with rfl | hp
 ·exact ⟨by decide,by decide,fun j hj=>h.2 j hj⟩
 ·rcases List.mem_cons.1 hp with rfl | hp
  ·exact ⟨by decide,by decide,fun j hj=>h.1 j hj⟩
  ·cases hp
noncomputable def F1:Fct :=
 ⟨[.g [.s 20 0 2 2 16,.v (.slice none 0 0)],.g [iC (4),iC (1),iC (0),iC (0),iC (0),.s 22 0 1 1 0,.v (.slice none 0 0)]],Ae1 Wv++([⟨22,[iC (0),iC (9)]⟩,⟨20,[iC (0),.v (.slice none 0 0),.v (.slice none 0 0),.v (.slice none 0 0),.v (.slice none 0 0),iC (9),.v (.slice none 0 0),.v (.slice none 0 0),iC (0),.v (.slice none 0 0),.v (.slice none 0 0),iC (0),.v (.slice none 0 0),iC (999),.v (.slice none 0 0),.v (.bool false),iC (1),.v (.slice none 0 0),.v (.slice none 0 0),.v (.slice none 0 0),.v (.slice none 0 0),iC (9),.v (.slice none 0 0),.v (.slice none 0 0),iC (0),.v (.slice none 0 0),.v (.slice none 0 0),iC (0),.v (.slice none 0 0),iC (999),.v (.slice none 0 0),.v (.bool false)]⟩]),23,.t [.g [.s 104 0 2 2 0,.s 105 0 0 0 0],.g [iC (0),.v (.slice none 0 0),.v (.bool false),iC (0),iC (0)]],[⟨105,[]⟩,⟨104,[iC (0),.v (.slice none 0 0),.s 110 0 0 0 0,.v (.slice none 0 0),.s 111 0 0 0 0,iC (9),.v (.slice none 0 0),.s 112 0 0 0 0,iC (0),.s 113 0 0 0 0,.s 114 0 0 0 0,iC (0),.s 115 0 0 0 0,iC (999),.s 116 0 0 0 0,.v (.bool false),iC (1),.v (.slice none 0 0),.v (.slice none 0 0),.v (.slice none 0 0),.v (.slice none 0 0),iC (9),.v (.slice none 0 0),.v (.slice none 0 0),iC (0),.s 300 0 0 0 0,.s 371 0 1 1 7,iC (0),.v (.slice none 0 0),iC (999),.s 365 0 1 1 3,.v (.bool false)]⟩,⟨365,[iC (1),.s 366 0 13 13 1,iC (0)]⟩,⟨366,by8 [0,0,0,5,59,90,241,78,4,0,1,0,9]⟩,⟨371,[iC (0),.s 369 0 1 1 2,iC (0),iC (0),.v (.bool false),.v (.bool false),.v (.bool false)]⟩,⟨369,[iC (0),iC (9)]⟩,⟨300,[]⟩,⟨116,[]⟩,⟨115,[]⟩,⟨114,[]⟩,⟨113,[]⟩,⟨112,[]⟩,⟨111,[]⟩,⟨110,[]⟩],372⟩
theorem D99:Lb Tryz.prog 22 F1.l F1.hin F1.x F1.hout:=F1.ok (by kernel_rfl) A30 Tn (fu:=1000000) (by kernel_rfl)
noncomputable def F2:Fct :=
 ⟨[.g [.s 104 0 2 2 0,.s 105 0 0 0 0],.g [iC (0),iC (0),iC (0),iC (0),iC (0),.v (.slice none 0 0),.v (.slice none 0 0)]],Ae1 Wv++(F1.es'++[]),454,.t [.g [.s 539 0 2 2 0,.s 540 0 0 0 0],.g [iC (14),.v (.slice none 0 0),.v (.bool false),iC (0),iC (0)]],[⟨540,[]⟩,⟨539,[iC (0),.v (.slice none 0 0),.s 545 0 0 0 0,.v (.slice none 0 0),.s 546 0 0 0 0,iC (9),.v (.slice none 0 0),.s 547 0 0 0 0,iC (0),.s 548 0 0 0 0,.s 549 0 0 0 0,iC (0),.s 550 0 0 0 0,iC (999),.s 551 0 0 0 0,.v (.bool false),iC (1),.v (.slice none 0 0),.s 556 0 0 0 0,.v (.slice none 0 0),.s 557 0 0 0 0,iC (9),.v (.slice none 0 0),.s 558 0 0 0 0,iC (0),.s 559 0 0 0 0,.s 560 0 1 1 0,iC (0),.s 567 0 0 0 0,iC (999),.s 568 0 1 1 0,.v (.bool false)]⟩,⟨568,[iC (1),.s 573 0 13 13 1,iC (0)]⟩,⟨573,by8 [0,0,0,5,59,90,241,78,4,0,1,0,9]⟩,⟨567,[]⟩,⟨560,[iC (0),.s 565 0 1 1 2,iC (0),iC (0),.v (.bool false),.v (.bool false),.v (.bool false)]⟩,⟨565,[iC (0),iC (9)]⟩,⟨559,[]⟩,⟨558,[]⟩,⟨557,[]⟩,⟨556,[]⟩,⟨551,[]⟩,⟨550,[]⟩,⟨549,[]⟩,⟨548,[]⟩,⟨547,[]⟩,⟨546,[]⟩,⟨545,[]⟩],581⟩
theorem D98:Lb Tryz.prog 22 F2.l F2.hin F2.x F2.hout:=F2.ok (by kernel_rfl) A30 Tn (fu:=1000000) (by kernel_rfl)
noncomputable def F3:Fct :=
 ⟨[.g [.s 539 0 2 2 0,.s 540 0 0 0 0],.g [iC (9),iC (0),iC (0),iC (0),iC (0),.v (.slice none 0 0),.v (.slice none 0 0)]],Ae1 Wv++(F1.es'++F2.es'++[]),605,.t [.g [.s 690 0 2 2 0,.s 691 0 0 0 0],.g [iC (0),.v (.slice none 0 0),.v (.bool false),iC (0),iC (0)]],[⟨691,[]⟩,⟨690,[iC (0),.v (.slice none 0 0),.v (.slice none 0 0),.v (.slice none 0 0),.v (.slice none 0 0),iC (9),.v (.slice none 0 0),.v (.slice none 0 0),iC (0),.s 947 0 0 0 0,.s 955 0 0 0 0,iC (0),.v (.slice none 0 0),iC (999),.s 904 0 0 0 0,.v (.bool false),iC (1),.v (.slice none 0 0),.s 707 0 0 0 0,.v (.slice none 0 0),.s 708 0 0 0 0,iC (9),.v (.slice none 0 0),.s 709 0 0 0 0,iC (0),.s 710 0 0 0 0,.s 711 0 1 1 0,iC (0),.s 718 0 0 0 0,iC (999),.s 719 0 1 1 0,.v (.bool false)]⟩,⟨719,[iC (1),.s 724 0 13 13 1,iC (0)]⟩,⟨724,by8 [0,0,0,5,59,90,241,78,4,0,1,0,9]⟩,⟨718,[]⟩,⟨711,[iC (0),.s 716 0 1 1 2,iC (0),iC (0),.v (.bool false),.v (.bool false),.v (.bool false)]⟩,⟨716,[iC (0),iC (9)]⟩,⟨710,[]⟩,⟨709,[]⟩,⟨708,[]⟩,⟨707,[]⟩,⟨904,[]⟩,⟨955,[]⟩,⟨947,[]⟩],959⟩
theorem D97:Lb Tryz.prog 22 F3.l F3.hin F3.x F3.hout:=F3.ok (by kernel_rfl) A30 Tn (fu:=1000000) (by kernel_rfl)
noncomputable def F4:Fct :=
 ⟨[.g [.s 690 0 2 2 0,.s 691 0 0 0 0],.g [iC (9),iC (1),iC (0),iC (0),iC (0),.v (.slice none 0 0),.v (.slice none 0 0)]],Ae1 Wv++(F1.es'++F2.es'++F3.es'++[]),960,.t [.g [.s 1045 0 2 2 0,.s 1422 0 1 1 0],.g [iC (0),.v (.slice none 0 0),.v (.bool false),iC (0),iC (0)]],[⟨1422,[iC (1),iC (0),.s 1426 0 16 16 1,.s 1428 0 16 16 1]⟩,⟨1428,by8 [0,0,0,8,254,206,154,193,1,1,0,1,1,0,9,0]⟩,⟨1426,by8 [0,0,0,8,254,206,154,193,1,1,0,1,1,0,9,0]⟩,⟨1045,[iC (0),.v (.slice none 0 0),.s 1051 0 0 0 0,.v (.slice none 0 0),.s 1052 0 0 0 0,iC (9),.v (.slice none 0 0),.s 1053 0 0 0 0,iC (0),.s 1054 0 0 0 0,.s 1055 0 0 0 0,iC (0),.s 1056 0 0 0 0,iC (999),.s 1057 0 0 0 0,.v (.bool false),iC (1),.v (.slice none 0 0),.v (.slice none 0 0),.v (.slice none 0 0),.v (.slice none 0 0),iC (9),.v (.slice none 0 0),.v (.slice none 0 0),iC (0),.s 1316 0 0 0 0,.s 1327 0 1 1 7,iC (1),.v (.slice none 0 0),iC (999),.s 1271 0 1 1 3,.v (.bool false)]⟩,⟨1271,[iC (1),.s 1273 0 13 13 1,iC (13)]⟩,⟨1273,by8 [0,0,0,5,59,90,241,78,4,0,1,0,9]⟩,⟨1327,[iC (0),.s 1329 0 1 1 2,iC (1),iC (0),.v (.bool false),.v (.bool true),.v (.bool false)]⟩,⟨1329,[iC (0),iC (9)]⟩,⟨1316,[]⟩,⟨1057,[]⟩,⟨1056,[]⟩,⟨1055,[]⟩,⟨1054,[]⟩,⟨1053,[]⟩,⟨1052,[]⟩,⟨1051,[]⟩],1430⟩
theorem D96:Lb Tryz.prog 22 F4.l F4.hin F4.x F4.hout:=F4.ok (by kernel_rfl) A30 Tn (fu:=1000000) (by kernel_rfl)
noncomputable def F5:Fct :=
 ⟨[.g [.s 1045 0 2 2 0,.s 1422 0 1 1 0],.g [iC (10),iC (0),iC (0),iC (0),iC (0),.v (.slice none 0 0),.v (.slice none 0 0)]],Ae1 Wv++(F1.es'++F2.es'++F3.es'++F4.es'++[]),1431,.t [.g [.s 1519 0 2 2 0,.s 1570 0 0 2 0],.g [iC (0),.v (.slice none 0 0),.v (.bool false),iC (0),iC (0)]],[⟨1570,[iC (0),iC (0),.v (.slice none 0 0),.v (.slice none 0 0),iC (0),iC (0),.v (.slice none 0 0),.v (.slice none 0 0)]⟩,⟨1519,[iC (0),.v (.slice none 0 0),.v (.slice none 0 0),.v (.slice none 0 0),.v (.slice none 0 0),iC (9),.v (.slice none 0 0),.v (.slice none 0 0),iC (0),.s 1819 0 1 1 5,.s 1764 0 0 0 0,iC (0),.v (.slice none 0 0),iC (999),.s 1765 0 0 0 0,.v (.bool false),iC (1),.v (.slice none 0 0),.s 1536 0 0 0 0,.v (.slice none 0 0),.s 1537 0 0 0 0,iC (9),.v (.slice none 0 0),.s 1538 0 0 0 0,iC (0),.s 1539 0 0 0 0,.s 1540 0 1 1 0,iC (1),.s 1547 0 0 0 0,iC (999),.s 1548 0 1 1 0,.v (.bool false)]⟩,⟨1548,[iC (1),.s 1553 0 13 13 1,iC (13)]⟩,⟨1553,by8 [0,0,0,5,59,90,241,78,4,0,1,0,9]⟩,⟨1547,[]⟩,⟨1540,[iC (0),.s 1545 0 1 1 2,iC (1),iC (0),.v (.bool false),.v (.bool true),.v (.bool false)]⟩,⟨1545,[iC (0),iC (9)]⟩,⟨1539,[]⟩,⟨1538,[]⟩,⟨1537,[]⟩,⟨1536,[]⟩,⟨1765,[]⟩,⟨1764,[]⟩,⟨1819,[iC (1),iC (1),.s 1817 0 1 1 2,iC (0),iC (0)]⟩,⟨1817,[iC (0),iC (9)]⟩],1821⟩
theorem D95:Lb Tryz.prog 22 F5.l F5.hin F5.x F5.hout:=F5.ok (by kernel_rfl) A30 Tn (fu:=1000000) (by kernel_rfl)
noncomputable def B06:GH->List CV->Option (CV×GH):=fun h l=>(match F1.use h l with | some r=>some r | none =>  (match F2.use h l with | some r=>some r | none =>  (match F3.use h l with | some r=>some r | none =>  (match F4.use h l with | some r=>some r | none =>  (match F5.use h l with | some r=>some r | none=>none)))))
theorem Bg0:∀ l h x h',B06 h l=some (x,h')->Lb Tryz.prog 22 l h x h':=fun l h x h' e=>by
 unfold B06 at e
 split at e
 ·rename_i r hr
  cases e
  exact Fct.use_ok D99 hr
 split at e
 ·rename_i r hr
  cases e
  exact Fct.use_ok D98 hr
 split at e
 ·rename_i r hr
  cases e
  exact Fct.use_ok D97 hr
 split at e
 ·rename_i r hr
  cases e
  exact Fct.use_ok D96 hr
 split at e
 ·rename_i r hr
  cases e
  exact Fct.use_ok D95 hr
 cases e
noncomputable def spF:Sp:=fun f=>bif Nat.beq f 22 then some B06 else spG f
theorem C83:Be4 Tryz.prog spF:=fun f g h=>by
 unfold spF at h
 cases hq:Nat.beq f 22 with
 | true =>
  rw [hq] at h
  obtain rfl:B06=g:=by simpa using h
  obtain rfl:=Nat.eq_of_beq_eq_true hq
  exact Bg0
 | false =>
  rw [hq] at h
  simp only [cond_false] at h
  exact Tn f g h
theorem Ao7:Bi5 (X9 Tryz.prog D37 spF 1000000 (.call 18 []) (h0C Tryz.prog.globals.size Wv))=true:=by kernel_rfl
theorem Ab5:A7 Tryz.prog R5 18 [] (.val (.bool true)) [] :=
 Bp5 (by kernel_rfl) A30 C83 Tryz.func18 rfl (by decide) Ao7 Bu1
end Go.Proofs.YtahgkllhbggmgaaGreatDoor
