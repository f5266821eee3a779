/- The formulas, as rewriting rules: one for each kind of operation. No program is known here. -/
import Derived.Test.YtahgkllhbggmgaaGreatDoorKAbsDraw2
import Derived.IntWalk
import Derived.Scope
set_option linter.all false
set_option linter.unnecessarySimpa false
set_option linter.unusedSimpArgs false
set_option linter.unusedVariables false
namespace Go.Proofs.YtahgkllhbggmgaaGreatDoor
open Go.ChangeShapes Go.WideShapes Go.ChangeAt Go.RowKit
def Tk:Prop:=True
@[go_sem] theorem Dp9:Tk=True:=eq_true (show Tk from trivial)
def rep (n:Nat) (v:Value):List Value:=List.replicate n v
theorem B74 {n:Nat} {v:Value} (h:okV v):∀ u,u∈rep n v->okV u:=fun u hu=>by rw [List.eq_of_mem_replicate hu];exact h
@[go_sem] theorem Do5 {n:Nat} {b:Bool} : (∀ u,u∈rep n (.bool b)->okV u)=True:=eq_true (B74 trivial)
@[go_sem] theorem Do4 {n:Nat} : (∀ u,u∈rep n (.int .i64 0)->okV u)=True:=eq_true (B74 rfl)
def Ct (X:Prop):Prop:=X
@[congr] theorem D24 {X b:Prop} (_:Tk=b):Ct X=Ct X:=rfl
theorem Bt {X:Prop} (h:X):Ct X:=h
section
variable {P : Program} {G : World -> Prop} {σ : Ab} {L : Operand -> AV} {bk : List BA} {K : AV -> List BA -> Prop} {dst : Option Tmp} {ty : TypeId} {pos : String} {after : Array Edge} {gd : Option (Nat × Bool)}
@[go_sem] theorem Cb0 {ops:List Oper} {KK:Ab->Prop} : Bd P G ops [] σ KK=KK σ:=rfl
@[go_sem] theorem C23 {ops:List Oper} {op:Op} {rest:List Oper} {KK:Ab->Prop} : Bd P G ops (⟨dst,op,ty,pos,after,none⟩ :: rest) σ KK=vop P G σ ⟨dst,op,ty,pos,after,none⟩ fun r bk=>Bd P G ops rest ⟨Dy dst r σ.fr,bk⟩ KK:=rfl
theorem Q5 {ops:List Oper} {op:Op} {rest:List Oper} {j:Nat} {b:Bool} {KK:Ab->Prop} : Bd P G ops (⟨dst,op,ty,pos,after,some (j,b)⟩ :: rest) σ KK =
  match Gx ops σ.fr j with
  | .val (.bool x)=>(x=b->vop P G σ ⟨dst,op,ty,pos,after,some (j,b)⟩ fun r bk=>Bd P G ops rest ⟨Dy dst r σ.fr,bk⟩ KK)/\(x=!b->Bd P G ops rest ⟨Dy dst (.val undef) σ.fr,σ.bk⟩ KK)
  | .val (.tuple _)=>Bd P G ops rest ⟨Dy dst (.val undef) σ.fr,σ.bk⟩ KK
  | _=>False:=rfl
@[go_sem] theorem C64 {d:Nat} {r:AV} {fr:List (Nat×AV)} : Dy (some d) r fr=(d,r) :: fr:=rfl
@[go_sem] theorem C65 {r:AV} {fr:List (Nat×AV)} : Dy none r fr=fr:=rfl
@[go_sem] theorem C70 {j i:Nat} {a:AV} {r:List (Nat×AV)} : look ((j,a) :: r) i=if i=j then a else look r i:=rfl
@[go_sem] theorem Cm2 {i:Nat} : look [] i=.any:=rfl
@[go_sem] theorem Dh5 {fr:List (Nat×AV)} {t:Nat} : ev fr (.tmp t)=look fr t:=rfl
@[go_sem] theorem Dh6 {fr:List (Nat×AV)} {k:IntKind} {m:Int} : ev fr (.const (.int k m))=.val (.int k m):=rfl
@[go_sem] theorem D37 {fr:List (Nat×AV)} {b:Bool} : ev fr (.const (.bool b))=.val (.bool b):=rfl
@[go_sem] theorem C88 {fr:List (Nat×AV)} {s:ByteArray} : ev fr (.const (.string s))=.val (.string s):=rfl
@[go_sem] theorem Cp5 {fr:List (Nat×AV)} {A:Option Addr} {m c:Nat} : ev fr (.const (.slice A m c))=.val (.slice A m c):=rfl
@[go_sem] theorem Dh7 {fr:List (Nat×AV)} {cs:Array Value} : ev fr (.const (.agg cs))=.agg (cs.toList.map AV.val):=rfl
@[go_sem] theorem By6 {fr:List (Nat×AV)} : ev fr (.const .nilFunc)=.val .nilFunc:=rfl
@[go_sem] theorem C89 {fr:List (Nat×AV)} : ev fr (.const (.pointer none))=.val (.pointer none):=rfl
@[go_sem] theorem D36 {fr:List (Nat×AV)} {f:Nat} : ev fr (.func f)=.fn f []:=rfl
@[go_sem] theorem C90 {fr:List (Nat×AV)} {g:Nat} : ev fr (.global g)=.val (.pointer (some ⟨g,0,none⟩)):=rfl
@[go_sem] theorem D13 {v:Value} : nrm (.val v)=.val v:=rfl
@[go_sem] theorem Df3 {v:Value} : nrm (.iv (.val v))=.val v:=rfl
@[go_sem] theorem Df1 {cs:List IV} : nrm (.iv (.pt cs))=.ip cs:=rfl
@[go_sem] theorem Df0 {k:Nat} {l:List (List IV)} : nrm (.iv (.sl k l))=.iv (.sl k l):=rfl
@[go_sem] theorem D14 {b:Nat} : nrm (.own b)=.own b:=rfl
@[go_sem] theorem D15:nrm .any=.any:=rfl
@[go_sem] theorem D16 {cs:List AV} : nrm (.agg cs)=.agg cs:=rfl
@[go_sem] theorem Cl5 {cs:List IV} : nrm (.aggI cs)=.aggI cs:=rfl
@[go_sem] theorem Df5 {b o:Nat} : nrm (.bp b o)=.bp b o:=rfl
@[go_sem] theorem Df4 {cs:List IV} : nrm (.ip cs)=.ip cs:=rfl
@[go_sem] theorem C82 {b:Nat} : C3 b []=none:=rfl
@[go_sem] theorem C83 {b c:Nat} {cs:List AV} {r:List BA} : C3 b (.box c cs :: r)=if c=b then some (.box c cs) else C3 b r:=rfl
@[go_sem] theorem C84 {b c:Nat} {cs:List IV} {r:List BA} : C3 b (.arr c cs :: r)=if c=b then some (.arr c cs) else C3 b r:=rfl
@[go_sem] theorem By0 {b c e k i j d:Nat} {l:List (List IV)} {r:List BA} : C3 b (.rowN c e k l i j d :: r)=if c=b then some (.rowN c e k l i j d) else C3 b r:=rfl
@[go_sem] theorem Bv5 {b c e k i j d:Nat} {l:List (List IV)} {r y:List BA} : Ca b y (.rowN c e k l i j d :: r)=if c=b then y++r else .rowN c e k l i j d :: Ca b y r:=rfl
@[go_sem] theorem C81 {b c:Nat} {F:Far} {r:List BA} : C3 b (.opq c F :: r)=if c=b then some (.opq c F) else C3 b r:=rfl
@[go_sem] theorem C58 {b c:Nat} {F:Far} {r y:List BA} : Ca b y (.opq c F :: r)=if c=b then y++r else .opq c F :: Ca b y r:=rfl
@[go_sem] theorem Cp2 {b c:Nat} {k:IntKind} {kv:List (Int×Value)} {r:List BA} : C3 b (.mp c k kv :: r)=if c=b then some (.mp c k kv) else C3 b r:=rfl
@[go_sem] theorem Ck1 {b c:Nat} {k:IntKind} {kv:List (Int×Value)} {r y:List BA} : Ca b y (.mp c k kv :: r)=if c=b then y++r else .mp c k kv :: Ca b y r:=rfl
@[go_sem] theorem Df2 {b:Nat} : nrm (.mv b)=.mv b:=rfl
@[go_sem] theorem C80 {b c e k:Nat} {l:List (List IV)} {r:List BA} : C3 b (.row c e k l :: r)=if c=b then some (.row c e k l) else C3 b r:=rfl
@[go_sem] theorem C59 {b c:Nat} {cs:List AV} {r y:List BA} : Ca b y (.box c cs :: r)=if c=b then y++r else .box c cs :: Ca b y r:=rfl
@[go_sem] theorem C60 {b c:Nat} {cs:List IV} {r y:List BA} : Ca b y (.arr c cs :: r)=if c=b then y++r else .arr c cs :: Ca b y r:=rfl
@[go_sem] theorem C57 {b c e k:Nat} {l:List (List IV)} {r y:List BA} : Ca b y (.row c e k l :: r)=if c=b then y++r else .row c e k l :: Ca b y r:=rfl
@[go_sem] theorem C53 {α:Type} {cs:List α} {o:Nat} : Ez cs o []=cs:=rfl
@[go_sem] theorem Bu8 {α:Type} {cs:List α} {o:Nat} {d:α} {ds:List α} : Ez cs o (d :: ds)=Ez (cs.set o d) (o+1) ds:=rfl
@[go_sem] theorem Dm5 {s:Nat} {c:IV} {cs:List IV} {KK:AV->Prop} : rdI 0 s (c :: cs) KK=KK (nrm (.iv c)):=rfl
@[go_sem] theorem Dm4 {s:Nat} {cs:List IV} {KK:AV->Prop} : rdI 1 s cs KK=(s<=cs.length/\KK (.agg ((cs.take s).map fun c=>nrm (.iv c)))):=rfl
@[go_sem] theorem Dm3 {s:Nat} {cs:List IV} {KK:AV->Prop} : rdI 2 s cs KK=(s<=cs.length/\KK (.aggI (cs.take s))):=rfl
@[go_sem] theorem Dm7 {s:Nat} {c:AV} {cs:List AV} {KK:AV->Prop} : rdA 0 s (c :: cs) KK=KK c:=rfl
@[go_sem] theorem Dm6 {s:Nat} {cs:List AV} {KK:AV->Prop} : rdA 1 s cs KK=(s<=cs.length/\KK (.agg (cs.take s))):=rfl
@[go_sem] theorem Cr6 {d:Nat} : cid (some d)=100*(d+1):=rfl
@[go_sem] theorem C02 {cs:List AV} : B9 (.agg cs)=cs:=rfl
@[go_sem] theorem C00 {v:Value} : B9 (.val v)=[.val v]:=rfl
@[go_sem] theorem C94 {i:IV} : B9 (.iv i)=[.iv i]:=rfl
@[go_sem] theorem C01 {b:Nat} : B9 (.own b)=[.own b]:=rfl
@[go_sem] theorem C97 {b o:Nat} : B9 (.bp b o)=[.bp b o]:=rfl
@[go_sem] theorem C95 {cs:List IV} : B9 (.ip cs)=[.ip cs]:=rfl
@[go_sem] theorem C96 {f:Nat} {cs:List AV} : B9 (.fn f cs)=[.fn f cs]:=rfl
@[go_sem] theorem Br1 {cs:List IV} : B9 (.aggI cs)=cs.map AV.iv:=rfl
@[go_sem] theorem D29 {b x y:Operand} : C5 ⟨dst,.pick b x y,ty,pos,after,gd⟩ σ=True:=by unfold C5;simp [G6]
@[go_sem] theorem C26 {b x y:Operand} : B4 P G L bk ⟨dst,.pick b x y,ty,pos,after,gd⟩ K=match nrm (L b) with
  | .val (.bool true)=>K (L x) bk
  | .val (.bool false)=>K (L y) bk
  | _=>False:=by unfold B4 qop;rfl
def K6 (dst:Option Tmp) (σ:Ab):Prop:=(Kg (cid dst) (cid dst+100) σ.fr&&Ha (cid dst) (cid dst+100) σ.bk)=true
theorem Cc {o:Oper} (h:G6 o=false):C5 o σ=True:=by unfold C5;rw [h];simp
theorem Jp {o:Oper} (h:G6 o=true):C5 o σ=K6 o.dst σ:=by unfold C5 K6;rw [h];simp
@[go_sem] theorem D30 {x:Operand} : C5 ⟨dst,.move x,ty,pos,after,gd⟩ σ=True:=Cc rfl
@[go_sem] theorem C78 {x:Operand} : C5 ⟨dst,.assign x,ty,pos,after,gd⟩ σ=True:=Cc rfl
@[go_sem] theorem D31 {t:TypeId} {x:Operand} : C5 ⟨dst,.load t x,ty,pos,after,gd⟩ σ=True:=Cc rfl
@[go_sem] theorem Co6 {t:TypeId} {x y:Operand} : C5 ⟨dst,.store t x y,ty,pos,after,gd⟩ σ=True:=Cc rfl
@[go_sem] theorem Dg7 {x:Operand} : C5 ⟨dst,.nilCheck x,ty,pos,after,gd⟩ σ=True:=Cc rfl
@[go_sem] theorem Dh4 {op:BinOp} {t tz:TypeId} {x y:Operand} : C5 ⟨dst,.binOp op t x y tz,ty,pos,after,gd⟩ σ=True:=Cc rfl
@[go_sem] theorem Dn0 {op:UnOp} {t:TypeId} {x:Operand} : C5 ⟨dst,.unOp op t x,ty,pos,after,gd⟩ σ=True:=Cc rfl
@[go_sem] theorem D33 {s d:TypeId} {x:Operand} : C5 ⟨dst,.convert s d x,ty,pos,after,gd⟩ σ=True:=Cc rfl
@[go_sem] theorem D32 {f:Fn} {a c:Array Operand} : C5 ⟨dst,.makeFunc f a c,ty,pos,after,gd⟩ σ=True:=Cc rfl
@[go_sem] theorem Co7 {t:TypeId} {x:Operand} {l h m:Option Operand} : C5 ⟨dst,.slice t x l h m,ty,pos,after,gd⟩ σ=True:=Cc rfl
@[go_sem] theorem Bl0 {t:TypeId} {x:Operand} {f:Nat} : C5 ⟨dst,.fieldAddr t x f,ty,pos,after,gd⟩ σ=True:=Cc rfl
@[go_sem] theorem Co9 {t:TypeId} {x:Operand} {f:Nat} : C5 ⟨dst,.field t x f,ty,pos,after,gd⟩ σ=True:=Cc rfl
@[go_sem] theorem Bk9 {t:TypeId} {x i:Operand} : C5 ⟨dst,.indexAddr t x i,ty,pos,after,gd⟩ σ=True:=Cc rfl
@[go_sem] theorem Co8 {t:TypeId} {x i:Operand} : C5 ⟨dst,.index t x i,ty,pos,after,gd⟩ σ=True:=Cc rfl
@[go_sem] theorem Bx8 {x:Operand} {i:Nat} : C5 ⟨dst,.extract x i,ty,pos,after,gd⟩ σ=True:=Cc rfl
@[go_sem] theorem Cp0 {t:TypeId} {ps:Array (Nat×Operand)} : C5 ⟨dst,.build t ps,ty,pos,after,gd⟩ σ=True:=Cc rfl
@[go_sem] theorem Dh1 {x:Array Operand} {t:Array TypeId} : C5 ⟨dst,.call { callee:=.builtin .len,args:=x,argTypes:=t },ty,pos,after,gd⟩ σ=True:=Cc rfl
@[go_sem] theorem Dh0 {x:Array Operand} {t:Array TypeId} : C5 ⟨dst,.call { callee:=.builtin .max,args:=x,argTypes:=t },ty,pos,after,gd⟩ σ=True:=Cc rfl
@[go_sem] theorem Dg9 {x:Array Operand} {t:Array TypeId} : C5 ⟨dst,.call { callee:=.builtin .min,args:=x,argTypes:=t },ty,pos,after,gd⟩ σ=True:=Cc rfl
@[go_sem] theorem C79 {x:Array Operand} {t:Array TypeId} : C5 ⟨dst,.call { callee:=.builtin .append,args:=x,argTypes:=t },ty,pos,after,gd⟩ σ=K6 dst σ:=Jp rfl
@[go_sem] theorem D34 {f:Operand} {x:Array Operand} {t:Array TypeId} : C5 ⟨dst,.call { callee:=.value f,args:=x,argTypes:=t },ty,pos,after,gd⟩ σ=K6 dst σ:=Jp rfl
@[go_sem] theorem Cp1 {e:TypeId} : C5 ⟨dst,.alloc e,ty,pos,after,gd⟩ σ=K6 dst σ:=Jp rfl
@[go_sem] theorem Dh3 {e:TypeId} {x:Operand} : C5 ⟨dst,.box e x,ty,pos,after,gd⟩ σ=K6 dst σ:=Jp rfl
@[go_sem] theorem Bx7 {t:TypeId} {r:Option Operand} : C5 ⟨dst,.makeMap t r,ty,pos,after,gd⟩ σ=K6 dst σ:=Jp rfl
@[go_sem] theorem C77 {t:TypeId} {x i:Operand} {ok:Bool} : C5 ⟨dst,.lookup t x i ok,ty,pos,after,gd⟩ σ=True:=Cc rfl
@[go_sem] theorem Dg8 {t:TypeId} {x i y:Operand} : C5 ⟨dst,.mapUpdate t x i y,ty,pos,after,gd⟩ σ=True:=Cc rfl
@[go_sem] theorem Bg4 {t:TypeId} {k:Nat} {ps:Array (Nat×Operand)} : C5 ⟨dst,.buildSlice t k ps,ty,pos,after,gd⟩ σ=K6 dst σ:=Jp rfl
@[go_sem] theorem Cw2 {o:Oper} : vop P G σ o K=(C5 o σ/\B4 P G (ev σ.fr) σ.bk o K):=rfl
@[go_sem] theorem C27 {x:Operand} : B4 P G L bk ⟨dst,.move x,ty,pos,after,gd⟩ K=K (L x) bk:=rfl
@[go_sem] theorem Bo2 {x:Operand} : B4 P G L bk ⟨dst,.assign x,ty,pos,after,gd⟩ K=K (L x) bk:=rfl
@[go_sem] theorem Bt5 {e:TypeId} : B4 P G L bk ⟨dst,.alloc e,ty,pos,after,gd⟩ K=(match tyZ P e with
  | some (2,zs)=>(∀ v∈zs,okV v)/\K (.bp (cid dst) 0) (.arr (cid dst) (zs.map IV.val) :: bk)
  | some (_,zs)=>K (.bp (cid dst) 0) (.box (cid dst) (zs.map AV.val) :: bk)
  | none=>False):=rfl
@[go_sem] theorem Bg3 {t:TypeId} : B4 P G L bk ⟨dst,.makeMap t none,ty,pos,after,gd⟩ K=(match Pc P t with
  | some (k,_)=>True/\K (.mv (cid dst)) (.mp (cid dst) k [] :: bk)
  | none=>False):=rfl
@[go_sem] theorem Bg2 {t:TypeId} {q:IntKind} {m:Int} : B4 P G L bk ⟨dst,.makeMap t (some (.const (.int q m))),ty,pos,after,gd⟩ K=(match Pc P t with
  | some (k,_)=>(∃ q' m',nrm (L (.const (.int q m)))=.val (.int q' m'))/\K (.mv (cid dst)) (.mp (cid dst) k [] :: bk)
  | none=>False):=rfl
@[go_sem] theorem By5 {k:IntKind} {m:Int} : (∃ q' m',AV.val (.int k m)=.val (.int q' m'))=True:=eq_true ⟨_,_,rfl⟩
@[go_sem] theorem Bo1 {t:TypeId} {x i:Operand} {ok:Bool} : B4 P G L bk ⟨dst,.lookup t x i ok,ty,pos,after,gd⟩ K=match Pc P t,L x,nrm (L i) with
  | some (k,z),.mv b,.val (.int k' m)=>match C3 b bk with
   | some (.mp _ k'' kv)=>ok=false/\k'=k/\k''=k/\∃ u,(J3 kv m).getD z=u/\Ct (K (.val u) bk)
   | _=>False
  | _,_,_=>False:=rfl
@[go_sem] theorem Cb5 {t:TypeId} {x i y:Operand} : B4 P G L bk ⟨dst,.mapUpdate t x i y,ty,pos,after,gd⟩ K=Ac5 P t (L x) (L i) (L y) bk fun bk'=>K .any bk':=rfl
@[go_sem] theorem D17 {t:TypeId} {b:Nat} {k':IntKind} {m:Int} {u:Value} {KB:List BA->Prop} : Ac5 P t (.mv b) (.val (.int k' m)) (.val u) bk KB=match Pc P t with
  | some (k,_)=>match C3 b bk with
   | some (.mp _ k'' kv)=>k'=k/\k''=k/\KB (Ca b [.mp b k (K3 kv m u)] bk)
   | _=>False
  | _=>False:=by unfold Ac5;simp only [nrm];cases Pc P t<;>rfl
@[go_sem] theorem Cc0 {e:TypeId} {x:Operand} : B4 P G L bk ⟨dst,.box e x,ty,pos,after,gd⟩ K=(match L x with
  | .aggI cs=>K (.bp (cid dst) 0) (.arr (cid dst) cs :: bk)
  | u=>okC u=true/\K (.bp (cid dst) 0) (.box (cid dst) (B9 u) :: bk)):=rfl
@[go_sem] theorem C28 {t:TypeId} {x:Operand} : B4 P G L bk ⟨dst,.load t x,ty,pos,after,gd⟩ K=match tyK P t with
  | some (q,s)=>match L x with
   | .ip cs=>rdI q s cs fun r=>K r bk
   | .bp b p=>match C3 b bk with
    | some (.box _ cs)=>rdA q s (cs.drop p) fun r=>K r bk
    | some (.arr _ cs)=>match q with
     | 0=>∃ u,cs[p]? = some u/\Ct (K (nrm (.iv u)) bk)
     | 1=>∃ ds,(cs.drop p).take s=ds/\ds.length=s/\Ct (K (.agg (ds.map fun c=>nrm (.iv c))) bk)
     | _=>p=0/\s=cs.length/\K (.aggI cs) bk
    | _=>False
   | .rp b k i j=>match C3 b bk with
    | some (.row _ _ k' l)=>k'=k/\∃ cs,l[i]? = some cs/\Ct (rdI q s (cs.drop j) fun r=>K r bk)
    | some (.rowN _ _ k' l i' j' c')=>k'=k/\q=0/\∃ cs u,l[i]? = some cs/\cs[j]? = some u/\((i=i'/\j=j'/\Ct (K (.own c') bk))\/(¬ (i=i'/\j=j')/\Ct (K (nrm (.iv u)) bk)))
    | _=>False
   | _=>False
  | none=>False:=rfl
@[go_sem] theorem Cb4 {x : Operand} : B4 P G L bk ⟨dst, .nilCheck x, ty, pos, after, gd⟩ K = match L x with
      | .ip cs => K (.ip cs) bk
      | .bp b p => K (.bp b p) bk
      | .rp b k i j => K (.rp b k i j) bk
      | .fn f cs => K (.fn f cs) bk
      | _ => False := rfl
@[go_sem] theorem Cc1 {op:BinOp} {t tz:TypeId} {x y:Operand} : B4 P G L bk ⟨dst,.binOp op t x y tz,ty,pos,after,gd⟩ K=Bc P op t x y (L x) (L y) fun r=>K r bk:=rfl
@[go_sem] theorem Cw3 {op:UnOp} {t:TypeId} {x:Operand} : B4 P G L bk ⟨dst,.unOp op t x,ty,pos,after,gd⟩ K=match op,nrm (L x) with
  | .not,.val (.bool b)=>K (.val (.bool !b)) bk
  | .neg,.val (.int k m)=>∃ m',k.wrap (0 - m)=m'/\Ct (K (.val (.int k m')) bk)
  | _,_=>False:=rfl
@[go_sem] theorem C30 {s d:TypeId} {x:Operand} : B4 P G L bk ⟨dst,.convert s d x,ty,pos,after,gd⟩ K=Q3 P s d (nrm (L x)) fun r=>K r bk:=rfl
@[go_sem] theorem C93 {s d:TypeId} {q:IntKind} {m:Int} {KK:AV->Prop} : Q3 P s d (.val (.int q m)) KK=match Mw P s,Mw P d with
  | some _,some k=>∃ m',k.wrap m=m'/\Ct (KK (.val (.int k m')))
  | _,_=>False:=rfl
@[go_sem] theorem C92 {s d:TypeId} {KK:AV->Prop} : Q3 P s d (.val (.slice none 0 0)) KK=(Kj P s=true/\Fc P d=true/\KK (.val (.string ByteArray.empty))):=rfl
@[go_sem] theorem C91 {s d:TypeId} {z:ByteArray} {KK:AV->Prop} : Q3 P s d (.val (.string z)) KK=(Fc P s=true/\Kj P d=true/\z.size<=1048576/\KK (.iv (.sl 1 (byR (Jm z))))):=rfl
@[go_sem] theorem Cr0 {s d:TypeId} {k:Nat} {l:List (List IV)} {KK:AV->Prop} : Q3 P s d (.iv (.sl k l)) KK=(Kj P s=true/\Fc P d=true/\k=1/\∃ bs:List Nat,l=byR bs/\Ct (KK (.val (.string (T7 bs))))):=rfl
@[go_sem] theorem C29 {f:FuncId} {first caps:Array Operand} : B4 P G L bk ⟨dst,.makeFunc (.func f) first caps,ty,pos,after,gd⟩ K=(first=#[]/\K (.fn f (caps.toList.map (L))) bk):=rfl
@[go_sem] theorem Bt1 {t:TypeId} {x:Operand} {lo hi mx:Option Operand} : B4 P G L bk ⟨dst,.slice t x lo hi mx,ty,pos,after,gd⟩ K=match Cl P t,nrm (L x) with
  | some (_,k,_),.iv (.sl k' l) =>
   k=k'/\∃ i j:Nat,(match lo with | none=>i=0 | some p=>L p=.val (.int .i64 i))/\(match hi with | none=>j=l.length | some p=>L p=.val (.int .i64 j))/\i<=j/\j<=l.length/\mxQ L mx hi j l.length (Ct (K (.iv (.sl k ((l.take j).drop i))) bk))
  | some (_,k,_),.own b=>match C3 b bk,lo,hi,mx with
   | some (.row _ _ k' l),some p,none,none=>k=k'/\∃ i:Nat,L p=.val (.int .i64 i)/\i<=l.length/\Ct (K .any bk)
   | _,_,_,_=>False
  | _,_=>False:=rfl
@[go_sem] theorem Cl7 {hi:Option Operand} {j m:Nat} {X:Prop} : mxQ L none hi j m X=X:=rfl
@[go_sem] theorem Cb9 {x : Operand} {t : TypeId} : B4 P G L bk ⟨dst, .call { callee := .builtin .cap, args := #[x], argTypes := #[t] }, ty, pos, after, gd⟩ K = match nrm (L x) with
      | .val (.slice none 0 0) => (Cl P t).isSome = true /\ K (.val (.int .i64 0)) bk
      | _ => False := rfl
@[go_sem] theorem Dh2 {x:Array Operand} {t:Array TypeId} : C5 ⟨dst,.call { callee:=.builtin .cap,args:=x,argTypes:=t },ty,pos,after,gd⟩ σ=True:=Cc rfl
@[go_sem] theorem B43 {t:TypeId} {x:Operand} {f:Nat} : B4 P G L bk ⟨dst,.fieldAddr t x f,ty,pos,after,gd⟩ K=match tyF P t f with
  | some (off,_,s)=>s≠0/\match L x with
   | .ip cs=>K (.ip (cs.drop off)) bk
   | .bp b p=>K (.bp b (p+off)) bk
   | .rp b k i j=>K (.rp b k i (j+off)) bk
   | _=>False
  | none=>False:=rfl
@[go_sem] theorem Bt3 {t:TypeId} {x:Operand} {f:Nat} : B4 P G L bk ⟨dst,.field t x f,ty,pos,after,gd⟩ K=match tyF P t f,L x with
  | some (off,q,s),.agg cs=>rdA q s (cs.drop off) fun r=>K r bk
  | _,_=>False:=rfl
@[go_sem] theorem B42 {t:TypeId} {x i:Operand} : B4 P G L bk ⟨dst,.indexAddr t x i,ty,pos,after,gd⟩ K=match nrm (L i) with
  | .val (.int _ m)=>match Cl P t with
   | some (_,k,_)=>match nrm (L x) with
    | .iv (.sl k' l)=>k=k'/\0<=m/\∃ cs,l[m.toNat]? = some cs/\Ct (K (.ip cs) bk)
    | .own b=>match C3 b bk with
     | some (.row _ _ k' l)=>k=k'/\0<=m/\m.toNat < l.length/\Ct (K (.rp b k m.toNat 0) bk)
     | some (.rowN _ _ k' l _ _ _)=>k=k'/\0<=m/\m.toNat < l.length/\Ct (K (.rp b k m.toNat 0) bk)
     | _=>False
    | _=>False
   | none=>match Qu P t,L x with
    | some (n,_,k),.bp b p=>0<=m/\m < (n:Int)/\0 < k/\Ct (K (.bp b (p+m.toNat*k)) bk)
    | some (n,_,k),.ip cs=>0<=m/\m < (n:Int)/\0 < k/\Ct (K (.ip (cs.drop (m.toNat*k))) bk)
    | _,_=>False
  | _=>False:=rfl
@[go_sem] theorem Bt2 {t:TypeId} {x i:Operand} : B4 P G L bk ⟨dst,.index t x i,ty,pos,after,gd⟩ K=match nrm (L i),L x with
  | .val (.int _ m),.aggI cs=>match Qu P t with
   | some (n,0,1)=>0<=m/\m < (n:Int)/\∃ u,cs[m.toNat]? = some u/\Ct (K (nrm (.iv u)) bk)
   | _=>False
  | .val (.int _ m),.val (.string s)=>Fc P t=true/\0<=m/\∃ b,s[m.toNat]? = some b/\Ct (K (.val (.int .u8 (b.toNat:Nat))) bk)
  | _,_=>False:=rfl
@[go_sem] theorem Bo0 {t:TypeId} {parts:Array (Nat×Operand)} : B4 P G L bk ⟨dst,.build t parts,ty,pos,after,gd⟩ K=match Kk P t with
  | some (zs,places)=>match Q1 places (zs.map AV.val) (parts.toList.map fun p=>(p.1,L p.2)) with
   | some cs=>K (.agg cs) bk
   | none=>False
  | none=>False:=rfl
@[go_sem] theorem C87 {ps:List (Nat×Nat)} {cells:List AV} : Q1 ps cells []=some cells:=rfl
@[go_sem] theorem By1 {ps:List (Nat×Nat)} {cells:List AV} {i:Nat} {v:AV} {rest:List (Nat×AV)} : Q1 ps cells ((i,v) :: rest)=match ps[i]? with
  | none=>none
  | some (off,size)=>if (B9 v).length=size/\okC v=true/\off+size<=cells.length then Q1 ps (Ez cells off (B9 v)) rest else none:=rfl
@[go_sem] theorem Bh0 {x:Operand} {i:Nat} : B4 P G L bk ⟨dst,.extract x i,ty,pos,after,gd⟩ K=match L x with
  | .tup cs=>i < cs.length/\K (cs.getD i .any) bk
  | _=>False:=rfl
@[go_sem] theorem Bt0 {t:TypeId} {x y:Operand} : B4 P G L bk ⟨dst,.store t x y,ty,pos,after,gd⟩ K=Ai P t (L x) (L y) bk fun bk'=>K .any bk':=rfl
@[go_sem] theorem Bo3 {x y:Operand} {t t':TypeId} : B4 P G L bk ⟨dst,.call { callee:=.builtin .append,args:=#[x,y],argTypes:=#[t,t'] },ty,pos,after,gd⟩ K=(t'=t/\Ag P t (L x) (L y) (cid dst) bk K):=rfl
@[go_sem] theorem Cb8 {x:Operand} {t:TypeId} : B4 P G L bk ⟨dst,.call { callee:=.builtin .len,args:=#[x],argTypes:=#[t] },ty,pos,after,gd⟩ K=Bs P t (fun b=>C3 b bk) (L x) fun r=>K r bk:=rfl
@[go_sem] theorem Cb7 {x y : Operand} {tt : Array TypeId} : B4 P G L bk ⟨dst, .call { callee := .builtin .max, args := #[x, y], argTypes := tt }, ty, pos, after, gd⟩ K = match nrm (L x), nrm (L y) with
      | .val (.int k p), .val (.int _ q) => ∃ m, max p q = m /\ Ct (K (.val (.int k m)) bk)
      | _, _ => False := rfl
@[go_sem] theorem Cb6 {x y : Operand} {tt : Array TypeId} : B4 P G L bk ⟨dst, .call { callee := .builtin .min, args := #[x, y], argTypes := tt }, ty, pos, after, gd⟩ K = match nrm (L x), nrm (L y) with
      | .val (.int k p), .val (.int _ q) => ∃ m, min p q = m /\ Ct (K (.val (.int k m)) bk)
      | _, _ => False := rfl
def Aw (P:Program) (G:World->Prop) (f:FuncId) (args:List AV) (dst:Option Tmp) (bk:List BA) (K:AV->List BA->Prop):Prop:=(Ay P G (fun b=>C3 b bk) f args (cid dst) fun r nb=>K r (nb++bk))\/B48 P G f args (cid dst) bk K
@[go_sem] theorem C31 {fo:Operand} {args:Array Operand} {tt:Array TypeId} : B4 P G L bk ⟨dst,.call { callee:=.value fo,args:=args,argTypes:=tt },ty,pos,after,gd⟩ K=match L fo with
  | .fn f caps=>Aw P G f (args.toList.map L++caps) dst bk K
  | _=>False:=rfl
def bsQ (L:Operand->AV) (k len:Nat) (parts:Array (Nat×Operand)) (A B:List (List IV)->Prop):Prop:=∃ l:List (List IV),l.length=len/\0 < k/\len*k<=16777216/\(∀ (i:Nat) (cs:List IV),l[i]? = some cs->cs.length=k/\∃ x,parts[i]? = some (i,x)/\okC (L x)=true/\AsI (B9 (L x)) cs)/\parts.size=len/\(A l\/B l)
@[go_sem] theorem Bt4 {t:TypeId} {len:Nat} {parts:Array (Nat×Operand)} : B4 P G L bk ⟨dst,.buildSlice t len parts,ty,pos,after,gd⟩ K=(match Cl P t with
  | some (e,k,_)=>(tyZ P e).isSome=true/\bsQ L k len parts (fun l=>K (.own (cid dst)) (.row (cid dst) e k l :: bk)) (fun l=>K (.iv (.sl k l)) bk)
  | none=>False):=rfl
@[go_sem] theorem D19 {t:TypeId} {B:Nat->Option BA} {k:Nat} {l:List (List IV)} {KK:AV->Prop} : Bs P t B (.iv (.sl k l)) KK=((Cl P t).isSome=true/\KK (.val (.int .i64 (l.length:Nat)))):=rfl
@[go_sem] theorem Cm4 {t:TypeId} {B:Nat->Option BA} {b:Nat} {KK:AV->Prop} : Bs P t B (.own b) KK=match B b with
  | some (.row _ _ _ l)=>(Cl P t).isSome=true/\KK (.val (.int .i64 (l.length:Nat)))
  | some (.rowN _ _ _ l _ _ _)=>(Cl P t).isSome=true/\KK (.val (.int .i64 (l.length:Nat)))
  | _=>False:=rfl
@[go_sem] theorem Cm3 {t:TypeId} {B:Nat->Option BA} {s:ByteArray} {KK:AV->Prop} : Bs P t B (.val (.string s)) KK=(Fc P t=true/\KK (.val (.int .i64 (s.size:Nat)))):=rfl
@[go_sem] theorem Cm5 {t:TypeId} {B:Nat->Option BA} {KK:AV->Prop} : Bs P t B (.val (.slice none 0 0)) KK=((Cl P t).isSome=true/\KK (.val (.int .i64 0))):=rfl
section
variable {t : TypeId} {x y : Operand} {k k' : IntKind} {p q : Int} {KK : AV -> Prop}
@[go_sem] theorem B45 {v:Value} : Fw (.val v)=some v:=rfl
@[go_sem] theorem Cc4 {cs:List AV} : Fw (.agg cs)=(Fw.valAs cs).map fun l=>.agg l.toArray:=rfl
@[go_sem] theorem C33:Fw.valAs []=some []:=rfl
@[go_sem] theorem Bt6 {v:Value} {cs:List AV} : Fw.valAs (.val v :: cs)=(Fw.valAs cs).map fun l=>v :: l:=by
 show (match Fw (.val v),Fw.valAs cs with | some v,some l=>some (v :: l) | _,_=>none)=_
 rw [B45]
 cases Fw.valAs cs<;>rfl
@[go_sem] theorem D56 {op:BinOp} {u v:List AV} : Bc P op t x y (.agg u) (.agg v) KK=match Fw (.agg u),Fw (.agg v) with
  | some p,some q=>∃ r,(∀ w,(do eqGuard op t x y p q;binOp op t p q:Sem Value).run P w=.ok r w)/\Ct (KK (.val r))
  | _,_=>False:=by cases op<;>rfl
@[go_sem] theorem Cs8 {op:BinOp} {u v:Bool} : Bc P op t x y (.val (.bool u)) (.val (.bool v)) KK=∃ r,(∀ w,(do eqGuard op t x y (.bool u) (.bool v);binOp op t (.bool u) (.bool v):Sem Value).run P w=.ok r w)/\Ct (KK (.val r)):=by cases op<;>rfl
@[go_sem] theorem D50:Bc P .lss t x y (.val (.int k p)) (.val (.int k' q)) KK=(k=k'/\KK (.val (.bool (decide (p < q))))):=rfl
@[go_sem] theorem D51:Bc P .leq t x y (.val (.int k p)) (.val (.int k' q)) KK=(k=k'/\KK (.val (.bool (decide (p<=q))))):=rfl
@[go_sem] theorem D52:Bc P .gtr t x y (.val (.int k p)) (.val (.int k' q)) KK=(k=k'/\KK (.val (.bool (decide (q < p))))):=rfl
@[go_sem] theorem D53:Bc P .geq t x y (.val (.int k p)) (.val (.int k' q)) KK=(k=k'/\KK (.val (.bool (decide (q<=p))))):=rfl
@[go_sem] theorem D54:Bc P .eql t x y (.val (.int k p)) (.val (.int k' q)) KK=(k=k'/\KK (.val (.bool (decide (p=q))))):=rfl
@[go_sem] theorem D48:Bc P .neq t x y (.val (.int k p)) (.val (.int k' q)) KK=(k=k'/\KK (.val (.bool (decide (p≠q))))):=rfl
@[go_sem] theorem D57:Bc P .add t x y (.val (.int k p)) (.val (.int k' q)) KK=(k=k'/\∃ m,k.wrap (p+q)=m/\Ct (KK (.val (.int k m)))):=rfl
@[go_sem] theorem D43:Bc P .sub t x y (.val (.int k p)) (.val (.int k' q)) KK=(k=k'/\∃ m,k.wrap (p - q)=m/\Ct (KK (.val (.int k m)))):=rfl
@[go_sem] theorem D55:Bc P .and t x y (.val (.int k p)) (.val (.int k' q)) KK=∃ r,(∀ w,(do eqGuard .and t x y (.int k p) (.int k' q);binOp .and t (.int k p) (.int k' q):Sem Value).run P w=.ok r w)/\Ct (KK (.val r)):=rfl
@[go_sem] theorem D46:Bc P .rem t x y (.val (.int k p)) (.val (.int k' q)) KK=∃ r,(∀ w,(do eqGuard .rem t x y (.int k p) (.int k' q);binOp .rem t (.int k p) (.int k' q):Sem Value).run P w=.ok r w)/\Ct (KK (.val r)):=rfl
@[go_sem] theorem D47:Bc P .quo t x y (.val (.int k p)) (.val (.int k' q)) KK=∃ r,(∀ w,(do eqGuard .quo t x y (.int k p) (.int k' q);binOp .quo t (.int k p) (.int k' q):Sem Value).run P w=.ok r w)/\Ct (KK (.val r)):=rfl
@[go_sem] theorem Di6:Bc P .or t x y (.val (.int k p)) (.val (.int k' q)) KK=∃ r,(∀ w,(do eqGuard .or t x y (.int k p) (.int k' q);binOp .or t (.int k p) (.int k' q):Sem Value).run P w=.ok r w)/\Ct (KK (.val r)):=rfl
@[go_sem] theorem D42:Bc P .xor t x y (.val (.int k p)) (.val (.int k' q)) KK=∃ r,(∀ w,(do eqGuard .xor t x y (.int k p) (.int k' q);binOp .xor t (.int k p) (.int k' q):Sem Value).run P w=.ok r w)/\Ct (KK (.val r)):=rfl
@[go_sem] theorem D45:Bc P .shl t x y (.val (.int k p)) (.val (.int k' q)) KK=∃ r,(∀ w,(do eqGuard .shl t x y (.int k p) (.int k' q);binOp .shl t (.int k p) (.int k' q):Sem Value).run P w=.ok r w)/\Ct (KK (.val r)):=rfl
@[go_sem] theorem D44:Bc P .shr t x y (.val (.int k p)) (.val (.int k' q)) KK=∃ r,(∀ w,(do eqGuard .shr t x y (.int k p) (.int k' q);binOp .shr t (.int k p) (.int k' q):Sem Value).run P w=.ok r w)/\Ct (KK (.val r)):=rfl
@[go_sem] theorem D49:Bc P .mul t x y (.val (.int k p)) (.val (.int k' q)) KK=(k=k'/\∃ m,k.wrap (p*q)=m/\Ct (KK (.val (.int k m)))):=rfl
end
end
@[go_sem] theorem C98 {i:Nat} {c:AV} {cs:List AV} : T1 i (c :: cs)=(i,c) :: T1 (i+1) cs:=rfl
@[go_sem] theorem Ct2 {i:Nat} : T1 i []=[]:=rfl
@[go_sem] theorem C69 {c:AV} : Ab9 [c]=c:=rfl
@[go_sem] theorem C68 {c d:AV} {l:List AV} : Ab9 (c :: d :: l)=.tup (c :: d :: l):=rfl
@[go_sem] theorem D21 {ρ:Nat->Nat} {fr:List (Nat×AV)} : leF ρ fr []=True:=rfl
@[go_sem] theorem Cm7 {ρ:Nat->Nat} {fr r:List (Nat×AV)} {i:Nat} {c:AV} : leF ρ fr ((i,c) :: r)=(look fr i=c.ren ρ/\leF ρ fr r):=rfl
@[go_sem] theorem D22 {ρ:Nat->Nat} {bk:List BA} : leB ρ bk []=True:=rfl
@[go_sem] theorem Cm8 {ρ:Nat->Nat} {bk r:List BA} {b:BA} : leB ρ bk (b :: r)=(C3 (ρ b.id) bk=some (b.ren ρ)/\leB ρ bk r):=rfl
@[go_sem] theorem C71 {ρ:Nat->Nat} : D4 ρ []=[]:=rfl
@[go_sem] theorem Bx5 {ρ:Nat->Nat} {b:BA} {r:List BA} : D4 ρ (b :: r)=ρ b.id :: D4 ρ r:=rfl
@[go_sem] theorem Dg3 {b:Nat} {cs:List AV} : (BA.box b cs).id=b:=rfl
@[go_sem] theorem Dg4 {b:Nat} {cs:List IV} : (BA.arr b cs).id=b:=rfl
@[go_sem] theorem D23 {b e k i j d:Nat} {l:List (List IV)} : (BA.rowN b e k l i j d).id=b:=rfl
@[go_sem] theorem Dg2 {b:Nat} {F:Far} : (BA.opq b F).id=b:=rfl
@[go_sem] theorem Dm9 {b:Nat} {k:IntKind} {kv:List (Int×Value)} : (BA.mp b k kv).id=b:=rfl
@[go_sem] theorem Dg1 {b e k:Nat} {l:List (List IV)} : (BA.row b e k l).id=b:=rfl
section
variable {ρ : Nat -> Nat}
@[go_sem] theorem D07:AV.any.ren ρ=.any:=rfl
@[go_sem] theorem D04 {v:Value} : (AV.val v).ren ρ=.val v:=rfl
@[go_sem] theorem Dd8 {i:IV} : (AV.iv i).ren ρ=.iv i:=rfl
@[go_sem] theorem Dd9 {cs:List IV} : (AV.ip cs).ren ρ=.ip cs:=rfl
@[go_sem] theorem Ck4 {cs:List IV} : (AV.aggI cs).ren ρ=.aggI cs:=rfl
@[go_sem] theorem De1 {b o:Nat} : (AV.bp b o).ren ρ=.bp (ρ b) o:=rfl
@[go_sem] theorem D06 {b:Nat} : (AV.own b).ren ρ=.own (ρ b):=rfl
@[go_sem] theorem D08 {cs:List AV} : (AV.agg cs).ren ρ=.agg (AV.ren.rens ρ cs):=rfl
@[go_sem] theorem D05 {cs:List AV} : (AV.tup cs).ren ρ=.tup (AV.ren.rens ρ cs):=rfl
@[go_sem] theorem De0 {f:Nat} {cs:List AV} : (AV.fn f cs).ren ρ=.fn f (AV.ren.rens ρ cs):=rfl
@[go_sem] theorem Ck3:AV.ren.rens ρ []=[]:=rfl
@[go_sem] theorem C61 {c:AV} {cs:List AV} : AV.ren.rens ρ (c :: cs)=c.ren ρ :: AV.ren.rens ρ cs:=rfl
@[go_sem] theorem Ck8 {b:Nat} {cs:List AV} : (BA.box b cs).ren ρ=.box (ρ b) (AV.ren.rens ρ cs):=rfl
@[go_sem] theorem Ck9 {b:Nat} {cs:List IV} : (BA.arr b cs).ren ρ=.arr (ρ b) cs:=rfl
@[go_sem] theorem C63 {b e k i j d:Nat} {l:List (List IV)} : (BA.rowN b e k l i j d).ren ρ=.rowN (ρ b) e k l i j (ρ d):=rfl
@[go_sem] theorem Ck7 {b:Nat} {F:Far} : (BA.opq b F).ren ρ=.opq (ρ b) F:=rfl
@[go_sem] theorem D09 {b:Nat} {k:IntKind} {kv:List (Int×Value)} : (BA.mp b k kv).ren ρ=.mp (ρ b) k kv:=rfl
@[go_sem] theorem Dd7 {b:Nat} : (AV.mv b).ren ρ=.mv (ρ b):=rfl
@[go_sem] theorem Ck6 {b e k:Nat} {l:List (List IV)} : (BA.row b e k l).ren ρ=.row (ρ b) e k l:=rfl
end
@[go_sem] theorem Cj9 {P:Program} {σ:Ab} {K:List AV->Prop} : Mt P σ [] K=K []:=rfl
@[go_sem] theorem Cj8 {P:Program} {σ:Ab} {t:Nat} {r:List ResultVar} {K:List AV->Prop} : Mt P σ (.tmp t :: r) K=Mt P σ r fun l=>K (look σ.fr t :: l):=rfl
@[go_sem] theorem C56 {P:Program} {σ:Ab} {d t:Nat} {r:List ResultVar} {K:List AV->Prop} : Mt P σ (.cell d t :: r) K=match look σ.fr d with
  | .bp b p=>match C3 b σ.bk,tyK P t with
   | some (.box _ cs),some (q,s)=>rdA q s (cs.drop p) fun u=>Mt P σ r fun l=>K (u :: l)
   | some (.arr _ cs),some (2,s)=>p=0/\s=cs.length/\Mt P σ r fun l=>K (.aggI cs :: l)
   | _,_=>False
  | _=>False:=rfl
def B96 (lo hi:Nat) (A:List Nat) (skip:Nat):Nat->List AV->Bool
 | _,[]=>true
 | j,x :: r=>(x.off lo hi || (Nat.beq j skip || (A.getD j 0).testBit skip))&&B96 lo hi A skip (j+1) r
def B95 (lo hi:Nat) (ex:Nat->Bool):Nat->List BA->Bool
 | _,[]=>true
 | t,b :: r=>(b.off lo hi || ex t)&&B95 lo hi ex (t+1) r
def exT (A:List Nat) (bs:List Nat) (hs:List El) (i t:Nat):Bool:=(outs bs hs i).contains t || (List.range hs.length).any fun j=>(outs bs hs j).contains t&&(A.getD j 0).testBit i
def Wf (A:List Nat) (toks:List BA) (fr0:List (Nat×AV)) (rs:List AV) (hs:List El) (bs:List Nat):Nat->List Oper->Bool
 | _,[]=>true
 | i,o :: r=>(match G6 o with
  | true=>Kg (cid o.dst) (cid o.dst+100) fr0&&B96 (cid o.dst) (cid o.dst+100) A i 0 rs&&B95 (cid o.dst) (cid o.dst+100) (exT A bs hs i) 0 toks
  | false=>true)&&Wf A toks fr0 rs hs bs (i+1) r
theorem Ac1 {lo hi skip:Nat} {A:List Nat} : ∀ {rs:List AV} {s:Nat},B96 lo hi A skip s rs=true->∀ (j:Nat) x,s+j≠skip->(A.getD (s+j) 0).testBit skip=false->rs[j]? = some x->x.off lo hi=true
 | [],_,_,j,x,_,_,h=>by simp at h
 | y :: r,s,h,j,x,hne,hA,hx=>by
  simp only [B96,Bool.and_eq_true,Bool.or_eq_true] at h
  cases j with
  | zero =>
   simp at hx;subst hx
   rcases h.1 with h | h | h
   ·exact h
   ·exact absurd (Nat.eq_of_beq_eq_true h) (by simpa using hne)
   ·rw [Nat.add_zero] at hA
    rw [hA] at h;cases h
  | succ j=>exact Ac1 h.2 j x (by omega) (by rwa [show s+1+j=s+(j+1) by omega]) (by simpa using hx)
theorem Ac0 {lo hi:Nat} {ex:Nat->Bool} : ∀ {toks:List BA} {s:Nat},B95 lo hi ex s toks=true->∀ (j:Nat) b,ex (s+j)=false->toks[j]? = some b->b.off lo hi=true
 | [],_,_,j,x,_,h=>by simp at h
 | y :: r,s,h,j,x,hne,hx=>by
  simp only [B95,Bool.and_eq_true,Bool.or_eq_true] at h
  cases j with
  | zero =>
   simp at hx;subst hx
   rcases h.1 with h | h
   ·exact h
   ·rw [Nat.add_zero] at hne
    rw [hne] at h;cases h
  | succ j=>exact Ac0 h.2 j x (by rwa [show s+1+j=s+(j+1) by omega]) (by simpa using hx)
theorem Ap2 {toks:List BA} {fr0:List (Nat×AV)} {ops:List Oper} {rs:List AV} {hs:List El} {bs:List Nat} (h:Wf (bef [] (ops.map Cd)) toks fr0 rs hs bs 0 ops=true):Wg toks fr0 ops rs hs bs:=by
 obtain ⟨A,hA⟩ : ∃ A,bef [] (ops.map Cd)=A:=⟨_,rfl⟩
 rw [hA] at h
 unfold Wg
 rw [hA]
 have key:∀ (ops:List Oper) (s:Nat),Wf A toks fr0 rs hs bs s ops=true->∀ (i:Nat) o,ops[i]? = some o->G6 o=true->Kg (cid o.dst) (cid o.dst+100) fr0=true/\B96 (cid o.dst) (cid o.dst+100) A (s+i) 0 rs=true/\B95 (cid o.dst) (cid o.dst+100) (exT A bs hs (s+i)) 0 toks=true:=by
  intro ops
  induction ops with
  | nil=>intro s _ i o h;simp at h
  | cons q r ih =>
   intro s h i o ho hm
   simp only [Wf,Bool.and_eq_true] at h
   cases i with
   | zero =>
    simp at ho;subst ho
    have:=h.1
    rw [hm] at this
    simp only [Bool.and_eq_true] at this
    exact ⟨this.1.1,this.1.2,this.2⟩
   | succ i =>
    have:=ih (s+1) h.2 i o (by simpa using ho) hm
    rwa [show s+1+i=s+(i+1) by omega] at this
 intro i o ho hm
 obtain ⟨k1,k2,k3⟩:=key ops 0 h i o ho hm
 simp only [Nat.zero_add] at k2 k3
 refine ⟨k1,fun j x hj hb hx=>Ac1 k2 j x (by simpa using hj) (by rwa [Nat.zero_add]) hx,fun t b ht ha hb=>Ac0 k3 t b ?_ hb⟩
 rw [Nat.zero_add]
 unfold exT
 rw [Bool.or_eq_false_iff]
 refine ⟨by simpa using ht,?_⟩
 rw [List.any_eq_false]
 intro j _ hc
 rw [Bool.and_eq_true] at hc
 rw [ha j (by simpa using hc.1)] at hc
 cases hc.2
@[go_sem] theorem C22 {ops:List Oper} {fr:List (Nat×AV)} {j:Nat} : Gx ops fr j=match ops[j]? with
 | some o=>match o.dst with
  | some d=>nrm (look fr d)
  | none=>.any
 | none=>.any:=rfl
section
variable {P : Program} {G : World -> Prop} {fr : List (Nat × AV)} {bk : List BA} {ops rest : List Oper} {KK : Ab -> Prop} {dst : Option Tmp} {op : Op} {ty : TypeId} {pos : String} {after : Array Edge} {j : Nat} {b : Bool}
variable {ds : List Nat} {fr0 : List (Nat × AV)} {toks : List BA} {rs : List AV} {KD : List BA -> List AV -> Prop} {sl : List (Nat × Nat)} {pre rd cs : List Nat} {out : Nat} {hs : List El}
end
theorem AW.reg {P:Program} {G:World->Prop} {V w0:World} {n:Nd} {ro:Option Nat} {σ:Ab} {K:Exit->Ab->Prop} {id:Nat} {l:List Oper} (hd:D8 n l=true) (h:∀ KK:Ab->Prop,(∀ σ',K .normal σ'->KK σ')->Bd P G l l σ KK):AW P G ro V w0 n (.region id l.toArray false) σ K:=AW.region hd (h _ fun _ h=>h)
theorem AW.scope {P:Program} {G:World->Prop} {V w0:World} {n:Nd} {ro:Option Nat} {σ:Ab} {K:Exit->Ab->Prop} {c:Code} (h:AW P G ro V w0 n c σ fun e σ'=>match e with
  | .goto _=>False
  | e=>K e σ'):AW P G ro V w0 n (.scope c) σ K:=fun hG m E a w hn hs=>Jd (wpIn_mono (h hG m E a w hn hs) fun e a w h=>by
 obtain ⟨m',E',σ',h0,h1,h2⟩:=h
 cases e<;>first | exact ⟨m',E',σ',h0,h1,h2⟩ | exact h1.elim)
theorem AW.drawn {P:Program} {G:World->Prop} {V w0:World} {n:Nd} {ro:Option Nat} {σ:Ab} {K:Exit->Ab->Prop} {id m:Nat} {ops:List Oper} (hs:List El) {ds fin bs:List Nat} (hp:P.follows .mixedOrders=true) (hm:σ.bk.length=m) (hok:Ap7 n m ops hs=true) (hds:F7 ops=ds) (hfin:Bc2 m hs=fin) (hbs:Cx m hs=bs)
  (h:∀ KD:List BA->List AV->Prop,(∀ toks rs,(Wf (bef [] (ops.map Cd)) toks σ.fr rs hs bs 0 ops=true/\K .normal ⟨U4 ops rs σ.fr,Cn fin toks⟩)->KD toks rs)->Ap P G ds σ.fr ops hs σ.bk [] KD):AW P G ro V w0 n (.region id ops.toArray true) σ K:=by
 subst hds hfin hbs
 exact AW.draw hs hp hm hok (fun _ _ h=>Ap2 h) (h _ fun _ _ h=>h)
section
variable {P : Program} {G : World -> Prop} {ds : List Nat} {fr0 : List (Nat × AV)} {toks : List BA} {rs : List AV} {K : List BA -> List AV -> Prop}
@[go_sem] theorem C32:Ap P G ds fr0 [] [] toks rs K=K toks rs:=rfl
theorem Q6 {dst:Option Tmp} {op:Op} {ty:TypeId} {pos:String} {after:Array Edge} {gd:Option (Nat×Bool)} {r:List Oper} {sl:List (Nat×Nat)} {pre rd cs:List Nat} {out:Nat} {hs:List El} :
  Ap P G ds fr0 (⟨dst,op,ty,pos,after,gd⟩ :: r) (⟨sl,pre,rd,cs,out⟩ :: hs) toks rs K=Mg rs gd (B4 P G (ev (J5 sl rs++Fj pre ds++fr0)) (Cn cs toks++Cn rd toks) ⟨dst,op,ty,pos,after,gd⟩ fun x bk' =>
   bk'=bk'.take out++Cn rd toks/\(bk'.take out).length=out/\Ap P G ds fr0 r hs (toks++bk'.take out) (rs++[x]) K) (out=0/\cs=[]/\Ap P G ds fr0 r hs toks (rs++[.val undef]) K):=rfl
@[go_sem] theorem Bq1 {run skip:Prop} : Mg rs none run skip=run:=rfl
@[go_sem] theorem Bq0 {j:Nat} {b:Bool} {run skip:Prop} : Mg rs (some (j,b)) run skip=match nrm (rs.getD j .any) with
  | .val (.bool true)=>(match b with | true=>run | false=>skip)
  | .val (.bool false)=>(match b with | true=>skip | false=>run)
  | .val (.tuple _)=>skip
  | _=>False:=rfl
@[go_sem] theorem Cj5:J5 [] rs=[]:=rfl
@[go_sem] theorem C54 {d j:Nat} {r:List (Nat×Nat)} : J5 ((d,j) :: r) rs=(d,rs.getD j .any) :: J5 r rs:=rfl
@[go_sem] theorem B04 {pre:List Nat} : Fj pre []=[]:=rfl
@[go_sem] theorem Cm0 {d:Nat} {r:List Nat} : Fj [] (d :: r)=(d,.any) :: Fj [] r:=rfl
theorem An6 {p d:Nat} {pre r:List Nat} : Fj (p :: pre) (d :: r)=if (p :: pre).contains d then Fj (p :: pre) r else (d,.any) :: Fj (p :: pre) r:=rfl
@[go_sem] theorem Cj6:Cn [] toks=[]:=rfl
@[go_sem] theorem C55 {t:Nat} {r:List Nat} : Cn (t :: r) toks=toks.getD t (.arr 0 []) :: Cn r toks:=rfl
@[go_sem] theorem Cp3 {fr:List (Nat×AV)} : U4 [] rs fr=fr:=rfl
@[go_sem] theorem C85 {d:Nat} {op:Op} {ty:TypeId} {pos:String} {after:Array Edge} {gd:Option (Nat×Bool)} {r:List Oper} {x:AV} {fr:List (Nat×AV)} : U4 (⟨some d,op,ty,pos,after,gd⟩ :: r) (x :: rs) fr=(d,x) :: U4 r rs fr:=rfl
@[go_sem] theorem C86 {op:Op} {ty:TypeId} {pos:String} {after:Array Edge} {gd:Option (Nat×Bool)} {r:List Oper} {x:AV} {fr:List (Nat×AV)} : U4 (⟨none,op,ty,pos,after,gd⟩ :: r) (x :: rs) fr=U4 r rs fr:=rfl
end
attribute [go_sem] Option.map_some Option.map_none List.getElem?_cons_zero List.getElem?_cons_succ List.map_cons List.map_nil List.take_succ_cons List.take_zero List.drop_succ_cons List.drop_zero List.length_cons List.length_nil List.nil_append List.cons_append List.getD_cons_zero List.getD_cons_succ List.set_cons_zero List.set_cons_succ List.length_map true_and and_true Option.isSome_some List.append_nil List.take_nil List.drop_nil eq_self
theorem Bb4 {x:Int} (h1:-9223372036854775808<=x) (h2:x<=9223372036854775807):IntKind.i64.wrap x=x:=IntWalk.i64_in _ (by omega)
theorem Dv {α β:Type} {f:α->β} {l:List α} {i:Nat} {y:α} (h:l[i]? = some y):(l.map f)[i]? = some (f y):=by rw [List.getElem?_map,h];rfl
@[go_sem] theorem C48 {m:Nat} : ((m:Nat):Int).toNat=m:=rfl
-- the small first parts of the formulas
section
variable {b : Prop}
theorem nF {d:Option Tmp} {σ:Ab} (hb:b) (h:K6 d σ:=by rfl):K6 d σ/\b:=⟨h,hb⟩
end
-- what simp may go into
section
variable {P : Program} {G : World -> Prop} {V w0 : World} {n : Nd} {ro : Option Nat} {σ σ' : Ab} {K : AV -> List BA -> Prop} {KE : Exit -> Ab -> Prop} {KS : Ab -> Prop} {KA : AV -> Prop} {KB : List BA -> Prop} {o : Oper} {ops l : List Oper} {L L' : Operand -> AV} {bk bk' : List BA} {c : Code} {x x' y y' : AV} {cs cs' : List AV} {is is' : List IV} {t : TypeId} {f : FuncId} {dst : Option Tmp}
@[congr] theorem Do2 {B0:Prop} (h:σ=σ') (_:Tk=B0):AW P G ro V w0 n c σ KE=AW P G ro V w0 n c σ' KE:=by rw [h]
@[congr] theorem Cv7 {B0:Prop} (h:σ=σ') (_:Tk=B0):Bd P G ops l σ KS=Bd P G ops l σ' KS:=by rw [h]
@[congr] theorem D79 {B0:Prop} (h:σ=σ') (_:Tk=B0):vop P G σ o K=vop P G σ' o K:=by rw [h]
@[congr] theorem Cw4 {B0:Prop} (h:L=L') (hb:bk=bk') (_:Tk=B0):B4 P G L bk o K=B4 P G L' bk' o K:=by rw [h,hb]
@[congr] theorem Cr7 {B0:Prop} (h:cs=cs') (hb:bk=bk') (_:Tk=B0):Aw P G f cs dst bk K=Aw P G f cs' dst bk' K:=by rw [h,hb]
@[congr] theorem C50 {B0:Prop} (h:x=x') (h2:y=y') (hb:bk=bk') (_:Tk=B0):Ai P t x y bk KB=Ai P t x' y' bk' KB:=by rw [h,h2,hb]
@[congr] theorem Cr1 {B0:Prop} {s d:TypeId} (h:x=x') (_:Tk=B0):Q3 P s d x KA=Q3 P s d x' KA:=by rw [h]
@[congr] theorem D18 {B0:Prop} {i i':AV} (h:x=x') (h3:i=i') (h2:y=y') (hb:bk=bk') (_:Tk=B0):Ac5 P t x i y bk KB=Ac5 P t x' i' y' bk' KB:=by rw [h,h3,h2,hb]
@[congr] theorem C12 {B0:Prop} {d d':Nat} (h:x=x') (h2:y=y') (hd:d=d') (hb:bk=bk') (_:Tk=B0):Ag P t x y d bk K=Ag P t x' y' d' bk' K:=by rw [h,h2,hd,hb]
@[congr] theorem Di4 {B0:Prop} {k m:Nat} {parts:Array (Nat×Operand)} {C D:List (List IV)->Prop} (h:L=L') (_:Tk=B0):bsQ L k m parts C D=bsQ L' k m parts C D:=by rw [h]
@[congr] theorem D20 {B0:Prop} {B:Nat->Option BA} (h:x=x') (_:Tk=B0):Bs P t B x KA=Bs P t B x' KA:=by rw [h]
@[congr] theorem D58 {B0:Prop} {op:BinOp} {u v:Operand} (h:x=x') (h2:y=y') (_:Tk=B0):Bc P op t u v x y KA=Bc P op t u v x' y' KA:=by rw [h,h2]
@[congr] theorem De2 {B0:Prop} {q s:Nat} (h:is=is') (_:Tk=B0):rdI q s is KA=rdI q s is' KA:=by rw [h]
@[congr] theorem De3 {B0:Prop} {q s:Nat} (h:cs=cs') (_:Tk=B0):rdA q s cs KA=rdA q s cs' KA:=by rw [h]
@[congr] theorem Cc3 {B0:Prop} {ds:List Nat} {fr0:List (Nat×AV)} {hs:List El} {KD:List BA->List AV->Prop} (h:bk=bk') (h2:cs=cs') (_:Tk=B0):Ap P G ds fr0 l hs bk cs KD=Ap P G ds fr0 l hs bk' cs' KD:=by rw [h,h2]
@[congr] theorem D03 {B0:Prop} {rs:List ResultVar} {KL:List AV->Prop} (h:σ=σ') (_:Tk=B0):Mt P σ rs KL=Mt P σ' rs KL:=by rw [h]
def Ka (x:AV) (A B:Prop):Prop:=∃ t,x=.val (.bool t)/\(t=true->A)/\(t=false->B)
variable {A B : Prop}
@[congr] theorem Cr5 {B0:Prop} (h:x=x') (_:Tk=B0):Ka x A B=Ka x' A B:=by rw [h]
@[go_sem] theorem Bm0:Ka (.val (.bool true)) A B=A:=by simp [Ka]
@[go_sem] theorem Bm1:Ka (.val (.bool false)) A B=B:=by simp [Ka]
@[go_sem] theorem Cr3 {t:Bool} (h:t=true):Ka (.val (.bool t)) A B=A:=by rw [h,Bm0]
@[go_sem] theorem Cr4 {t:Bool} (h:t=false):Ka (.val (.bool t)) A B=B:=by rw [h,Bm1]
theorem Da {t:Bool} (h1:t=true->A) (h2:t=false->B):Ka (.val (.bool t)) A B:=⟨t,rfl,h1,h2⟩
def Rk (p:Bool) (A:Prop):Prop:=p=true/\A
@[congr] theorem Dn6 {B0:Prop} {p:Bool} (_:Tk=B0):Rk p A=Rk p A:=rfl
@[go_sem] theorem Dq0 {p:Bool} (h:p=true):Rk p A=A:=by simp [Rk,h]
def W1 (P:Program) (G:World->Prop) (ro:Option Nat) (V w0:World) (n:Nd):Code->Ab->(Exit->Ab->Prop)->Prop
 | .skip,σ,K=>K .normal σ
 | .ret,σ,K=>K .ret σ
 | .exit id,σ,K=>K (.exit id) σ
 | .label _,σ,K=>K .normal σ
 | .seq x y,σ,K=>W1 P G ro V w0 n x σ fun e σ'=>match e with
  | .normal=>AW P G ro V w0 n y σ' K
  | e=>K e σ'
 | .block id c,σ,K=>W1 P G ro V w0 n c σ fun e σ'=>match e with
  | .exit j=>if j=id then K .normal σ' else K (.exit j) σ'
  | e=>K e σ'
 | .scope c,σ,K=>W1 P G ro V w0 n c σ fun e σ'=>match e with
  | .goto _=>False
  | e=>K e σ'
 | .cond c x y,σ,K=>Ka (nrm (ev σ.fr c)) (AW P G ro V w0 n x σ K) (AW P G ro V w0 n y σ K)
 | .region _ ops false,σ,K=>Rk (D8 n ops.toList) (Bd P G ops.toList ops.toList σ fun σ'=>K .normal σ')
 | c,σ,K=>AW P G ro V w0 n c σ K
def B57:Code->Bool
 | .region _ _ d=>!d
 | .loop _=>false
 | .rangeFunc _ _ _ _=>false
 | .goto _=>false
 | .refuse _=>false
 | _=>true
@[congr] theorem Dn5 {B0:Prop} (h:σ=σ') (_:Tk=B0):W1 P G ro V w0 n c σ KE=W1 P G ro V w0 n c σ' KE:=by rw [h]
theorem Aq5:∀ {c:Code} {σ:Ab} {K:Exit->Ab->Prop},W1 P G ro V w0 n c σ K->AW P G ro V w0 n c σ K:=by
 intro c
 induction c with
 | skip=>exact fun h=>AW.skip h
 | ret=>exact fun h=>AW.ret h
 | exit id=>exact fun h=>AW.exit h
 | label l=>exact fun h=>AW.label h
 | seq x y ihx _=>exact fun h=>AW.seq (ihx h)
 | block id c ih=>exact fun h=>AW.block (ih h)
 | scope c ih=>exact fun h=>AW.scope (ih h)
 | cond c x y _ _=>exact fun ⟨t,h0,h1,h2⟩=>AW.cond h0 h1 h2
 | region id ops d =>
  cases d with
  | false =>
   intro σ K h
   exact AW.region (l:=ops.toList) h.1 h.2
  | true=>exact fun h=>h
 | _=>exact fun h=>h
theorem st_ (_:B57 c=true) (h:W1 P G ro V w0 n c σ KE):AW P G ro V w0 n c σ KE:=Aq5 h
variable {id : Nat} {a b : Code}
@[go_sem] theorem D65:W1 P G ro V w0 n .skip σ KE=KE .normal σ:=rfl
@[go_sem] theorem Dj7:W1 P G ro V w0 n .ret σ KE=KE .ret σ:=rfl
@[go_sem] theorem D67:W1 P G ro V w0 n (.exit id) σ KE=KE (.exit id) σ:=rfl
@[go_sem] theorem Cu0:W1 P G ro V w0 n (.label id) σ KE=KE .normal σ:=rfl
@[go_sem] theorem Dj6:W1 P G ro V w0 n (.seq a b) σ KE=W1 P G ro V w0 n a σ fun e σ'=>match e with
  | .normal=>AW P G ro V w0 n b σ' KE
  | e=>KE e σ':=rfl
@[go_sem] theorem Cu2:W1 P G ro V w0 n (.block id a) σ KE=W1 P G ro V w0 n a σ fun e σ'=>match e with
  | .exit j=>if j=id then KE .normal σ' else KE (.exit j) σ'
  | e=>KE e σ':=rfl
@[go_sem] theorem Ct8:W1 P G ro V w0 n (.scope a) σ KE=W1 P G ro V w0 n a σ fun e σ'=>match e with
  | .goto _=>False
  | e=>KE e σ':=rfl
@[go_sem] theorem D68 {q:Operand} : W1 P G ro V w0 n (.cond q a b) σ KE=Ka (nrm (ev σ.fr q)) (AW P G ro V w0 n a σ KE) (AW P G ro V w0 n b σ KE):=rfl
@[go_sem] theorem Ca0:W1 P G ro V w0 n (.region id l.toArray false) σ KE=Rk (D8 n l) (Bd P G l l σ fun σ'=>KE .normal σ'):=rfl
@[go_sem] theorem Cu1 {q:Array Oper} : W1 P G ro V w0 n (.region id q true) σ KE=AW P G ro V w0 n (.region id q true) σ KE:=rfl
@[go_sem] theorem D66:W1 P G ro V w0 n (.loop a) σ KE=AW P G ro V w0 n (.loop a) σ KE:=rfl
@[go_sem] theorem Ct9 {q:Operand} {ps:Array Tmp} : W1 P G ro V w0 n (.rangeFunc q ps a b) σ KE=AW P G ro V w0 n (.rangeFunc q ps a b) σ KE:=rfl
end
theorem g {A B:Prop} (hb:B) (h:A=B:=by (conv=>lhs;try simp -implicitDefEqProofs (disch:=first | with_unfolding_all exact Eq.trans rfl rfl | omega) only [go_sem,seval]);try rfl):A:=h.mpr hb
-- premises that the discharger settles
section
variable {b : Prop} {P : Program} {G : World -> Prop} {ops rest : List Oper} {KK : Ab -> Prop} {σ : Ab} {d : Option Tmp} {op : Op} {ty : TypeId} {pos : String} {after : Array Edge} {j : Nat} {g : Bool}
@[go_sem] theorem D28 (h:(Kg (cid d) (cid d+100) σ.fr&&Ha (cid d) (cid d+100) σ.bk)=true):K6 d σ=True:=eq_true h
@[go_sem] theorem Dm8 {y:AV} (h:okC y=true):(okC y=true)=True:=eq_true h
@[go_sem] theorem D75 {x:Int} {KI:Int->Prop} (h1:-9223372036854775808<=x) (h2:x<=9223372036854775807):(∃ m,IntKind.i64.wrap x=m/\Ct (KI m))=KI x:=by simp [Ct,Bb4 h1 h2]
@[go_sem] theorem D77 (h:Gx ops σ.fr j=.val (.bool g)):Bd P G ops (⟨d,op,ty,pos,after,some (j,g)⟩ :: rest) σ KK=vop P G σ ⟨d,op,ty,pos,after,some (j,g)⟩ fun r bk=>Bd P G ops rest ⟨Dy d r σ.fr,bk⟩ KK:=by
 rw [Q5]
 simp only [h,true_implies]
 cases g<;>simp
@[go_sem] theorem D78 (h:Gx ops σ.fr j=.val (.bool !g)):Bd P G ops (⟨d,op,ty,pos,after,some (j,g)⟩ :: rest) σ KK=Bd P G ops rest ⟨Dy d (.val undef) σ.fr,σ.bk⟩ KK:=by
 rw [Q5]
 simp only [h,true_implies]
 cases g<;>simp
@[go_sem] theorem D76 (h:Gx ops σ.fr j=.val undef):Bd P G ops (⟨d,op,ty,pos,after,some (j,g)⟩ :: rest) σ KK=Bd P G ops rest ⟨Dy d (.val undef) σ.fr,σ.bk⟩ KK:=by
 rw [Q5]
 simp only [h,undef]
variable {ds : List Nat} {fr0 : List (Nat × AV)} {toks : List BA} {rs : List AV} {KD : List BA -> List AV -> Prop} {sl : List (Nat × Nat)} {pre rd cs : List Nat} {out : Nat} {hs : List El}
def Dn (out:Nat) (rt:List BA) (bk':List BA) (F:List BA->Prop):Prop:=bk'=bk'.take out++rt/\(bk'.take out).length=out/\F (bk'.take out)
@[congr] theorem Dn9 {B0:Prop} {rt bk bk':List BA} {F:List BA->Prop} (h:bk=bk') (_:Tk=B0):Dn out rt bk F=Dn out rt bk' F:=by rw [h]
@[go_sem] theorem Dq4 {rt bk':List BA} {F:List BA->Prop} (h:bk'=bk'.take out++rt) (h2:(bk'.take out).length=out):Dn out rt bk' F=F (bk'.take out):=by
 unfold Dn
 simp only [h2,true_and]
 exact propext ⟨fun h=>h.2,fun h'=>⟨h,h'⟩⟩
@[go_sem] theorem Cw6 : Ap P G ds fr0 (⟨d, op, ty, pos, after, none⟩ :: rest) (⟨sl, pre, rd, cs, out⟩ :: hs) toks rs KD = B4 P G (ev (J5 sl rs ++ Fj pre ds ++ fr0)) (Cn cs toks ++ Cn rd toks) ⟨d, op, ty, pos, after, none⟩ fun x bk' =>
      Dn out (Cn rd toks) bk' fun nb => Ap P G ds fr0 rest hs (toks ++ nb) (rs ++ [x]) KD := rfl
@[go_sem] theorem Cw7 (h : nrm (rs.getD j .any) = .val (.bool g)) : Ap P G ds fr0 (⟨d, op, ty, pos, after, some (j, g)⟩ :: rest) (⟨sl, pre, rd, cs, out⟩ :: hs) toks rs KD = B4 P G (ev (J5 sl rs ++ Fj pre ds ++ fr0)) (Cn cs toks ++ Cn rd toks) ⟨d, op, ty, pos, after, some (j, g)⟩ fun x bk' =>
      Dn out (Cn rd toks) bk' fun nb => Ap P G ds fr0 rest hs (toks ++ nb) (rs ++ [x]) KD := by
  rw [Q6]
  unfold Mg
  simp only [h]
  cases g <;> rfl
@[go_sem] theorem Cw8 (h:nrm (rs.getD j .any)=.val (.bool !g)) (h0:out=0) (h1:cs=[]):Ap P G ds fr0 (⟨d,op,ty,pos,after,some (j,g)⟩ :: rest) (⟨sl,pre,rd,cs,out⟩ :: hs) toks rs KD=Ap P G ds fr0 rest hs toks (rs++[.val undef]) KD:=by
 rw [Q6]
 unfold Mg
 simp only [h]
 subst h0 h1
 cases g<;>simp
@[go_sem] theorem Cw5 (h:nrm (rs.getD j .any)=.val undef) (h0:out=0) (h1:cs=[]):Ap P G ds fr0 (⟨d,op,ty,pos,after,some (j,g)⟩ :: rest) (⟨sl,pre,rd,cs,out⟩ :: hs) toks rs KD=Ap P G ds fr0 rest hs toks (rs++[.val undef]) KD:=by
 rw [Q6]
 unfold Mg
 simp only [h,undef]
 subst h0 h1
 simp
theorem Dm {x:Bool} {X:Prop} (_:X=Bd P G ops (⟨d,op,ty,pos,after,some (j,g)⟩ :: rest) σ KK) (_:Gx ops σ.fr j=.val (.bool x)) (h1:x=true->X) (h2:x=false->X):X:=by
 cases x
 ·exact h2 rfl
 ·exact h1 rfl
theorem Hr {x:Bool} {X:Prop} (_:X=Ap P G ds fr0 (⟨d,op,ty,pos,after,some (j,g)⟩ :: rest) hs toks rs KD) (_:nrm (rs.getD j .any)=.val (.bool x)) (h1:x=true->X) (h2:x=false->X):X:=by
 cases x
 ·exact h2 rfl
 ·exact h1 rfl
end
@[go_sem] theorem D35 {α:Type} {c:α} {K:α->Prop} : (∃ u,some c=some u/\Ct (K u))=K c:=by simp [Ct]
attribute [go_sem] ne_eq not_false_eq_true Bool.not_true Bool.not_false
attribute [irreducible] Ct
end Go.Proofs.YtahgkllhbggmgaaGreatDoor
