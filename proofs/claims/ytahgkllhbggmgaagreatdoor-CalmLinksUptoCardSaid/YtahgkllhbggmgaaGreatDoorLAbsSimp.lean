/- The formulas, as rewriting rules: one for each kind of operation. No program is known here. -/
import Derived.Test.YtahgkllhbggmgaaGreatDoorLAbsDraw2
import Derived.IntWalk
import Derived.Scope
set_option linter.all false
set_option linter.unnecessarySimpa false
set_option linter.unusedSimpArgs false
set_option linter.unusedVariables false
namespace Go.Proofs.YtahgkllhbggmgaaGreatDoor
open Go.ChangeShapes Go.WideShapes Go.ChangeAt Go.RowKit
def Tk:Prop:=True
@[go_sem] theorem E45:Tk=True:=eq_true (show Tk from trivial)
def rep (n:Nat) (v:Value):List Value:=List.replicate n v
theorem Bj2 {n:Nat} {v:Value} (h:okV v):∀ u,u∈rep n v->okV u:=fun u hu=>by rw [List.eq_of_mem_replicate hu];exact h
@[go_sem] theorem E31 {n:Nat} {b:Bool} : (∀ u,u∈rep n (.bool b)->okV u)=True:=eq_true (Bj2 trivial)
@[go_sem] theorem E30 {n:Nat} : (∀ u,u∈rep n (.int .i64 0)->okV u)=True:=eq_true (Bj2 rfl)
def D0 (X:Prop):Prop:=X
@[congr] theorem Dh5 {X b:Prop} (_:Tk=b):D0 X=D0 X:=rfl
theorem B9 {X:Prop} (h:X):D0 X:=h
section
variable {P : Program} {G : World -> Prop} {σ : Ab} {L : Operand -> AV} {bk : List BA} {K : AV -> List BA -> Prop} {dst : Option Tmp} {ty : TypeId} {pos : String} {after : Array Edge} {gd : Option (Nat × Bool)}
@[go_sem] theorem Cp2 {ops:List Oper} {KK:Ab->Prop} : Be P G ops [] σ KK=KK σ:=rfl
@[go_sem] theorem Cg5 {ops:List Oper} {op:Op} {rest:List Oper} {KK:Ab->Prop} : Be P G ops (⟨dst,op,ty,pos,after,none⟩ :: rest) σ KK=vop P G σ ⟨dst,op,ty,pos,after,none⟩ fun r bk=>Be P G ops rest ⟨Ee dst r σ.fr,bk⟩ KK:=rfl
theorem R7 {ops:List Oper} {op:Op} {rest:List Oper} {j:Nat} {b:Bool} {KK:Ab->Prop} : Be P G ops (⟨dst,op,ty,pos,after,some (j,b)⟩ :: rest) σ KK =
  match Hz ops σ.fr j with
  | .val (.bool x)=>(x=b->vop P G σ ⟨dst,op,ty,pos,after,some (j,b)⟩ fun r bk=>Be P G ops rest ⟨Ee dst r σ.fr,bk⟩ KK)/\(x=!b->Be P G ops rest ⟨Ee dst (.val undef) σ.fr,σ.bk⟩ KK)
  | .val (.tuple _)=>Be P G ops rest ⟨Ee dst (.val undef) σ.fr,σ.bk⟩ KK
  | _=>False:=rfl
@[go_sem] theorem Ck6 {d:Nat} {r:AV} {fr:List (Nat×AV)} : Ee (some d) r fr=(d,r) :: fr:=rfl
@[go_sem] theorem Ck7 {r:AV} {fr:List (Nat×AV)} : Ee none r fr=fr:=rfl
@[go_sem] theorem Cl2 {j i:Nat} {a:AV} {r:List (Nat×AV)} : look ((j,a) :: r) i=if i=j then a else look r i:=rfl
@[go_sem] theorem D02 {i:Nat} : look [] i=.any:=rfl
@[go_sem] theorem Dw2 {fr:List (Nat×AV)} {t:Nat} : ev fr (.tmp t)=look fr t:=rfl
@[go_sem] theorem Dw3 {fr:List (Nat×AV)} {k:IntKind} {m:Int} : ev fr (.const (.int k m))=.val (.int k m):=rfl
@[go_sem] theorem Di8 {fr:List (Nat×AV)} {b:Bool} : ev fr (.const (.bool b))=.val (.bool b):=rfl
@[go_sem] theorem Cn0 {fr:List (Nat×AV)} {s:ByteArray} : ev fr (.const (.string s))=.val (.string s):=rfl
@[go_sem] theorem D36 {fr:List (Nat×AV)} {A:Option Addr} {m c:Nat} : ev fr (.const (.slice A m c))=.val (.slice A m c):=rfl
@[go_sem] theorem Dw4 {fr:List (Nat×AV)} {cs:Array Value} : ev fr (.const (.agg cs))=.agg (cs.toList.map AV.val):=rfl
@[go_sem] theorem Cc7 {fr:List (Nat×AV)} : ev fr (.const .nilFunc)=.val .nilFunc:=rfl
@[go_sem] theorem Cn1 {fr:List (Nat×AV)} : ev fr (.const (.pointer none))=.val (.pointer none):=rfl
@[go_sem] theorem Di7 {fr:List (Nat×AV)} {f:Nat} : ev fr (.func f)=.fn f []:=rfl
@[go_sem] theorem Cn2 {fr:List (Nat×AV)} {g:Nat} : ev fr (.global g)=.val (.pointer (some ⟨g,0,none⟩)):=rfl
@[go_sem] theorem Dg4 {v:Value} : nrm (.val v)=.val v:=rfl
@[go_sem] theorem Du1 {v:Value} : nrm (.iv (.val v))=.val v:=rfl
@[go_sem] theorem Dt9 {cs:List IV} : nrm (.iv (.pt cs))=.ip cs:=rfl
@[go_sem] theorem Dt8 {k:Nat} {l:List (List IV)} : nrm (.iv (.sl k l))=.iv (.sl k l):=rfl
@[go_sem] theorem Dg5 {b:Nat} : nrm (.own b)=.own b:=rfl
@[go_sem] theorem Dg6:nrm .any=.any:=rfl
@[go_sem] theorem Dg7 {cs:List AV} : nrm (.agg cs)=.agg cs:=rfl
@[go_sem] theorem Cz5 {cs:List IV} : nrm (.aggI cs)=.aggI cs:=rfl
@[go_sem] theorem Du3 {b o:Nat} : nrm (.bp b o)=.bp b o:=rfl
@[go_sem] theorem Du2 {cs:List IV} : nrm (.ip cs)=.ip cs:=rfl
@[go_sem] theorem Cm4 {b:Nat} : C8 b []=none:=rfl
@[go_sem] theorem Cm5 {b c:Nat} {cs:List AV} {r:List BA} : C8 b (.box c cs :: r)=if c=b then some (.box c cs) else C8 b r:=rfl
@[go_sem] theorem Cm6 {b c:Nat} {cs:List IV} {r:List BA} : C8 b (.arr c cs :: r)=if c=b then some (.arr c cs) else C8 b r:=rfl
@[go_sem] theorem Cc1 {b c e k i j d:Nat} {l:List (List IV)} {r:List BA} : C8 b (.rowN c e k l i j d :: r)=if c=b then some (.rowN c e k l i j d) else C8 b r:=rfl
@[go_sem] theorem C96 {b c e k i j d:Nat} {l:List (List IV)} {r y:List BA} : Cg b y (.rowN c e k l i j d :: r)=if c=b then y++r else .rowN c e k l i j d :: Cg b y r:=rfl
@[go_sem] theorem Cm3 {b c:Nat} {F:Far} {r:List BA} : C8 b (.opq c F :: r)=if c=b then some (.opq c F) else C8 b r:=rfl
@[go_sem] theorem Ck0 {b c:Nat} {F:Far} {r y:List BA} : Cg b y (.opq c F :: r)=if c=b then y++r else .opq c F :: Cg b y r:=rfl
@[go_sem] theorem D33 {b c:Nat} {k:IntKind} {kv:List (Int×Value)} {r:List BA} : C8 b (.mp c k kv :: r)=if c=b then some (.mp c k kv) else C8 b r:=rfl
@[go_sem] theorem Cy2 {b c:Nat} {k:IntKind} {kv:List (Int×Value)} {r y:List BA} : Cg b y (.mp c k kv :: r)=if c=b then y++r else .mp c k kv :: Cg b y r:=rfl
@[go_sem] theorem Du0 {b:Nat} : nrm (.mv b)=.mv b:=rfl
@[go_sem] theorem Cm2 {b c e k:Nat} {l:List (List IV)} {r:List BA} : C8 b (.row c e k l :: r)=if c=b then some (.row c e k l) else C8 b r:=rfl
@[go_sem] theorem Ck1 {b c:Nat} {cs:List AV} {r y:List BA} : Cg b y (.box c cs :: r)=if c=b then y++r else .box c cs :: Cg b y r:=rfl
@[go_sem] theorem Ck2 {b c:Nat} {cs:List IV} {r y:List BA} : Cg b y (.arr c cs :: r)=if c=b then y++r else .arr c cs :: Cg b y r:=rfl
@[go_sem] theorem Cj9 {b c e k:Nat} {l:List (List IV)} {r y:List BA} : Cg b y (.row c e k l :: r)=if c=b then y++r else .row c e k l :: Cg b y r:=rfl
@[go_sem] theorem Cj5 {α:Type} {cs:List α} {o:Nat} : Et cs o []=cs:=rfl
@[go_sem] theorem C90 {α:Type} {cs:List α} {o:Nat} {d:α} {ds:List α} : Et cs o (d :: ds)=Et (cs.set o d) (o+1) ds:=rfl
@[go_sem] theorem E10 {s:Nat} {c:IV} {cs:List IV} {KK:AV->Prop} : rdI 0 s (c :: cs) KK=KK (nrm (.iv c)):=rfl
@[go_sem] theorem E09 {s:Nat} {cs:List IV} {KK:AV->Prop} : rdI 1 s cs KK=(s<=cs.length/\KK (.agg ((cs.take s).map fun c=>nrm (.iv c)))):=rfl
@[go_sem] theorem E08 {s:Nat} {cs:List IV} {KK:AV->Prop} : rdI 2 s cs KK=(s<=cs.length/\KK (.aggI (cs.take s))):=rfl
@[go_sem] theorem E12 {s:Nat} {c:AV} {cs:List AV} {KK:AV->Prop} : rdA 0 s (c :: cs) KK=KK c:=rfl
@[go_sem] theorem E11 {s:Nat} {cs:List AV} {KK:AV->Prop} : rdA 1 s cs KK=(s<=cs.length/\KK (.agg (cs.take s))):=rfl
@[go_sem] theorem D58 {d:Nat} : cid (some d)=100*(d+1):=rfl
@[go_sem] theorem Ce2 {cs:List AV} : Bc (.agg cs)=cs:=rfl
@[go_sem] theorem Ce0 {v:Value} : Bc (.val v)=[.val v]:=rfl
@[go_sem] theorem Cn6 {i:IV} : Bc (.iv i)=[.iv i]:=rfl
@[go_sem] theorem Ce1 {b:Nat} : Bc (.own b)=[.own b]:=rfl
@[go_sem] theorem Cn9 {b o:Nat} : Bc (.bp b o)=[.bp b o]:=rfl
@[go_sem] theorem Cn7 {cs:List IV} : Bc (.ip cs)=[.ip cs]:=rfl
@[go_sem] theorem Cn8 {f:Nat} {cs:List AV} : Bc (.fn f cs)=[.fn f cs]:=rfl
@[go_sem] theorem Pu {cs:List IV} : Bc (.aggI cs)=cs.map AV.iv:=rfl
@[go_sem] theorem Di0 {b x y:Operand} : C9 ⟨dst,.pick b x y,ty,pos,after,gd⟩ σ=True:=by unfold C9;simp [Gl]
@[go_sem] theorem Cg8 {b x y:Operand} : Az P G L bk ⟨dst,.pick b x y,ty,pos,after,gd⟩ K=match nrm (L b) with
  | .val (.bool true)=>K (L x) bk
  | .val (.bool false)=>K (L y) bk
  | _=>False:=by unfold Az qop;rfl
def L0 (dst:Option Tmp) (σ:Ab):Prop:=(Lc (cid dst) (cid dst+100) σ.fr&&J9 (cid dst) (cid dst+100) σ.bk)=true
theorem Cl {o:Oper} (h:Gl o=false):C9 o σ=True:=by unfold C9;rw [h];simp
theorem Ke {o:Oper} (h:Gl o=true):C9 o σ=L0 o.dst σ:=by unfold C9 L0;rw [h];simp
@[go_sem] theorem Di1 {x:Operand} : C9 ⟨dst,.move x,ty,pos,after,gd⟩ σ=True:=Cl rfl
@[go_sem] theorem Cm0 {x:Operand} : C9 ⟨dst,.assign x,ty,pos,after,gd⟩ σ=True:=Cl rfl
@[go_sem] theorem Di2 {t:TypeId} {x:Operand} : C9 ⟨dst,.load t x,ty,pos,after,gd⟩ σ=True:=Cl rfl
@[go_sem] theorem D27 {t:TypeId} {x y:Operand} : C9 ⟨dst,.store t x y,ty,pos,after,gd⟩ σ=True:=Cl rfl
@[go_sem] theorem Dv4 {x:Operand} : C9 ⟨dst,.nilCheck x,ty,pos,after,gd⟩ σ=True:=Cl rfl
@[go_sem] theorem Dw1 {op:BinOp} {t tz:TypeId} {x y:Operand} : C9 ⟨dst,.binOp op t x y tz,ty,pos,after,gd⟩ σ=True:=Cl rfl
@[go_sem] theorem E15 {op:UnOp} {t:TypeId} {x:Operand} : C9 ⟨dst,.unOp op t x,ty,pos,after,gd⟩ σ=True:=Cl rfl
@[go_sem] theorem Di4 {s d:TypeId} {x:Operand} : C9 ⟨dst,.convert s d x,ty,pos,after,gd⟩ σ=True:=Cl rfl
@[go_sem] theorem Di3 {f:Fn} {a c:Array Operand} : C9 ⟨dst,.makeFunc f a c,ty,pos,after,gd⟩ σ=True:=Cl rfl
@[go_sem] theorem D28 {t:TypeId} {x:Operand} {l h m:Option Operand} : C9 ⟨dst,.slice t x l h m,ty,pos,after,gd⟩ σ=True:=Cl rfl
@[go_sem] theorem By5 {t:TypeId} {x:Operand} {f:Nat} : C9 ⟨dst,.fieldAddr t x f,ty,pos,after,gd⟩ σ=True:=Cl rfl
@[go_sem] theorem D30 {t:TypeId} {x:Operand} {f:Nat} : C9 ⟨dst,.field t x f,ty,pos,after,gd⟩ σ=True:=Cl rfl
@[go_sem] theorem By4 {t:TypeId} {x i:Operand} : C9 ⟨dst,.indexAddr t x i,ty,pos,after,gd⟩ σ=True:=Cl rfl
@[go_sem] theorem D29 {t:TypeId} {x i:Operand} : C9 ⟨dst,.index t x i,ty,pos,after,gd⟩ σ=True:=Cl rfl
@[go_sem] theorem Cb9 {x:Operand} {i:Nat} : C9 ⟨dst,.extract x i,ty,pos,after,gd⟩ σ=True:=Cl rfl
@[go_sem] theorem D31 {t:TypeId} {ps:Array (Nat×Operand)} : C9 ⟨dst,.build t ps,ty,pos,after,gd⟩ σ=True:=Cl rfl
@[go_sem] theorem Dv8 {x:Array Operand} {t:Array TypeId} : C9 ⟨dst,.call { callee:=.builtin .len,args:=x,argTypes:=t },ty,pos,after,gd⟩ σ=True:=Cl rfl
@[go_sem] theorem Dv7 {x:Array Operand} {t:Array TypeId} : C9 ⟨dst,.call { callee:=.builtin .max,args:=x,argTypes:=t },ty,pos,after,gd⟩ σ=True:=Cl rfl
@[go_sem] theorem Dv6 {x:Array Operand} {t:Array TypeId} : C9 ⟨dst,.call { callee:=.builtin .min,args:=x,argTypes:=t },ty,pos,after,gd⟩ σ=True:=Cl rfl
@[go_sem] theorem Cm1 {x:Array Operand} {t:Array TypeId} : C9 ⟨dst,.call { callee:=.builtin .append,args:=x,argTypes:=t },ty,pos,after,gd⟩ σ=L0 dst σ:=Ke rfl
@[go_sem] theorem Di5 {f:Operand} {x:Array Operand} {t:Array TypeId} : C9 ⟨dst,.call { callee:=.value f,args:=x,argTypes:=t },ty,pos,after,gd⟩ σ=L0 dst σ:=Ke rfl
@[go_sem] theorem D32 {e:TypeId} : C9 ⟨dst,.alloc e,ty,pos,after,gd⟩ σ=L0 dst σ:=Ke rfl
@[go_sem] theorem Dw0 {e:TypeId} {x:Operand} : C9 ⟨dst,.box e x,ty,pos,after,gd⟩ σ=L0 dst σ:=Ke rfl
@[go_sem] theorem Cb8 {t:TypeId} {r:Option Operand} : C9 ⟨dst,.makeMap t r,ty,pos,after,gd⟩ σ=L0 dst σ:=Ke rfl
@[go_sem] theorem Cl9 {t:TypeId} {x i:Operand} {ok:Bool} : C9 ⟨dst,.lookup t x i ok,ty,pos,after,gd⟩ σ=True:=Cl rfl
@[go_sem] theorem Dv5 {t:TypeId} {x i y:Operand} : C9 ⟨dst,.mapUpdate t x i y,ty,pos,after,gd⟩ σ=True:=Cl rfl
@[go_sem] theorem Bt3 {t:TypeId} {k:Nat} {ps:Array (Nat×Operand)} : C9 ⟨dst,.buildSlice t k ps,ty,pos,after,gd⟩ σ=L0 dst σ:=Ke rfl
@[go_sem] theorem Da8 {o:Oper} : vop P G σ o K=(C9 o σ/\Az P G (ev σ.fr) σ.bk o K):=rfl
@[go_sem] theorem Cg9 {x:Operand} : Az P G L bk ⟨dst,.move x,ty,pos,after,gd⟩ K=K (L x) bk:=rfl
@[go_sem] theorem C21 {x:Operand} : Az P G L bk ⟨dst,.assign x,ty,pos,after,gd⟩ K=K (L x) bk:=rfl
@[go_sem] theorem C74 {e:TypeId} : Az P G L bk ⟨dst,.alloc e,ty,pos,after,gd⟩ K=(match tyZ P e with
  | some (2,zs)=>(∀ v∈zs,okV v)/\K (.bp (cid dst) 0) (.arr (cid dst) (zs.map IV.val) :: bk)
  | some (_,zs)=>K (.bp (cid dst) 0) (.box (cid dst) (zs.map AV.val) :: bk)
  | none=>False):=rfl
@[go_sem] theorem Bt2 {t:TypeId} : Az P G L bk ⟨dst,.makeMap t none,ty,pos,after,gd⟩ K=(match Qf P t with
  | some (k,_)=>True/\K (.mv (cid dst)) (.mp (cid dst) k [] :: bk)
  | none=>False):=rfl
@[go_sem] theorem Bt1 {t:TypeId} {q:IntKind} {m:Int} : Az P G L bk ⟨dst,.makeMap t (some (.const (.int q m))),ty,pos,after,gd⟩ K=(match Qf P t with
  | some (k,_)=>(∃ q' m',nrm (L (.const (.int q m)))=.val (.int q' m'))/\K (.mv (cid dst)) (.mp (cid dst) k [] :: bk)
  | none=>False):=rfl
@[go_sem] theorem Cc6 {k:IntKind} {m:Int} : (∃ q' m',AV.val (.int k m)=.val (.int q' m'))=True:=eq_true ⟨_,_,rfl⟩
@[go_sem] theorem C20 {t:TypeId} {x i:Operand} {ok:Bool} : Az P G L bk ⟨dst,.lookup t x i ok,ty,pos,after,gd⟩ K=match Qf P t,L x,nrm (L i) with
  | some (k,z),.mv b,.val (.int k' m)=>match C8 b bk with
   | some (.mp _ k'' kv)=>ok=false/\k'=k/\k''=k/\∃ u,(Jq kv m).getD z=u/\D0 (K (.val u) bk)
   | _=>False
  | _,_,_=>False:=rfl
@[go_sem] theorem Cp7 {t:TypeId} {x i y:Operand} : Az P G L bk ⟨dst,.mapUpdate t x i y,ty,pos,after,gd⟩ K=Ak5 P t (L x) (L i) (L y) bk fun bk'=>K .any bk':=rfl
@[go_sem] theorem Dg8 {t:TypeId} {b:Nat} {k':IntKind} {m:Int} {u:Value} {KB:List BA->Prop} : Ak5 P t (.mv b) (.val (.int k' m)) (.val u) bk KB=match Qf P t with
  | some (k,_)=>match C8 b bk with
   | some (.mp _ k'' kv)=>k'=k/\k''=k/\KB (Cg b [.mp b k (Kw kv m u)] bk)
   | _=>False
  | _=>False:=by unfold Ak5;simp only [nrm];cases Qf P t<;>rfl
@[go_sem] theorem Cq2 {e:TypeId} {x:Operand} : Az P G L bk ⟨dst,.box e x,ty,pos,after,gd⟩ K=(match L x with
  | .aggI cs=>K (.bp (cid dst) 0) (.arr (cid dst) cs :: bk)
  | u=>okC u=true/\K (.bp (cid dst) 0) (.box (cid dst) (Bc u) :: bk)):=rfl
@[go_sem] theorem Ch0 {t:TypeId} {x:Operand} : Az P G L bk ⟨dst,.load t x,ty,pos,after,gd⟩ K=match tyK P t with
  | some (q,s)=>match L x with
   | .ip cs=>rdI q s cs fun r=>K r bk
   | .bp b p=>match C8 b bk with
    | some (.box _ cs)=>rdA q s (cs.drop p) fun r=>K r bk
    | some (.arr _ cs)=>match q with
     | 0=>∃ u,cs[p]? = some u/\D0 (K (nrm (.iv u)) bk)
     | 1=>∃ ds,(cs.drop p).take s=ds/\ds.length=s/\D0 (K (.agg (ds.map fun c=>nrm (.iv c))) bk)
     | _=>p=0/\s=cs.length/\K (.aggI cs) bk
    | _=>False
   | .rp b k i j=>match C8 b bk with
    | some (.row _ _ k' l)=>k'=k/\∃ cs,l[i]? = some cs/\D0 (rdI q s (cs.drop j) fun r=>K r bk)
    | some (.rowN _ _ k' l i' j' c')=>k'=k/\q=0/\∃ cs u,l[i]? = some cs/\cs[j]? = some u/\((i=i'/\j=j'/\D0 (K (.own c') bk))\/(¬ (i=i'/\j=j')/\D0 (K (nrm (.iv u)) bk)))
    | _=>False
   | _=>False
  | none=>False:=rfl
@[go_sem] theorem Cp6 {x : Operand} : Az P G L bk ⟨dst, .nilCheck x, ty, pos, after, gd⟩ K = match L x with
      | .ip cs => K (.ip cs) bk
      | .bp b p => K (.bp b p) bk
      | .rp b k i j => K (.rp b k i j) bk
      | .fn f cs => K (.fn f cs) bk
      | _ => False := rfl
@[go_sem] theorem Cq3 {op:BinOp} {t tz:TypeId} {x y:Operand} : Az P G L bk ⟨dst,.binOp op t x y tz,ty,pos,after,gd⟩ K=Bd P op t x y (L x) (L y) fun r=>K r bk:=rfl
@[go_sem] theorem Da9 {op:UnOp} {t:TypeId} {x:Operand} : Az P G L bk ⟨dst,.unOp op t x,ty,pos,after,gd⟩ K=match op,nrm (L x) with
  | .not,.val (.bool b)=>K (.val (.bool !b)) bk
  | .neg,.val (.int k m)=>∃ m',k.wrap (0 - m)=m'/\D0 (K (.val (.int k m')) bk)
  | _,_=>False:=rfl
@[go_sem] theorem Ch2 {s d:TypeId} {x:Operand} : Az P G L bk ⟨dst,.convert s d x,ty,pos,after,gd⟩ K=R4 P s d (nrm (L x)) fun r=>K r bk:=rfl
@[go_sem] theorem Cn5 {s d:TypeId} {q:IntKind} {m:Int} {KK:AV->Prop} : R4 P s d (.val (.int q m)) KK=match Nu P s,Nu P d with
  | some _,some k=>∃ m',k.wrap m=m'/\D0 (KK (.val (.int k m')))
  | _,_=>False:=rfl
@[go_sem] theorem Cn4 {s d:TypeId} {KK:AV->Prop} : R4 P s d (.val (.slice none 0 0)) KK=(Lf P s=true/\Fu P d=true/\KK (.val (.string ByteArray.empty))):=rfl
@[go_sem] theorem Cn3 {s d:TypeId} {z:ByteArray} {KK:AV->Prop} : R4 P s d (.val (.string z)) KK=(Fu P s=true/\Lf P d=true/\z.size<=1048576/\KK (.iv (.sl 1 (byR (Ka z))))):=rfl
@[go_sem] theorem D52 {s d:TypeId} {k:Nat} {l:List (List IV)} {KK:AV->Prop} : R4 P s d (.iv (.sl k l)) KK=(Lf P s=true/\Fu P d=true/\k=1/\∃ bs:List Nat,l=byR bs/\D0 (KK (.val (.string (Uy bs))))):=rfl
@[go_sem] theorem Ch1 {f:FuncId} {first caps:Array Operand} : Az P G L bk ⟨dst,.makeFunc (.func f) first caps,ty,pos,after,gd⟩ K=(first=#[]/\K (.fn f (caps.toList.map (L))) bk):=rfl
@[go_sem] theorem C70 {t:TypeId} {x:Operand} {lo hi mx:Option Operand} : Az P G L bk ⟨dst,.slice t x lo hi mx,ty,pos,after,gd⟩ K=match Cq P t,nrm (L x) with
  | some (_,k,_),.iv (.sl k' l) =>
   k=k'/\∃ i j:Nat,(match lo with | none=>i=0 | some p=>L p=.val (.int .i64 i))/\(match hi with | none=>j=l.length | some p=>L p=.val (.int .i64 j))/\i<=j/\j<=l.length/\mxQ L mx hi j l.length (D0 (K (.iv (.sl k ((l.take j).drop i))) bk))
  | some (_,k,_),.own b=>match C8 b bk,lo,hi,mx with
   | some (.row _ _ k' l),some p,none,none=>k=k'/\∃ i:Nat,L p=.val (.int .i64 i)/\i<=l.length/\D0 (K .any bk)
   | _,_,_,_=>False
  | _,_=>False:=rfl
@[go_sem] theorem Cz7 {hi:Option Operand} {j m:Nat} {X:Prop} : mxQ L none hi j m X=X:=rfl
@[go_sem] theorem Cq1 {x : Operand} {t : TypeId} : Az P G L bk ⟨dst, .call { callee := .builtin .cap, args := #[x], argTypes := #[t] }, ty, pos, after, gd⟩ K = match nrm (L x) with
      | .val (.slice none 0 0) => (Cq P t).isSome = true /\ K (.val (.int .i64 0)) bk
      | _ => False := rfl
@[go_sem] theorem Dv9 {x:Array Operand} {t:Array TypeId} : C9 ⟨dst,.call { callee:=.builtin .cap,args:=x,argTypes:=t },ty,pos,after,gd⟩ σ=True:=Cl rfl
@[go_sem] theorem Bf7 {t:TypeId} {x:Operand} {f:Nat} : Az P G L bk ⟨dst,.fieldAddr t x f,ty,pos,after,gd⟩ K=match tyF P t f with
  | some (off,_,s)=>s≠0/\match L x with
   | .ip cs=>K (.ip (cs.drop off)) bk
   | .bp b p=>K (.bp b (p+off)) bk
   | .rp b k i j=>K (.rp b k i (j+off)) bk
   | _=>False
  | none=>False:=rfl
@[go_sem] theorem C72 {t:TypeId} {x:Operand} {f:Nat} : Az P G L bk ⟨dst,.field t x f,ty,pos,after,gd⟩ K=match tyF P t f,L x with
  | some (off,q,s),.agg cs=>rdA q s (cs.drop off) fun r=>K r bk
  | _,_=>False:=rfl
@[go_sem] theorem Bf6 {t:TypeId} {x i:Operand} : Az P G L bk ⟨dst,.indexAddr t x i,ty,pos,after,gd⟩ K=match nrm (L i) with
  | .val (.int _ m)=>match Cq P t with
   | some (_,k,_)=>match nrm (L x) with
    | .iv (.sl k' l)=>k=k'/\0<=m/\∃ cs,l[m.toNat]? = some cs/\D0 (K (.ip cs) bk)
    | .own b=>match C8 b bk with
     | some (.row _ _ k' l)=>k=k'/\0<=m/\m.toNat < l.length/\D0 (K (.rp b k m.toNat 0) bk)
     | some (.rowN _ _ k' l _ _ _)=>k=k'/\0<=m/\m.toNat < l.length/\D0 (K (.rp b k m.toNat 0) bk)
     | _=>False
    | _=>False
   | none=>match Ra P t,L x with
    | some (n,_,k),.bp b p=>0<=m/\m < (n:Int)/\0 < k/\D0 (K (.bp b (p+m.toNat*k)) bk)
    | some (n,_,k),.ip cs=>0<=m/\m < (n:Int)/\0 < k/\D0 (K (.ip (cs.drop (m.toNat*k))) bk)
    | _,_=>False
  | _=>False:=rfl
@[go_sem] theorem C71 {t:TypeId} {x i:Operand} : Az P G L bk ⟨dst,.index t x i,ty,pos,after,gd⟩ K=match nrm (L i),L x with
  | .val (.int _ m),.aggI cs=>match Ra P t with
   | some (n,0,1)=>0<=m/\m < (n:Int)/\∃ u,cs[m.toNat]? = some u/\D0 (K (nrm (.iv u)) bk)
   | _=>False
  | .val (.int _ m),.val (.string s)=>Fu P t=true/\0<=m/\∃ b,s[m.toNat]? = some b/\D0 (K (.val (.int .u8 (b.toNat:Nat))) bk)
  | _,_=>False:=rfl
@[go_sem] theorem C19 {t:TypeId} {parts:Array (Nat×Operand)} : Az P G L bk ⟨dst,.build t parts,ty,pos,after,gd⟩ K=match M2 P t with
  | some (zs,places)=>match R2 places (zs.map AV.val) (parts.toList.map fun p=>(p.1,L p.2)) with
   | some cs=>K (.agg cs) bk
   | none=>False
  | none=>False:=rfl
@[go_sem] theorem Cm9 {ps:List (Nat×Nat)} {cells:List AV} : R2 ps cells []=some cells:=rfl
@[go_sem] theorem Cc2 {ps:List (Nat×Nat)} {cells:List AV} {i:Nat} {v:AV} {rest:List (Nat×AV)} : R2 ps cells ((i,v) :: rest)=match ps[i]? with
  | none=>none
  | some (off,size)=>if (Bc v).length=size/\okC v=true/\off+size<=cells.length then R2 ps (Et cells off (Bc v)) rest else none:=rfl
@[go_sem] theorem Bt7 {x:Operand} {i:Nat} : Az P G L bk ⟨dst,.extract x i,ty,pos,after,gd⟩ K=match L x with
  | .tup cs=>i < cs.length/\K (cs.getD i .any) bk
  | _=>False:=rfl
@[go_sem] theorem C69 {t:TypeId} {x y:Operand} : Az P G L bk ⟨dst,.store t x y,ty,pos,after,gd⟩ K=Aj P t (L x) (L y) bk fun bk'=>K .any bk':=rfl
@[go_sem] theorem C22 {x y:Operand} {t t':TypeId} : Az P G L bk ⟨dst,.call { callee:=.builtin .append,args:=#[x,y],argTypes:=#[t,t'] },ty,pos,after,gd⟩ K=(t'=t/\Ag P t (L x) (L y) (cid dst) bk K):=rfl
@[go_sem] theorem Cq0 {x:Operand} {t:TypeId} : Az P G L bk ⟨dst,.call { callee:=.builtin .len,args:=#[x],argTypes:=#[t] },ty,pos,after,gd⟩ K=Bv P t (fun b=>C8 b bk) (L x) fun r=>K r bk:=rfl
@[go_sem] theorem Cp9 {x y : Operand} {tt : Array TypeId} : Az P G L bk ⟨dst, .call { callee := .builtin .max, args := #[x, y], argTypes := tt }, ty, pos, after, gd⟩ K = match nrm (L x), nrm (L y) with
      | .val (.int k p), .val (.int _ q) => ∃ m, max p q = m /\ D0 (K (.val (.int k m)) bk)
      | _, _ => False := rfl
@[go_sem] theorem Cp8 {x y : Operand} {tt : Array TypeId} : Az P G L bk ⟨dst, .call { callee := .builtin .min, args := #[x, y], argTypes := tt }, ty, pos, after, gd⟩ K = match nrm (L x), nrm (L y) with
      | .val (.int k p), .val (.int _ q) => ∃ m, min p q = m /\ D0 (K (.val (.int k m)) bk)
      | _, _ => False := rfl
def Ax (P:Program) (G:World->Prop) (f:FuncId) (args:List AV) (dst:Option Tmp) (bk:List BA) (K:AV->List BA->Prop):Prop:=(Ay P G (fun b=>C8 b bk) f args (cid dst) fun r nb=>K r (nb++bk))\/Bg3 P G f args (cid dst) bk K
@[go_sem] theorem Ch3 {fo:Operand} {args:Array Operand} {tt:Array TypeId} : Az P G L bk ⟨dst,.call { callee:=.value fo,args:=args,argTypes:=tt },ty,pos,after,gd⟩ K=match L fo with
  | .fn f caps=>Ax P G f (args.toList.map L++caps) dst bk K
  | _=>False:=rfl
def bsQ (L:Operand->AV) (k len:Nat) (parts:Array (Nat×Operand)) (A B:List (List IV)->Prop):Prop:=∃ l:List (List IV),l.length=len/\0 < k/\len*k<=16777216/\(∀ (i:Nat) (cs:List IV),l[i]? = some cs->cs.length=k/\∃ x,parts[i]? = some (i,x)/\okC (L x)=true/\AsI (Bc (L x)) cs)/\parts.size=len/\(A l\/B l)
@[go_sem] theorem C73 {t:TypeId} {len:Nat} {parts:Array (Nat×Operand)} : Az P G L bk ⟨dst,.buildSlice t len parts,ty,pos,after,gd⟩ K=(match Cq P t with
  | some (e,k,_)=>(tyZ P e).isSome=true/\bsQ L k len parts (fun l=>K (.own (cid dst)) (.row (cid dst) e k l :: bk)) (fun l=>K (.iv (.sl k l)) bk)
  | none=>False):=rfl
@[go_sem] theorem Dh0 {t:TypeId} {B:Nat->Option BA} {k:Nat} {l:List (List IV)} {KK:AV->Prop} : Bv P t B (.iv (.sl k l)) KK=((Cq P t).isSome=true/\KK (.val (.int .i64 (l.length:Nat)))):=rfl
@[go_sem] theorem D04 {t:TypeId} {B:Nat->Option BA} {b:Nat} {KK:AV->Prop} : Bv P t B (.own b) KK=match B b with
  | some (.row _ _ _ l)=>(Cq P t).isSome=true/\KK (.val (.int .i64 (l.length:Nat)))
  | some (.rowN _ _ _ l _ _ _)=>(Cq P t).isSome=true/\KK (.val (.int .i64 (l.length:Nat)))
  | _=>False:=rfl
@[go_sem] theorem D03 {t:TypeId} {B:Nat->Option BA} {s:ByteArray} {KK:AV->Prop} : Bv P t B (.val (.string s)) KK=(Fu P t=true/\KK (.val (.int .i64 (s.size:Nat)))):=rfl
@[go_sem] theorem D05 {t:TypeId} {B:Nat->Option BA} {KK:AV->Prop} : Bv P t B (.val (.slice none 0 0)) KK=((Cq P t).isSome=true/\KK (.val (.int .i64 0))):=rfl
section
variable {t : TypeId} {x y : Operand} {k k' : IntKind} {p q : Int} {KK : AV -> Prop}
@[go_sem] theorem Bf9 {v:Value} : Gd (.val v)=some v:=rfl
@[go_sem] theorem Cq6 {cs:List AV} : Gd (.agg cs)=(Gd.valAs cs).map fun l=>.agg l.toArray:=rfl
@[go_sem] theorem Ch5:Gd.valAs []=some []:=rfl
@[go_sem] theorem C75 {v:Value} {cs:List AV} : Gd.valAs (.val v :: cs)=(Gd.valAs cs).map fun l=>v :: l:=by
 show (match Gd (.val v),Gd.valAs cs with | some v,some l=>some (v :: l) | _,_=>none)=_
 rw [Bf9]
 cases Gd.valAs cs<;>rfl
@[go_sem] theorem Dk6 {op:BinOp} {u v:List AV} : Bd P op t x y (.agg u) (.agg v) KK=match Gd (.agg u),Gd (.agg v) with
  | some p,some q=>∃ r,(∀ w,(do eqGuard op t x y p q;binOp op t p q:Sem Value).run P w=.ok r w)/\D0 (KK (.val r))
  | _,_=>False:=by cases op<;>rfl
@[go_sem] theorem D70 {op:BinOp} {u v:Bool} : Bd P op t x y (.val (.bool u)) (.val (.bool v)) KK=∃ r,(∀ w,(do eqGuard op t x y (.bool u) (.bool v);binOp op t (.bool u) (.bool v):Sem Value).run P w=.ok r w)/\D0 (KK (.val r)):=by cases op<;>rfl
@[go_sem] theorem Dk0:Bd P .lss t x y (.val (.int k p)) (.val (.int k' q)) KK=(k=k'/\KK (.val (.bool (decide (p < q))))):=rfl
@[go_sem] theorem Dk1:Bd P .leq t x y (.val (.int k p)) (.val (.int k' q)) KK=(k=k'/\KK (.val (.bool (decide (p<=q))))):=rfl
@[go_sem] theorem Dk2:Bd P .gtr t x y (.val (.int k p)) (.val (.int k' q)) KK=(k=k'/\KK (.val (.bool (decide (q < p))))):=rfl
@[go_sem] theorem Dk3:Bd P .geq t x y (.val (.int k p)) (.val (.int k' q)) KK=(k=k'/\KK (.val (.bool (decide (q<=p))))):=rfl
@[go_sem] theorem Dk4:Bd P .eql t x y (.val (.int k p)) (.val (.int k' q)) KK=(k=k'/\KK (.val (.bool (decide (p=q))))):=rfl
@[go_sem] theorem Dj8:Bd P .neq t x y (.val (.int k p)) (.val (.int k' q)) KK=(k=k'/\KK (.val (.bool (decide (p≠q))))):=rfl
@[go_sem] theorem Dk7:Bd P .add t x y (.val (.int k p)) (.val (.int k' q)) KK=(k=k'/\∃ m,k.wrap (p+q)=m/\D0 (KK (.val (.int k m)))):=rfl
@[go_sem] theorem Dj3:Bd P .sub t x y (.val (.int k p)) (.val (.int k' q)) KK=(k=k'/\∃ m,k.wrap (p - q)=m/\D0 (KK (.val (.int k m)))):=rfl
@[go_sem] theorem Dk5:Bd P .and t x y (.val (.int k p)) (.val (.int k' q)) KK=∃ r,(∀ w,(do eqGuard .and t x y (.int k p) (.int k' q);binOp .and t (.int k p) (.int k' q):Sem Value).run P w=.ok r w)/\D0 (KK (.val r)):=rfl
@[go_sem] theorem Dj6:Bd P .rem t x y (.val (.int k p)) (.val (.int k' q)) KK=∃ r,(∀ w,(do eqGuard .rem t x y (.int k p) (.int k' q);binOp .rem t (.int k p) (.int k' q):Sem Value).run P w=.ok r w)/\D0 (KK (.val r)):=rfl
@[go_sem] theorem Dj7:Bd P .quo t x y (.val (.int k p)) (.val (.int k' q)) KK=∃ r,(∀ w,(do eqGuard .quo t x y (.int k p) (.int k' q);binOp .quo t (.int k p) (.int k' q):Sem Value).run P w=.ok r w)/\D0 (KK (.val r)):=rfl
@[go_sem] theorem Dx2:Bd P .or t x y (.val (.int k p)) (.val (.int k' q)) KK=∃ r,(∀ w,(do eqGuard .or t x y (.int k p) (.int k' q);binOp .or t (.int k p) (.int k' q):Sem Value).run P w=.ok r w)/\D0 (KK (.val r)):=rfl
@[go_sem] theorem Dj2:Bd P .xor t x y (.val (.int k p)) (.val (.int k' q)) KK=∃ r,(∀ w,(do eqGuard .xor t x y (.int k p) (.int k' q);binOp .xor t (.int k p) (.int k' q):Sem Value).run P w=.ok r w)/\D0 (KK (.val r)):=rfl
@[go_sem] theorem Dj5:Bd P .shl t x y (.val (.int k p)) (.val (.int k' q)) KK=∃ r,(∀ w,(do eqGuard .shl t x y (.int k p) (.int k' q);binOp .shl t (.int k p) (.int k' q):Sem Value).run P w=.ok r w)/\D0 (KK (.val r)):=rfl
@[go_sem] theorem Dj4:Bd P .shr t x y (.val (.int k p)) (.val (.int k' q)) KK=∃ r,(∀ w,(do eqGuard .shr t x y (.int k p) (.int k' q);binOp .shr t (.int k p) (.int k' q):Sem Value).run P w=.ok r w)/\D0 (KK (.val r)):=rfl
@[go_sem] theorem Dj9:Bd P .mul t x y (.val (.int k p)) (.val (.int k' q)) KK=(k=k'/\∃ m,k.wrap (p*q)=m/\D0 (KK (.val (.int k m)))):=rfl
end
end
@[go_sem] theorem Co0 {i:Nat} {c:AV} {cs:List AV} : Uo i (c :: cs)=(i,c) :: Uo (i+1) cs:=rfl
@[go_sem] theorem D73 {i:Nat} : Uo i []=[]:=rfl
@[go_sem] theorem Cl1 {c:AV} : Aj7 [c]=c:=rfl
@[go_sem] theorem Cl0 {c d:AV} {l:List AV} : Aj7 (c :: d :: l)=.tup (c :: d :: l):=rfl
@[go_sem] theorem Dh2 {ρ:Nat->Nat} {fr:List (Nat×AV)} : leF ρ fr []=True:=rfl
@[go_sem] theorem D07 {ρ:Nat->Nat} {fr r:List (Nat×AV)} {i:Nat} {c:AV} : leF ρ fr ((i,c) :: r)=(look fr i=c.ren ρ/\leF ρ fr r):=rfl
@[go_sem] theorem Dh3 {ρ:Nat->Nat} {bk:List BA} : leB ρ bk []=True:=rfl
@[go_sem] theorem D08 {ρ:Nat->Nat} {bk r:List BA} {b:BA} : leB ρ bk (b :: r)=(C8 (ρ b.id) bk=some (b.ren ρ)/\leB ρ bk r):=rfl
@[go_sem] theorem Cl3 {ρ:Nat->Nat} : Bw ρ []=[]:=rfl
@[go_sem] theorem Cb6 {ρ:Nat->Nat} {b:BA} {r:List BA} : Bw ρ (b :: r)=ρ b.id :: Bw ρ r:=rfl
@[go_sem] theorem Dv1 {b:Nat} {cs:List AV} : (BA.box b cs).id=b:=rfl
@[go_sem] theorem Dv2 {b:Nat} {cs:List IV} : (BA.arr b cs).id=b:=rfl
@[go_sem] theorem Dh4 {b e k i j d:Nat} {l:List (List IV)} : (BA.rowN b e k l i j d).id=b:=rfl
@[go_sem] theorem Dv0 {b:Nat} {F:Far} : (BA.opq b F).id=b:=rfl
@[go_sem] theorem E14 {b:Nat} {k:IntKind} {kv:List (Int×Value)} : (BA.mp b k kv).id=b:=rfl
@[go_sem] theorem Du9 {b e k:Nat} {l:List (List IV)} : (BA.row b e k l).id=b:=rfl
section
variable {ρ : Nat -> Nat}
@[go_sem] theorem Df8:AV.any.ren ρ=.any:=rfl
@[go_sem] theorem Df5 {v:Value} : (AV.val v).ren ρ=.val v:=rfl
@[go_sem] theorem Ds6 {i:IV} : (AV.iv i).ren ρ=.iv i:=rfl
@[go_sem] theorem Ds7 {cs:List IV} : (AV.ip cs).ren ρ=.ip cs:=rfl
@[go_sem] theorem Cy5 {cs:List IV} : (AV.aggI cs).ren ρ=.aggI cs:=rfl
@[go_sem] theorem Ds9 {b o:Nat} : (AV.bp b o).ren ρ=.bp (ρ b) o:=rfl
@[go_sem] theorem Df7 {b:Nat} : (AV.own b).ren ρ=.own (ρ b):=rfl
@[go_sem] theorem Df9 {cs:List AV} : (AV.agg cs).ren ρ=.agg (AV.ren.rens ρ cs):=rfl
@[go_sem] theorem Df6 {cs:List AV} : (AV.tup cs).ren ρ=.tup (AV.ren.rens ρ cs):=rfl
@[go_sem] theorem Ds8 {f:Nat} {cs:List AV} : (AV.fn f cs).ren ρ=.fn f (AV.ren.rens ρ cs):=rfl
@[go_sem] theorem Cy4:AV.ren.rens ρ []=[]:=rfl
@[go_sem] theorem Ck3 {c:AV} {cs:List AV} : AV.ren.rens ρ (c :: cs)=c.ren ρ :: AV.ren.rens ρ cs:=rfl
@[go_sem] theorem Cy9 {b:Nat} {cs:List AV} : (BA.box b cs).ren ρ=.box (ρ b) (AV.ren.rens ρ cs):=rfl
@[go_sem] theorem Cz0 {b:Nat} {cs:List IV} : (BA.arr b cs).ren ρ=.arr (ρ b) cs:=rfl
@[go_sem] theorem Ck5 {b e k i j d:Nat} {l:List (List IV)} : (BA.rowN b e k l i j d).ren ρ=.rowN (ρ b) e k l i j (ρ d):=rfl
@[go_sem] theorem Cy8 {b:Nat} {F:Far} : (BA.opq b F).ren ρ=.opq (ρ b) F:=rfl
@[go_sem] theorem Dg0 {b:Nat} {k:IntKind} {kv:List (Int×Value)} : (BA.mp b k kv).ren ρ=.mp (ρ b) k kv:=rfl
@[go_sem] theorem Ds5 {b:Nat} : (AV.mv b).ren ρ=.mv (ρ b):=rfl
@[go_sem] theorem Cy7 {b e k:Nat} {l:List (List IV)} : (BA.row b e k l).ren ρ=.row (ρ b) e k l:=rfl
end
@[go_sem] theorem Cy1 {P:Program} {σ:Ab} {K:List AV->Prop} : Nn P σ [] K=K []:=rfl
@[go_sem] theorem Cy0 {P:Program} {σ:Ab} {t:Nat} {r:List ResultVar} {K:List AV->Prop} : Nn P σ (.tmp t :: r) K=Nn P σ r fun l=>K (look σ.fr t :: l):=rfl
@[go_sem] theorem Cj8 {P:Program} {σ:Ab} {d t:Nat} {r:List ResultVar} {K:List AV->Prop} : Nn P σ (.cell d t :: r) K=match look σ.fr d with
  | .bp b p=>match C8 b σ.bk,tyK P t with
   | some (.box _ cs),some (q,s)=>rdA q s (cs.drop p) fun u=>Nn P σ r fun l=>K (u :: l)
   | some (.arr _ cs),some (2,s)=>p=0/\s=cs.length/\Nn P σ r fun l=>K (.aggI cs :: l)
   | _,_=>False
  | _=>False:=rfl
def Bl3 (lo hi:Nat) (A:List Nat) (skip:Nat):Nat->List AV->Bool
 | _,[]=>true
 | j,x :: r=>(x.off lo hi || (Nat.beq j skip || (A.getD j 0).testBit skip))&&Bl3 lo hi A skip (j+1) r
def Bl2 (lo hi:Nat) (ex:Nat->Bool):Nat->List BA->Bool
 | _,[]=>true
 | t,b :: r=>(b.off lo hi || ex t)&&Bl2 lo hi ex (t+1) r
def exT (A:List Nat) (bs:List Nat) (hs:List F7) (i t:Nat):Bool:=(outs bs hs i).contains t || (List.range hs.length).any fun j=>(outs bs hs j).contains t&&(A.getD j 0).testBit i
def Y6 (A:List Nat) (toks:List BA) (fr0:List (Nat×AV)) (rs:List AV) (hs:List F7) (bs:List Nat):Nat->List Oper->Bool
 | _,[]=>true
 | i,o :: r=>(match Gl o with
  | true=>Lc (cid o.dst) (cid o.dst+100) fr0&&Bl3 (cid o.dst) (cid o.dst+100) A i 0 rs&&Bl2 (cid o.dst) (cid o.dst+100) (exT A bs hs i) 0 toks
  | false=>true)&&Y6 A toks fr0 rs hs bs (i+1) r
theorem Ak2 {lo hi skip:Nat} {A:List Nat} : ∀ {rs:List AV} {s:Nat},Bl3 lo hi A skip s rs=true->∀ (j:Nat) x,s+j≠skip->(A.getD (s+j) 0).testBit skip=false->rs[j]? = some x->x.off lo hi=true
 | [],_,_,j,x,_,_,h=>by simp at h
 | y :: r,s,h,j,x,hne,hA,hx=>by
  simp only [Bl3,Bool.and_eq_true,Bool.or_eq_true] at h
  cases j with
  | zero =>
   simp at hx;subst hx
   rcases h.1 with h | h | h
   ·exact h
   ·exact absurd (Nat.eq_of_beq_eq_true h) (by simpa using hne)
   ·rw [Nat.add_zero] at hA
    rw [hA] at h;cases h
  | succ j=>exact Ak2 h.2 j x (by omega) (by rwa [show s+1+j=s+(j+1) by omega]) (by simpa using hx)
theorem Ak1 {lo hi:Nat} {ex:Nat->Bool} : ∀ {toks:List BA} {s:Nat},Bl2 lo hi ex s toks=true->∀ (j:Nat) b,ex (s+j)=false->toks[j]? = some b->b.off lo hi=true
 | [],_,_,j,x,_,h=>by simp at h
 | y :: r,s,h,j,x,hne,hx=>by
  simp only [Bl2,Bool.and_eq_true,Bool.or_eq_true] at h
  cases j with
  | zero =>
   simp at hx;subst hx
   rcases h.1 with h | h
   ·exact h
   ·rw [Nat.add_zero] at hne
    rw [hne] at h;cases h
  | succ j=>exact Ak1 h.2 j x (by rwa [show s+1+j=s+(j+1) by omega]) (by simpa using hx)
theorem Ay2 {toks:List BA} {fr0:List (Nat×AV)} {ops:List Oper} {rs:List AV} {hs:List F7} {bs:List Nat} (h:Y6 (bef [] (ops.map Cm)) toks fr0 rs hs bs 0 ops=true):Y7 toks fr0 ops rs hs bs:=by
 obtain ⟨A,hA⟩ : ∃ A,bef [] (ops.map Cm)=A:=⟨_,rfl⟩
 rw [hA] at h
 unfold Y7
 rw [hA]
 have key:∀ (ops:List Oper) (s:Nat),Y6 A toks fr0 rs hs bs s ops=true->∀ (i:Nat) o,ops[i]? = some o->Gl o=true->Lc (cid o.dst) (cid o.dst+100) fr0=true/\Bl3 (cid o.dst) (cid o.dst+100) A (s+i) 0 rs=true/\Bl2 (cid o.dst) (cid o.dst+100) (exT A bs hs (s+i)) 0 toks=true:=by
  intro ops
  induction ops with
  | nil=>intro s _ i o h;simp at h
  | cons q r ih =>
   intro s h i o ho hm
   simp only [Y6,Bool.and_eq_true] at h
   cases i with
   | zero =>
    simp at ho;subst ho
    have:=h.1
    rw [hm] at this
    simp only [Bool.and_eq_true] at this
    exact ⟨this.1.1,this.1.2,this.2⟩
   | succ i =>
    have:=ih (s+1) h.2 i o (by simpa using ho) hm
    rwa [show s+1+i=s+(i+1) by omega] at this
 intro i o ho hm
 obtain ⟨k1,k2,k3⟩:=key ops 0 h i o ho hm
 simp only [Nat.zero_add] at k2 k3
 refine ⟨k1,fun j x hj hb hx=>Ak2 k2 j x (by simpa using hj) (by rwa [Nat.zero_add]) hx,fun t b ht ha hb=>Ak1 k3 t b ?_ hb⟩
 rw [Nat.zero_add]
 unfold exT
 rw [Bool.or_eq_false_iff]
 refine ⟨by simpa using ht,?_⟩
 rw [List.any_eq_false]
 intro j _ hc
 rw [Bool.and_eq_true] at hc
 rw [ha j (by simpa using hc.1)] at hc
 cases hc.2
@[go_sem] theorem Cg4 {ops:List Oper} {fr:List (Nat×AV)} {j:Nat} : Hz ops fr j=match ops[j]? with
 | some o=>match o.dst with
  | some d=>nrm (look fr d)
  | none=>.any
 | none=>.any:=rfl
section
variable {P : Program} {G : World -> Prop} {fr : List (Nat × AV)} {bk : List BA} {ops rest : List Oper} {KK : Ab -> Prop} {dst : Option Tmp} {op : Op} {ty : TypeId} {pos : String} {after : Array Edge} {j : Nat} {b : Bool}
variable {ds : List Nat} {fr0 : List (Nat × AV)} {toks : List BA} {rs : List AV} {KD : List BA -> List AV -> Prop} {sl : List (Nat × Nat)} {pre rd cs : List Nat} {out : Nat} {hs : List F7}
end
theorem AW.reg {P:Program} {G:World->Prop} {V w0:World} {n:Nd} {ro:Option Nat} {σ:Ab} {K:Exit->Ab->Prop} {id:Nat} {l:List Oper} (hd:Di n l=true) (h:∀ KK:Ab->Prop,(∀ σ',K .normal σ'->KK σ')->Be P G l l σ KK):AW P G ro V w0 n (.region id l.toArray false) σ K:=AW.region hd (h _ fun _ h=>h)
theorem AW.scope {P:Program} {G:World->Prop} {V w0:World} {n:Nd} {ro:Option Nat} {σ:Ab} {K:Exit->Ab->Prop} {c:Code} (h:AW P G ro V w0 n c σ fun e σ'=>match e with
  | .goto _=>False
  | e=>K e σ'):AW P G ro V w0 n (.scope c) σ K:=fun hG m E a w hn hs=>Jy (wpIn_mono (h hG m E a w hn hs) fun e a w h=>by
 obtain ⟨m',E',σ',h0,h1,h2⟩:=h
 cases e<;>first | exact ⟨m',E',σ',h0,h1,h2⟩ | exact h1.elim)
theorem AW.drawn {P:Program} {G:World->Prop} {V w0:World} {n:Nd} {ro:Option Nat} {σ:Ab} {K:Exit->Ab->Prop} {id m:Nat} {ops:List Oper} (hs:List F7) {ds fin bs:List Nat} (hp:P.follows .mixedOrders=true) (hm:σ.bk.length=m) (hok:Ay7 n m ops hs=true) (hds:Fq ops=ds) (hfin:Bo2 m hs=fin) (hbs:D8 m hs=bs)
  (h:∀ KD:List BA->List AV->Prop,(∀ toks rs,(Y6 (bef [] (ops.map Cm)) toks σ.fr rs hs bs 0 ops=true/\K .normal ⟨Vt ops rs σ.fr,Cy fin toks⟩)->KD toks rs)->Aq P G ds σ.fr ops hs σ.bk [] KD):AW P G ro V w0 n (.region id ops.toArray true) σ K:=by
 subst hds hfin hbs
 exact AW.draw hs hp hm hok (fun _ _ h=>Ay2 h) (h _ fun _ _ h=>h)
section
variable {P : Program} {G : World -> Prop} {ds : List Nat} {fr0 : List (Nat × AV)} {toks : List BA} {rs : List AV} {K : List BA -> List AV -> Prop}
@[go_sem] theorem Ch4:Aq P G ds fr0 [] [] toks rs K=K toks rs:=rfl
theorem R9 {dst:Option Tmp} {op:Op} {ty:TypeId} {pos:String} {after:Array Edge} {gd:Option (Nat×Bool)} {r:List Oper} {sl:List (Nat×Nat)} {pre rd cs:List Nat} {out:Nat} {hs:List F7} :
  Aq P G ds fr0 (⟨dst,op,ty,pos,after,gd⟩ :: r) (⟨sl,pre,rd,cs,out⟩ :: hs) toks rs K=N7 rs gd (Az P G (ev (Js sl rs++G3 pre ds++fr0)) (Cy cs toks++Cy rd toks) ⟨dst,op,ty,pos,after,gd⟩ fun x bk' =>
   bk'=bk'.take out++Cy rd toks/\(bk'.take out).length=out/\Aq P G ds fr0 r hs (toks++bk'.take out) (rs++[x]) K) (out=0/\cs=[]/\Aq P G ds fr0 r hs toks (rs++[.val undef]) K):=rfl
@[go_sem] theorem C40 {run skip:Prop} : N7 rs none run skip=run:=rfl
@[go_sem] theorem C39 {j:Nat} {b:Bool} {run skip:Prop} : N7 rs (some (j,b)) run skip=match nrm (rs.getD j .any) with
  | .val (.bool true)=>(match b with | true=>run | false=>skip)
  | .val (.bool false)=>(match b with | true=>skip | false=>run)
  | .val (.tuple _)=>skip
  | _=>False:=rfl
@[go_sem] theorem Cx6:Js [] rs=[]:=rfl
@[go_sem] theorem Cj6 {d j:Nat} {r:List (Nat×Nat)} : Js ((d,j) :: r) rs=(d,rs.getD j .any) :: Js r rs:=rfl
@[go_sem] theorem Ba8 {pre:List Nat} : G3 pre []=[]:=rfl
@[go_sem] theorem D00 {d:Nat} {r:List Nat} : G3 [] (d :: r)=(d,.any) :: G3 [] r:=rfl
theorem Aw5 {p d:Nat} {pre r:List Nat} : G3 (p :: pre) (d :: r)=if (p :: pre).contains d then G3 (p :: pre) r else (d,.any) :: G3 (p :: pre) r:=rfl
@[go_sem] theorem Cx7:Cy [] toks=[]:=rfl
@[go_sem] theorem Cj7 {t:Nat} {r:List Nat} : Cy (t :: r) toks=toks.getD t (.arr 0 []) :: Cy r toks:=rfl
@[go_sem] theorem D34 {fr:List (Nat×AV)} : Vt [] rs fr=fr:=rfl
@[go_sem] theorem Cm7 {d:Nat} {op:Op} {ty:TypeId} {pos:String} {after:Array Edge} {gd:Option (Nat×Bool)} {r:List Oper} {x:AV} {fr:List (Nat×AV)} : Vt (⟨some d,op,ty,pos,after,gd⟩ :: r) (x :: rs) fr=(d,x) :: Vt r rs fr:=rfl
@[go_sem] theorem Cm8 {op:Op} {ty:TypeId} {pos:String} {after:Array Edge} {gd:Option (Nat×Bool)} {r:List Oper} {x:AV} {fr:List (Nat×AV)} : Vt (⟨none,op,ty,pos,after,gd⟩ :: r) (x :: rs) fr=Vt r rs fr:=rfl
end
attribute [go_sem] Option.map_some Option.map_none List.getElem?_cons_zero List.getElem?_cons_succ List.map_cons List.map_nil List.take_succ_cons List.take_zero List.drop_succ_cons List.drop_zero List.length_cons List.length_nil List.nil_append List.cons_append List.getD_cons_zero List.getD_cons_succ List.set_cons_zero List.set_cons_succ List.length_map true_and and_true Option.isSome_some List.append_nil List.take_nil List.drop_nil eq_self
theorem Bn4 {x:Int} (h1:-9223372036854775808<=x) (h2:x<=9223372036854775807):IntKind.i64.wrap x=x:=IntWalk.i64_in _ (by omega)
theorem Dl {α β:Type} {f:α->β} {l:List α} {i:Nat} {y:α} (h:l[i]? = some y):(l.map f)[i]? = some (f y):=by rw [List.getElem?_map,h];rfl
@[go_sem] theorem Cj0 {m:Nat} : ((m:Nat):Int).toNat=m:=rfl
-- the small first parts of the formulas
section
variable {b : Prop}
theorem nF {d:Option Tmp} {σ:Ab} (hb:b) (h:L0 d σ:=by rfl):L0 d σ/\b:=⟨h,hb⟩
end
-- what simp may go into
section
variable {P : Program} {G : World -> Prop} {V w0 : World} {n : Nd} {ro : Option Nat} {σ σ' : Ab} {K : AV -> List BA -> Prop} {KE : Exit -> Ab -> Prop} {KS : Ab -> Prop} {KA : AV -> Prop} {KB : List BA -> Prop} {o : Oper} {ops l : List Oper} {L L' : Operand -> AV} {bk bk' : List BA} {c : Code} {x x' y y' : AV} {cs cs' : List AV} {is is' : List IV} {t : TypeId} {f : FuncId} {dst : Option Tmp}
@[congr] theorem E27 {B0:Prop} (h:σ=σ') (_:Tk=B0):AW P G ro V w0 n c σ KE=AW P G ro V w0 n c σ' KE:=by rw [h]
@[congr] theorem Da3 {B0:Prop} (h:σ=σ') (_:Tk=B0):Be P G ops l σ KS=Be P G ops l σ' KS:=by rw [h]
@[congr] theorem Dm9 {B0:Prop} (h:σ=σ') (_:Tk=B0):vop P G σ o K=vop P G σ' o K:=by rw [h]
@[congr] theorem Db0 {B0:Prop} (h:L=L') (hb:bk=bk') (_:Tk=B0):Az P G L bk o K=Az P G L' bk' o K:=by rw [h,hb]
@[congr] theorem D59 {B0:Prop} (h:cs=cs') (hb:bk=bk') (_:Tk=B0):Ax P G f cs dst bk K=Ax P G f cs' dst bk' K:=by rw [h,hb]
@[congr] theorem Cj2 {B0:Prop} (h:x=x') (h2:y=y') (hb:bk=bk') (_:Tk=B0):Aj P t x y bk KB=Aj P t x' y' bk' KB:=by rw [h,h2,hb]
@[congr] theorem D53 {B0:Prop} {s d:TypeId} (h:x=x') (_:Tk=B0):R4 P s d x KA=R4 P s d x' KA:=by rw [h]
@[congr] theorem Dg9 {B0:Prop} {i i':AV} (h:x=x') (h3:i=i') (h2:y=y') (hb:bk=bk') (_:Tk=B0):Ak5 P t x i y bk KB=Ak5 P t x' i' y' bk' KB:=by rw [h,h3,h2,hb]
@[congr] theorem Cf5 {B0:Prop} {d d':Nat} (h:x=x') (h2:y=y') (hd:d=d') (hb:bk=bk') (_:Tk=B0):Ag P t x y d bk K=Ag P t x' y' d' bk' K:=by rw [h,h2,hd,hb]
@[congr] theorem Dx0 {B0:Prop} {k m:Nat} {parts:Array (Nat×Operand)} {C D:List (List IV)->Prop} (h:L=L') (_:Tk=B0):bsQ L k m parts C D=bsQ L' k m parts C D:=by rw [h]
@[congr] theorem Dh1 {B0:Prop} {B:Nat->Option BA} (h:x=x') (_:Tk=B0):Bv P t B x KA=Bv P t B x' KA:=by rw [h]
@[congr] theorem Dk8 {B0:Prop} {op:BinOp} {u v:Operand} (h:x=x') (h2:y=y') (_:Tk=B0):Bd P op t u v x y KA=Bd P op t u v x' y' KA:=by rw [h,h2]
@[congr] theorem Dt0 {B0:Prop} {q s:Nat} (h:is=is') (_:Tk=B0):rdI q s is KA=rdI q s is' KA:=by rw [h]
@[congr] theorem Dt1 {B0:Prop} {q s:Nat} (h:cs=cs') (_:Tk=B0):rdA q s cs KA=rdA q s cs' KA:=by rw [h]
@[congr] theorem Cq5 {B0:Prop} {ds:List Nat} {fr0:List (Nat×AV)} {hs:List F7} {KD:List BA->List AV->Prop} (h:bk=bk') (h2:cs=cs') (_:Tk=B0):Aq P G ds fr0 l hs bk cs KD=Aq P G ds fr0 l hs bk' cs' KD:=by rw [h,h2]
@[congr] theorem Df4 {B0:Prop} {rs:List ResultVar} {KL:List AV->Prop} (h:σ=σ') (_:Tk=B0):Nn P σ rs KL=Nn P σ' rs KL:=by rw [h]
def L8 (x:AV) (A B:Prop):Prop:=∃ t,x=.val (.bool t)/\(t=true->A)/\(t=false->B)
variable {A B : Prop}
@[congr] theorem D57 {B0:Prop} (h:x=x') (_:Tk=B0):L8 x A B=L8 x' A B:=by rw [h]
@[go_sem] theorem Bz5:L8 (.val (.bool true)) A B=A:=by simp [L8]
@[go_sem] theorem Bz6:L8 (.val (.bool false)) A B=B:=by simp [L8]
@[go_sem] theorem D55 {t:Bool} (h:t=true):L8 (.val (.bool t)) A B=A:=by rw [h,Bz5]
@[go_sem] theorem D56 {t:Bool} (h:t=false):L8 (.val (.bool t)) A B=B:=by rw [h,Bz6]
theorem De {t:Bool} (h1:t=true->A) (h2:t=false->B):L8 (.val (.bool t)) A B:=⟨t,rfl,h1,h2⟩
def Rk (p:Bool) (A:Prop):Prop:=p=true/\A
@[congr] theorem E21 {B0:Prop} {p:Bool} (_:Tk=B0):Rk p A=Rk p A:=rfl
@[go_sem] theorem E46 {p:Bool} (h:p=true):Rk p A=A:=by simp [Rk,h]
def W1 (P:Program) (G:World->Prop) (ro:Option Nat) (V w0:World) (n:Nd):Code->Ab->(Exit->Ab->Prop)->Prop
 | .skip,σ,K=>K .normal σ
 | .ret,σ,K=>K .ret σ
 | .exit id,σ,K=>K (.exit id) σ
 | .label _,σ,K=>K .normal σ
 | .seq x y,σ,K=>W1 P G ro V w0 n x σ fun e σ'=>match e with
  | .normal=>AW P G ro V w0 n y σ' K
  | e=>K e σ'
 | .block id c,σ,K=>W1 P G ro V w0 n c σ fun e σ'=>match e with
  | .exit j=>if j=id then K .normal σ' else K (.exit j) σ'
  | e=>K e σ'
 | .scope c,σ,K=>W1 P G ro V w0 n c σ fun e σ'=>match e with
  | .goto _=>False
  | e=>K e σ'
 | .cond c x y,σ,K=>L8 (nrm (ev σ.fr c)) (AW P G ro V w0 n x σ K) (AW P G ro V w0 n y σ K)
 | .region _ ops false,σ,K=>Rk (Di n ops.toList) (Be P G ops.toList ops.toList σ fun σ'=>K .normal σ')
 | c,σ,K=>AW P G ro V w0 n c σ K
def Bh4:Code->Bool
 | .region _ _ d=>!d
 | .loop _=>false
 | .rangeFunc _ _ _ _=>false
 | .goto _=>false
 | .refuse _=>false
 | _=>true
@[congr] theorem E20 {B0:Prop} (h:σ=σ') (_:Tk=B0):W1 P G ro V w0 n c σ KE=W1 P G ro V w0 n c σ' KE:=by rw [h]
theorem Az8:∀ {c:Code} {σ:Ab} {K:Exit->Ab->Prop},W1 P G ro V w0 n c σ K->AW P G ro V w0 n c σ K:=by
 intro c
 induction c with
 | skip=>exact fun h=>AW.skip h
 | ret=>exact fun h=>AW.ret h
 | exit id=>exact fun h=>AW.exit h
 | label l=>exact fun h=>AW.label h
 | seq x y ihx _=>exact fun h=>AW.seq (ihx h)
 | block id c ih=>exact fun h=>AW.block (ih h)
 | scope c ih=>exact fun h=>AW.scope (ih h)
 | cond c x y _ _=>exact fun ⟨t,h0,h1,h2⟩=>AW.cond h0 h1 h2
 | region id ops d =>
  cases d with
  | false =>
   intro σ K h
   exact AW.region (l:=ops.toList) h.1 h.2
  | true=>exact fun h=>h
 | _=>exact fun h=>h
theorem st_ (_:Bh4 c=true) (h:W1 P G ro V w0 n c σ KE):AW P G ro V w0 n c σ KE:=Az8 h
variable {id : Nat} {a b : Code}
@[go_sem] theorem Dl5:W1 P G ro V w0 n .skip σ KE=KE .normal σ:=rfl
@[go_sem] theorem Dy2:W1 P G ro V w0 n .ret σ KE=KE .ret σ:=rfl
@[go_sem] theorem Dl7:W1 P G ro V w0 n (.exit id) σ KE=KE (.exit id) σ:=rfl
@[go_sem] theorem D81:W1 P G ro V w0 n (.label id) σ KE=KE .normal σ:=rfl
@[go_sem] theorem Dy1:W1 P G ro V w0 n (.seq a b) σ KE=W1 P G ro V w0 n a σ fun e σ'=>match e with
  | .normal=>AW P G ro V w0 n b σ' KE
  | e=>KE e σ':=rfl
@[go_sem] theorem D83:W1 P G ro V w0 n (.block id a) σ KE=W1 P G ro V w0 n a σ fun e σ'=>match e with
  | .exit j=>if j=id then KE .normal σ' else KE (.exit j) σ'
  | e=>KE e σ':=rfl
@[go_sem] theorem D79:W1 P G ro V w0 n (.scope a) σ KE=W1 P G ro V w0 n a σ fun e σ'=>match e with
  | .goto _=>False
  | e=>KE e σ':=rfl
@[go_sem] theorem Dl8 {q:Operand} : W1 P G ro V w0 n (.cond q a b) σ KE=L8 (nrm (ev σ.fr q)) (AW P G ro V w0 n a σ KE) (AW P G ro V w0 n b σ KE):=rfl
@[go_sem] theorem Co2:W1 P G ro V w0 n (.region id l.toArray false) σ KE=Rk (Di n l) (Be P G l l σ fun σ'=>KE .normal σ'):=rfl
@[go_sem] theorem D82 {q:Array Oper} : W1 P G ro V w0 n (.region id q true) σ KE=AW P G ro V w0 n (.region id q true) σ KE:=rfl
@[go_sem] theorem Dl6:W1 P G ro V w0 n (.loop a) σ KE=AW P G ro V w0 n (.loop a) σ KE:=rfl
@[go_sem] theorem D80 {q:Operand} {ps:Array Tmp} : W1 P G ro V w0 n (.rangeFunc q ps a b) σ KE=AW P G ro V w0 n (.rangeFunc q ps a b) σ KE:=rfl
end
theorem g {A B:Prop} (hb:B) (h:A=B:=by (conv=>lhs;try simp -implicitDefEqProofs (disch:=first | with_unfolding_all exact Eq.trans rfl rfl | omega) only [go_sem,seval]);try rfl):A:=h.mpr hb
-- premises that the discharger settles
section
variable {b : Prop} {P : Program} {G : World -> Prop} {ops rest : List Oper} {KK : Ab -> Prop} {σ : Ab} {d : Option Tmp} {op : Op} {ty : TypeId} {pos : String} {after : Array Edge} {j : Nat} {g : Bool}
@[go_sem] theorem Dh9 (h:(Lc (cid d) (cid d+100) σ.fr&&J9 (cid d) (cid d+100) σ.bk)=true):L0 d σ=True:=eq_true h
@[go_sem] theorem E13 {y:AV} (h:okC y=true):(okC y=true)=True:=eq_true h
@[go_sem] theorem Dm5 {x:Int} {KI:Int->Prop} (h1:-9223372036854775808<=x) (h2:x<=9223372036854775807):(∃ m,IntKind.i64.wrap x=m/\D0 (KI m))=KI x:=by simp [D0,Bn4 h1 h2]
@[go_sem] theorem Dm7 (h:Hz ops σ.fr j=.val (.bool g)):Be P G ops (⟨d,op,ty,pos,after,some (j,g)⟩ :: rest) σ KK=vop P G σ ⟨d,op,ty,pos,after,some (j,g)⟩ fun r bk=>Be P G ops rest ⟨Ee d r σ.fr,bk⟩ KK:=by
 rw [R7]
 simp only [h,true_implies]
 cases g<;>simp
@[go_sem] theorem Dm8 (h:Hz ops σ.fr j=.val (.bool !g)):Be P G ops (⟨d,op,ty,pos,after,some (j,g)⟩ :: rest) σ KK=Be P G ops rest ⟨Ee d (.val undef) σ.fr,σ.bk⟩ KK:=by
 rw [R7]
 simp only [h,true_implies]
 cases g<;>simp
@[go_sem] theorem Dm6 (h:Hz ops σ.fr j=.val undef):Be P G ops (⟨d,op,ty,pos,after,some (j,g)⟩ :: rest) σ KK=Be P G ops rest ⟨Ee d (.val undef) σ.fr,σ.bk⟩ KK:=by
 rw [R7]
 simp only [h,undef]
variable {ds : List Nat} {fr0 : List (Nat × AV)} {toks : List BA} {rs : List AV} {KD : List BA -> List AV -> Prop} {sl : List (Nat × Nat)} {pre rd cs : List Nat} {out : Nat} {hs : List F7}
def Dn (out:Nat) (rt:List BA) (bk':List BA) (F:List BA->Prop):Prop:=bk'=bk'.take out++rt/\(bk'.take out).length=out/\F (bk'.take out)
@[congr] theorem E24 {B0:Prop} {rt bk bk':List BA} {F:List BA->Prop} (h:bk=bk') (_:Tk=B0):Dn out rt bk F=Dn out rt bk' F:=by rw [h]
@[go_sem] theorem E49 {rt bk':List BA} {F:List BA->Prop} (h:bk'=bk'.take out++rt) (h2:(bk'.take out).length=out):Dn out rt bk' F=F (bk'.take out):=by
 unfold Dn
 simp only [h2,true_and]
 exact propext ⟨fun h=>h.2,fun h'=>⟨h,h'⟩⟩
@[go_sem] theorem Db2 : Aq P G ds fr0 (⟨d, op, ty, pos, after, none⟩ :: rest) (⟨sl, pre, rd, cs, out⟩ :: hs) toks rs KD = Az P G (ev (Js sl rs ++ G3 pre ds ++ fr0)) (Cy cs toks ++ Cy rd toks) ⟨d, op, ty, pos, after, none⟩ fun x bk' =>
      Dn out (Cy rd toks) bk' fun nb => Aq P G ds fr0 rest hs (toks ++ nb) (rs ++ [x]) KD := rfl
@[go_sem] theorem Db3 (h : nrm (rs.getD j .any) = .val (.bool g)) : Aq P G ds fr0 (⟨d, op, ty, pos, after, some (j, g)⟩ :: rest) (⟨sl, pre, rd, cs, out⟩ :: hs) toks rs KD = Az P G (ev (Js sl rs ++ G3 pre ds ++ fr0)) (Cy cs toks ++ Cy rd toks) ⟨d, op, ty, pos, after, some (j, g)⟩ fun x bk' =>
      Dn out (Cy rd toks) bk' fun nb => Aq P G ds fr0 rest hs (toks ++ nb) (rs ++ [x]) KD := by
  rw [R9]
  unfold N7
  simp only [h]
  cases g <;> rfl
@[go_sem] theorem Db4 (h:nrm (rs.getD j .any)=.val (.bool !g)) (h0:out=0) (h1:cs=[]):Aq P G ds fr0 (⟨d,op,ty,pos,after,some (j,g)⟩ :: rest) (⟨sl,pre,rd,cs,out⟩ :: hs) toks rs KD=Aq P G ds fr0 rest hs toks (rs++[.val undef]) KD:=by
 rw [R9]
 unfold N7
 simp only [h]
 subst h0 h1
 cases g<;>simp
@[go_sem] theorem Db1 (h:nrm (rs.getD j .any)=.val undef) (h0:out=0) (h1:cs=[]):Aq P G ds fr0 (⟨d,op,ty,pos,after,some (j,g)⟩ :: rest) (⟨sl,pre,rd,cs,out⟩ :: hs) toks rs KD=Aq P G ds fr0 rest hs toks (rs++[.val undef]) KD:=by
 rw [R9]
 unfold N7
 simp only [h,undef]
 subst h0 h1
 simp
theorem E9 {x:Bool} {X:Prop} (_:X=Be P G ops (⟨d,op,ty,pos,after,some (j,g)⟩ :: rest) σ KK) (_:Hz ops σ.fr j=.val (.bool x)) (h1:x=true->X) (h2:x=false->X):X:=by
 cases x
 ·exact h2 rfl
 ·exact h1 rfl
theorem S2 {x:Bool} {X:Prop} (_:X=Aq P G ds fr0 (⟨d,op,ty,pos,after,some (j,g)⟩ :: rest) hs toks rs KD) (_:nrm (rs.getD j .any)=.val (.bool x)) (h1:x=true->X) (h2:x=false->X):X:=by
 cases x
 ·exact h2 rfl
 ·exact h1 rfl
end
@[go_sem] theorem Di6 {α:Type} {c:α} {K:α->Prop} : (∃ u,some c=some u/\D0 (K u))=K c:=by simp [D0]
attribute [go_sem] ne_eq not_false_eq_true Bool.not_true Bool.not_false
attribute [irreducible] D0
end Go.Proofs.YtahgkllhbggmgaaGreatDoor
