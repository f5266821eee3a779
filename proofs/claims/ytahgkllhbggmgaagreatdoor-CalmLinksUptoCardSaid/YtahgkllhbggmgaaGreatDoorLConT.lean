/- Concrete runs: literals, appends, copies, conversions, maps. No program is known here. -/
import Derived.Test.YtahgkllhbggmgaaGreatDoorLAbsDraw
import Derived.Laws.CopyRow
import Derived.Deep.AppendSrc
import Derived.Great.BuildSlice
import Derived.RangeFuncIn
import Derived.Test.YtahgkllhbggmgaaGreatDoorLAbsAp
import Derived.Test.YtahgkllhbggmgaaGreatDoorLAbsUp
import Derived.Deep.Upon
set_option linter.all false
set_option linter.unnecessarySimpa false
set_option linter.unusedSimpArgs false
set_option linter.unusedVariables false
namespace Go.Proofs.YtahgkllhbggmgaaGreatDoor
open Go.ChangeShapes Go.WideShapes Go.ChangeAt Go.RowKit
inductive TR (α:Type) where
 | lf
 | nd (x:Option α) (l r:TR α)
section
variable {α : Type}
/- told by recursors, so that the kernel reckons fast -/
noncomputable def TR.get (t:TR α):Nat->Option α :=
 TR.rec (motive:=fun _=>Nat->Option α) (fun _=>none) (fun x _ _ gl gr n=>Nat.rec (motive:=fun _=>Option α) x (fun m _=>Bool.rec (motive:=fun _=>Nat->Option α) gr gl (Nat.beq (Nat.mod m 2) 0) (Nat.div m 2)) n) t
def TR.one:Nat->Nat->α->TR α
 | 0,_,_=>.lf
 | _+1,0,a=>.nd (some a) .lf .lf
 | k+1,m+1,a=>bif Nat.beq (Nat.mod m 2) 0 then .nd none (TR.one k (Nat.div m 2) a) .lf else .nd none .lf (TR.one k (Nat.div m 2) a)
noncomputable def TR.set (t:TR α):Nat->α->TR α :=
 TR.rec (motive:=fun _=>Nat->α->TR α) (fun n a=>TR.one (Nat.succ n) n a) (fun x l r sl sr n a=>Nat.rec (motive:=fun _=>TR α) (.nd (some a) l r) (fun m _=>Bool.rec (motive:=fun _=>TR α) (.nd x l (sr (Nat.div m 2) a)) (.nd x (sl (Nat.div m 2) a) r) (Nat.beq (Nat.mod m 2) 0)) n) t
end
inductive CV where
 | v (x:Value)
 | p (c o:Nat)
 | s (c o n k e:Nat)
 | z
 | g (l:List CV)
 | t (l:List CV)
 | f (i:FuncId) (l:List CV)
 | y (c:Nat)
 | m (c:Nat)
 | u
instance:Inhabited CV:=⟨.v undef⟩
structure GL where
 st:LoopState
 pe:Option Code
 sl:TR CV
 n:Nat
 ps:List Tmp
 asg:Code
 bd:Code
 d:Nat
inductive GB where
 | cs (l:List CV) (kin:List Nat) (ro:Bool)
 | lp (L:GL)
 | df
 | mp (k:IntKind) (kv:List (Int×Value))
 | no
structure GH where
 t:TR GB
 nx:Nat
 fl:Nat
 hid:List (Nat×Nat)
def Cv:List (Nat×Nat)->Nat->Bool
 | [],_=>false
 | (a,b) :: r,c=>(Nat.ble a c&&Nat.blt c b) || Cv r c
/- stores are taken apart by their recursor: no chain of fields behind fields is left -/
noncomputable def GH.get (h:GH) (c:Nat):Option GB:=GH.rec (motive:=fun _=>Option GB) (fun t _ _ hid=>List.rec (motive:=fun _=>Option GB) (t.get c) (fun _ _ _=>bif Cv hid c then none else t.get c) hid) h
noncomputable def GH.new (h:GH) (b:GB):GH:=GH.rec (motive:=fun _=>GH) (fun t nx fl hid=>⟨t.set nx b,Nat.succ nx,fl,hid⟩) h
noncomputable def GH.setT (h:GH) (c:Nat) (b:GB):GH:=GH.rec (motive:=fun _=>GH) (fun t nx fl hid=>⟨t.set c b,nx,fl,hid⟩) h
noncomputable def GH.put (h:GH) (c:Nat) (b:GB):Option GH:=bif Nat.ble h.fl c then some (h.setT c b) else none
noncomputable def gone:List Nat->TR GB->TR GB
 | [],t=>t
 | k :: r,t=>gone r (t.set k .no)
noncomputable def GH.wr (h:GH) (c:Nat) (l':List CV):Option GH :=
 match h.get c with
 | some (.cs _ kin false)=>GH.rec (motive:=fun _=>Option GH) (fun t nx fl hid=>bif Nat.ble fl c&&kin.all (fun k=>Nat.ble fl k&&Nat.blt k nx) then some ⟨(gone kin t).set c (.cs l' [] false),nx,fl,hid⟩ else none) h
 | _=>none
noncomputable def GH.dress (h:GH) (fl:Nat) (hid:List (Nat×Nat)):GH:=GH.rec (motive:=fun _=>GH) (fun t nx _ _=>⟨t,nx,fl,hid⟩) h
noncomputable def GH.cells (h:GH) (c:Nat):Option (List CV) :=
 match h.get c with
 | some (.cs l _ _)=>some l
 | _=>none
noncomputable def Ca7 (l:List CV):Nat->Option CV:=List.rec (motive:=fun _=>Nat->Option CV) (fun _=>none) (fun x _ ih n=>Nat.rec (motive:=fun _=>Option CV) (some x) (fun m _=>ih m) n) l
noncomputable def A32 (l:List CV):Nat->List CV:=List.rec (motive:=fun _=>Nat->List CV) (fun _=>[]) (fun x l ih n=>Nat.casesOn (motive:=fun _=>List CV) n (x :: l) ih) l
noncomputable def ovC (l:List CV):List CV->Option (List CV):=List.rec (motive:=fun _=>List CV->Option (List CV)) (fun m=>List.casesOn (motive:=fun _=>Option (List CV)) m (some []) fun _ _=>none) (fun x l ih m=>List.casesOn (motive:=fun _=>Option (List CV)) m (some (x :: l)) fun y m=>Option.casesOn (motive:=fun _=>Option (List CV)) (ih m) none fun r=>some (y :: r)) l
noncomputable def Af9 (l:List CV):Nat->List CV->Option (List CV):=List.rec (motive:=fun _=>Nat->List CV->Option (List CV)) (fun o m=>Nat.casesOn (motive:=fun _=>Option (List CV)) o (ovC [] m) fun _=>none) (fun x l ih o m=>Nat.casesOn (motive:=fun _=>Option (List CV)) o (ovC (x :: l) m) fun o=>Option.casesOn (motive:=fun _=>Option (List CV)) (ih o m) none fun r=>some (x :: r)) l
noncomputable def S5 (l:List CV):Nat->Option (List CV):=List.rec (motive:=fun _=>Nat->Option (List CV)) (fun n=>Nat.casesOn (motive:=fun _=>Option (List CV)) n (some []) fun _=>none) (fun x _ ih n=>Nat.casesOn (motive:=fun _=>Option (List CV)) n (some []) fun n=>Option.casesOn (motive:=fun _=>Option (List CV)) (ih n) none fun r=>some (x :: r)) l
noncomputable def rdC (q n o:Nat) (l:List CV):Option CV :=
 match q with
 | 0=>Ca7 l o
 | _=>(S5 (A32 l o) n).map .g
def Hj:CV->List CV
 | .g l=>l
 | x=>[x]
def ofV:Value->CV
 | .agg a=>bif a.toList.all (·.oneCell') then .g (a.toList.map .v) else .u
 | x=>.v x
def B99:CV->Bool
 | .v (.tuple _)=>false
 | .t _=>false
 | .u=>false
 | _=>true
def Tj (P:Program) (t:TypeId):Option (List CV) :=
 match tyZ P t with
 | some (_,zs)=>bif zs.all (·.oneCell') then some (zs.map .v) else none
 | none=>none
abbrev Bm:=TR CV
noncomputable def evC (P:Program) (sl:Bm) (x:Operand):CV :=
 Operand.rec (motive:=fun _=>Program->Bm->CV) (fun t _ sl=>Option.rec (motive:=fun _=>CV) (.v undef) (fun x=>x) (sl.get t)) (fun v _ _=>ofV v) (fun g P _=>bif Nat.blt g P.globals.size then .p g 0 else .u) (fun f _ _=>.f f []) x P sl
def Cb5:CV->Option Int
 | .v (.int _ n)=>some n
 | _=>none
def Rn (x:CV):Option Nat :=
 match Cb5 x with
 | some (.ofNat n)=>some n
 | _=>none
def Aq6 (P:Program) (t:TypeId):Bool :=
 match P.underlying t with
 | some .bool=>true
 | _=>false
def eqC (P:Program) (eqT:Nat->Bool) (t:TypeId):CV->CV->Option Bool
 | .v (.bool a),.v (.bool b)=>bif Aq6 P t then some (a==b) else none
 | .v (.string a),.v (.string b)=>some (a.data.toList==b.data.toList)
 | .v (.slice none 0 0),.v (.slice none 0 0)=>bif (Cq P t).isSome then some true else none
 | .s _ _ _ _ _,.v (.slice none 0 0)=>bif (Cq P t).isSome then some false else none
 | .z,.v (.slice none 0 0)=>bif (Cq P t).isSome then some false else none
 | .g [.v (.int .i64 a),.v (.int .i64 b)],.g [.v (.int .i64 a'),.v (.int .i64 b')]=>bif eqT t then some (a==a'&&b==b') else none
 | _,_=>none
def D71 (P:Program) (eqT:Nat->Bool) (op:BinOp) (t:TypeId) (x y:CV):Option CV :=
 match op,x,y with
 | .shl,.v (.int k a),.v (.int _ b)=>bif decide (0<=b) then some (.v (.int k (k.wrap (a*2 ^ min b.toNat k.bits)))) else none
 | .shr,.v (.int k a),.v (.int _ b)=>bif decide (0<=b) then some (.v (.int k (a.fdiv (2 ^ min b.toNat k.bits)))) else none
 | op,.v (.int k a),.v (.int k' b)=>bif decide (k≠k') then none else match op with
  | .lss=>some (.v (.bool (decide (a < b))))
  | .leq=>some (.v (.bool (decide (a<=b))))
  | .gtr=>some (.v (.bool (decide (b < a))))
  | .geq=>some (.v (.bool (decide (b<=a))))
  | .eql=>some (.v (.bool (decide (a=b))))
  | .neq=>some (.v (.bool (decide (a≠b))))
  | .add=>some (.v (.int k (k.wrap (a+b))))
  | .sub=>some (.v (.int k (k.wrap (a - b))))
  | .mul=>some (.v (.int k (k.wrap (a*b))))
  | .quo=>bif decide (b=0) then none else some (.v (.int k (k.wrap (a.tdiv b))))
  | .rem=>bif decide (b=0) then none else some (.v (.int k (a.tmod b)))
  | .and=>some (.v (.int k (k.wrap (BitVec.ofInt k.bits a &&& BitVec.ofInt k.bits b).toNat)))
  | .or=>some (.v (.int k (k.wrap (BitVec.ofInt k.bits a|||BitVec.ofInt k.bits b).toNat)))
  | .xor=>some (.v (.int k (k.wrap (BitVec.ofInt k.bits a^^^BitVec.ofInt k.bits b).toNat)))
  | .andNot=>some (.v (.int k (k.wrap (BitVec.ofInt k.bits a &&& ~~~BitVec.ofInt k.bits b).toNat)))
  | _=>none
 | .eql,x,y=>(eqC P eqT t x y).map fun b=>.v (.bool b)
 | .neq,x,y=>(eqC P eqT t x y).map fun b=>.v (.bool !b)
 | .add,.v (.string a),.v (.string b)=>bif Nat.ble (a.size+b.size) 1073741824 then some (.v (.string (a++b))) else none
 | _,_,_=>none
def u8C:CV->Option Nat
 | .v (.int .u8 (.ofNat n))=>some n
 | _=>none
def Ab0:List CV->Option (List Nat)
 | []=>some []
 | x :: l=>match u8C x,Ab0 l with
  | some n,some r=>some (n :: r)
  | _,_=>none
noncomputable def Bp3 (P:Program) (s d:TypeId) (h:GH):CV->Option (CV×GH)
 | .v (.int _ m)=>match Nu P s,Nu P d with
  | some _,some k=>some (.v (.int k (k.wrap m)),h)
  | _,_=>none
 | .v (.slice none 0 0)=>bif Lf P s&&Fu P d then some (.v (.string ByteArray.empty),h) else none
 | .v (.string z)=>bif Fu P s&&Lf P d&&Nat.ble z.size 1073741824 then
   some (.s h.nx 0 z.size z.size 1,h.new (.cs (z.data.toList.map fun b=>CV.v (.int .u8 (b.toNat:Nat))) [] true)) else none
 | .s c o n k e=>bif Lf P s&&Nat.beq s d then (match h.get c with
   | some (.cs l [] false)=>(h.put c (.cs l [] true)).map fun h'=>(.s c o n k e,h')
   | _=>none)
  else bif Lf P s&&Fu P d then
   (h.cells c).bind fun l=>(S5 (A32 l o) n).bind fun bs=>(Ab0 bs).map fun l=>(.v (.string (Uy l)),h) else none
 | _=>none
noncomputable def Ui (h:GH) (k:Nat):CV->Option (Nat×List CV)
 | .v (.slice none 0 0)=>some (0,[])
 | .z=>some (0,[])
 | .s c o n _ _=>(h.cells c).bind fun l=>(S5 (A32 l o) (n*k)).map fun m=>(n,m)
 | .v (.string z)=>bif Nat.beq k 1 then some (z.size,z.data.toList.map fun b=>CV.v (.int .u8 (b.toNat:Nat))) else none
 | _=>none
def D06:CV->Option Nat
 | .v (.slice none 0 0)=>some 0
 | .z=>some 0
 | .s _ _ n _ _=>some n
 | .v (.string z)=>some z.size
 | _=>none
noncomputable def Tt (h:GH) (l:List CV) (n k:Nat) (e:Nat) (kin:List Nat):CV×GH:=(.s h.nx 0 n k e,h.new (.cs l kin false))
noncomputable def Cf6 (h:GH) (k y:Nat) (x s:CV):Option (CV×GH) :=
 match Ui h k s with
 | none=>none
 | some (m,ys)=>match x with
  | .v (.slice none 0 0)=>bif Nat.beq m 0 then some (x,h) else bif Nat.ble (m*y) 140737488355328&&Nat.ble m 1073741824 then some (Tt h ys m m k []) else none
  | .z=>bif Nat.beq m 0 then some (x,h) else none
  | .s c o n cp e=>bif Nat.beq m 0 then some (x,h)
   else bif Nat.ble (n+m) cp then (h.cells c).bind fun l=>(bif Nat.beq e k&&Nat.beq l.length (o+n*k) then some (l++ys) else Af9 l (o+n*k) ys).bind fun l'=>(h.wr c l').map fun h'=>(.s c o (n+m) cp e,h')
   else bif Nat.ble ((n+m)*y) 140737488355328&&Nat.ble (n+m) 1073741824 then (match h.get c with
    | some (.cs l kin ro)=>(S5 (A32 l o) (n*k)).bind fun pre =>
     bif Nat.beq e 0 then some (Tt h (pre++ys) (n+m) (n+m) k [])
     else bif Nat.beq o 0&&Nat.beq e k&&Nat.beq l.length (n*k)&&!ro&&Nat.ble h.fl c then some (Tt (h.setT c (.cs l kin true)) (pre++ys) (n+m) (n+m) k (c :: kin))
     else none
    | _=>none) else none
  | _=>none
def Bl9:Option CV->Option (Option Nat)
 | none=>some none
 | some c=>(Rn c).map some
def Bi1 (x:CV) (l hh mm:Option Nat):Option CV :=
 match x with
 | .v (.string z)=>bif mm.isNone&&Nat.ble (l.getD 0) (hh.getD z.size)&&Nat.ble (hh.getD z.size) z.size then some (.v (.string (z.extract (l.getD 0) (hh.getD z.size)))) else none
 | _=>none
def A53 (k:Nat) (x:CV) (l hh mm:Option Nat):Option CV :=
 match x with
 | .v (.slice none 0 0)=>bif (mm.isNone || hh.isSome)&&Nat.beq (mm.getD 0) 0&&Nat.beq (l.getD 0) 0&&Nat.beq (hh.getD 0) 0 then some x else none
 | .z=>bif (mm.isNone || hh.isSome)&&Nat.beq (mm.getD 0) 0&&Nat.beq (l.getD 0) 0&&Nat.beq (hh.getD 0) 0 then some .z else none
 | .s c o n cp e=>bif Nat.ble (l.getD 0) (hh.getD n)&&Nat.ble (hh.getD n) cp then (match mm with
  | none=>bif Nat.beq (l.getD 0) (hh.getD n)&&Nat.blt 0 (l.getD 0) then some .z else bif Nat.beq e 0 || Nat.beq e k then some (.s c (o+l.getD 0*k) (hh.getD n - l.getD 0) (cp - l.getD 0) e) else none
  | some m=>bif hh.isSome&&Nat.ble (hh.getD n) m&&Nat.ble m cp then some (.s c (bif Nat.beq m (l.getD 0) then o else o+l.getD 0*k) (hh.getD n - l.getD 0) (m - l.getD 0) 0) else none) else none
 | _=>none
noncomputable def A28 (places:List (Nat×Nat)):List CV->List (Nat×CV)->Option (List CV)
 | cells,[]=>some cells
 | cells,(i,v) :: rest=>match places[i]? with
  | none=>none
  | some (off,size)=>bif B99 v&&Nat.beq (Hj v).length size then (Af9 cells off (Hj v)).bind fun cs=>A28 places cs rest else none
def Ri (zs:List CV):Nat->List CV
 | 0=>[]
 | n+1=>zs++Ri zs n
noncomputable def B35 (h:GH):List CV->Option (CV×GH)
 | [.v (.slice none 0 0),.v (.int .i64 (.ofNat n))]=>bif Nat.blt 0 n&&Nat.ble n 1073741824 then some (Tt h [] 0 n 1 []) else none
 | [.s c 0 m cp e,.v (.int .i64 (.ofNat n))]=>match h.get c with
  | some (.cs l kin false)=>bif Nat.blt 0 n&&Nat.ble (m+n) 1073741824&&Nat.beq l.length m&&Nat.ble h.fl c&&(Nat.beq e 1 || (Nat.beq e 0&&Nat.beq cp m)) then
    some (Tt (h.setT c (.cs l kin true)) l m (m+n) 1 (c :: kin)) else none
  | _=>none
 | _=>none
inductive Ex where
 | normal
 | exit (id:Nat)
 | ret
structure FrS where
 sl:Bm
 n:Nat
 ds:List Nat
 h:GH
inductive Mm where
 | call (f:FuncId) (l:List CV)
 | round (c:Nat) (l:List CV)
section
variable (P : Program) (eqT : Nat -> Bool) (rec : Mm -> GH -> Option (CV × GH))
noncomputable def Be6 (c x y:CV) (h:GH):Option (CV×GH) :=
 match c with
 | .v (.bool true)=>some (x,h)
 | .v (.bool false)=>some (y,h)
 | _=>none
noncomputable def Ap8 (e:TypeId) (h:GH):Option (CV×GH):=(Tj P e).map fun z=>(.p h.nx 0,h.new (.cs z [] false))
noncomputable def Co8 (x:CV) (h:GH):Option (CV×GH):=bif B99 x then some (.p h.nx 0,h.new (.cs (Hj x) [] false)) else none
noncomputable def Ap7 (t:TypeId) (ps:List (Nat×CV)) (h:GH):Option (CV×GH):=(M2 P t).bind fun z=>(Tj P t).bind fun zs=>(A28 z.2 zs ps).map fun cs=>(.g cs,h)
noncomputable def A40 (t:TypeId) (len:Nat) (ps:List (Nat×CV)) (h:GH):Option (CV×GH) :=
 match Cq P t with
 | some (e,k,_)=>(Tj P e).bind fun z=>bif Nat.blt 0 k&&Nat.ble (len*k) 16777216&&Nat.beq z.length k then
   (A28 ((List.range len).map fun i=>(i*k,k)) (Ri z len) ps).map fun cs=>Tt h cs len len 0 [] else none
 | none=>none
noncomputable def Bf0 (t:TypeId) (x:CV) (h:GH):Option (CV×GH) :=
 match x with
 | .p c o=>match tyK P t with
  | some (q,s)=>(h.cells c).bind fun l=>(rdC q s o l).map fun x=>(x,h)
  | none=>none
 | _=>none
noncomputable def Wk (t:TypeId) (x y:CV) (h:GH):Option (CV×GH) :=
 match x with
 | .p c o=>match tyK P t with
  | some (_,s)=>(h.cells c).bind fun l=>bif B99 y&&Nat.beq (Hj y).length s then (Af9 l o (Hj y)).bind fun l'=>(h.wr c l').map fun h'=>(.v undef,h') else none
  | none=>none
 | _=>none
noncomputable def C59 (x:CV) (h:GH):Option (CV×GH) :=
 match x with
 | .p c o=>some (.p c o,h)
 | .f i l=>some (.f i l,h)
 | .y c=>some (.y c,h)
 | _=>none
noncomputable def C63 (op:BinOp) (t:TypeId) (x y:CV) (h:GH):Option (CV×GH):=(D71 P eqT op t x y).map fun r=>(r,h)
noncomputable def xUn (op:UnOp) (x:CV) (h:GH):Option (CV×GH) :=
 match x with
 | .v (.bool b)=>match op with
  | .not=>some (.v (.bool !b),h)
  | _=>none
 | .v (.int k m)=>match op with
  | .neg=>some (.v (.int k (k.wrap (0 - m))),h)
  | .xor=>some (.v (.int k (k.wrap (BitVec.ofInt k.bits (if k.signed then -1 else k.max)^^^BitVec.ofInt k.bits m).toNat)),h)
  | _=>none
 | _=>none
noncomputable def xFn (fn:Fn) (first:Array Operand) (caps:List CV) (h:GH):Option (CV×GH) :=
 match fn with
 | .func f=>bif first.isEmpty then some (.f f caps,h) else none
 | _=>none
noncomputable def Be8 (t:TypeId) (n m:CV) (h:GH):Option (CV×GH) :=
 match Cq P t,Rn n,Rn m with
 | some (e,k,y),some n,some m=>(Tj P e).bind fun z=>bif Nat.blt 0 k&&Nat.ble n m&&Nat.ble (m*k) 16777216&&Nat.ble (y*m) 281474976710656&&Nat.beq z.length k then some (Tt h (Ri z m) n m 0 []) else none
 | _,_,_=>none
noncomputable def Ap1 (t:TypeId) (x:CV) (lo hi mx:Option CV) (h:GH):Option (CV×GH) :=
 match Bl9 lo,Bl9 hi,Bl9 mx with
 | some l,some hh,some mm=>bif Fu P t then (Bi1 x l hh mm).map fun r=>(r,h) else match Cq P t with
  | some (_,k,_)=>(A53 k x l hh mm).map fun r=>(r,h)
  | none=>match Ra P t,x with
   | some (n,_,k),.p c o=>bif Nat.ble n 1073741824 then (A53 k (.s c o n n 0) l hh mm).map fun r=>(r,h) else none
   | _,_=>none
 | _,_,_=>none
noncomputable def A39 (t:TypeId) (x:CV) (f:Nat) (h:GH):Option (CV×GH) :=
 match x with
 | .p c o=>match tyF P t f with
  | some (off,_,s)=>bif Nat.beq s 0 then none else some (.p c (o+off),h)
  | none=>none
 | _=>none
noncomputable def Ap3 (t:TypeId) (x:CV) (f:Nat) (h:GH):Option (CV×GH) :=
 match x with
 | .g l=>match tyF P t f with
  | some (off,q,s)=>(rdC q s off l).map fun x=>(x,h)
  | none=>none
 | _=>none
noncomputable def A38 (t:TypeId) (x i:CV) (h:GH):Option (CV×GH) :=
 match Rn i with
 | some m=>match x with
  | .s c o n _ _=>match Cq P t with
   | some (_,k,_)=>bif Nat.blt m n&&Nat.blt 0 k then some (.p c (o+m*k),h) else none
   | none=>none
  | .p c o=>match Ra P t with
   | some (n,_,k)=>bif Nat.blt m n&&Nat.blt 0 k then some (.p c (o+m*k),h) else none
   | none=>none
  | _=>none
 | none=>none
noncomputable def Ap2 (t:TypeId) (x i:CV) (h:GH):Option (CV×GH) :=
 match Rn i with
 | some m=>match x with
  | .g l=>match Ra P t with
   | some (n,q,k)=>bif Nat.blt m n then (rdC q k (m*k) l).map fun x=>(x,h) else none
   | none=>none
  | .v (.string s)=>bif Fu P t then (s.data.toList[m]?).map fun b=>(.v (.int .u8 (b.toNat:Nat)),h) else none
  | _=>none
 | none=>none
noncomputable def C60 (t:TypeId) (r:Option CV) (h:GH):Option (CV×GH) :=
 match Qf P t with
 | some (k,_)=>match r with
  | none=>some (.m h.nx,h.new (.mp k []))
  | some (.v (.int _ _))=>some (.m h.nx,h.new (.mp k []))
  | _=>none
 | none=>none
noncomputable def Be9 (t:TypeId) (x i:CV) (ok:Bool) (h:GH):Option (CV×GH) :=
 match x,i with
 | .m c,.v (.int k' m)=>match Qf P t,h.get c with
  | some (k,z),some (.mp k'' kv)=>bif !ok&&decide (k'=k)&&decide (k''=k)&&z.oneCell'&&kv.all (fun e=>e.2.oneCell') then some (.v ((Jq kv m).getD z),h) else none
  | _,_=>none
 | _,_=>none
noncomputable def Be7 (t:TypeId) (x i y:CV) (h:GH):Option (CV×GH) :=
 match x,i,y with
 | .m c,.v (.int k' m),.v u=>match Qf P t,h.get c with
  | some (k,_),some (.mp k'' kv)=>bif decide (k'=k)&&decide (k''=k) then (h.put c (.mp k (Kw kv m u))).map fun h'=>(.v undef,h') else none
  | _,_=>none
 | _,_,_=>none
noncomputable def Wl (x:CV) (i:Nat) (h:GH):Option (CV×GH) :=
 match x with
 | .t l=>(Ca7 l i).map fun x=>(x,h)
 | _=>none
noncomputable def Ap5 (f:CV) (args:List CV) (h:GH):Option (CV×GH) :=
 match f with
 | .f f caps=>rec (.call f (args++caps)) h
 | .y c=>rec (.round c args) h
 | _=>none
def Af0 (t':TypeId) (y:CV):Bool :=
 match y with
 | .v (.string _)=>Fu P t'
 | _=>(Cq P t').isSome
noncomputable def C64 (t t':TypeId) (x y:CV) (h:GH):Option (CV×GH) :=
 match Cq P t with
 | some (e,k,b)=>(Tj P e).bind fun z=>bif Nat.blt 0 k&&Nat.beq z.length k then (match y with
  | .v (.int _ n)=>match Nu P t',x with
   | some _,.v (.slice none 0 0) =>
    let m:=n.toNat
    bif Nat.blt 0 m&&Nat.ble (m*b) 140737488355328&&Nat.ble (m*k) 16777216 then some (Tt h (Ri z m) m m k []) else none
   | _,_=>none
  | y=>bif Af0 P t' y then Cf6 h k b x y else none) else none
 | none=>none
noncomputable def Bf1 (t t':TypeId) (x y:CV) (h:GH):Option (CV×GH) :=
 match Cq P t with
 | some (_,k,_)=>(Ui h k y).bind fun r=>bif Af0 P t' y then (match x with
  | .s c o n _ _=>(S5 r.2 (Nat.min r.1 n*k)).bind fun ys=>(h.cells c).bind fun l=>(Af9 l o ys).bind fun l'=>(h.wr c l').map fun h'=>(.v (.int .i64 (Nat.min r.1 n:Nat)),h')
  | .z=>some (.v (.int .i64 0),h)
  | .v (.slice none 0 0)=>some (.v (.int .i64 0),h)
  | _=>none) else none
 | none=>none
noncomputable def C61 (t:TypeId) (x:CV) (h:GH):Option (CV×GH):=(D06 x).bind fun n=>bif (match x with | .v (.string _)=>Fu P t | _=>(Cq P t).isSome) then some (.v (.int .i64 (n:Nat)),h) else none
def C62 (t:TypeId) (x:CV) (h:GH):Option (CV×GH) :=
 bif (Cq P t).isNone then none else match x with
 | .s _ _ _ k 0=>some (.v (.int .i64 (k:Nat)),h)
 | .v (.slice none 0 0)=>some (.v (.int .i64 0),h)
 | _=>none
def Vn (mx:Bool) (x y:CV) (h:GH):Option (CV×GH) :=
 match x,y with
 | .v (.int k p),.v (.int _ q)=>some (.v (.int k (bif mx then max p q else min p q)),h)
 | _,_=>none
noncomputable def Ap4 (t:TypeId) (x:CV) (h:GH):Option (CV×GH) :=
 match Cq P t with
 | some (e,k,_)=>match x with
  | .v (.slice none 0 0)=>some (.v undef,h)
  | .z=>some (.v undef,h)
  | .s c o n _ _=>bif Nat.beq n 0 then some (.v undef,h) else (Tj P e).bind fun z=>bif Nat.beq z.length k then (h.cells c).bind fun l=>(Af9 l o (Ri z n)).bind fun l'=>(h.wr c l').map fun h'=>(.v undef,h') else none
  | _=>none
 | none=>none
noncomputable def Ap6 (b:Builtin) (ts:List TypeId) (xs:List CV) (h:GH):Option (CV×GH) :=
 match b,ts,xs with
 | .append,[t,t'],[x,y]=>C64 P t t' x y h
 | .copy,[t,t'],[x,y]=>Bf1 P t t' x y h
 | .len,[t],[x]=>C61 P t x h
 | .clear,[t],[x]=>Ap4 P t x h
 | .cap,[t],[x]=>C62 P t x h
 | .max,_,[x,y]=>Vn true x y h
 | .min,_,[x,y]=>Vn false x y h
 | .min,_,[x,y,z,u]=>(Vn false x y h).bind fun r=>(Vn false r.1 z h).bind fun r=>Vn false r.1 u h
 | _,_,_=>none
noncomputable def Bf2 (c:Call) (L:Operand->CV) (h:GH):Option (CV×GH) :=
 match c.callee with
 | .value f=>Ap5 rec (L f) (c.args.toList.map L) h
 | .builtin b=>Ap6 P b c.argTypes.toList (c.args.toList.map L) h
 | _=>none
end
abbrev OpW:=Program->(Nat->Bool)->(Mm->GH->Option (CV×GH))->(Operand->CV)->GH->Option (CV×GH)
noncomputable def opD (op:Op):OpW :=
 Op.rec (motive:=fun _=>OpW)
  (fun x _ _ _ L h=>some (L x,h)) (fun x _ _ _ L h=>some (L x,h)) (fun c x y _ _ _ L h=>Be6 (L c) (L x) (L y) h)
  (fun e P _ _ _ h=>Ap8 P e h) (fun _ x _ _ _ L h=>Co8 (L x) h)
  (fun t ps P _ _ L h=>Ap7 P t (ps.toList.map fun p=>(p.1,L p.2)) h) (fun t n ps P _ _ L h=>A40 P t n (ps.toList.map fun p=>(p.1,L p.2)) h)
  (fun _ _ _ _ _ _ _ _ _=>none)
  (fun t x P _ _ L h=>Bf0 P t (L x) h) (fun t x y P _ _ L h=>Wk P t (L x) (L y) h)
  (fun _ _ _ _ _ _=>none) (fun _ _ _ _ _ _=>none)
  (fun x _ _ _ L h=>C59 (L x) h)
  (fun op t x y _ P eqT _ L h=>C63 P eqT op t (L x) (L y) h) (fun op _ x _ _ _ L h=>xUn op (L x) h) (fun s d x P _ _ L h=>Bp3 P s d h (L x))
  (fun _ _ _ _ _ _ _=>none) (fun _ _ _ _ _ _ _=>none)
  (fun fn first caps _ _ _ L h=>xFn fn first (caps.toList.map L) h) (fun t r P _ _ L h=>C60 P t (r.map L) h) (fun _ _ _ _ _ _ _=>none) (fun t n m P _ _ L h=>Be8 P t (L n) (L m) h)
  (fun t x lo hi mx P _ _ L h=>Ap1 P t (L x) (lo.map L) (hi.map L) (mx.map L) h)
  (fun t x f P _ _ L h=>A39 P t (L x) f h) (fun t x f P _ _ L h=>Ap3 P t (L x) f h) (fun t x i P _ _ L h=>A38 P t (L x) (L i) h) (fun t x i P _ _ L h=>Ap2 P t (L x) (L i) h)
  (fun t x i ok P _ _ L h=>Be9 P t (L x) (L i) ok h) (fun t x i y P _ _ L h=>Be7 P t (L x) (L i) (L y) h)
  (fun _ _ _ _ _ _ _ _=>none) (fun _ _ _ _ _ _ _ _ _=>none) (fun _ _ _ _ _ _ _=>none) (fun _ _ _ _ _ _ _=>none) (fun _ _ _ _ _ _=>none) (fun _ _ _ _ _ _ _ _ _=>none)
  (fun x i _ _ _ L h=>Wl (L x) i h) (fun c P _ rec L h=>Bf2 P rec c L h)
  (fun _ _ _ _ _ _=>none) (fun _ _ _ _ _ _=>none) (fun _ _ _ _ _ _=>none) (fun _ _ _ _ _ _ _=>none) (fun _ _ _ _ _ _ _ _=>none) (fun _ _ _ _ _ _ _=>none) op
section
variable (P : Program) (eqT : Nat -> Bool) (rec : Mm -> GH -> Option (CV × GH))
noncomputable def opC (L:Operand->CV) (h:GH) (o:Oper):Option (CV×GH):=opD o.op P eqT rec L h
noncomputable def Xi (sl:Bm) (n:Nat) (dst:Option Tmp) (x:CV):Option Bm :=
 Option.rec (motive:=fun _=>Option Bm) (some sl) (fun d=>Bool.rec (motive:=fun _=>Option Bm) none (some (sl.set d x)) (Nat.ble (Nat.succ d) n)) dst
noncomputable def Y4 (ops:List Oper) (sl:Bm) (j:Nat) (b:Bool):Option Bool :=
 match (ops[j]?).bind (·.dst) with
 | some d=>match sl.get d with
  | some (.v (.bool x))=>some (x==b)
  | some (.v (.tuple _))=>some false
  | _=>none
 | none=>none
noncomputable def Rz (ops:List Oper) (sl:Bm) (o:Oper):Option Bool :=
 Option.rec (motive:=fun _=>Option Bool) (some true) (fun g=>Y4 ops sl g.1 g.2) o.guard
noncomputable def goC (ops:List Oper) (n:Nat) (o:Oper) (K:Bm->GH->Option (Bm×GH)) (sl:Bm) (h:GH):Option (Bm×GH) :=
 Option.rec (motive:=fun _=>Option (Bm×GH)) none (fun b=>Bool.rec (motive:=fun _=>Option (Bm×GH))
  (Option.rec (motive:=fun _=>Option (Bm×GH)) none (fun sl'=>K sl' h) (Xi sl n o.dst (.v undef)))
  (Option.rec (motive:=fun _=>Option (Bm×GH)) none (fun r=>Prod.rec (motive:=fun _=>Option (Bm×GH)) (fun x h'=>Option.rec (motive:=fun _=>Option (Bm×GH)) none (fun sl'=>K sl' h') (Xi sl n o.dst x)) r) (opC P eqT rec (evC P sl) h o)) b) (Rz ops sl o)
noncomputable def Ca5 (ops:List Oper) (n:Nat) (l:List Oper):Bm->GH->Option (Bm×GH) :=
 List.rec (motive:=fun _=>Bm->GH->Option (Bm×GH)) (fun sl h=>some (sl,h)) (fun o _ ih=>goC P eqT rec ops n o ih) l
def Ca0 (o:Oper):List Tmp:=o.op.operands.toList.filterMap fun | .tmp u=>some u | _=>none
def D49 (ops:List Oper) (A:List Nat):Bool :=
 Ss ops.toArray&&U1 (Fq ops)&&(List.range ops.length).all fun i=>match ops[i]? with
  | some o=>(match o.guard with
    | none=>true
    | some (j,_)=>(A.getD i 0).testBit j)&&(List.range ops.length).all fun j=>match (ops[j]?).bind (·.dst) with
   | some d=>!(Ca0 o).contains d || i==j || (A.getD i 0).testBit j || (A.getD j 0).testBit i
   | none=>true
  | none=>false
def D3 (o:Oper):Nat :=
 match o.op with
 | .load _ _=>1
 | .store _ _ _=>2
 | .call { callee:=.builtin .len,args:=_,argTypes:=_ }=>0
 | .call { callee:=.builtin .cap,args:=_,argTypes:=_ }=>0
 | .call { callee:=.builtin .max,args:=_,argTypes:=_ }=>0
 | .call { callee:=.builtin .min,args:=_,argTypes:=_ }=>0
 | .call _=>3
 | .convert _ _ _=>3
 | .lookup _ _ _ _=>3
 | .mapUpdate _ _ _ _=>3
 | _=>0
structure DI where
 o:Oper
 cut:Bool
 an:Nat
 cf:List Nat
 bad:Bool
def Yg (ops:List Oper):Option (List DI) :=
 let A:=bef [] (ops.map Cm)
 let n:=ops.length
 let free (i j:Nat):Bool:=!((A.getD i 0).testBit j || (A.getD j 0).testBit i || i==j)
 bif D49 ops A then some (ops.zipIdx.map fun (o,i)=>⟨o,(List.range n).all fun j=>!free i j,A.getD i 0,
  (List.range i).filter fun j=>free i j&&match D3 o,(ops[j]?).map D3 with
   | 1,some 2=>true
   | 2,some 1=>true
   | 2,some 2=>true
   | _,_=>false,
  (List.range n).any fun j=>free i j&&match D3 o,(ops[j]?).map D3 with
   | 3,some 2=>true
   | 2,some 3=>true
   | _,_=>false⟩) else none
def Rt (a:Nat):List Nat->Nat->Nat->List (Nat×Nat)
 | [],_,_=>[]
 | s :: r,j,e=>bif Nat.beq s e || a.testBit j then Rt a r (j - 1) s else (s,e) :: Rt a r (j - 1) s
noncomputable def Nb (L:Operand->CV) (o:Oper):Nat :=
 match o.op with
 | .load _ x=>match L x with
  | .p c _=>c+1
  | _=>0
 | .store _ x _=>match L x with
  | .p c _=>c+1
  | _=>0
 | _=>0
def Bq1 (b i:Nat) (fs:List Nat):List Nat->Bool
 | []=>true
 | j :: r=>!Nat.beq (fs.getD (i - 1 - j) 0) b&&Bq1 b i fs r
noncomputable def B15 (h:GH) (b:Nat):Bool :=
 match h.get (b - 1) with
 | some (.cs _ [] _)=>true
 | _=>false
noncomputable def Pv (k b:Nat) (h:GH):TR GB :=
 bif Nat.beq k 3 then h.t else bif Nat.beq k 1&&Nat.blt 0 b then (match h.get (b - 1) with
  | some g=>TR.set .lf (b - 1) g
  | none=>.lf) else .lf
noncomputable def Bm2 (k:Nat) (h r:GH):Option GH :=
 bif Nat.beq k 3 then some (r.dress h.fl h.hid) else bif Nat.beq r.nx h.nx then some h else bif Nat.beq r.nx (Nat.succ h.nx) then (match r.t.get h.nx with
  | some g=>some (h.new g)
  | none=>none) else none
noncomputable def Bd1 (d:DI) (i:Nat) (ss fs:List Nat) (sl:Bm) (h:GH):Option (CV×GH) :=
 bif d.cut then opC P eqT rec (evC P sl) h d.o
 else bif d.bad || !Bq1 (Nb (evC P sl) d.o) i fs d.cf then none
 else bif Nat.beq (D3 d.o) 2 then (bif B15 h (Nb (evC P sl) d.o) then opC P eqT rec (evC P sl) h d.o else none)
 else (opC P eqT rec (evC P sl) ⟨Pv (D3 d.o) (Nb (evC P sl) d.o) h,h.nx,h.nx,Rt d.an ss (i - 1) h.nx++h.hid⟩ d.o).bind fun r=>(Bm2 (D3 d.o) h r.2).map fun h'=>(r.1,h')
noncomputable def Cd7 (ops:List Oper) (n:Nat) (d:DI) (K:Nat->List Nat->List Nat->Bm->GH->Option (Bm×GH)) (i:Nat) (ss fs:List Nat) (sl:Bm) (h:GH):Option (Bm×GH) :=
 match Rz ops sl d.o with
 | some true=>match Bd1 P eqT rec d i ss fs sl h with
  | some (x,h')=>match Xi sl n d.o.dst x with
   | some sl'=>K (Nat.succ i) (h.nx :: ss) (Nb (evC P sl) d.o :: fs) sl' h'
   | none=>none
  | none=>none
 | some false=>match Xi sl n d.o.dst (.v undef) with
  | some sl'=>K (Nat.succ i) (h.nx :: ss) (0 :: fs) sl' h
  | none=>none
 | none=>none
noncomputable def drC (ops:List Oper) (n:Nat) (l:List DI):Nat->List Nat->List Nat->Bm->GH->Option (Bm×GH) :=
 List.rec (motive:=fun _=>Nat->List Nat->List Nat->Bm->GH->Option (Bm×GH)) (fun _ _ _ sl h=>some (sl,h)) (fun d _ ih=>Cd7 P eqT rec ops n d ih) l
noncomputable def A21 (f:FrS->Option (Ex×FrS)) (n:Nat):FrS->Option (Ex×FrS) :=
 Nat.rec (motive:=fun _=>FrS->Option (Ex×FrS)) (fun _=>none) (fun _ ih s=>match f s with
  | some (.normal,s')=>ih s'
  | r=>r) n
noncomputable def Ai1:List Tmp->List CV->Bm->Nat->Option Bm
 | [],[],sl,_=>some sl
 | p :: ps,x :: xs,sl,n=>bif Nat.blt p n then Ai1 ps xs (sl.set p x) n else none
 | _,_,_,_=>none
noncomputable def C99 (draw:Bool) (ops:List Oper) (s:FrS):Option (Ex×FrS) :=
 match draw with
 | false=>(Ca5 P eqT rec ops s.n ops s.sl s.h).map fun r=>(.normal,⟨r.1,s.n,s.ds,r.2⟩)
 | true=>match Yg ops with
  | some l=>(drC P eqT rec ops s.n l 0 [] [] s.sl s.h).map fun r=>(.normal,⟨r.1,s.n,s.ds,r.2⟩)
  | none=>none
def C93 (x y:FrS->Option (Ex×FrS)) (s:FrS):Option (Ex×FrS) :=
 match x s with
 | some (.normal,s')=>y s'
 | r=>r
noncomputable def Bp4 (c:Operand) (x y:FrS->Option (Ex×FrS)) (s:FrS):Option (Ex×FrS) :=
 match evC P s.sl c with
 | .v (.bool true)=>x s
 | .v (.bool false)=>y s
 | _=>none
def Az6 (id:Nat) (x:FrS->Option (Ex×FrS)) (s:FrS):Option (Ex×FrS) :=
 match x s with
 | some (.exit j,s')=>bif Nat.beq j id then some (.normal,s') else some (.exit j,s')
 | r=>r
noncomputable def C35 (ro:Option Nat) (s:FrS):Option (Nat×GH×List Nat) :=
 match ro with
 | some l=>match s.h.get l with
  | some (.lp L)=>some (L.d,s.h,s.ds)
  | _=>none
 | none=>some (s.h.nx,s.h.new .df,s.h.nx :: s.ds)
noncomputable def D38 (c:Nat) (ds:List Nat) (h:GH) (s:FrS):Option (Ex×FrS) :=
 match h.get c with
 | some (.lp L)=>bif L.st==.busy then none else match h.put c (.lp { L with st:=.exhausted }) with
  | some h3=>match L.pe with
   | none=>some (.normal,{ s with ds:=ds,h:=h3 })
   | some .ret=>some (.ret,{ s with ds:=ds,h:=h3 })
   | some (.exit id)=>some (.exit id,{ s with ds:=ds,h:=h3 })
   | _=>none
  | none=>none
 | _=>none
noncomputable def At9 (ro:Option Nat) (g:Operand) (ps:List Tmp) (asg bd:Code) (s:FrS):Option (Ex×FrS) :=
 match evC P s.sl g with
 | .f gf caps=>match C35 ro s with
  | some (d,h1,ds)=>match rec (.call gf (.y h1.nx :: caps)) (h1.new (.lp ⟨.ready,none,s.sl,s.n,ps,asg,bd,d⟩)) with
   | some (_,h2)=>D38 h1.nx ds h2 s
   | none=>none
  | none=>none
 | _=>none
noncomputable def Hh (fu:Nat) (ro:Option Nat) (c:Code):FrS->Option (Ex×FrS) :=
 Code.rec (motive:=fun _=>FrS->Option (Ex×FrS)) (fun s=>some (.normal,s)) (fun _ ops draw=>C99 P eqT rec draw ops.toList) (fun _ _ x y=>C93 x y) (fun c _ _ x y=>Bp4 P c x y) (fun id _ x=>Az6 id x) (fun _ x=>A21 x fu)
  (fun g ps asg bd _ _=>At9 P rec ro g ps.toList asg bd) (fun id s=>some (.exit id,s)) (fun _ x=>x) (fun _ s=>some (.normal,s)) (fun _ _=>none) (fun s=>some (.ret,s)) (fun _ _=>none) c
noncomputable def C95 (sl:Bm) (h:GH):ResultVar->Option CV
 | .tmp t=>sl.get t
 | .cell a t=>match tyK P t,sl.get a with
  | some (q,s),some (.p c o)=>(h.cells c).bind (rdC q s o)
  | _,_=>none
noncomputable def C94 (sl:Bm) (h:GH) (rs:List ResultVar):Option CV :=
 (rs.mapM (C95 P sl h)).map fun l=>match l with
  | [x]=>x
  | l=>.t l
noncomputable def Yx:Nat->List CV->Bm->Bm
 | _,[],sl=>sl
 | i,x :: r,sl=>Yx (i+1) r (sl.set i x)
end
noncomputable def Af6:List Nat->GH->Option GH
 | [],h=>some h
 | d :: r,h=>match h.get d with
  | some .df=>(h.put d .no).bind (Af6 r)
  | _=>none
abbrev Sp:=FuncId->Option (GH->List CV->Option (CV×GH))
noncomputable def X9 (P:Program) (eqT:Nat->Bool) (sp:Sp):Nat->Mm->GH->Option (CV×GH)
 | 0,_,_=>none
 | fu+1,.call f l,h=>match sp f with
  | some g=>g h l
  | none=>match P.funcs[f]? with
  | some fn=>match fn.body with
   | some c => bif fn.name == "runtime.NumGoroutine" || Nat.blt fn.ntmps l.length then none else
    match Hh P eqT (X9 P eqT sp fu) fu none c ⟨Yx 0 l .lf,fn.ntmps,[],h⟩ with
    | some (.exit _,_)=>none
    | some (_,s)=>match Af6 s.ds s.h with
     | some h'=>(C94 P s.sl h' fn.results.toList).map fun x=>(x,h')
     | none=>none
    | none=>none
   | none=>none
  | none=>none
 | fu+1,.round c l,h=>match h.get c with
  | some (.lp L)=>match Ai1 L.ps l L.sl L.n with
   | some sl=>bif L.st==.ready then
    match Hh P eqT (X9 P eqT sp fu) fu (some c) L.asg ⟨sl,L.n,[],h⟩ with
    | some (.normal,s)=>match s.ds,s.h.get c with
     | [],some (.lp L1)=>match (bif L1.st==.ready then s.h.put c (.lp { L1 with st:=.busy }) else none) with
      | some h1=>match Hh P eqT (X9 P eqT sp fu) fu (some c) L.bd ⟨s.sl,L.n,[],h1⟩ with
       | some (e,s2)=>match s2.ds,s2.h.get c with
        | [],some (.lp L2) =>
         let j:Option Code:=match e with
          | .normal=>none
          | .ret=>some .ret
          | .exit id=>some (.exit id)
         (s2.h.put c (.lp { L2 with st:=bif j.isNone then .ready else .done,pe:=j })).map fun h3=>(.v (.bool j.isNone),h3)
        | _,_=>none
       | none=>none
      | none=>none
     | _,_=>none
    | _=>none
    else none
   | none=>none
  | _=>none
section
variable {α : Type}
theorem TR.get_lf (m:Nat):(TR.lf:TR α).get m=none:=rfl
theorem TR.get_0 (x:Option α) (l r:TR α):(TR.nd x l r).get 0=x:=rfl
theorem TR.get_s (x:Option α) (l r:TR α) (m:Nat):(TR.nd x l r).get (m+1)=if m % 2=0 then l.get (m / 2) else r.get (m / 2):=by
 have h:(TR.nd x l r).get (m+1)=Bool.rec (motive:=fun _=>Nat->Option α) r.get l.get (Nat.beq (Nat.mod m 2) 0) (Nat.div m 2):=rfl
 rw [h]
 cases e:Nat.beq (Nat.mod m 2) 0 with
 | true=>rw [if_pos (show m % 2=0 from Nat.eq_of_beq_eq_true e)];rfl
 | false=>rw [if_neg (show ¬ m % 2=0 from Nat.ne_of_beq_eq_false e)];rfl
theorem TR.set_0 (x:Option α) (l r:TR α) (a:α):(TR.nd x l r).set 0 a=.nd (some a) l r:=rfl
theorem TR.set_s (x:Option α) (l r:TR α) (m:Nat) (a:α):(TR.nd x l r).set (m+1) a=if m % 2=0 then .nd x (l.set (m / 2) a) r else .nd x l (r.set (m / 2) a):=by
 have h:(TR.nd x l r).set (m+1) a=Bool.rec (motive:=fun _=>TR α) (.nd x l (r.set (m / 2) a)) (.nd x (l.set (m / 2) a) r) (Nat.beq (Nat.mod m 2) 0):=rfl
 rw [h]
 cases e:Nat.beq (Nat.mod m 2) 0 with
 | true=>rw [if_pos (show m % 2=0 from Nat.eq_of_beq_eq_true e)]
 | false=>rw [if_neg (show ¬ m % 2=0 from Nat.ne_of_beq_eq_false e)]
theorem TR.one_s (k m:Nat) (a:α):TR.one (k+1) (m+1) a=if m % 2=0 then .nd none (TR.one k (m / 2) a) .lf else .nd none .lf (TR.one k (m / 2) a):=by
 show (bif Nat.beq (Nat.mod m 2) 0 then _ else _)=_
 cases e:Nat.beq (Nat.mod m 2) 0 with
 | true=>rw [if_pos (show m % 2=0 from Nat.eq_of_beq_eq_true e)];rfl
 | false=>rw [if_neg (show ¬ m % 2=0 from Nat.ne_of_beq_eq_false e)];rfl
theorem TR.get_one:∀ (k n:Nat) (a:α) (m:Nat),n < k->(TR.one k n a).get m=if m=n then some a else none
 | 0,_,_,_,h=>by omega
 | k+1,0,a,m,_=>by cases m<;>simp [TR.one,TR.get_0,TR.get_s,TR.get_lf]
 | k+1,n+1,a,m,h=>by
  have ih:=TR.get_one k (n / 2) a ((m - 1) / 2) (by omega)
  rw [TR.one_s]
  cases m with
  | zero=>split<;>simp [TR.get_0]
  | succ m =>
   simp only [Nat.add_sub_cancel] at ih
   split<;>simp only [TR.get_s,TR.get_lf,ih]<;>split<;>first | rfl | exact if_congr_iff (by omega) | (rw [if_neg (by omega)])
where if_congr_iff {p q:Prop} [Decidable p] [Decidable q] {β:Type} {x y:β} (h:p↔q):(if p then x else y)=if q then x else y:=by simp only [h]
theorem TR.get_set:∀ (t:TR α) (n:Nat) (a:α) (m:Nat),(t.set n a).get m=if m=n then some a else t.get m
 | .lf,n,a,m=>(TR.get_one (n+1) n a m (Nat.lt_succ_self n)).trans (by rw [TR.get_lf])
 | .nd x l r,0,a,m=>by
  rw [TR.set_0]
  cases m<;>simp [TR.get_0,TR.get_s]
 | .nd x l r,n+1,a,m=>by
  have h1:=TR.get_set l (n / 2) a ((m - 1) / 2)
  have h2:=TR.get_set r (n / 2) a ((m - 1) / 2)
  rw [TR.set_s]
  cases m with
  | zero=>split<;>simp [TR.get_0]
  | succ m =>
   simp only [Nat.add_sub_cancel] at h1 h2
   split<;>simp only [TR.get_s,h1,h2]<;>split<;>first | exact TR.get_one.if_congr_iff (by omega) | (rw [if_neg (by omega)])
end
inductive RC (ok:Nat->Prop) (ρ:Nat->Nat×Nat):CV->Value->Prop
 | v {x:Value} : (∀ a,x≠.agg a)->RC ok ρ (.v x) x
 | p {c o:Nat} : ok c->RC ok ρ (.p c o) (.pointer (some ⟨(ρ c).1,o,none⟩))
 | s {c o n k K e:Nat} : ok c->n<=k->k<=K->K<=maxLen->(e=0->K=k)->(e≠0->o+K*e<=(ρ c).2)->RC ok ρ (.s c o n k e) (.slice (some ⟨(ρ c).1,o,none⟩) n K)
 | z {A:Addr} {K:Nat} : K<=maxLen->RC ok ρ .z (.slice (some A) 0 K)
 | g {l:List CV} {vs:Array Value} : vs.size=l.length->(∀ (j:Nat) x u,l[j]? = some x->vs[j]? = some u->RC ok ρ x u)->(∀ (j:Nat) u,vs[j]? = some u->u.oneCell'=true)->RC ok ρ (.g l) (.agg vs)
 | t {l:List CV} {vs:Array Value} : vs.size=l.length->(∀ (j:Nat) x u,l[j]? = some x->vs[j]? = some u->RC ok ρ x u)->RC ok ρ (.t l) (.tuple vs)
 | f {i:FuncId} {l:List CV} {vs:Array Value} : vs.size=l.length->(∀ (j:Nat) x u,l[j]? = some x->vs[j]? = some u->RC ok ρ x u)->RC ok ρ (.f i l) (.func (.func i) #[] vs)
 | y {c:Nat} : ok c->RC ok ρ (.y c) (.func (.yield (ρ c).1) #[] #[])
 | m {c:Nat} : ok c->RC ok ρ (.m c) (.map (some (ρ c).1))
 | u {u:Value} : RC ok ρ .u u
section
variable {ok ok' : Nat -> Prop} {ρ ρ' : Nat -> Nat × Nat}
theorem RC.ext (h:∀ c,ok c->ok' c/\ρ' c=ρ c) {x:CV} {v:Value} (hx:RC ok ρ x v):RC ok' ρ' x v:=by
 induction hx with
 | v h1=>exact .v h1
 | p h1=>rw [<-(h _ h1).2];exact .p (h _ h1).1
 | s h1 h2 h3 h4 h5 h6=>rw [<-(h _ h1).2] at h6 ⊢;exact .s (h _ h1).1 h2 h3 h4 h5 h6
 | z h1=>exact .z h1
 | g h1 _ h3 ih=>exact .g h1 ih h3
 | t h1 _ ih=>exact .t h1 ih
 | f h1 _ ih=>exact .f h1 ih
 | y h1=>rw [<-(h _ h1).2];exact .y (h _ h1).1
 | m h1=>rw [<-(h _ h1).2];exact .m (h _ h1).1
 | u=>exact .u
theorem RC.ofV (u:Value):RC ok ρ (ofV u) u:=by
 unfold Go.Proofs.YtahgkllhbggmgaaGreatDoor.ofV
 split
 ·rename_i a
  cases e:a.toList.all (·.oneCell') with
  | false=>exact .u
  | true =>
   have hu:∀ (j:Nat) u,a[j]? = some u->u.oneCell'=true:=fun j u h2=>List.all_eq_true.1 e u (by rw [Array.mem_toList_iff];exact Array.mem_of_getElem? h2)
   refine .g (by simp) (fun j x u h1 h2=>?_) hu
   rw [List.getElem?_map,Array.getElem?_toList,h2] at h1
   obtain rfl:=Option.some.inj h1
   have hu:=hu j u h2
   exact .v fun a e=>by subst e;cases hu
 ·rename_i h
  exact .v h
theorem RC.one {x:CV} {u:Value} (h:RC ok ρ x u) (h1:B99 x=true) (h2:∀ l,x≠.g l):u.oneCell'=true:=by
 cases h with
 | @v u hu=>cases u<;>first | rfl | (exact absurd rfl (hu _)) | cases h1
 | g=>exact absurd rfl (h2 _)
 | t=>cases h1
 | u=>cases h1
 | _=>rfl
theorem RC.cells {x:CV} {u:Value} (h:RC ok ρ x u) (h1:B99 x=true):u.cells.size=(Hj x).length/\∀ (j:Nat) x' u',(Hj x)[j]? = some x'->u.cells[j]? = some u'->RC ok ρ x' u'/\u'.oneCell'=true:=by
 have one:(∀ l,x≠.g l)->u.cells=#[u]->Hj x=[x]->u.cells.size=(Hj x).length/\∀ (j:Nat) x' u',(Hj x)[j]? = some x'->u.cells[j]? = some u'->RC ok ρ x' u'/\u'.oneCell'=true:=fun h2 h3 h4=>by
  rw [h3,h4]
  refine ⟨rfl,fun j x' u' a b=>?_⟩
  cases j with
  | zero=>simp at a b;subst a b;exact ⟨h,h.one h1 h2⟩
  | succ j=>simp at a
 cases h with
 | @v u hu=>exact one (fun l e=>by cases e) (by cases u<;>first | rfl | exact absurd rfl (hu _)) rfl
 | g a b c=>exact ⟨a,fun j x u p q=>⟨b j x u p q,c j u q⟩⟩
 | t=>cases h1
 | u=>cases h1
 | _=>exact one (fun l e=>by cases e) rfl rfl
end
def SlR (ok:Nat->Prop) (ρ:Nat->Nat×Nat) (sl:Bm) (n:Nat) (tmps:Array Value):Prop:=tmps.size=n/\∀ i,RC ok ρ ((sl.get i).getD (.v undef)) (tmps.getD i undef)
def GB.holds (ok:Nat->Prop) (ρ:Nat->Nat×Nat) (w:World) (a:Nat×Nat):GB->Prop
 | .cs l _ ro=>∃ C t fr,w.heap[a.1]? = some (.cells C t fr)/\(ro=false->fr=(0,0))/\l.length<=C.size/\a.2<=C.size/\∀ (j:Nat) x u,l[j]? = some x->C[j]? = some u->RC ok ρ x u/\u.oneCell'=true
 | .lp L=>∃ fn tmps,w.heap[a.1]? = some (.loop { state:=L.st,pending:=L.pe,fn,tmps,params:=L.ps.toArray,assign:=L.asg,body:=L.bd,defers:=(ρ L.d).1 })/\ok L.d/\SlR ok ρ L.sl L.n tmps
 | .df=>w.heap[a.1]? = some (.deferred (some []))
 | .mp k kv=>∃ es clock,w.heap[a.1]? = some (.map es clock)/\es.toList.map (fun e=>(e.key,e.val))=kv.map fun x=>(.int k x.1,x.2)
 | .no=>True
def GB.live:GB->Bool
 | .no=>false
 | _=>true
def R3 (c:Nat) (b b':GB):Prop:=(∃ l kin l' kin' ro',b=.cs l kin true/\b'=.cs l' kin' ro'/\c∈kin'/\l.length<=l'.length)\/∃ l kin l' kin',b=.cs l kin true/\b'=.cs l' kin' true
structure Rel (ok:Nat->Prop) (ρ:Nat->Nat×Nat) (get:Nat->Option GB) (fl B:Nat) (w:World):Prop where
 holds:∀ c b,get c=some b->ok c/\b.holds ok ρ w (ρ c)
 apart:∀ c d b b',get c=some b->get d=some b'->b.live=true->b'.live=true->(ρ c).1=(ρ d).1->c=d\/R3 c b b'\/R3 d b' b
 low:∀ c b,get c=some b->b.live=true->fl<=c->B<=(ρ c).1
 base:B<=w.heap.size
section
variable {ok ok' : Nat -> Prop} {ρ ρ' : Nat -> Nat × Nat} {get : Nat -> Option GB} {fl B : Nat} {w w' : World}
theorem SlR.ext (h:∀ c,ok c->ok' c/\ρ' c=ρ c) {sl:Bm} {n:Nat} {tmps:Array Value} (hs:SlR ok ρ sl n tmps):SlR ok' ρ' sl n tmps:=⟨hs.1,fun i=>(hs.2 i).ext h⟩
theorem GB.holds.ext (h:∀ c,ok c->ok' c/\ρ' c=ρ c) {b:GB} {a:Nat×Nat} (hb:b.holds ok ρ w a) (hw:b.live=true->w'.heap[a.1]? = w.heap[a.1]?):b.holds ok' ρ' w' a:=by
 cases b with
 | cs l kin ro =>
  obtain ⟨C,t,fr,h1,h2,h3,h5,h4⟩:=hb
  exact ⟨C,t,fr,(hw rfl).trans h1,h2,h3,h5,fun j x u a b=>⟨(h4 j x u a b).1.ext h,(h4 j x u a b).2⟩⟩
 | lp L =>
  obtain ⟨fn,tmps,h1,h2,h3⟩:=hb
  exact ⟨fn,tmps,(hw rfl).trans (by rw [(h _ h2).2];exact h1),(h _ h2).1,h3.ext h⟩
 | df=>exact (hw rfl).trans hb
 | mp k kv=>obtain ⟨es,clock,h1,h2⟩:=hb;exact ⟨es,clock,(hw rfl).trans h1,h2⟩
 | no=>trivial
theorem GB.holds.lt {b:GB} {a:Nat×Nat} (hb:b.holds ok ρ w a) (hl:b.live=true):a.1 < w.heap.size:=by
 cases b with
 | cs=>obtain ⟨C,t,fr,h1,_⟩:=hb;exact (Array.getElem?_eq_some_iff.1 h1).1
 | lp L=>obtain ⟨fn,tmps,h1,_⟩:=hb;exact (Array.getElem?_eq_some_iff.1 h1).1
 | df=>exact (Array.getElem?_eq_some_iff.1 hb).1
 | mp=>obtain ⟨es,clock,h1,_⟩:=hb;exact (Array.getElem?_eq_some_iff.1 h1).1
 | no=>cases hl
end
def okH (h:GH) (c:Nat):Prop:=c < h.nx/\Cv h.hid c=false
structure SR (ρ:Nat->Nat×Nat) (h:GH) (B:Nat) (w:World):Prop where
 rel:Rel (okH h) ρ h.get h.fl B w
 fl:h.fl<=h.nx
 hid:∀ c,h.fl<=c->Cv h.hid c=false
structure HLe (h h':GH):Prop where
 nx:h.nx<=h'.nx
 fl:h'.fl=h.fl
 hid:h'.hid=h.hid
 old:∀ c,c < h.fl->h'.t.get c=h.t.get c
theorem HLe.refl (h:GH):HLe h h:=⟨Nat.le_refl _,rfl,rfl,fun _ _=>rfl⟩
theorem HLe.trans {a b c:GH} (h:HLe a b) (k:HLe b c):HLe a c:=⟨Nat.le_trans h.nx k.nx,k.fl.trans h.fl,k.hid.trans h.hid,fun x hx=>(k.old x (by rw [h.fl];exact hx)).trans (h.old x hx)⟩
theorem HLe.ok {h h':GH} (hl:HLe h h') {c:Nat} (hc:okH h c):okH h' c:=⟨Nat.lt_of_lt_of_le hc.1 hl.nx,by rw [hl.hid];exact hc.2⟩
structure Df (ρ:Nat->Nat×Nat) (h h':GH) (B:Nat) (w w':World) (ρ':Nat->Nat×Nat):Prop where
 le:HLe h h'
 same:∀ c,c < h.nx->ρ' c=ρ c
 sr:SR ρ' h' B w'
 low:Below B w w'
section
variable {ρ ρ' ρ'' : Nat -> Nat × Nat} {h h' h'' : GH} {B : Nat} {w w' w'' : World}
theorem Df.ext (p:Df ρ h h' B w w' ρ'):∀ c,okH h c->okH h' c/\ρ' c=ρ c:=fun c hc=>⟨p.le.ok hc,p.same c hc.1⟩
theorem Df.refl (s:SR ρ h B w):Df ρ h h B w w ρ:=⟨HLe.refl _,fun _ _=>rfl,s,Below.refl _ _⟩
theorem Df.trans (p:Df ρ h h' B w w' ρ') (q:Df ρ' h' h'' B w' w'' ρ''):Df ρ h h'' B w w'' ρ'' :=
 ⟨p.le.trans q.le,fun c hc=>(q.same c (Nat.lt_of_lt_of_le hc p.le.nx)).trans (p.same c hc),q.sr,p.low.trans q.low⟩
theorem GH.get_eq (h:GH) (c:Nat):h.get c=bif Cv h.hid c then none else h.t.get c:=by
 obtain ⟨t,nx,fl,hid⟩:=h
 cases hid<;>rfl
theorem GH.get_some {c:Nat} {b:GB} (e:h.get c=some b):Cv h.hid c=false/\h.t.get c=some b:=by
 rw [GH.get_eq] at e
 cases hh:Cv h.hid c with
 | true=>rw [hh] at e;cases e
 | false=>rw [hh] at e;exact ⟨rfl,e⟩
theorem GH.get_of {c:Nat} {b:GB} (h1:Cv h.hid c=false) (h2:h.t.get c=some b):h.get c=some b:=by
 rw [GH.get_eq,h1];exact h2
theorem SR.holds (s:SR ρ h B w) {c:Nat} {b:GB} (e:h.get c=some b):b.holds (okH h) ρ w (ρ c):=(s.rel.holds c b e).2
theorem SR.ok (s:SR ρ h B w) {c:Nat} {b:GB} (e:h.get c=some b):okH h c:=(s.rel.holds c b e).1
theorem Gn (s:SR ρ h B w) (b:GB):okH (h.new b) h.nx:=⟨Nat.lt_succ_self _,s.hid _ s.fl⟩
theorem W8 {c:Nat} {b b':GB} (e:(h.new b).get c=some b'):Cv h.hid c=false/\((c=h.nx/\b'=b)\/(c≠h.nx/\h.get c=some b')):=by
 obtain ⟨h1,h2⟩:=GH.get_some e
 refine ⟨h1,?_⟩
 have h2:(h.t.set h.nx b).get c=some b':=h2
 rw [TR.get_set] at h2
 split at h2
 ·rename_i hc;exact .inl ⟨hc,(Option.some.inj h2).symm⟩
 ·rename_i hc;exact .inr ⟨hc,GH.get_of h1 h2⟩
theorem Bx7 (s:SR ρ h B w) (b:GB):HLe h (h.new b):=⟨Nat.le_succ _,rfl,rfl,fun c hc=>by
 show (h.t.set h.nx b).get c=_
 rw [TR.get_set,if_neg (by have:=s.fl;omega)]⟩
theorem SR.name (s:SR ρ h B w) {b:GB} {g:Nat×Nat} (hlow:Below B w w') (hg:B<=g.1)
  (hold:∀ c b',h.get c=some b'->b'.live=true->(w'.heap[(ρ c).1]? = w.heap[(ρ c).1]? /\ (ρ c).1≠g.1)\/(b'.holds (okH h) ρ w' (ρ c)/\R3 c b' b))
  (hb:∀ ρ',ρ' h.nx=g->(∀ c,okH h c->okH (h.new b) c/\ρ' c=ρ c)->okH (h.new b) h.nx->b.holds (okH (h.new b)) ρ' w' g):∃ ρ',ρ' h.nx=g/\Df ρ h (h.new b) B w w' ρ':=by
 let ρ':Nat->Nat×Nat:=fun c=>if c=h.nx then g else ρ c
 have e0:ρ' h.nx=g:=by simp [ρ']
 have e1:∀ c,c < h.nx->ρ' c=ρ c:=fun c hc=>by simp [ρ',show ¬ c=h.nx by omega]
 have hle:=Bx7 s b
 have hx:∀ c,okH h c->okH (h.new b) c/\ρ' c=ρ c:=fun c hc=>⟨hle.ok hc,e1 c hc.1⟩
 refine ⟨ρ',e0,hle,e1,⟨⟨fun c b' e=>?_,fun c d b1 b2 q1 q2 l1 l2 hr=>?_,fun c b' q l hc=>?_,Nat.le_trans s.rel.base hlow.size⟩,Nat.le_trans s.fl (Nat.le_succ _),s.hid⟩,hlow⟩
 ·obtain ⟨_,⟨rfl,rfl⟩ | ⟨hc,q⟩⟩:=W8 e
  ·exact ⟨Gn s _,by rw [e0];exact hb ρ' e0 hx (Gn s _)⟩
  ·refine ⟨hle.ok (s.ok q),?_⟩
   rw [e1 c (s.ok q).1]
   cases hl:b'.live with
   | false=>exact (s.holds q).ext hx fun e=>by rw [hl] at e;cases e
   | true =>
    rcases hold c b' q hl with ⟨h1,_⟩ | ⟨h1,_⟩
    ·exact (s.holds q).ext hx fun _=>h1
    ·exact h1.ext hx fun _=>rfl
 ·obtain ⟨_,⟨ec,eb⟩ | ⟨hc,p1⟩⟩:=W8 q1<;>obtain ⟨_,⟨ed,eb2⟩ | ⟨hd,p2⟩⟩:=W8 q2
  ·exact .inl (ec.trans ed.symm)
  ·rw [ec,e0,e1 d (s.ok p2).1] at hr
   rcases hold d b2 p2 l2 with ⟨_,h1⟩ | ⟨_,h1⟩
   ·exact absurd hr.symm h1
   ·exact .inr (.inr (eb ▸ h1))
  ·rw [ed,e0,e1 c (s.ok p1).1] at hr
   rcases hold c b1 p1 l1 with ⟨_,h1⟩ | ⟨_,h1⟩
   ·exact absurd hr h1
   ·exact .inr (.inl (eb2 ▸ h1))
  ·rw [e1 c (s.ok p1).1,e1 d (s.ok p2).1] at hr
   exact s.rel.apart c d b1 b2 p1 p2 l1 l2 hr
 ·obtain ⟨_,⟨rfl,rfl⟩ | ⟨_,q⟩⟩:=W8 q
  ·rw [e0];exact hg
  ·rw [e1 c (s.ok q).1];exact s.rel.low c b' q l hc
theorem SR.new (s:SR ρ h B w) {b:GB} {g:Nat×Nat} (hb0:Below w.heap.size w w') (hg:g.1=w.heap.size)
  (hb:∀ ρ',ρ' h.nx=g->(∀ c,okH h c->okH (h.new b) c/\ρ' c=ρ c)->okH (h.new b) h.nx->b.holds (okH (h.new b)) ρ' w' g):∃ ρ',ρ' h.nx=g/\Df ρ h (h.new b) B w w' ρ' :=
 s.name (hb0.mono s.rel.base) (by rw [hg];exact s.rel.base) (fun c b' q l=>.inl ⟨hb0.block _ ((s.holds q).lt l),by have:=(s.holds q).lt l;omega⟩) hb
theorem SR.turn (s:SR ρ h B w) {c:Nat} {b0 b:GB} {kin:List Nat} {t':TR GB} (hc:h.get c=some b0) (hl0:b0.live=true) (hf:h.fl<=c) (hk:∀ k∈kin,h.fl<=k/\okH h k)
  (ht:∀ d,t'.get d=if d=c then some b else if d∈kin then some .no else h.t.get d)
  (hel:∀ d b',h.get d=some b'->b'.live=true->(ρ d).1=(ρ c).1->d=c\/d∈kin)
  (hsz:w.heap.size<=w'.heap.size) (ho:w'.os=w.os/\w'.tape=w.tape/\w'.output=w.output) (hw:∀ g,g≠(ρ c).1->w'.heap[g]? = w.heap[g]?)
  (hb:b.holds (okH h) ρ w' (ρ c)):Df ρ h ⟨t',h.nx,h.fl,h.hid⟩ B w w' ρ:=by
 have hB:=s.rel.low c b0 hc hl0 hf
 have hget:∀ {d b'},(⟨t',h.nx,h.fl,h.hid⟩ : GH).get d=some b'->Cv h.hid d=false/\((d=c/\b'=b)\/(d≠c/\d∈kin/\b'=.no)\/(d≠c/\d∉kin/\h.get d=some b')):=fun {d b'} e=>by
  obtain ⟨h1,h2⟩:=GH.get_some e
  refine ⟨h1,?_⟩
  have h2:t'.get d=some b':=h2
  rw [ht] at h2
  split at h2
  ·rename_i e;exact .inl ⟨e,(Option.some.inj h2).symm⟩
  ·rename_i e
   split at h2
   ·rename_i e2;exact .inr (.inl ⟨e,e2,(Option.some.inj h2).symm⟩)
   ·rename_i e2;exact .inr (.inr ⟨e,e2,GH.get_of h1 h2⟩)
 refine ⟨⟨Nat.le_refl _,rfl,rfl,fun d hd=>?_⟩,fun _ _=>rfl,⟨⟨fun d b' e=>?_,fun d1 d2 b1 b2 q1 q2 l1 l2 hr=>?_,fun d b' q l hd=>?_,Nat.le_trans s.rel.base hsz⟩,s.fl,s.hid⟩,⟨ho.1,ho.2.1,ho.2.2,hsz,fun g hg=>hw g (by omega)⟩⟩
 ·show t'.get d=_
  rw [ht,if_neg (by omega),if_neg (fun hm=>by have:=(hk d hm).1;omega)]
 ·obtain ⟨_,⟨rfl,rfl⟩ | ⟨_,h1,rfl⟩ | ⟨h1,h2,q⟩⟩:=hget e
  ·exact ⟨s.ok hc,hb⟩
  ·exact ⟨(hk d h1).2,trivial⟩
  ·refine ⟨s.ok q,(s.holds q).ext (fun _ h=>⟨h,rfl⟩) fun hl=>hw _ fun e=>?_⟩
   rcases hel d b' q hl e with h | h
   ·exact h1 h
   ·exact h2 h
 ·obtain ⟨_,⟨rfl,rfl⟩ | ⟨_,_,rfl⟩ | ⟨h1,h2,q1⟩⟩:=hget q1<;>(try cases l1)<;>obtain ⟨_,⟨rfl,rfl⟩ | ⟨_,_,rfl⟩ | ⟨h3,h4,q2⟩⟩:=hget q2<;>(try cases l2)
  ·exact .inl rfl
  ·rcases hel d2 b2 q2 l2 hr.symm with h | h
   ·exact absurd h h3
   ·exact absurd h h4
  ·rcases hel d1 b1 q1 l1 hr with h | h
   ·exact absurd h h1
   ·exact absurd h h2
  ·exact s.rel.apart d1 d2 b1 b2 q1 q2 l1 l2 hr
 ·obtain ⟨_,⟨rfl,rfl⟩ | ⟨_,_,rfl⟩ | ⟨_,_,q⟩⟩:=hget q
  ·exact hB
  ·cases l
  ·exact s.rel.low d b' q l hd
theorem Am3 {d:Nat} : ∀ (kin:List Nat) (t:TR GB),(gone kin t).get d=if d∈kin then some .no else t.get d
 | [],t=>by simp [gone]
 | k :: r,t=>by
  rw [gone,Am3 r,TR.get_set]
  by_cases h1:d∈r<;>by_cases h2:d=k<;>simp [h1,h2]
theorem GH.wr_some {c:Nat} {l':List CV} (e:h.wr c l'=some h'):∃ l kin,h.get c=some (.cs l kin false)/\h.fl<=c/\(∀ k∈kin,h.fl<=k/\k < h.nx)/\h'=⟨(gone kin h.t).set c (.cs l' [] false),h.nx,h.fl,h.hid⟩:=by
 unfold GH.wr at e
 split at e
 ·rename_i l kin hc
  have e:(bif Nat.ble h.fl c&&kin.all (fun k=>Nat.ble h.fl k&&Nat.blt k h.nx) then some (⟨(gone kin h.t).set c (.cs l' [] false),h.nx,h.fl,h.hid⟩ : GH) else none)=some h':=e
  generalize hq:(Nat.ble h.fl c&&kin.all fun k=>Nat.ble h.fl k&&Nat.blt k h.nx)=q at e
  cases q with
  | false=>cases e
  | true =>
   simp only [Bool.and_eq_true,List.all_eq_true] at hq
   exact ⟨l,kin,hc,Nat.le_of_ble_eq_true hq.1,fun k hk=>⟨Nat.le_of_ble_eq_true (hq.2 k hk).1,Bs.1 (hq.2 k hk).2⟩,(Option.some.inj e).symm⟩
 ·cases e
theorem SR.wr (s:SR ρ h B w) {c:Nat} {l':List CV} (e:h.wr c l'=some h'):∃ l kin,h.get c=some (.cs l kin false)/\B<=(ρ c).1/\(okH h'=okH h)/\∀ (w':World) (C':Array Value) (t:TypeId),l'.length<=C'.size->(ρ c).2<=C'.size->(∀ (j:Nat) x u,l'[j]? = some x->C'[j]? = some u->RC (okH h) ρ x u/\u.oneCell'=true) ->
  w'.heap[(ρ c).1]? = some (.cells C' t (0,0))->w.heap.size<=w'.heap.size->(w'.os=w.os/\w'.tape=w.tape/\w'.output=w.output)->(∀ g,g≠(ρ c).1->w'.heap[g]? = w.heap[g]?)->Df ρ h h' B w w' ρ:=by
 obtain ⟨l,kin,hc,hf,hq,rfl⟩:=GH.wr_some e
 refine ⟨l,kin,hc,s.rel.low c _ hc rfl hf,rfl,fun w' C' t h1 h2 h3 h4 h5 h6 h7=>s.turn hc rfl hf (kin:=kin) (b:=.cs l' [] false) (t':=(gone kin h.t).set c (.cs l' [] false)) (fun k hk=>⟨(hq k hk).1,(hq k hk).2,s.hid k (hq k hk).1⟩) (fun d=>by rw [TR.get_set,Am3]) (fun d b' q l hr=>?_) h5 h6 h7 ⟨C',t,(0,0),h4,fun _=>rfl,h1,h2,h3⟩⟩
 rcases s.rel.apart d c b' _ q hc l rfl hr with h | (⟨_,_,_,_,_,_,h,h',_⟩ | ⟨_,_,_,_,_,h⟩) | (⟨_,_,_,_,_,h,_⟩ | ⟨_,_,_,_,h,_⟩)
 ·exact .inl h
 ·cases h;exact .inr h'
 ·cases h
 ·cases h
 ·cases h
theorem GH.put_some {c:Nat} {b:GB} (e:h.put c b=some h'):h.fl<=c/\h'=⟨h.t.set c b,h.nx,h.fl,h.hid⟩:=by
 have e:(bif Nat.ble h.fl c then some (⟨h.t.set c b,h.nx,h.fl,h.hid⟩ : GH) else none)=some h':=e
 generalize hq:Nat.ble h.fl c=q at e
 cases q with
 | false=>cases e
 | true=>exact ⟨Nat.le_of_ble_eq_true hq,(Option.some.inj e).symm⟩
theorem SR.put (s:SR ρ h B w) {c:Nat} {b0 b:GB} (e:h.put c b=some h') (hc:h.get c=some b0) (h0:∀ l kin ro,b0≠.cs l kin ro) (hl0:b0.live=true)
  (hsz:w.heap.size<=w'.heap.size) (ho:w'.os=w.os/\w'.tape=w.tape/\w'.output=w.output) (hw:∀ g,g≠(ρ c).1->w'.heap[g]? = w.heap[g]?) (hb:b.holds (okH h) ρ w' (ρ c)):Df ρ h h' B w w' ρ:=by
 obtain ⟨hf,rfl⟩:=GH.put_some e
 refine s.turn hc hl0 hf (kin:=[]) (b:=b) (t':=h.t.set c b) (fun k hk=>by cases hk) (fun d=>by rw [TR.get_set];simp) (fun d b' q l hr=>?_) hsz ho hw hb
 rcases s.rel.apart d c b' _ q hc l hl0 hr with h | (⟨_,_,_,_,_,_,h,_⟩ | ⟨_,_,_,_,_,h⟩) | (⟨_,_,_,_,_,h,_⟩ | ⟨_,_,_,_,h,_⟩)
 ·exact .inl h
 ·exact absurd h (h0 _ _ _)
 ·exact absurd h (h0 _ _ _)
 ·exact absurd h (h0 _ _ _)
 ·exact absurd h (h0 _ _ _)
theorem SR.shut (s:SR ρ h B w) {c:Nat} {l:List CV} {kin:List Nat} {ro:Bool} (hc:h.get c=some (.cs l kin ro)) (hf:h.fl<=c):Df ρ h ⟨h.t.set c (.cs l kin true),h.nx,h.fl,h.hid⟩ B w w ρ:=by
 have hget:∀ {d b'},(⟨h.t.set c (.cs l kin true),h.nx,h.fl,h.hid⟩ : GH).get d=some b'->Cv h.hid d=false/\((d=c/\b'=.cs l kin true)\/(d≠c/\h.get d=some b')):=fun {d b'} e=>by
  obtain ⟨h1,h2⟩:=GH.get_some e
  refine ⟨h1,?_⟩
  have h2:(h.t.set c (.cs l kin true)).get d=some b':=h2
  rw [TR.get_set] at h2
  split at h2
  ·rename_i e;exact .inl ⟨e,(Option.some.inj h2).symm⟩
  ·rename_i e;exact .inr ⟨e,GH.get_of h1 h2⟩
 have old:∀ {d b'},(⟨h.t.set c (.cs l kin true),h.nx,h.fl,h.hid⟩ : GH).get d=some b'->∃ b0,h.get d=some b0/\b0.live=b'.live/\(b0=b'\/∃ r,b0=.cs l kin r/\b'=.cs l kin true):=fun {d b'} e=>by
  rcases (hget e).2 with ⟨rfl,rfl⟩ | ⟨_,q⟩
  ·exact ⟨_,hc,rfl,.inr ⟨_,rfl,rfl⟩⟩
  ·exact ⟨_,q,rfl,.inl rfl⟩
 have eld:∀ {d:Nat} {b1 b2 b1' b2':GB},R3 d b1 b2->(b1=b1'\/∃ r,b1=.cs l kin r/\b1'=.cs l kin true)->(b2=b2'\/∃ r,b2=.cs l kin r/\b2'=.cs l kin true)->R3 d b1' b2':=by
  rintro d b1 b2 b1' b2' (⟨l1,k1,l2,k2,r2,rfl,rfl,h1,h2⟩ | ⟨l1,k1,l2,k2,rfl,rfl⟩) (rfl | ⟨_,e1,rfl⟩) (rfl | ⟨_,e2,rfl⟩)
  ·exact .inl ⟨_,_,_,_,_,rfl,rfl,h1,h2⟩
  ·cases e2;exact .inl ⟨_,_,_,_,_,rfl,rfl,h1,h2⟩
  ·cases e1;exact .inl ⟨_,_,_,_,_,rfl,rfl,h1,h2⟩
  ·cases e1;cases e2;exact .inl ⟨_,_,_,_,_,rfl,rfl,h1,h2⟩
  ·exact .inr ⟨_,_,_,_,rfl,rfl⟩
  ·exact .inr ⟨_,_,_,_,rfl,rfl⟩
  ·exact .inr ⟨_,_,_,_,rfl,rfl⟩
  ·exact .inr ⟨_,_,_,_,rfl,rfl⟩
 refine ⟨⟨Nat.le_refl _,rfl,rfl,fun d hd=>?_⟩,fun _ _=>rfl,⟨⟨fun d b' e=>?_,fun d1 d2 b1 b2 q1 q2 l1 l2 hr=>?_,fun d b' q l hd=>?_,s.rel.base⟩,s.fl,s.hid⟩,Below.refl _ _⟩
 ·show (h.t.set c _).get d=_
  rw [TR.get_set,if_neg (by omega)]
 ·rcases (hget e).2 with ⟨rfl,rfl⟩ | ⟨_,q⟩
  ·refine ⟨s.ok hc,?_⟩
   obtain ⟨C,t,fr,h1,_,h3⟩:=s.holds hc
   exact ⟨C,t,fr,h1,(fun e=>by cases e),h3⟩
  ·exact ⟨s.ok q,s.holds q⟩
 ·obtain ⟨p1,r1,t1,u1⟩:=old q1
  obtain ⟨p2,r2,t2,u2⟩:=old q2
  rcases s.rel.apart d1 d2 p1 p2 r1 r2 (t1.trans l1) (t2.trans l2) hr with h | h | h
  ·exact .inl h
  ·exact .inr (.inl (eld h u1 u2))
  ·exact .inr (.inr (eld h u2 u1))
 ·obtain ⟨p,r,t,_⟩:=old q
  exact s.rel.low d p r (t.trans l) hd
end
section
variable {ok : Nat -> Prop} {ρ : Nat -> Nat × Nat} {u : Value}
theorem RC.p_inv {c o:Nat} (h:RC ok ρ (.p c o) u):u=.pointer (some ⟨(ρ c).1,o,none⟩)/\ok c:=by cases h;exact ⟨rfl,by assumption⟩
theorem RC.v_inv {v:Value} (h:RC ok ρ (.v v) u):u=v:=by cases h;rfl
theorem RC.g_inv {l:List CV} (h:RC ok ρ (.g l) u):∃ vs:Array Value,u=.agg vs/\vs.size=l.length/\∀ (j:Nat) x u,l[j]? = some x->vs[j]? = some u->RC ok ρ x u/\u.oneCell'=true:=by cases h with | g a b c=>exact ⟨_,rfl,a,fun j x u p q=>⟨b j x u p q,c j u q⟩⟩
theorem RC.m_inv {c:Nat} (h:RC ok ρ (.m c) u):u=.map (some (ρ c).1)/\ok c:=by cases h;exact ⟨rfl,by assumption⟩
theorem RC.int {k:IntKind} {n:Int} : RC ok ρ (.v (.int k n)) (.int k n):=.v fun _ e=>by cases e
theorem RC.bool {b:Bool} : RC ok ρ (.v (.bool b)) (.bool b):=.v fun _ e=>by cases e
theorem RC.str {b:ByteArray} : RC ok ρ (.v (.string b)) (.string b):=.v fun _ e=>by cases e
theorem RC.undef:RC ok ρ (.v undef) undef:=.v fun _ e=>by cases e
end
theorem A77:∀ (l:List CV) (n:Nat),Ca7 l n=l[n]?
 | [],_=>rfl
 | _ :: _,0=>rfl
 | x :: l,n+1=>(A77 l n).trans (by simp)
theorem Mi:∀ (l:List CV) (n:Nat),A32 l n=l.drop n
 | [],n=>by simp [A32]
 | _ :: _,0=>rfl
 | x :: l,n+1=>(Mi l n).trans (by simp)
theorem Eo:∀ {n:Nat} {l m:List CV},S5 l n=some m->m=l.take n/\n<=l.length
 | 0,l,m,h=>by cases l<;>(cases h;simp)
 | n+1,[],m,h=>by cases h
 | n+1,x :: l,m,h=>by
  have h:Option.rec (motive:=fun _=>Option (List CV)) none (fun r=>some (x :: r)) (S5 l n)=some m:=h
  cases e:S5 l n with
  | none=>rw [e] at h;cases h
  | some m' =>
   rw [e] at h
   obtain ⟨rfl,h2⟩:=Eo e
   cases h
   exact ⟨by simp,by simpa using h2⟩
theorem Xl:∀ {l m l':List CV},ovC l m=some l'->m.length<=l.length/\l'=m++l.drop m.length
 | [],[],l',h=>by cases h;simp
 | [],_ :: _,_,h=>by cases h
 | x :: l,[],l',h=>by cases h;simp
 | x :: l,y :: m,l',h=>by
  have h:Option.rec (motive:=fun _=>Option (List CV)) none (fun r=>some (y :: r)) (ovC l m)=some l':=h
  cases e:ovC l m with
  | none=>rw [e] at h;cases h
  | some r =>
   rw [e] at h
   obtain ⟨h1,rfl⟩:=Xl e
   cases h
   exact ⟨by simpa using h1,by simp⟩
theorem J5:∀ {l:List CV} {o:Nat} {m l':List CV},Af9 l o m=some l'->o+m.length<=l.length/\l'=l.take o++m++l.drop (o+m.length)
 | [],0,m,l',h=>by
  obtain ⟨h1,rfl⟩:=Xl (l:=[]) h
  exact ⟨by simpa using h1,by simp⟩
 | [],o+1,m,l',h=>by cases h
 | x :: l,0,m,l',h=>by
  obtain ⟨h1,rfl⟩:=Xl (l:=x :: l) h
  exact ⟨by simpa using h1,by simp⟩
 | x :: l,o+1,m,l',h=>by
  have h:Option.rec (motive:=fun _=>Option (List CV)) none (fun r=>some (x :: r)) (Af9 l o m)=some l':=h
  cases e:Af9 l o m with
  | none=>rw [e] at h;cases h
  | some r =>
   rw [e] at h
   obtain ⟨h1,rfl⟩:=J5 e
   cases h
   exact ⟨by simp;omega,by rw [show o+1+m.length=(o+m.length)+1 by omega];simp⟩
theorem Bb2 {x:CV} {n:Int} (h:Cb5 x=some n):∃ k,x=.v (.int k n):=by
 unfold Cb5 at h
 split at h
 ·obtain rfl:=Option.some.inj h;exact ⟨_,rfl⟩
 ·cases h
theorem Ba6 {x:CV} {n:Nat} (h:Rn x=some n):∃ k,x=.v (.int k (n:Nat)):=by
 unfold Rn at h
 split at h
 ·rename_i m hm
  obtain rfl:=Option.some.inj h
  exact Bb2 hm
 ·cases h
theorem Bl {α:Type} {b:Bool} {x y:α} (h:(bif b then some x else none)=some y):b=true/\x=y:=by
 cases b with
 | true=>exact ⟨rfl,Option.some.inj h⟩
 | false=>cases h
theorem D7 {α:Type} {b:Bool} {x:Option α} {y:α} (h:(bif b then x else none)=some y):b=true/\x=some y:=by
 cases b with
 | true=>exact ⟨rfl,h⟩
 | false=>cases h
section
variable {ρ : Nat -> Nat × Nat} {h h' : GH} {B : Nat} {w w' : World}
theorem GH.cells_some {c:Nat} {l:List CV} (e:h.cells c=some l):∃ kin ro,h.get c=some (.cs l kin ro):=by
 unfold GH.cells at e
 split at e
 ·rename_i l' kin ro hg
  obtain rfl:=Option.some.inj e
  exact ⟨kin,ro,hg⟩
 ·cases e
theorem SR.cell (s:SR ρ h B w) {c:Nat} {l:List CV} (e:h.cells c=some l):∃ f:Nat->Value,∀ (j:Nat) x,l[j]? = some x->w.cell? ⟨(ρ c).1,j,none⟩=some (f j)/\RC (okH h) ρ x (f j)/\(f j).oneCell'=true:=by
 obtain ⟨kin,ro,hg⟩:=GH.cells_some e
 obtain ⟨C,t,fr,h1,_,h3,_,h4⟩:=s.holds hg
 refine ⟨fun j=>(C[j]?).getD undef,fun j x hx=>?_⟩
 have hj:j < C.size:=Nat.lt_of_lt_of_le (List.getElem?_eq_some_iff.1 hx).1 h3
 have hC:=Array.getElem?_eq_getElem hj
 have:=h4 j x _ hx hC
 refine ⟨?_,by simp only [hC,Option.getD_some];exact this⟩
 simp [World.cell?,h1,hC]
theorem RC.gof {ok:Nat->Prop} {m:List CV} {f:Nat->Value} (hm:∀ (j:Nat) x,m[j]? = some x->RC ok ρ x (f j)/\(f j).oneCell'=true):RC ok ρ (.g m) (.agg ((List.range m.length).map f).toArray):=by
 have key:∀ (j:Nat) x u,m[j]? = some x->((List.range m.length).map f).toArray[j]? = some u->u=f j:=fun j x u h1 h2=>by
  have hj:=(List.getElem?_eq_some_iff.1 h1).1
  have h2:((List.range m.length).map f)[j]? = some u:=by simpa using h2
  rw [List.getElem?_map,List.getElem?_range hj] at h2
  exact (Option.some.inj h2).symm
 refine .g (by simp) (fun j x u h1 h2=>by rw [key j x u h1 h2];exact (hm j x h1).1) fun j u h2=>?_
 have hj:j < m.length:=by have:=(Array.getElem?_eq_some_iff.1 h2).1;simpa using this
 have h1:=List.getElem?_eq_getElem hj
 rw [key j _ u h1 h2];exact (hm j _ h1).2
end
def RCs (ok:Nat->Prop) (ρ:Nat->Nat×Nat) (l:List CV) (vs:List Value):Prop:=l.length=vs.length/\∀ (j:Nat) x u,l[j]? = some x->vs[j]? = some u->RC ok ρ x u/\u.oneCell'=true
section
variable {ok ok' : Nat -> Prop} {ρ ρ' : Nat -> Nat × Nat}
theorem RCs.append {l m:List CV} {vs us:List Value} (h:RCs ok ρ l vs) (k:RCs ok ρ m us):RCs ok ρ (l++m) (vs++us):=by
 refine ⟨by simp [h.1,k.1],fun j x u a b=>?_⟩
 by_cases hj:j < l.length
 ·rw [List.getElem?_append_left hj] at a
  rw [List.getElem?_append_left (by rw [<-h.1];exact hj)] at b
  exact h.2 j x u a b
 ·rw [List.getElem?_append_right (by omega)] at a
  rw [List.getElem?_append_right (by rw [<-h.1];omega),<-h.1] at b
  exact k.2 _ x u a b
theorem RCs.one {l:List CV} {vs:List Value} (h:RCs ok ρ l vs):∀ v∈vs,v.oneCell'=true:=fun v hv=>by
 obtain ⟨j,hj⟩:=List.mem_iff_getElem?.1 hv
 have hlt:=(List.getElem?_eq_some_iff.1 hj).1
 rw [<-h.1] at hlt
 exact (h.2 j _ v (List.getElem?_eq_getElem hlt) hj).2
theorem RCs.nil:RCs ok ρ [] []:=⟨rfl,fun j x u a=>by simp at a⟩
theorem RCs.zeros {zs:List Value} (h1:∀ v∈zs,v.oneCell'=true):RCs ok ρ (zs.map .v) zs:=by
 refine ⟨by simp,fun j x u a b=>?_⟩
 rw [List.getElem?_map,b] at a
 obtain rfl:=Option.some.inj a
 have:=h1 u (List.mem_of_getElem? b)
 exact ⟨.v (fun a e=>by subst e;cases this),this⟩
theorem RCs.put {l m:List CV} {C vs:List Value} {o:Nat} (h:∀ (j:Nat) x u,l[j]? = some x->C[j]? = some u->RC ok ρ x u/\u.oneCell'=true) (hm:RCs ok ρ m vs) (ho:o<=l.length) (hC:l.length<=C.length) (hv:o+vs.length<=C.length) :
  (l.take o++m++l.drop (o+m.length)).length<=(C.take o++vs++C.drop (o+vs.length)).length/\∀ (j:Nat) x u,(l.take o++m++l.drop (o+m.length))[j]? = some x->(C.take o++vs++C.drop (o+vs.length))[j]? = some u->RC ok ρ x u/\u.oneCell'=true:=by
 have h0:=hm.1
 have h1:(l.take o).length=o:=by rw [List.length_take];exact Nat.min_eq_left ho
 have h2:(C.take o).length=o:=by rw [List.length_take];exact Nat.min_eq_left (by omega)
 refine ⟨by simp only [List.length_append,h1,h2,List.length_drop];omega,fun j x u a b=>?_⟩
 by_cases j1:j < o
 ·rw [List.append_assoc,List.getElem?_append_left (by omega),List.getElem?_take_of_lt j1] at a b
  exact h j x u a b
 ·by_cases j2:j < o+m.length
  ·rw [List.getElem?_append_left (by simp [h1];omega),List.getElem?_append_right (by omega),h1] at a
   rw [List.getElem?_append_left (by simp [h2];omega),List.getElem?_append_right (by omega),h2] at b
   exact hm.2 _ x u a b
  ·rw [List.getElem?_append_right (by simp [h1];omega),List.length_append,h1,List.getElem?_drop] at a
   rw [List.getElem?_append_right (by simp [h2];omega),List.length_append,h2,List.getElem?_drop,<-h0] at b
   exact h _ x u a b
theorem RC.cellsR {x:CV} {u:Value} (h:RC ok ρ x u) (h1:B99 x=true):RCs ok ρ (Hj x) u.cells.toList:=by
 obtain ⟨h2,h3⟩:=h.cells h1
 exact ⟨by simp [h2],fun j x u a b=>h3 j x u a (by rw [<-Array.getElem?_toList];exact b)⟩
end
section
variable {P : Program} {ρ : Nat -> Nat × Nat} {h h' : GH} {B : Nat} {w : World}
theorem SR.store (s:SR ρ h B w) {c o:Nat} {l m l':List CV} (hl:h.cells c=some l) (e:h.wr c l'=some h') (hl':l'=l.take o++m++l.drop (o+m.length)) (ho:o<=l.length) {vs:List Value} (hm:RCs (okH h) ρ m vs) (hb:o+m.length<=l.length\/o+m.length<=(ρ c).2) :
  ∃ w1,(storeCells ⟨(ρ c).1,o,none⟩ vs).run P w=.ok () w1/\Df ρ h h' B w w1 ρ:=by
 obtain ⟨l0,kin,hc,hB,hok,hw⟩:=s.wr e
 obtain ⟨kin',ro',hc'⟩:=GH.cells_some hl
 rw [hc] at hc'
 injection hc' with hc'
 injection hc' with q1 q2 q3
 subst q1 q2 q3
 obtain ⟨C,t,fr,h1,h2,h3,h4,h5⟩:=s.holds hc
 obtain rfl:=h2 rfl
 have hC:l0.length<=C.toList.length:=by simpa using h3
 have hv:o+vs.length<=C.size:=by rw [<-hm.1];rcases hb with hb | hb<;>omega
 have hst:=run_storeCells_at (P:=P) (ρ c).1 o t vs 0 C w h1 (by simpa using hv) hm.one
 refine ⟨_,hst,?_⟩
 obtain ⟨p1,p2⟩:=RCs.put (C:=C.toList) (fun j x u a b=>h5 j x u a (by rw [<-Array.getElem?_toList];exact b)) hm ho hC (by simpa using hv)
 simp only [Nat.add_zero]
 refine hw _ _ t ?_ ?_ ?_ (setRow_heap w _ C _ t (0,0) h1) (by simp) ⟨rfl,rfl,rfl⟩ fun g hg=>setRow_other w _ g _ hg
 ·rw [hl'];simpa using p1
 ·simp only [List.size_toArray,List.length_append,List.length_take,List.length_drop,Array.length_toList];omega
 ·rw [hl']
  exact fun j x u a b=>p2 j x u a (by simpa using b)
end
def Co (P:Program) (L:Operand->CV) (h:GH) (o:Oper) (x:CV) (h':GH):Prop :=
 ∀ (ρ:Nat->Nat×Nat) (B:Nat) (w:World) (a:Act),SR ρ h B w->(∀ y,RC (okH h) ρ (L y) (a.eval y)) ->
  ∃ v w' ρ',((execOp a.eval o).run P w=.ok (.value v) w'\/((execOp a.eval o).run P w=.ok .skip w'/\v=undef))/\Df ρ h h' B w w' ρ'/\RC (okH h') ρ' x v
section
variable {P : Program} {L : Operand -> CV} {h h' : GH} {o : Oper} {x : CV}
variable {dst : Option Tmp} {ty : TypeId} {pos : String} {after : Array Edge} {gd : Option (Nat × Bool)}
theorem Co.pure_ (hh:∀ (ρ:Nat->Nat×Nat) (B:Nat) (w:World) (a:Act),SR ρ h B w->(∀ y,RC (okH h) ρ (L y) (a.eval y))->∃ v,(execOp a.eval o).run P w=.ok (.value v) w/\RC (okH h) ρ x v):Co P L h o x h:=fun ρ B w a s hL=>by
 obtain ⟨v,h1,h2⟩:=hh ρ B w a s hL
 exact ⟨v,w,ρ,.inl h1,Df.refl s,h2⟩
theorem Ce4 {b y z:Operand} (e:Be6 (L b) (L y) (L z) h=some (x,h')):Co P L h ⟨dst,.pick b y z,ty,pos,after,gd⟩ x h':=by
 unfold Be6 at e
 split at e
 ·rename_i hb
  cases e
  exact Co.pure_ fun ρ B w a s hL=>⟨a.eval y,by have:=hL b;rw [hb] at this;simp [execOp,this.v_inv,asBool],hL y⟩
 ·rename_i hb
  cases e
  exact Co.pure_ fun ρ B w a s hL=>⟨a.eval z,by have:=hL b;rw [hb] at this;simp [execOp,this.v_inv,asBool],hL z⟩
 ·cases e
theorem Ad6 {t:TypeId} {w:World} {zs:List CV} (e:Tj P t=some zs):∃ z,(zeroValue t).run P w=.ok z w/\zs=z.cells.toList.map .v/\(∀ v∈z.cells.toList,v.oneCell'=true)/\∃ q s,tyK P t=some (q,s):=by
 unfold Tj at e
 split at e
 ·rename_i q zs' hz
  obtain ⟨h1,rfl⟩:=Bl e
  obtain ⟨z,h2,rfl,s,h3⟩:=A45 (w:=w) hz
  exact ⟨z,h2,rfl,List.all_eq_true.1 h1,q,s,h3⟩
 ·cases e
theorem U3 {ρ:Nat->Nat×Nat} {B:Nat} {w w0 w':World} (s:SR ρ h B w) {l:List CV} {C:Array Value} {t:TypeId} (hw:w'=w0.alloc (.cells C t)) (h0:w0.heap=w.heap/\w0.os=w.os/\w0.tape=w.tape/\w0.output=w.output) (K:Nat) (hK:K<=C.size) (hl:l.length<=C.size)
  (hC:∀ (j:Nat) x u,l[j]? = some x->C[j]? = some u->RC (okH h) ρ x u/\u.oneCell'=true):∃ ρ',ρ' h.nx=(w.heap.size,K)/\okH (h.new (.cs l [] false)) h.nx/\Df ρ h (h.new (.cs l [] false)) B w w' ρ':=by
 have hb:Below w.heap.size w w':=by
  subst hw
  have:=Below.alloc (Below.refl w.heap.size w0) (by rw [h0.1];exact Nat.le_refl _) (.cells C t)
  exact ⟨this.os.trans h0.2.1,this.tape.trans h0.2.2.1,this.output.trans h0.2.2.2,by rw [<-h0.1];exact this.size,fun k hk=>by rw [<-h0.1];exact (Below.heap_alloc w0 _ k (by rw [h0.1];exact hk))⟩
 obtain ⟨ρ',e1,p⟩:=s.new (b:=.cs l [] false) (w':=w') (g:=(w.heap.size,K)) hb rfl fun ρ' _ hx _=>⟨C,t,(0,0),by rw [hw,<-h0.1];exact World.alloc_heap_new _ _,fun _=>rfl,hl,hK,fun j x u a b=>⟨(hC j x u a b).1.ext hx,(hC j x u a b).2⟩⟩
 exact ⟨ρ',e1,Gn s _,p⟩
theorem C05 {e:TypeId} (q:Ap8 P e h=some (x,h')):Co P L h ⟨dst,.alloc e,ty,pos,after,gd⟩ x h':=fun ρ B w a s hL=>by
 unfold Ap8 at q
 simp only [Option.map_eq_some_iff,Prod.mk.injEq] at q
 obtain ⟨zs,hz,rfl,rfl⟩:=q
 obtain ⟨z,h1,rfl,h2,_⟩:=Ad6 (w:=w) hz
 obtain ⟨ρ',e1,e2,p⟩:=U3 s (l:=z.cells.toList.map .v) (C:=z.cells) (t:=e) rfl ⟨rfl,rfl,rfl,rfl⟩ 0 (Nat.zero_le _) (by simp) fun j x u a b=>(RCs.zeros h2).2 j x u a (by rw [Array.getElem?_toList];exact b)
 refine ⟨.pointer (some ⟨w.heap.size,0,none⟩),_,ρ',.inl ?_,p,?_⟩
 ·simp only [execOp,Instr.alloc,newVar,newRow,newObj]
  simp only [Sem.run_bind,Sem.run_pure,h1,Result.andThen_ok,Sem.run]
  rfl
 ·have:=RC.p (ρ:=ρ') (o:=0) e2
  rwa [e1] at this
theorem D64 {e:TypeId} {y:Operand} (q:Co8 (L y) h=some (x,h')):Co P L h ⟨dst,.box e y,ty,pos,after,gd⟩ x h':=fun ρ B w a s hL=>by
 obtain ⟨h1,q⟩:=Bl q
 cases q
 obtain ⟨h2,h3⟩:=(hL y).cells h1
 obtain ⟨ρ',e1,e2,p⟩:=U3 s (l:=Hj (L y)) (C:=(a.eval y).cells) (t:=e) rfl ⟨rfl,rfl,rfl,rfl⟩ 0 (Nat.zero_le _) (by omega) h3
 refine ⟨.pointer (some ⟨w.heap.size,0,none⟩),_,ρ',.inl ?_,p,?_⟩
 ·simp only [execOp,Instr.box,newVar,newRow,newObj]
  simp only [Sem.run_bind,Sem.run_pure,Result.andThen_ok,Sem.run]
  rfl
 ·have:=RC.p (ρ:=ρ') (o:=0) e2
  rwa [e1] at this
theorem B21 {q n o:Nat} {l:List CV} {r:CV} (e:rdC q n o l=some r):(q=0/\l[o]? = some r)\/(q≠0/\o+n<=l.length+(if n=0 then o else 0)/\r=.g ((l.drop o).take n)/\((l.drop o).take n).length=n):=by
 unfold rdC at e
 split at e
 ·rw [A77] at e;exact .inl ⟨rfl,e⟩
 ·rename_i hq
  simp only [Option.map_eq_some_iff] at e
  obtain ⟨m,e,rfl⟩:=e
  obtain ⟨rfl,h1⟩:=Eo e
  rw [Mi] at h1 ⊢
  exact .inr ⟨fun e=>hq e,by simp at h1;split<;>omega,rfl,by rw [List.length_take];exact Nat.min_eq_left h1⟩
theorem Bk0 {ρ:Nat->Nat×Nat} {B:Nat} {w:World} (s:SR ρ h B w) {t q n c o:Nat} (ht:tyK P t=some (q,n)) {l:List CV} (hl:h.cells c=some l) {r:CV} (e:rdC q n o l=some r):∃ v,(Instr.loadAt t (.pointer (some ⟨(ρ c).1,o,none⟩))).run P w=.ok v w/\RC (okH h) ρ r v:=by
 obtain ⟨f,hf⟩:=s.cell hl
 obtain ⟨ha,hz⟩:=D5 (w:=w) ht
 rcases B21 e with ⟨rfl,e0⟩ | ⟨hq,_,rfl,hlen⟩
 ·obtain ⟨h1,h2,_⟩:=hf o r e0
  exact ⟨f o,by simp [Instr.loadAt,Instr.sureAddr,loadVar,ha,load,Sem.run,h1],h2⟩
 ·have hm:∀ (j:Nat) x,((l.drop o).take n)[j]? = some x->l[o+j]? = some x:=fun j x hj=>by
   have:=(List.getElem?_eq_some_iff.1 hj).1
   rw [hlen] at this
   rw [List.getElem?_take_of_lt this,List.getElem?_drop] at hj
   exact hj
  have hll:=run_loadCells (P:=P) w ⟨(ρ c).1,o,none⟩ n (fun j=>f (o+j)) fun j hj=>by
   rw [Dq]
   exact (hf (o+j) _ (hm j _ (List.getElem?_eq_getElem (by omega)))).1
  refine ⟨.agg ((List.range n).map fun j=>f (o+j)).toArray,by simp [Instr.loadAt,Instr.sureAddr,loadVar,ha,hz,hq,hll],?_⟩
  have:=RC.gof (ρ:=ρ) (ok:=okH h) (m:=(l.drop o).take n) (f:=fun j=>f (o+j)) fun j x hj=>(hf (o+j) x (hm j x hj)).2
  rwa [hlen] at this
theorem Ce9 {t:TypeId} {y:Operand} (e:Bf0 P t (L y) h=some (x,h')):Co P L h ⟨dst,.load t y,ty,pos,after,gd⟩ x h':=by
 unfold Bf0 at e
 split at e
 ·rename_i c o hy
  split at e
  ·rename_i q n ht
   simp only [Option.bind_eq_some_iff,Option.map_eq_some_iff] at e
   obtain ⟨l,hl,r,hr,e⟩:=e
   cases e
   refine Co.pure_ fun ρ B w a s hL=>?_
   have:=hL y
   rw [hy] at this
   obtain ⟨v,h1,h2⟩:=Bk0 s ht hl hr
   exact ⟨v,by simp only [execOp,this.p_inv.1];exact Ca h1,h2⟩
  ·cases e
 ·cases e
theorem Bz9 {t:TypeId} {y z:Operand} (e:Wk P t (L y) (L z) h=some (x,h')):Co P L h ⟨dst,.store t y z,ty,pos,after,gd⟩ x h':=by
 unfold Wk at e
 split at e
 ·rename_i c o hy
  split at e
  ·rename_i q n ht
   simp only [Option.bind_eq_some_iff] at e
   obtain ⟨l,hl,e⟩:=e
   obtain ⟨h1,e⟩:=D7 e
   simp only [Bool.and_eq_true,Option.bind_eq_some_iff,Option.map_eq_some_iff] at h1 e
   obtain ⟨l',hs,h2,hw,e⟩:=e
   cases e
   obtain ⟨p1,p2⟩:=J5 hs
   intro ρ B w a s hL
   have hyv:=hL y
   rw [hy] at hyv
   have hm:=(hL z).cellsR h1.1
   have hn:=Nat.eq_of_beq_eq_true h1.2
   obtain ⟨w1,r1,r2⟩:=s.store (P:=P) hl hw p2 (by omega) hm (.inl p1)
   obtain ⟨ha,hz⟩:=D5 (w:=w) ht
   have hsz:(a.eval z).cells.size=n:=by have:=hm.1;rw [hn] at this;simpa using this.symm
   refine ⟨undef,w1,ρ,.inr ⟨?_,rfl⟩,r2,RC.undef⟩
   simp only [execOp,hyv.p_inv.1,Instr.storeAt,Instr.sureAddr,storeVar]
   simp [hz,hsz,r1]
  ·cases e
 ·cases e
theorem D60 {y:Operand} (e:C59 (L y) h=some (x,h')):Co P L h ⟨dst,.nilCheck y,ty,pos,after,gd⟩ x h':=by
 unfold C59 at e
 split at e
 case h_4=>cases e
 all_goals
  rename_i hy
  cases e
  refine Co.pure_ fun ρ B w a s hL=>⟨a.eval y,?_,by rw [<-hy];exact hL y⟩
  have:=hL y
  rw [hy] at this
  generalize hu:a.eval y=u at this
  cases this<;>(simp only [execOp,hu];rfl)
theorem Dw8 {op:UnOp} {t:TypeId} {y:Operand} (e:xUn op (L y) h=some (x,h')):Co P L h ⟨dst,.unOp op t y,ty,pos,after,gd⟩ x h':=by
 unfold xUn at e
 split at e
 ·rename_i b hy
  split at e
  ·cases e
   exact Co.pure_ fun ρ B w a s hL=>⟨_,by have:=hL y;rw [hy] at this;simp only [execOp,this.v_inv];exact Ca (by simp [Op.unary]),RC.bool⟩
  ·cases e
 ·rename_i k m hy
  split at e
  ·cases e
   exact Co.pure_ fun ρ B w a s hL=>⟨_,by have:=hL y;rw [hy] at this;simp only [execOp,this.v_inv];exact Ca (by simp [Op.unary,Op.intArith]),RC.int⟩
  ·cases e
   exact Co.pure_ fun ρ B w a s hL=>⟨_,by have:=hL y;rw [hy] at this;simp only [execOp,this.v_inv];exact Ca (by simp [Op.unary,Op.intBits]),RC.int⟩
  ·cases e
 ·cases e
theorem Dw9 {fn:Fn} {first caps:Array Operand} (e:xFn fn first (caps.toList.map L) h=some (x,h')):Co P L h ⟨dst,.makeFunc fn first caps,ty,pos,after,gd⟩ x h':=by
 unfold xFn at e
 split at e
 ·rename_i f
  obtain ⟨h1,e⟩:=Bl e
  cases e
  have h1:first=#[]:=by simpa using h1
  subst h1
  refine Co.pure_ fun ρ B w a s hL=>⟨.func (.func f) #[] (caps.map a.eval),by simp [execOp,Instr.makeFunc],.f (by simp) fun j x u a b=>?_⟩
  simp only [List.getElem?_map,Array.getElem?_toList,Array.getElem?_map,Option.map_eq_some_iff] at a b
  obtain ⟨q,hq,rfl⟩:=a
  obtain ⟨q',hq',rfl⟩:=b
  rw [hq] at hq'
  obtain rfl:=Option.some.inj hq'
  exact hL q
 ·cases e
theorem Bq5 {t:TypeId} {y:Operand} {f:Nat} (e:A39 P t (L y) f h=some (x,h')):Co P L h ⟨dst,.fieldAddr t y f,ty,pos,after,gd⟩ x h':=by
 unfold A39 at e
 split at e
 ·rename_i c o hy
  split at e
  ·rename_i off q n ht
   cases hn:Nat.beq n 0 with
   | true=>rw [hn] at e;cases e
   | false =>
    rw [hn] at e
    cases e
    have hn:=Nat.ne_of_beq_eq_false hn
    refine Co.pure_ fun ρ B w a s hL=>?_
    have:=hL y
    rw [hy] at this
    obtain ⟨hu,hc⟩:=this.p_inv
    obtain ⟨fs,fd,h1,h2,rfl,h3⟩:=Vw ht
    obtain ⟨ha,hz⟩:=D5 (w:=w) h3
    refine ⟨.pointer (some ⟨(ρ c).1,o+fd.offset,none⟩),?_,.p hc⟩
    simp only [execOp,hu]
    exact Ca (by simp [Instr.fieldAt,run_underlying h1,h2,Instr.sureAddr,fieldPlace,hz,hn,Dq])
  ·cases e
 ·cases e
theorem Ai5 {ok:Nat->Prop} {ρ:Nat->Nat×Nat} {t q n o:Nat} {w:World} (ht:tyK P t=some (q,n)) {l:List CV} {vs:Array Value} (h1:vs.size=l.length) (h2:∀ (j:Nat) x u,l[j]? = some x->vs[j]? = some u->RC ok ρ x u/\u.oneCell'=true) {r:CV} (e:rdC q n o l=some r):∃ v,(part t vs o).run P w=.ok v w/\RC ok ρ r v:=by
 obtain ⟨ha,hz⟩:=D5 (w:=w) ht
 rcases B21 e with ⟨rfl,e0⟩ | ⟨hq,_,rfl,hlen⟩
 ·have hlt:=(List.getElem?_eq_some_iff.1 e0).1
  have hv:vs[o]? = some (vs[o]'(by omega)):=Array.getElem?_eq_getElem _
  exact ⟨vs[o]'(by omega),by simp [part,ha,hv],(h2 o _ _ e0 hv).1⟩
 ·refine ⟨.agg (vs.extract o (o+n)),by simp [part,ha,hz,hq],?_⟩
  have hln:n<=(l.drop o).length:=by rw [List.length_take] at hlen;omega
  rw [List.length_drop] at hln
  have hol:o+n<=l.length\/n=0:=by omega
  have key:∀ (j:Nat) u,(vs.extract o (o+n))[j]? = some u->j < n/\vs[o+j]? = some u:=fun j u a=>by
   have:=(Array.getElem?_eq_some_iff.1 a).1
   simp at this
   refine ⟨by omega,?_⟩
   rw [Array.getElem?_extract] at a
   by_cases hq:j < min (o+n) vs.size - o
   ·rw [if_pos hq] at a;exact a
   ·rw [if_neg hq] at a;cases a
  refine .g (by rw [Array.size_extract,hlen];omega) (fun j x u a b=>?_) fun j u b=>?_
  ·obtain ⟨k1,k2⟩:=key j u b
   rw [List.getElem?_take_of_lt k1,List.getElem?_drop] at a
   exact (h2 _ x u a k2).1
  ·obtain ⟨k1,k2⟩:=key j u b
   exact (h2 _ _ u (List.getElem?_eq_getElem (by omega)) k2).2
theorem C02 {t:TypeId} {y:Operand} {f:Nat} (e:Ap3 P t (L y) f h=some (x,h')):Co P L h ⟨dst,.field t y f,ty,pos,after,gd⟩ x h':=by
 unfold Ap3 at e
 split at e
 ·rename_i l hy
  split at e
  ·rename_i off q n ht
   simp only [Option.map_eq_some_iff] at e
   obtain ⟨r,hr,e⟩:=e
   cases e
   refine Co.pure_ fun ρ B w a s hL=>?_
   have:=hL y
   rw [hy] at this
   obtain ⟨vs,hu,hsz,hvs⟩:=this.g_inv
   obtain ⟨fs,fd,h1,h2,rfl,h3⟩:=Vw ht
   obtain ⟨v,r1,r2⟩:=Ai5 (w:=w) h3 hsz hvs hr
   refine ⟨v,?_,r2⟩
   simp only [execOp,hu]
   exact Ca (by simp [Instr.field,run_underlying h1,h2,asAgg,r1])
  ·cases e
 ·cases e
theorem Bd8 {y:Operand} {i:Nat} (e:Wl (L y) i h=some (x,h')):Co P L h ⟨dst,.extract y i,ty,pos,after,gd⟩ x h':=by
 unfold Wl at e
 split at e
 ·rename_i l hy
  simp only [Option.map_eq_some_iff,A77] at e
  obtain ⟨r,hr,e⟩:=e
  cases e
  refine Co.pure_ fun ρ B w a s hL=>?_
  have:=hL y
  rw [hy] at this
  generalize hu:a.eval y=u at this
  cases this with
  | @t _ vs h1 h2 =>
   have hlt:=(List.getElem?_eq_some_iff.1 hr).1
   have hv:vs[i]? = some (vs[i]'(by omega)):=Array.getElem?_eq_getElem _
   refine ⟨vs[i]'(by omega),?_,h2 i _ _ hr hv⟩
   simp only [execOp,hu]
   exact Ca (by simp [Instr.extract,hv])
 ·cases e
end
section
variable {P : Program} {L : Operand -> CV} {h h' : GH} {o : Oper} {x : CV} {eqT : Nat -> Bool}
variable {dst : Option Tmp} {ty : TypeId} {pos : String} {after : Array Edge} {gd : Option (Nat × Bool)}
section
variable {ok : Nat -> Prop} {ρ : Nat -> Nat × Nat} {u : Value}
theorem RC.s_inv {c o n k e:Nat} (h:RC ok ρ (.s c o n k e) u):∃ K,u=.slice (some ⟨(ρ c).1,o,none⟩) n K/\ok c/\n<=k/\k<=K/\K<=maxLen/\(e=0->K=k)/\(e≠0->o+K*e<=(ρ c).2):=by cases h;exact ⟨_,rfl,by assumption,by assumption,by assumption,by assumption,by assumption,by assumption⟩
theorem RC.z_inv (h:RC ok ρ .z u):∃ A K,u=.slice (some A) 0 K/\K<=maxLen:=by cases h;exact ⟨_,_,rfl,by assumption⟩
theorem RC.nilS:RC ok ρ (.v (.slice none 0 0)) (.slice none 0 0):=.v fun _ e=>by cases e
theorem RC.nat_inv {y:CV} {n:Nat} (hn:Rn y=some n) (h:RC ok ρ y u):∃ k,u=.int k (n:Nat):=by
 obtain ⟨k,rfl⟩:=Ba6 hn
 exact ⟨k,h.v_inv⟩
end
theorem Bq4 {t:TypeId} {y i:Operand} (e:A38 P t (L y) (L i) h=some (x,h')):Co P L h ⟨dst,.indexAddr t y i,ty,pos,after,gd⟩ x h':=by
 unfold A38 at e
 split at e
 case h_2=>cases e
 rename_i m hi
 split at e
 ·rename_i c o n k q hy
  split at e
  ·rename_i el z b ht
   obtain ⟨h1,e⟩:=Bl e
   cases e
   simp only [Bool.and_eq_true] at h1
   have hm:=Bs.1 h1.1
   refine Co.pure_ fun ρ B w a s hL=>?_
   obtain ⟨hu,inf,hi2,hi3,_⟩:=C3 ht
   obtain ⟨kk,hiv⟩:=RC.nat_inv hi (hL i)
   have hyv:=hL y
   rw [hy] at hyv
   obtain ⟨K,hyv,hc,_⟩:=hyv.s_inv
   refine ⟨.pointer (some ⟨(ρ c).1,o+m*z,none⟩),?_,.p hc⟩
   simp only [execOp,hiv,hyv]
   refine Ca ?_
   have h5:¬ ((m:Int) < 0):=by omega
   have h6:(m:Int) < (n:Int):=by omega
   simp [Instr.indexAt,asIntOf,run_underlying hu,h6,sizeOf,typeInfo,hi2,hi3,Dq,hm]
  ·cases e
 ·rename_i c o hy
  split at e
  ·rename_i n q k ht
   obtain ⟨h1,e⟩:=Bl e
   cases e
   simp only [Bool.and_eq_true] at h1
   have hm:=Bs.1 h1.1
   refine Co.pure_ fun ρ B w a s hL=>?_
   obtain ⟨el,hu,hz⟩:=M3 ht
   obtain ⟨_,hz⟩:=D5 (w:=w) hz
   obtain ⟨kk,hiv⟩:=RC.nat_inv hi (hL i)
   have hyv:=hL y
   rw [hy] at hyv
   obtain ⟨hyv,hc⟩:=hyv.p_inv
   refine ⟨.pointer (some ⟨(ρ c).1,o+m*k,none⟩),?_,.p hc⟩
   simp only [execOp,hiv,hyv]
   refine Ca ?_
   have h6:(m:Int) < (n:Int):=by omega
   simp [Instr.indexAt,asIntOf,run_underlying hu,Instr.sureAddr,h6,hz,Dq,hm]
  ·cases e
 ·cases e
theorem C01 {t:TypeId} {y i:Operand} (e:Ap2 P t (L y) (L i) h=some (x,h')):Co P L h ⟨dst,.index t y i,ty,pos,after,gd⟩ x h':=by
 unfold Ap2 at e
 split at e
 case h_2=>cases e
 rename_i m hi
 split at e
 ·rename_i l hy
  split at e
  ·rename_i n q k ht
   obtain ⟨h1,e⟩:=D7 e
   simp only [Option.map_eq_some_iff] at e
   obtain ⟨r,hr,e⟩:=e
   cases e
   have hm:=Bs.1 h1
   refine Co.pure_ fun ρ B w a s hL=>?_
   obtain ⟨el,hu,hz⟩:=M3 ht
   obtain ⟨_,hz2⟩:=D5 (w:=w) hz
   obtain ⟨kk,hiv⟩:=RC.nat_inv hi (hL i)
   have hyv:=hL y
   rw [hy] at hyv
   obtain ⟨vs,hyv,hsz,hvs⟩:=hyv.g_inv
   obtain ⟨v,r1,r2⟩:=Ai5 (w:=w) hz hsz hvs hr
   refine ⟨v,?_,r2⟩
   simp only [execOp,hiv,hyv]
   refine Ca ?_
   have h6:(m:Int) < (n:Int):=by omega
   simp [Instr.index,asIntOf,run_underlying hu,h6,hz2,r1,hm]
  ·cases e
 ·rename_i z hy
  obtain ⟨ht,e⟩:=D7 e
  simp only [Option.map_eq_some_iff] at e
  obtain ⟨b,hb,e⟩:=e
  cases e
  refine Co.pure_ fun ρ B w a s hL=>⟨_,?_,RC.int⟩
  obtain ⟨kk,hiv⟩:=RC.nat_inv hi (hL i)
  have hyv:=hL y
  rw [hy] at hyv
  simp only [execOp,hiv,hyv.v_inv]
  refine Ca ?_
  have hb2:z[m]? = some b:=by
   have hlt:=(List.getElem?_eq_some_iff.1 hb).1
   have hlt:m < z.size:=by simpa using hlt
   rw [getElem?_pos z m hlt]
   have:=(List.getElem?_eq_some_iff.1 hb).2
   rw [<-this]
   rfl
  simp [Instr.index,asIntOf,run_underlying (Eu ht),hb2]
 ·cases e
theorem D62 {t:TypeId} {y:Operand} (e:C61 P t (L y) h=some (x,h')):Co P L h ⟨dst,.call { callee:=.builtin .len,args:=#[y],argTypes:=#[t] },ty,pos,after,gd⟩ x h':=by
 unfold C61 at e
 simp only [Option.bind_eq_some_iff] at e
 obtain ⟨n,hn,e⟩:=e
 obtain ⟨h1,e⟩:=Bl e
 cases e
 refine Co.pure_ fun ρ B w a s hL=>⟨.int .i64 (n:Nat),?_,RC.int⟩
 have hyv:=hL y
 have slr:∀ {A:Option Addr} {m cc:Nat},(Cq P t).isSome=true->(Builtin.len_ #[t] ty #[.slice A m cc]).run P w=.ok (.int .i64 (m:Nat)) w:=fun hs=>by
  obtain ⟨⟨e,k,y⟩,hq⟩:=Option.isSome_iff_exists.1 hs
  simp [Builtin.len_,run_underlying (C3 hq).1,goInt]
 have run:∀ {v:Value},a.eval y=v->(Builtin.len_ #[t] ty #[v]).run P w=.ok (.int .i64 (n:Nat)) w->(execOp a.eval ⟨dst,.call { callee:=.builtin .len,args:=#[y],argTypes:=#[t] },ty,pos,after,gd⟩).run P w=.ok (.value (.int .i64 (n:Nat))) w:=fun hu hr=>by
  simp [execOp,resolve,invoke,builtin,hu,hr]
 unfold D06 at hn
 split at hn
 ·rename_i hy
  rw [hy] at h1 hyv
  cases hn
  exact run hyv.v_inv (slr h1)
 ·rename_i hy
  rw [hy] at h1 hyv
  cases hn
  obtain ⟨A,K,hv,_⟩:=hyv.z_inv
  exact run hv (slr h1)
 ·rename_i hy
  rw [hy] at h1 hyv
  cases hn
  obtain ⟨K,hv,_⟩:=hyv.s_inv
  exact run hv (slr h1)
 ·rename_i hy
  rw [hy] at h1 hyv
  cases hn
  exact run hyv.v_inv (by simp [Builtin.len_,run_underlying (Eu h1),goInt])
 ·cases hn
theorem D63 {t:TypeId} {y:Operand} (e:C62 P t (L y) h=some (x,h')):Co P L h ⟨dst,.call { callee:=.builtin .cap,args:=#[y],argTypes:=#[t] },ty,pos,after,gd⟩ x h':=by
 unfold C62 at e
 cases hq:Cq P t with
 | none=>rw [hq] at e;cases e
 | some q =>
  rw [hq] at e
  have hu:=(C3 hq).1
  have run:∀ {a:Act} {w:World} {A:Option Addr} {n k:Nat},a.eval y=.slice A n k->(execOp a.eval ⟨dst,.call { callee:=.builtin .cap,args:=#[y],argTypes:=#[t] },ty,pos,after,gd⟩).run P w=.ok (.value (.int .i64 (k:Nat))) w:=fun hv=>by
   simp [execOp,resolve,invoke,builtin,hv,Builtin.cap_,run_underlying hu,goInt]
  simp only [Option.isNone_some,cond_false] at e
  split at e
  ·rename_i c o n k hy
   cases e
   refine Co.pure_ fun ρ B w a s hL=>⟨.int .i64 (k:Nat),?_,RC.int⟩
   have hyv:=hL y
   rw [hy] at hyv
   obtain ⟨K,hv,_,_,_,_,hK,_⟩:=hyv.s_inv
   obtain rfl:=hK rfl
   exact run hv
  ·rename_i hy
   cases e
   refine Co.pure_ fun ρ B w a s hL=>⟨.int .i64 0,?_,RC.int⟩
   have hyv:=hL y
   rw [hy] at hyv
   exact run hyv.v_inv
  ·cases e
theorem C49 {mx:Bool} {t:Array TypeId} {y z:Operand} (e:Vn mx (L y) (L z) h=some (x,h')):Co P L h ⟨dst,.call { callee:=.builtin (bif mx then .max else .min),args:=#[y,z],argTypes:=t },ty,pos,after,gd⟩ x h':=by
 unfold Vn at e
 split at e
 ·rename_i k p k' q hy hz
  cases e
  refine Co.pure_ fun ρ B w a s hL=>⟨_,?_,RC.int⟩
  have h1:=hL y
  have h2:=hL z
  rw [hy] at h1
  rw [hz] at h2
  cases mx<;>simp [execOp,resolve,invoke,builtin,h1.v_inv,h2.v_inv,Builtin.max_,Builtin.min_,Builtin.max2,Builtin.min2]<;>omega
 ·cases e
theorem Th {mx:Bool} {x y r:CV} {h h':GH} (e:Vn mx x y h=some (r,h')):∃ k p k' q,x=.v (.int k p)/\y=.v (.int k' q)/\r=.v (.int k (bif mx then max p q else min p q))/\h'=h:=by
 unfold Vn at e
 split at e
 ·cases e;exact ⟨_,_,_,_,rfl,rfl,rfl,rfl⟩
 ·cases e
theorem Ce5 {t:Array TypeId} {y z y2 z2:Operand} (e:((Vn false (L y) (L z) h).bind fun r=>(Vn false r.1 (L y2) h).bind fun r=>Vn false r.1 (L z2) h)=some (x,h')):Co P L h ⟨dst,.call { callee:=.builtin .min,args:=#[y,z,y2,z2],argTypes:=t },ty,pos,after,gd⟩ x h':=by
 simp only [Option.bind_eq_some_iff] at e
 obtain ⟨⟨r1,g1⟩,e1,⟨r2,g2⟩,e2,e3⟩:=e
 obtain ⟨k,p,k',q,hy,hz,rfl,rfl⟩:=Th e1
 obtain ⟨k2,p2,k3,q3,h1,hy2,rfl,rfl⟩:=Th e2
 cases h1
 obtain ⟨k4,p4,k5,q5,h2,hz2,rfl,rfl⟩:=Th e3
 cases h2
 refine Co.pure_ fun ρ B w a s hL=>⟨_,?_,RC.int⟩
 have a1:=hL y
 have a2:=hL z
 have a3:=hL y2
 have a4:=hL z2
 rw [hy] at a1
 rw [hz] at a2
 rw [hy2] at a3
 rw [hz2] at a4
 have m2:∀ (k k':IntKind) (p q:Int),(Builtin.min2 (.int k p) (.int k' q):Sem Value)=pure (.int k (min p q)):=fun k k' p q=>by
  simp only [Builtin.min2]
  congr 2
  omega
 simp [execOp,resolve,invoke,builtin,a1.v_inv,a2.v_inv,a3.v_inv,a4.v_inv,Builtin.min_,m2]
theorem Aq7 {a b:ByteArray} : (a.toList==b.toList)=(a.data.toList==b.data.toList):=by rw [ByteArray.toList_eq,ByteArray.toList_eq]
def Mn (P:Program) (eqT:Nat->Bool):Prop:=∀ t,eqT t=true->∀ (y z:Operand) (p q p' q':Int) (w:World),
 (do eqGuard .eql t y z (.agg #[.int .i64 p,.int .i64 q]) (.agg #[.int .i64 p',.int .i64 q']);binOp .eql t (.agg #[.int .i64 p,.int .i64 q]) (.agg #[.int .i64 p',.int .i64 q']):Sem Value).run P w=.ok (.bool (p==p'&&q==q')) w /\
 (do eqGuard .neq t y z (.agg #[.int .i64 p,.int .i64 q]) (.agg #[.int .i64 p',.int .i64 q']);binOp .neq t (.agg #[.int .i64 p,.int .i64 q]) (.agg #[.int .i64 p',.int .i64 q']):Sem Value).run P w=.ok (.bool !(p==p'&&q==q')) w
theorem Bn9 {ok:Nat->Prop} {ρ:Nat->Nat×Nat} {u:Value} {p q:Int} (h:RC ok ρ (.g [.v (.int .i64 p),.v (.int .i64 q)]) u):u=.agg #[.int .i64 p,.int .i64 q]:=by
 obtain ⟨vs,rfl,h1,h2⟩:=h.g_inv
 have e0:=(h2 0 _ (vs[0]'(by simp at h1;omega)) rfl (Array.getElem?_eq_getElem _)).1.v_inv
 have e1:=(h2 1 _ (vs[1]'(by simp at h1;omega)) rfl (Array.getElem?_eq_getElem _)).1.v_inv
 congr 1
 apply Array.ext
 ·simpa using h1
 ·intro i hi _
  have hi:i < 2:=by simpa [h1] using hi
  match i,hi with
  | 0,_=>simpa using e0
  | 1,_=>simpa using e1
theorem Aq5 {t:TypeId} (h:Aq6 P t=true):P.underlying t=some .bool:=by
 unfold Aq6 at h
 split at h
 ·assumption
 ·cases h
theorem B40 (hE:Mn P eqT) {t:TypeId} {y z:Operand} {b:Bool} (e:eqC P eqT t (L y) (L z)=some b) {ρ:Nat->Nat×Nat} {a:Act} {w:World} (hL:∀ y,RC (okH h) ρ (L y) (a.eval y)) :
  (do eqGuard .eql t y z (a.eval y) (a.eval z);binOp .eql t (a.eval y) (a.eval z):Sem Value).run P w=.ok (.bool b) w/\(do eqGuard .neq t y z (a.eval y) (a.eval z);binOp .neq t (a.eval y) (a.eval z):Sem Value).run P w=.ok (.bool !b) w:=by
 have h1:=hL y
 have h2:=hL z
 generalize L y=p at *
 generalize L z=q at *
 generalize a.eval y=u at *
 generalize a.eval z=v at *
 unfold eqC at e
 split at e
 ·obtain ⟨ht,e⟩:=Bl e
  subst e
  rw [h1.v_inv,h2.v_inv]
  simp [eqGuard,binOp,run_equal_bool w t _ _ (Aq5 ht)]
 ·cases e
  rw [h1.v_inv,h2.v_inv]
  simp [eqGuard,binOp,Op.stringOp,Aq7]
 ·obtain ⟨ht,e⟩:=Bl e
  subst e
  obtain ⟨⟨_,_,_⟩,hq⟩:=Option.isSome_iff_exists.1 ht
  rw [h1.v_inv,h2.v_inv]
  simp [eqGuard,binOp,run_equal_slice_nil w t _ _ _ _ (C3 hq).1]
 ·obtain ⟨ht,e⟩:=Bl e
  subst e
  obtain ⟨⟨_,_,_⟩,hq⟩:=Option.isSome_iff_exists.1 ht
  obtain ⟨K,rfl,_⟩:=h1.s_inv
  rw [h2.v_inv]
  simp [eqGuard,binOp,run_equal_slice_nil w t _ _ _ _ (C3 hq).1]
 ·obtain ⟨ht,e⟩:=Bl e
  subst e
  obtain ⟨⟨_,_,_⟩,hq⟩:=Option.isSome_iff_exists.1 ht
  obtain ⟨A,K,rfl,_⟩:=h1.z_inv
  rw [h2.v_inv]
  simp [eqGuard,binOp,run_equal_slice_nil w t _ _ _ _ (C3 hq).1]
 ·obtain ⟨ht,e⟩:=Bl e
  subst e
  rw [Bn9 h1,Bn9 h2]
  exact hE t ht y z _ _ _ _ w
 ·cases e
theorem D65 (hE:Mn P eqT) {op:BinOp} {t tz:TypeId} {y z:Operand} (e:C63 P eqT op t (L y) (L z) h=some (x,h')):Co P L h ⟨dst,.binOp op t y z tz,ty,pos,after,gd⟩ x h':=by
 unfold C63 at e
 simp only [Option.map_eq_some_iff] at e
 obtain ⟨r,hr,e⟩:=e
 cases e
 have fin:∀ {v:Value} {r:CV},(∀ (ρ:Nat->Nat×Nat) (a:Act) (w:World),(∀ y,RC (okH h) ρ (L y) (a.eval y))->(do eqGuard op t y z (a.eval y) (a.eval z);binOp op t (a.eval y) (a.eval z):Sem Value).run P w=.ok v w)->(∀ ρ,RC (okH h) ρ r v)->Co P L h ⟨dst,.binOp op t y z tz,ty,pos,after,gd⟩ r h:=fun h1 h2 =>
  Co.pure_ fun ρ B w a s hL=>⟨_,by simp only [execOp];exact Ca (h1 ρ a w hL),h2 ρ⟩
 unfold D71 at hr
 split at hr
 ·rename_i k a' k' b hy hz
  obtain ⟨hb,hr⟩:=Bl hr
  subst hr
  have hb:=of_decide_eq_true hb
  refine fin (fun ρ a w hL=>?_) fun ρ=>RC.int
  have h1:=hL y
  have h2:=hL z
  rw [hy] at h1
  rw [hz] at h2
  rw [h1.v_inv,h2.v_inv]
  simp [eqGuard,binOp,Op.shift,show ¬ b < 0 by omega]
 ·rename_i k a' k' b hy hz
  obtain ⟨hb,hr⟩:=Bl hr
  subst hr
  have hb:=of_decide_eq_true hb
  refine fin (fun ρ a w hL=>?_) fun ρ=>RC.int
  have h1:=hL y
  have h2:=hL z
  rw [hy] at h1
  rw [hz] at h2
  rw [h1.v_inv,h2.v_inv]
  simp [eqGuard,binOp,Op.shift,show ¬ b < 0 by omega]
 ·rename_i k a' k' b _ _ hy hz
  by_cases hk:k=k'
  case neg=>simp [hk] at hr
  subst hk
  simp only [ne_eq,not_true_eq_false,decide_false,cond_false] at hr
  have both:∀ {ρ:Nat->Nat×Nat} {a:Act},(∀ y,RC (okH h) ρ (L y) (a.eval y))->a.eval y=.int k a'/\a.eval z=.int k b:=fun hL=>by
   have h1:=hL y
   have h2:=hL z
   rw [hy] at h1
   rw [hz] at h2
   exact ⟨h1.v_inv,h2.v_inv⟩
  split at hr
  case h_10 | h_11 =>
   by_cases hb:b=0
   ·simp [hb] at hr
   ·simp only [hb,decide_false,cond_false,Option.some.injEq] at hr
    subst hr
    refine fin (fun ρ a w hL=>?_) fun ρ=>RC.int
    rw [(both hL).1,(both hL).2]
    simp [eqGuard,binOp,Op.intDiv,hb]
  case h_16=>cases hr
  all_goals
   cases hr
   refine fin (fun ρ a w hL=>?_) fun ρ=>by first | exact RC.int | exact RC.bool
   rw [(both hL).1,(both hL).2]
   simp [eqGuard,binOp,Op.intArith,Op.intCmp,Op.intBits]
   try rfl
 ·simp only [Option.map_eq_some_iff] at hr
  obtain ⟨b,hb,rfl⟩:=hr
  exact fin (fun ρ a w hL=>(B40 hE hb hL).1) fun ρ=>RC.bool
 ·simp only [Option.map_eq_some_iff] at hr
  obtain ⟨b,hb,rfl⟩:=hr
  exact fin (fun ρ a w hL=>(B40 hE hb hL).2) fun ρ=>RC.bool
 ·rename_i hy hz
  obtain ⟨hb,hr⟩:=Bl hr
  subst hr
  have hb:=Nat.le_of_ble_eq_true hb
  refine fin (fun ρ a w hL=>?_) fun ρ=>RC.str
  have h1:=hL y
  have h2:=hL z
  rw [hy] at h1
  rw [hz] at h2
  rw [h1.v_inv,h2.v_inv]
  simp [eqGuard,binOp,Op.stringOp]
  omega
 ·cases hr
end
section
variable {P : Program} {L : Operand -> CV} {h h' : GH} {o : Oper} {x : CV} {eqT : Nat -> Bool}
variable {dst : Option Tmp} {ty : TypeId} {pos : String} {after : Array Edge} {gd : Option (Nat × Bool)}
theorem Wf {ρ:Nat->Nat×Nat} {a:Act} {w:World} (hL:∀ y,RC (okH h) ρ (L y) (a.eval y)) {lo hi:Option Operand} {l hh:Option Nat} (hl:(lo.map L).map Rn=l.map some) (hhi:(hi.map L).map Rn=hh.map some) {sl:Bool} {n cap:Nat} (h1:l.getD 0<=hh.getD n) (h2:hh.getD n<=cap) :
  (Instr.sliceBounds sl n cap (lo.map a.eval) (hi.map a.eval) none).run P w=.ok (l.getD 0,hh.getD n,cap) w/\∀ {mx:Operand} {m:Nat},Rn (L mx)=some m->hh.isSome=true->hh.getD n<=m->m<=cap->(Instr.sliceBounds sl n cap (lo.map a.eval) (hi.map a.eval) (some (a.eval mx))).run P w=.ok (l.getD 0,hh.getD n,m) w:=by
 have hlo:(lo.map a.eval=none/\l=none)\/∃ k i,lo.map a.eval=some (.int k ((i:Nat):Int))/\l=some i:=by
  cases lo with
  | none=>cases l with
   | none=>exact .inl ⟨rfl,rfl⟩
   | some i=>simp at hl
  | some p=>cases l with
   | none=>simp at hl
   | some i =>
    simp only [Option.map_some,Option.some.injEq] at hl
    obtain ⟨k,hk⟩:=RC.nat_inv hl (hL p)
    exact .inr ⟨k,i,by simp [hk],rfl⟩
 have hhi':(hi.map a.eval=none/\hh=none)\/∃ k j,hi.map a.eval=some (.int k ((j:Nat):Int))/\hh=some j:=by
  cases hi with
  | none=>cases hh with
   | none=>exact .inl ⟨rfl,rfl⟩
   | some i=>simp at hhi
  | some p=>cases hh with
   | none=>simp at hhi
   | some i =>
    simp only [Option.map_some,Option.some.injEq] at hhi
    obtain ⟨k,hk⟩:=RC.nat_inv hhi (hL p)
    exact .inr ⟨k,i,by simp [hk],rfl⟩
 constructor
 ·rcases hlo with ⟨e1,rfl⟩ | ⟨k1,i,e1,rfl⟩<;>rcases hhi' with ⟨e2,rfl⟩ | ⟨k2,j,e2,rfl⟩<;>rw [e1,e2]<;>simp only [Option.getD_none,Option.getD_some] at h1 h2 ⊢ <;>
   simp [Instr.sliceBounds,Instr.sliceBound,asIntOf,h1,h2]
 ·intro mx m hm hs h3 h4
  obtain ⟨k3,e3⟩:=RC.nat_inv hm (hL mx)
  rw [e3]
  rcases hhi' with ⟨e2,rfl⟩ | ⟨k2,j,e2,rfl⟩
  ·cases hs
  rcases hlo with ⟨e1,rfl⟩ | ⟨k1,i,e1,rfl⟩<;>rw [e1,e2]<;>simp only [Option.getD_none,Option.getD_some] at h1 h2 h3 ⊢ <;>
   simp [Instr.sliceBounds,Instr.sliceBound,asIntOf,h1,h3,h4]
theorem U4 {l:Option Operand} {q:Option Nat} (e:Bl9 (l.map L)=some q):(l.map L).map Rn=q.map some:=by
 cases l with
 | none=>cases e;rfl
 | some p =>
  simp only [Option.map_some,Bl9,Option.map_eq_some_iff] at e
  obtain ⟨n,hn,rfl⟩:=e
  simp [hn]
theorem X4 {ρ:Nat->Nat×Nat} {a:Act} {w:World} (hL:∀ y,RC (okH h) ρ (L y) (a.eval y)) {lo hi mx:Option Operand} {l hh mm:Option Nat} (hl:(lo.map L).map Rn=l.map some) (hhi:(hi.map L).map Rn=hh.map some) (hm:(mx.map L).map Rn=mm.map some) {k:Nat} {y r:CV} (e:A53 k y l hh mm=some r) {u:Value} (hu:RC (okH h) ρ y u) :
  ∃ A n K,u=.slice A n K/\∃ i j m,(∀ sl,(Instr.sliceBounds sl n K (lo.map a.eval) (hi.map a.eval) (mx.map a.eval)).run P w=.ok (i,j,m) w)/\RC (okH h) ρ r (.slice (if m=i then A else A.map (·.add (i*k))) (j - i) (m - i)):=by
 have nomx:mm=none->mx.map a.eval=none:=fun q=>by subst q;cases mx<;>simp at hm ⊢
 have zero:∀ {K:Nat},((mm.isNone || hh.isSome)&&Nat.beq (mm.getD 0) 0&&Nat.beq (l.getD 0) 0&&Nat.beq (hh.getD 0) 0)=true->∃ m,m<=K/\∀ sl,(Instr.sliceBounds sl 0 K (lo.map a.eval) (hi.map a.eval) (mx.map a.eval)).run P w=.ok (0,0,m) w:=fun {K} h1=>by
  simp only [Bool.and_eq_true] at h1
  obtain ⟨⟨⟨q1,q4⟩,q2⟩,q3⟩:=h1
  have q2:=Nat.eq_of_beq_eq_true q2
  have q3:=Nat.eq_of_beq_eq_true q3
  have q4:=Nat.eq_of_beq_eq_true q4
  have hb:=fun sl=>Wf (P:=P) (w:=w) hL hl hhi (sl:=sl) (n:=0) (cap:=K) (by omega) (by omega)
  rw [q2,q3] at hb
  cases mm with
  | none=>exact ⟨K,Nat.le_refl _,fun sl=>by rw [nomx rfl];exact (hb sl).1⟩
  | some m =>
   have q4:m=0:=q4
   subst q4
   cases mx with
   | none=>simp at hm
   | some pm =>
    simp only [Option.map_some,Option.some.injEq] at hm
    exact ⟨0,Nat.zero_le _,fun sl=>(hb sl).2 hm (by simpa using q1) (Nat.le_refl _) (Nat.zero_le _)⟩
 unfold A53 at e
 split at e
 ·obtain ⟨h1,e⟩:=Bl e
  cases e
  obtain rfl:=hu.v_inv
  obtain ⟨m,hm1,hm2⟩:=zero (K:=0) h1
  obtain rfl:m=0:=by omega
  exact ⟨none,0,0,rfl,_,_,_,hm2,RC.nilS⟩
 ·obtain ⟨h1,e⟩:=Bl e
  cases e
  obtain ⟨A,K,rfl,hK⟩:=hu.z_inv
  obtain ⟨m,hm1,hm2⟩:=zero (K:=K) h1
  refine ⟨some A,0,K,rfl,_,_,_,hm2,?_⟩
  split
  ·exact .z (by omega)
  ·exact .z (by omega)
 ·rename_i c o n cp q
  obtain ⟨h1,e⟩:=D7 e
  simp only [Bool.and_eq_true] at h1
  have q1:=Nat.le_of_ble_eq_true h1.1
  have q2:=Nat.le_of_ble_eq_true h1.2
  obtain ⟨K,rfl,hc,p1,p2,p3,p4,p5⟩:=hu.s_inv
  split at e
  ·refine ⟨_,n,K,rfl,_,_,_,fun sl=>by rw [nomx rfl];exact (Wf hL hl hhi q1 (by omega)).1,?_⟩
   cases hz:(Nat.beq (l.getD 0) (hh.getD n)&&Nat.blt 0 (l.getD 0)) with
   | true =>
    rw [hz] at e
    cases e
    simp only [Bool.and_eq_true] at hz
    have:=Nat.eq_of_beq_eq_true hz.1
    rw [<-this,Nat.sub_self]
    split
    ·exact .z (by omega)
    ·exact .z (by omega)
   | false =>
    rw [hz] at e
    obtain ⟨h2,e⟩:=Bl e
    cases e
    have hne:l.getD 0=0\/l.getD 0 < hh.getD n:=by
     rcases Nat.eq_or_lt_of_le q1 with e | e
     ·left
      rw [e] at hz ⊢
      have:Nat.beq (hh.getD n) (hh.getD n)=true:=Nat.beq_refl _
      rw [this,Bool.true_and] at hz
      rcases Nat.eq_zero_or_pos (hh.getD n) with g | g
      ·exact g
      ·rw [Bs.2 g] at hz;cases hz
     ·exact .inr e
    have ha:(if K=l.getD 0 then (some (⟨(ρ c).1,o,none⟩ : Addr)) else (some (⟨(ρ c).1,o,none⟩ : Addr)).map (·.add (l.getD 0*k)))=some ⟨(ρ c).1,o+l.getD 0*k,none⟩:=by
     split
     ·rcases hne with g | g
      ·rw [g];simp
      ·omega
     ·simp [Dq]
    rw [ha]
    refine .s hc (by omega) (by omega) (by omega) (fun g=>by rw [p4 g]) fun g=>?_
    have hk:q=k:=by
     simp only [Bool.or_eq_true] at h2
     rcases h2 with h2 | h2
     ·exact absurd (Nat.eq_of_beq_eq_true h2) g
     ·exact Nat.eq_of_beq_eq_true h2
    have:=p5 g
    subst hk
    have h8:l.getD 0*q+(K - l.getD 0)*q=K*q:=by rw [<-Nat.add_mul];congr 1;omega
    omega
  ·rename_i m _
   obtain ⟨h2,e⟩:=Bl e
   cases e
   simp only [Bool.and_eq_true] at h2
   obtain ⟨⟨h3,h4⟩,h5⟩:=h2
   have h4:=Nat.le_of_ble_eq_true h4
   have h5:=Nat.le_of_ble_eq_true h5
   cases mx with
   | none=>simp at hm
   | some pm =>
    simp only [Option.map_some,Option.some.injEq] at hm
    refine ⟨_,n,K,rfl,_,_,_,fun sl=>(Wf hL hl hhi (cap:=K) q1 (by omega)).2 hm h3 h4 (by omega),?_⟩
    have ha:(if m=l.getD 0 then (some (⟨(ρ c).1,o,none⟩ : Addr)) else (some (⟨(ρ c).1,o,none⟩ : Addr)).map (·.add (l.getD 0*k)))=some ⟨(ρ c).1,(bif Nat.beq m (l.getD 0) then o else o+l.getD 0*k),none⟩:=by
     cases hq:Nat.beq m (l.getD 0) with
     | true=>rw [if_pos (Nat.eq_of_beq_eq_true hq)];rfl
     | false=>rw [if_neg (Nat.ne_of_beq_eq_false hq)];simp [Dq]
    rw [ha]
    exact .s hc (by omega) (Nat.le_refl _) (by omega) (fun _=>rfl) fun g=>absurd rfl g
 ·cases e
theorem C00 {t:TypeId} {y:Operand} {lo hi mx:Option Operand} (e:Ap1 P t (L y) (lo.map L) (hi.map L) (mx.map L) h=some (x,h')):Co P L h ⟨dst,.slice t y lo hi mx,ty,pos,after,gd⟩ x h':=by
 unfold Ap1 at e
 split at e
 case h_2=>cases e
 rename_i l hh mm hl hhi hm
 have hl:=U4 hl
 have hhi:=U4 hhi
 have hm:=U4 hm
 cases hs:Fu P t with
 | true =>
  rw [hs] at e
  simp only [cond_true,Option.map_eq_some_iff] at e
  obtain ⟨r,hr,e⟩:=e
  cases e
  have hu:=Eu hs
  unfold Bi1 at hr
  split at hr
  ·rename_i z hy
   obtain ⟨h1,hr⟩:=Bl hr
   cases hr
   simp only [Bool.and_eq_true] at h1
   have q1:=Nat.le_of_ble_eq_true h1.1.2
   have q2:=Nat.le_of_ble_eq_true h1.2
   have hmm:mm=none:=by simpa using h1.1.1
   have hmx:mx=none:=by subst hmm;cases mx<;>simp at hm ⊢
   subst hmx
   refine Co.pure_ fun ρ B w a s hL=>⟨_,?_,RC.str⟩
   have hyv:=hL y
   rw [hy] at hyv
   have hb:=(Wf (P:=P) (w:=w) hL hl hhi (sl:=false) (n:=z.size) (cap:=z.size) q1 q2).1
   simp only [execOp,hyv.v_inv]
   refine Ca ?_
   simp [Instr.sliceAt,Instr.slice,run_underlying hu,hb]
  ·cases hr
 | false =>
  rw [hs] at e
  simp only [cond_false] at e
  split at e
  ·rename_i el k b ht
   simp only [Option.map_eq_some_iff] at e
   obtain ⟨r,hr,e⟩:=e
   cases e
   obtain ⟨hu,inf,hi2,hi3,_⟩:=C3 ht
   refine Co.pure_ fun ρ B w a s hL=>?_
   obtain ⟨A,n,K,hv,i,j,m,hb,hrc⟩:=X4 (P:=P) (w:=w) hL hl hhi hm hr (hL y)
   refine ⟨_,?_,hrc⟩
   simp only [execOp,hv]
   refine Ca ?_
   simp [Instr.sliceAt,Instr.slice,run_underlying hu,hb true,sizeOf,typeInfo,hi2,hi3]
  ·split at e
   ·rename_i n q k c o ht hy
    obtain ⟨hn,e⟩:=D7 e
    have hn:=Nat.le_of_ble_eq_true hn
    simp only [Option.map_eq_some_iff] at e
    obtain ⟨r,hr,e⟩:=e
    cases e
    obtain ⟨el,hu,hz⟩:=M3 ht
    refine Co.pure_ fun ρ B w a s hL=>?_
    obtain ⟨_,hz⟩:=D5 (w:=w) hz
    have hyv:=hL y
    rw [hy] at hyv
    obtain ⟨hyv,hc⟩:=hyv.p_inv
    obtain ⟨A,n',K,hv,i,j,m,hb,hrc⟩:=X4 (P:=P) (w:=w) hL hl hhi hm hr (.s (K:=n) hc (Nat.le_refl _) (Nat.le_refl _) (by unfold maxLen;omega) (fun _=>rfl) fun g=>absurd rfl g)
    cases hv
    refine ⟨_,?_,hrc⟩
    simp only [execOp,hyv]
    refine Ca ?_
    simp only [Instr.sliceAt,Sem.run_bind,run_underlying hu,Result.andThen_ok,Instr.sureAddr,Sem.run_pure,hb false,hz]
    simp
    split<;>rfl
   ·cases e
end
section
variable {P : Program} {L : Operand -> CV} {h h' : GH} {o : Oper} {x : CV} {eqT : Nat -> Bool}
variable {dst : Option Tmp} {ty : TypeId} {pos : String} {after : Array Edge} {gd : Option (Nat × Bool)}
variable {ok : Nat -> Prop} {ρ : Nat -> Nat × Nat}
theorem Bi3:∀ (vs:List Value) (off:Nat) (cells:Array Value),off+vs.length<=cells.size->(Qi cells off vs).toList=cells.toList.take off++vs++cells.toList.drop (off+vs.length):=fun vs off cells hv=>by
 apply List.ext_getElem?
 intro j
 have h1:(cells.toList.take off).length=off:=by rw [List.length_take];exact Nat.min_eq_left (by simp;omega)
 rw [Array.getElem?_toList,X6]
 by_cases j1:j < off
 ·rw [if_neg (by omega),List.append_assoc,List.getElem?_append_left (by omega),List.getElem?_take_of_lt j1,Array.getElem?_toList]
 ·by_cases j2:j < off+vs.length
  ·rw [if_pos (by omega),List.getElem?_append_left (by simp [h1];omega),List.getElem?_append_right (by omega),h1]
  ·rw [if_neg (by omega),List.getElem?_append_right (by simp [h1];omega),List.length_append,h1,List.getElem?_drop,Array.getElem?_toList]
   congr 1;omega
theorem Uf {a:Act} (hL:∀ x,RC ok ρ (L x) (a.eval x)) {places:List (Nat×Nat)} : ∀ (parts:List (Nat×Operand)) (cells:Array Value) (cs out:List CV),RCs ok ρ cs cells.toList ->
  A28 places cs (parts.map fun p=>(p.1,L p.2))=some out->∃ C,Instr.fill (places.toArray[·]?) cells (parts.map fun p=>(p.1,a.eval p.2))=some C/\RCs ok ρ out C.toList
 | [],cells,cs,out,h,hf=>by
  simp only [List.map_nil,A28,Option.some.injEq] at hf
  subst hf
  exact ⟨cells,rfl,h⟩
 | p :: parts,cells,cs,out,h,hf=>by
  simp only [List.map_cons,A28] at hf
  split at hf
  ·cases hf
  ·rename_i off size hp
   obtain ⟨hc,hf⟩:=D7 hf
   simp only [Bool.and_eq_true] at hc
   simp only [Option.bind_eq_some_iff] at hf
   obtain ⟨cs',hs,hf⟩:=hf
   obtain ⟨p1,rfl⟩:=J5 hs
   have hm:=(hL p.2).cellsR hc.1
   have hsz:(a.eval p.2).cells.size=size:=by
    have h1:=hm.1
    rw [Nat.eq_of_beq_eq_true hc.2] at h1
    simpa using h1.symm
   have hl:=h.1
   have hml:=hm.1
   have hcs:off+size<=cells.size:=by
    simp at hl hml;omega
   have hn:RCs ok ρ (cs.take off++Hj (L p.2)++cs.drop (off+(Hj (L p.2)).length)) (Qi cells off (a.eval p.2).cells.toList).toList:=by
    have hv:off+(a.eval p.2).cells.toList.length<=cells.size:=by rw [Array.length_toList,hsz];exact hcs
    rw [Bi3 _ _ _ hv]
    obtain ⟨q1,q2⟩:=RCs.put (C:=cells.toList) (o:=off) h.2 hm (by omega) (by omega) (by rw [Array.length_toList (xs:=cells)];exact hv)
    refine ⟨?_,q2⟩
    simp only [List.length_append,List.length_take,List.length_drop,Array.length_toList] at hl hml ⊢
    omega
   obtain ⟨C,h1,h2⟩:=Uf hL parts (Qi cells off (a.eval p.2).cells.toList) _ out hn hf
   refine ⟨C,?_,h2⟩
   rw [List.map_cons,Ue (off:=off) (size:=size) (by simpa using hp) hsz hcs]
   exact h1
theorem C04 {t:TypeId} {parts:Array (Nat×Operand)} (e:Ap7 P t (parts.toList.map fun p=>(p.1,L p.2)) h=some (x,h')):Co P L h ⟨dst,.build t parts,ty,pos,after,gd⟩ x h':=by
 unfold Ap7 at e
 simp only [Option.bind_eq_some_iff,Option.map_eq_some_iff] at e
 obtain ⟨⟨z0,places⟩,hb,zs,hz1,cs,hf,e⟩:=e
 cases e
 refine Co.pure_ fun ρ B w a s hL=>?_
 obtain ⟨z1,y1,rfl,y2,_⟩:=Ad6 (w:=w) hz1
 have hp:(parts.map fun (i,x)=>(i,a.eval x)).toList=parts.toList.map fun p=>(p.1,a.eval p.2):=by simp
 obtain ⟨C,h1,h2⟩:=Uf hL parts.toList z1.cells _ cs (RCs.zeros y2) hf
 have hC:RC (okH h) ρ (.g cs) (.agg C):=.g (by simpa using h2.1.symm) (fun j x u a b=>(h2.2 j x u a (by rw [Array.getElem?_toList];exact b)).1) fun j u b=>h2.one u (by rw [Array.mem_toList_iff];exact Array.mem_of_getElem? b)
 refine ⟨.agg C,?_,hC⟩
 simp only [execOp]
 refine Ca ?_
 unfold M2 at hb
 split at hb
 ·rename_i fs z hu hz
  simp only [Option.map_eq_some_iff,Prod.mk.injEq] at hb
  obtain ⟨l,hl,_,rfl⟩:=hb
  have hm:(fs.mapM fun f=>(do return (f.offset,<-sizeOf f.type):Sem (Nat×Nat))).run P w=.ok l.toArray w:=by
   have h3:=Xx hl (w:=w)
   rw [Array.mapM_eq_mapM_toList]
   simp only [Sem.run_bind,Sem.run_map,h3,Result.andThen_ok,Sem.run_pure]
  simp only [Instr.build,Sem.run_bind,y1,Result.andThen_ok,run_underlying hu,Sem.run_pure,hm,hp,h1]
 ·rename_i n0 e0 z hu hz
  simp only [Option.map_eq_some_iff,Prod.mk.injEq] at hb
  obtain ⟨ie,hie,_,rfl⟩:=hb
  have hs:(sizeOf e0).run P w=.ok ie.size w:=by simp [sizeOf,run_typeInfo w hie]
  have h1':=Qb (pl':=fun i=>some (i*ie.size,ie.size)) (fun k q hq=>by
   simp only [List.getElem?_toArray,List.getElem?_map,Option.map_eq_some_iff] at hq
   obtain ⟨m,hm,rfl⟩:=hq
   obtain ⟨hlt,rfl⟩:=List.getElem?_eq_some_iff.1 hm
   simp) _ _ _ h1
  simp only [Instr.build,Sem.run_bind,y1,Result.andThen_ok,run_underlying hu,hs,Sem.run_pure,hp,h1']
 ·cases hb
theorem Xf (zs:List CV):∀ n,(Ri zs n).length=n*zs.length
 | 0=>by simp [Ri]
 | n+1=>by rw [Ri,List.length_append,Xf zs n,Nat.add_mul];omega
theorem Ah3 (zs:List CV):∀ (n j:Nat) x,(Ri zs n)[j]? = some x->zs[j % zs.length]? = some x
 | 0,j,x,h=>by simp [Ri] at h
 | n+1,j,x,h=>by
  rw [Ri] at h
  by_cases hj:j < zs.length
  ·rw [List.getElem?_append_left hj] at h
   rwa [Nat.mod_eq_of_lt hj]
  ·rw [List.getElem?_append_right (by omega)] at h
   have:=Ah3 zs n _ x h
   rwa [<-Nat.mod_eq_sub_mod (by omega)] at this
theorem Sh {zs:Array Value} (h1:∀ v∈zs.toList,v.oneCell'=true) (n:Nat):RCs ok ρ (Ri (zs.toList.map .v) n) (madeCells zs (n*zs.size)).toList:=by
 refine ⟨by rw [Xf];simp [madeCells],fun j x u a b=>?_⟩
 have hj:=(List.getElem?_eq_some_iff.1 a).1
 rw [Xf] at hj
 have a:=Ah3 _ n j x a
 simp only [List.length_map,Array.length_toList] at a hj
 rw [Array.getElem?_toList] at b
 have hpos:0 < zs.size:=by
  rcases Nat.eq_zero_or_pos zs.size with g | g
  ·rw [g] at hj;omega
  ·exact g
 have hlt:j % zs.size < zs.size:=Nat.mod_lt _ hpos
 have hb:u=zs[j % zs.size]! := by
  simp only [madeCells,Array.getElem?_map,Option.map_eq_some_iff] at b
  obtain ⟨i,hi,rfl⟩:=b
  rw [Array.getElem?_range,if_pos hj] at hi
  cases hi
  rfl
 rw [getElem!_pos zs _ hlt] at hb
 rw [List.getElem?_map,Array.getElem?_toList,Array.getElem?_eq_getElem hlt] at a
 obtain rfl:=Option.some.inj a
 subst hb
 have:=h1 _ (Array.getElem_mem_toList hlt)
 exact ⟨.v (fun a e=>by rw [e] at this;cases this),this⟩
theorem Q9 {B:Nat} {w w0 w':World} (s:SR ρ h B w) {l:List CV} {C:Array Value} {t:TypeId} (hw:w'=w0.alloc (.cells C t)) (h0:w0.heap=w.heap/\w0.os=w.os/\w0.tape=w.tape/\w0.output=w.output) (hl:l.length<=C.size)
  (hC:∀ (j:Nat) x u,l[j]? = some x->C[j]? = some u->RC (okH h) ρ x u/\u.oneCell'=true) {n k K e:Nat} (h1:n<=k) (h2:k<=K) (h3:K<=maxLen) (h4:e=0->K=k) (h5:e≠0->K*e<=C.size):∃ ρ',Df ρ h (Tt h l n k e []).2 B w w' ρ'/\RC (okH (Tt h l n k e []).2) ρ' (Tt h l n k e []).1 (.slice (some ⟨w.heap.size,0,none⟩) n K):=by
 obtain ⟨ρ',e1,e2,p⟩:=U3 s (t:=t) hw h0 C.size (Nat.le_refl _) hl hC
 refine ⟨ρ',p,?_⟩
 have:=RC.s (ρ:=ρ') (o:=0) (n:=n) (k:=k) (K:=K) (e:=e) e2 h1 h2 h3 h4 (fun g=>by rw [e1];have:=h5 g;omega)
 rwa [e1] at this
theorem J0 {t e k y:Nat} {zs:List CV} (hz:Tj P e=some zs) (ht:Cq P t=some (e,k,y)) (hk:Nat.beq zs.length k=true):∃ i z,P.info? e=some i/\i.zero=some z/\i.size=k/\i.bytes=y/\zs=z.cells.toList.map .v/\(∀ v∈z.cells.toList,v.oneCell'=true)/\z.cells.size=k:=by
 have hk:=Nat.eq_of_beq_eq_true hk
 unfold Tj at hz
 split at hz
 ·rename_i q zs' hq
  obtain ⟨h1,rfl⟩:=Bl hz
  obtain ⟨i,z,i1,i2,i3,i4,i5⟩:=Zn ht (by rw [hq];simpa using hk)
  have:zs'=z.cells.toList:=by
   unfold tyZ at hq
   split at hq
   ·rename_i z' _ hz'
    rw [i1] at hz'
    simp only [Option.bind_some,i2,Option.some.injEq] at hz'
    subst hz'
    simp only [Option.some.injEq,Prod.mk.injEq] at hq
    exact hq.2.symm
   ·cases hq
  subst this
  exact ⟨i,z,i1,i2,i3,i4,rfl,List.all_eq_true.1 h1,i5⟩
 ·cases hz
theorem Ce7 {t:TypeId} {n m:Operand} (e:Be8 P t (L n) (L m) h=some (x,h')):Co P L h ⟨dst,.makeSlice t n m,ty,pos,after,gd⟩ x h':=by
 unfold Be8 at e
 split at e
 ·rename_i el k b i j ht hi hj
  simp only [Option.bind_eq_some_iff] at e
  obtain ⟨zs,hz,e⟩:=e
  obtain ⟨h1,e⟩:=Bl e
  simp only [Bool.and_eq_true] at h1
  obtain ⟨⟨⟨⟨q0,q1⟩,q2⟩,q3⟩,q4⟩:=h1
  have q0:=Bs.1 q0
  have q1:=Nat.le_of_ble_eq_true q1
  have q2:=Nat.le_of_ble_eq_true q2
  have q3:=Nat.le_of_ble_eq_true q3
  intro ρ B w a s hL
  obtain ⟨inf,z,i1,i2,i3,i4,rfl,i5,i6⟩:=J0 hz ht q4
  obtain ⟨hu,_⟩:=C3 ht
  obtain ⟨k1,hv1⟩:=RC.nat_inv hi (hL n)
  obtain ⟨k2,hv2⟩:=RC.nat_inv hj (hL m)
  have hj2:j<=16777216:=Nat.le_trans (Nat.le_mul_of_pos_right j q0) q2
  have hrun:=run_make w t el inf z hu i1 i2 k1 k2 (i:Nat) (j:Nat) (by omega) (by omega) (by rw [i4,<-Int.natCast_mul];exact Int.ofNat_le.2 q3) (by omega)
  have hR:=Sh (ok:=okH h) (ρ:=ρ) i5 j
  rw [i6] at hR
  obtain ⟨ρ',p,hr⟩:=Q9 s (w':=w.alloc (.cells (madeCells z.cells (j*k)) el)) (l:=Ri (z.cells.toList.map .v) j) (C:=madeCells z.cells (j*k)) (t:=el) rfl ⟨rfl,rfl,rfl,rfl⟩ (Nat.le_of_eq (hR.1.trans Array.length_toList)) (fun jj x u a b=>hR.2 jj x u a (by rw [Array.getElem?_toList];exact b)) (n:=i) (k:=j) (K:=j) (e:=0) q1 (Nat.le_refl _) (by unfold maxLen;omega) (fun _=>rfl) (fun g=>absurd rfl g)
  rw [e] at p hr
  refine ⟨_,_,ρ',.inl ?_,p,hr⟩
  simp only [execOp,hv1,hv2]
  refine Ca ?_
  rw [hrun]
  simp [i3]
 ·cases e
theorem Bq6 {t:TypeId} {len:Nat} {parts:Array (Nat×Operand)} (e:A40 P t len (parts.toList.map fun p=>(p.1,L p.2)) h=some (x,h')):Co P L h ⟨dst,.buildSlice t len parts,ty,pos,after,gd⟩ x h':=by
 unfold A40 at e
 split at e
 ·rename_i el k b ht
  simp only [Option.bind_eq_some_iff] at e
  obtain ⟨zs,hz,e⟩:=e
  obtain ⟨h1,e⟩:=D7 e
  simp only [Bool.and_eq_true] at h1
  obtain ⟨⟨q0,q2⟩,q4⟩:=h1
  have q0:=Bs.1 q0
  have q2:=Nat.le_of_ble_eq_true q2
  simp only [Option.map_eq_some_iff] at e
  obtain ⟨cs,hf,e2⟩:=e
  intro ρ B w a s hL
  obtain ⟨inf,z,i1,i2,i3,i4,rfl,i5,i6⟩:=J0 hz ht q4
  obtain ⟨hu,_⟩:=C3 ht
  have hR:=Sh (ok:=okH h) (ρ:=ρ) i5 len
  rw [i6] at hR
  obtain ⟨C,f1,f2⟩:=Uf hL parts.toList _ _ cs hR hf
  have hj2:len<=16777216:=Nat.le_trans (Nat.le_mul_of_pos_right len q0) q2
  obtain ⟨ρ',p,hr⟩:=Q9 s (w':=w.alloc (.cells C el)) (l:=cs) (C:=C) (t:=el) rfl ⟨rfl,rfl,rfl,rfl⟩ (Nat.le_of_eq (f2.1.trans Array.length_toList)) (fun jj x u a b=>f2.2 jj x u a (by rw [Array.getElem?_toList];exact b)) (n:=len) (k:=len) (K:=len) (e:=0) (Nat.le_refl _) (Nat.le_refl _) (by unfold maxLen;omega) (fun _=>rfl) (fun g=>absurd rfl g)
  rw [e2] at p hr
  refine ⟨_,_,ρ',.inl ?_,p,hr⟩
  have hp:(parts.map fun (i,x)=>(i,a.eval x)).toList=parts.toList.map fun p=>(p.1,a.eval p.2):=by simp
  have f1':=Qb (pl':=fun i=>some (i*k,k)) (fun i q hq=>by
   simp only [List.getElem?_toArray,List.getElem?_map,Option.map_eq_some_iff] at hq
   obtain ⟨m,hm,rfl⟩:=hq
   obtain ⟨hlt,rfl⟩:=List.getElem?_eq_some_iff.1 hm
   simp) _ _ _ f1
  simp only [execOp]
  refine Ca ?_
  have hzv:(zeroValue el).run P w=.ok z w:=by simp [zeroValue,run_typeInfo w i1,i2]
  have hsz:(sizeOf el).run P w=.ok k w:=by simp [sizeOf,run_typeInfo w i1,i3]
  have hsm:¬ len*k > 2 ^ 24:=by omega
  by_cases h0:len*k=0
  ·have:len=0:=by
    rcases Nat.mul_eq_zero.1 h0 with g | g
    ·exact g
    ·omega
   subst this
   have hm0:madeCells z.cells (0*k)=#[]:=by simp [madeCells]
   rw [hm0] at f1'
   simp [Instr.buildSlice,run_underlying hu,hsz,newRow,f1',Array.range_zero']
  ·simp only [madeCells] at f1'
   simp [Instr.buildSlice,run_underlying hu,hsz,hsm,h0,hzv,newRow,f1']
 ·cases e
theorem Bc8 {B:Nat} {w:World} (s:SR ρ h B w) {k:Nat} {y:CV} {m:Nat} {ys:List CV} (e:Ui h k y=some (m,ys)) {t':TypeId} (ht:Af0 P t' y=true) {u:Value} (hu:RC (okH h) ρ y u) :
  ∃ news,Src P k t' u m news w/\RCs (okH h) ρ ys news:=by
 unfold Ui at e
 split at e
 ·cases e
  obtain ⟨⟨_,_,_⟩,hq⟩:=Option.isSome_iff_exists.1 ht
  rw [hu.v_inv]
  exact ⟨[],Src.ofNil w (C3 hq).1 0,RCs.nil⟩
 ·cases e
  obtain ⟨⟨_,_,_⟩,hq⟩:=Option.isSome_iff_exists.1 ht
  obtain ⟨A,K,rfl,_⟩:=hu.z_inv
  exact ⟨[],Src.ofSlice w (C3 hq).1 A 0 K [] (by simp) (fun j u h=>by simp at h) (fun u h=>by cases h),RCs.nil⟩
 ·rename_i c o n cp q
  obtain ⟨⟨_,_,_⟩,hq⟩:=Option.isSome_iff_exists.1 ht
  simp only [Option.bind_eq_some_iff,Option.map_eq_some_iff,Prod.mk.injEq] at e
  obtain ⟨l,hl,m',hm,rfl,rfl⟩:=e
  obtain ⟨rfl,h1⟩:=Eo hm
  rw [Mi] at h1 ⊢
  obtain ⟨f,hf⟩:=s.cell hl
  obtain ⟨K,rfl,_⟩:=hu.s_inv
  have hlen:((l.drop o).take (n*k)).length=n*k:=by rw [List.length_take];exact Nat.min_eq_left h1
  have hm:∀ (j:Nat) x,((l.drop o).take (n*k))[j]? = some x->l[o+j]? = some x:=fun j x hj=>by
   have:=(List.getElem?_eq_some_iff.1 hj).1
   rw [hlen] at this
   rwa [List.getElem?_take_of_lt this,List.getElem?_drop] at hj
  have hget:∀ (j:Nat) u,((List.range (n*k)).map fun j=>f (o+j))[j]? = some u->j < n*k/\u=f (o+j):=fun j u hj=>by
   have h2:=(List.getElem?_eq_some_iff.1 hj).1
   simp only [List.length_map,List.length_range] at h2
   rw [List.getElem?_map,List.getElem?_range h2] at hj
   exact ⟨h2,(Option.some.inj hj).symm⟩
  have hR:RCs (okH h) ρ ((l.drop o).take (n*k)) ((List.range (n*k)).map fun j=>f (o+j)):=⟨by rw [hlen];simp,fun j x u a b=>by
   obtain ⟨_,rfl⟩:=hget j u b
   exact (hf _ x (hm j x a)).2⟩
  refine ⟨_,Src.ofSlice w (C3 hq).1 ⟨(ρ c).1,o,none⟩ n K _ (by simp) (fun j u hj=>?_) hR.one,hR⟩
  obtain ⟨h2,rfl⟩:=hget j u hj
  rw [Dq]
  exact (hf _ _ (hm j _ (List.getElem?_eq_getElem (by omega)))).1
 ·rename_i z
  obtain ⟨hk,e⟩:=Bl e
  cases e
  obtain rfl:=Nat.eq_of_beq_eq_true hk
  rw [hu.v_inv]
  refine ⟨byteCells z,Src.ofString w (Eu ht) z,by simp [byteCells],fun j x u a b=>?_⟩
  simp only [byteCells,List.getElem?_map,Option.map_eq_some_iff] at a b
  obtain ⟨q,hq,rfl⟩:=a
  obtain ⟨q',hq',rfl⟩:=b
  rw [hq] at hq'
  obtain rfl:=Option.some.inj hq'
  exact ⟨RC.int,rfl⟩
 ·cases e
theorem B52 {B:Nat} {w:World} (s:SR ρ h B w) {t t' el k b m:Nat} {news olds:List Value} {ys pre:List CV} (ht:Cq P t=some (el,k,b)) {zs:List CV} (hz:Tj P el=some zs) (hzl:Nat.beq zs.length k=true) {u:Value} (hs:Src P k t' u m news w) (hR:RCs (okH h) ρ ys news) (hm:0 < m)
  {A:Option Addr} {n K:Nat} (hold:(Builtin.firstCells k n (.slice A n K)).run P w.drew=.ok olds.toArray w.drew) (hO:RCs (okH h) ρ pre olds) (hlen:olds.length=n*k) (hg:K < n+m) (hb:(n+m)*b<=140737488355328) (h30:n+m<=1073741824) :
  ∃ G w',n+m<=G/\G<=maxLen/\(Builtin.append_ #[t,t'] ty #[.slice A n K,u]).run P w=.ok (.slice (some ⟨w.heap.size,0,none⟩) (n+m) G) w'/\Below w.heap.size w w'/\∃ C:Array Value,w'.heap[w.heap.size]? = some (.cells C el (0,0))/\C.size=G*k/\(pre++ys).length<=C.size/\∀ (j:Nat) x u,(pre++ys)[j]? = some x->C[j]? = some u->RC (okH h) ρ x u/\u.oneCell'=true:=by
 obtain ⟨inf,z,i1,i2,i3,i4,rfl,i5,i6⟩:=J0 hz ht hzl
 obtain ⟨hu,_⟩:=C3 ht
 subst i3 i4
 have hgr:=run_append_grow_src w t t' ty el inf z hu i1 i2 A n K olds hold u m news hs hg (by omega) (growslice_fits hg hb)
 have g1:=grownCap_ge w (n+m) K el
 have g2:=grownCap_le_maxLen w (n+m) K el (by unfold maxLen;omega)
 generalize grownCap w (n+m) K el=G at hgr g1 g2
 have hol:(pre++ys).length=(olds++news).length:=by rw [List.length_append,List.length_append,hO.1,hR.1]
 have hnews:=hs.newsLen
 have hC:((olds++news).toArray++Builtin.zeroCells z.cells (G - (n+m))).size=G*inf.size:=by
  simp only [Array.size_append,List.size_toArray,List.length_append,Builtin.zeroCells,Array.size_map,Array.size_range,i6,hlen,hnews]
  rw [<-Nat.add_mul,<-Nat.add_mul]
  congr 1;omega
 refine ⟨G,_,g1,g2,hgr,(Below.refl _ w).drew.alloc (Nat.le_refl _) _,_,World.alloc_heap_new _ _,hC,?_,fun j x u a b=>?_⟩
 ·rw [hol];simp
 ·have hj:=(List.getElem?_eq_some_iff.1 a).1
  rw [hol] at hj
  rw [Array.getElem?_append_left (by simpa using hj)] at b
  exact (hO.append hR).2 j x u a (by simpa using b)
theorem SR.extend {B:Nat} {w:World} (s:SR ρ h B w) {c:Nat} {l kin ys:_} {news:List Value} (hc:h.get c=some (.cs l kin false)) (hf:h.fl<=c) (hR:RCs (okH h) ρ ys news) (hb:l.length+ys.length<=(ρ c).2) :
  ∃ w1 ρ',(storeCells ⟨(ρ c).1,l.length,none⟩ news).run P w=.ok () w1/\ρ' h.nx=ρ c/\okH ((h.setT c (.cs l kin true)).new (.cs (l++ys) (c :: kin) false)) h.nx/\Df ρ h ((h.setT c (.cs l kin true)).new (.cs (l++ys) (c :: kin) false)) B w w1 ρ':=by
 have p1:Df ρ h (h.setT c (.cs l kin true)) B w w ρ:=s.shut hc hf
 obtain ⟨C,t,fr,h1,h2,h3,h4,h5⟩:=s.holds hc
 obtain rfl:=h2 rfl
 have hB:=s.rel.low c _ hc rfl hf
 have hv:l.length+news.length<=C.size:=by rw [<-hR.1];omega
 have hst:=run_storeCells_at (P:=P) (ρ c).1 l.length t news 0 C w h1 (by simpa using hv) hR.one
 simp only [Nat.add_zero] at hst
 generalize hC':(C.toList.take l.length++news++C.toList.drop (l.length+news.length)).toArray=C' at hst
 have hsz:C'.size=C.size:=by rw [<-hC'];simp;omega
 have hold:∀ j,j < l.length->C'[j]? = C[j]? := fun j hj=>by
  rw [<-hC']
  simp only [List.getElem?_toArray]
  rw [List.append_assoc,List.getElem?_append_left (by simp;omega),List.getElem?_take_of_lt hj,Array.getElem?_toList]
 have hnew:∀ (j:Nat) x u,(l++ys)[j]? = some x->C'[j]? = some u->RC (okH h) ρ x u/\u.oneCell'=true:=fun j x u a b=>by
  by_cases hj:j < l.length
  ·rw [List.getElem?_append_left hj] at a
   rw [hold j hj] at b
   exact h5 j x u a b
  ·rw [List.getElem?_append_right (by omega)] at a
   have hjy:=(List.getElem?_eq_some_iff.1 a).1
   have hn:=hR.1
   rw [<-hC'] at b
   simp only [List.getElem?_toArray] at b
   rw [List.getElem?_append_left (by simp;omega),List.getElem?_append_right (by simp;omega),show (C.toList.take l.length).length=l.length by simp;omega] at b
   exact hR.2 _ x u a b
 have hw1:=setRow_heap w (ρ c).1 C C' t (0,0) h1
 have hother:∀ g,g≠(ρ c).1->(w.setRow (ρ c).1 C').heap[g]? = w.heap[g]? := fun g hg=>setRow_other w _ g _ hg
 have hlow:Below B w (w.setRow (ρ c).1 C'):=⟨rfl,rfl,rfl,by simp,fun g hg=>hother g (by omega)⟩
 have hle:∀ c,okH h c->okH (h.setT c (.cs l kin true)) c:=fun c hc=>hc
 have hhold:∀ d b',(h.setT c (.cs l kin true)).get d=some b'->b'.live=true->((w.setRow (ρ c).1 C').heap[(ρ d).1]? = w.heap[(ρ d).1]? /\ (ρ d).1≠(ρ c).1)\/(b'.holds (okH (h.setT c (.cs l kin true))) ρ (w.setRow (ρ c).1 C') (ρ d)/\R3 d b' (.cs (l++ys) (c :: kin) false)):=fun d b' q hl=>by
  by_cases hg:(ρ d).1=(ρ c).1
  ·right
   have q0:=GH.get_some q
   have q1:(h.t.set c (.cs l kin true)).get d=some b':=q0.2
   rw [TR.get_set] at q1
   split at q1
   ·rename_i e
    subst e
    cases q1
    exact ⟨⟨C',t,(0,0),hw1,(fun e=>by cases e),by omega,by omega,fun j x u a b=>h5 j x u a (by rw [<-hold j (List.getElem?_eq_some_iff.1 a).1];exact b)⟩,.inl ⟨_,_,_,_,_,rfl,rfl,by simp,by simp⟩⟩
   ·rename_i e
    have q2:=GH.get_of (h:=h) q0.1 q1
    rcases s.rel.apart d c b' _ q2 hc hl rfl hg with g | (⟨l1,k1,l2,k2,r2,e1,e2,e3,e4⟩ | ⟨_,_,_,_,_,g⟩) | (⟨_,_,_,_,_,g,_⟩ | ⟨_,_,_,_,g,_⟩)
    ·exact absurd g e
    ·cases e2
     subst e1
     obtain ⟨D,t',fr',d1,d2,d3,d4,d5⟩:=s.holds q2
     rw [hg,h1] at d1
     cases d1
     exact ⟨⟨C',t,(0,0),by rw [hg];exact hw1,(fun e=>by cases e),by omega,by omega,fun j x u a b=>d5 j x u a (by rw [<-hold j (by have:=(List.getElem?_eq_some_iff.1 a).1;omega)];exact b)⟩,.inl ⟨_,_,_,_,_,rfl,rfl,by simp [e3],by simp;omega⟩⟩
    ·cases g
    ·cases g
    ·cases g
  ·exact .inl ⟨hother _ hg,hg⟩
 obtain ⟨ρ',e1,p2⟩:=p1.sr.name (b:=.cs (l++ys) (c :: kin) false) (g:=ρ c) (w':=w.setRow (ρ c).1 C') hlow hB hhold fun ρ' _ hx _=>⟨C',t,(0,0),hw1,fun _=>rfl,by rw [hsz,List.length_append];omega,by omega,fun j x u a b=>⟨(hnew j x u a b).1.ext hx,(hnew j x u a b).2⟩⟩
 exact ⟨_,ρ',hst,e1,Gn p1.sr _,p1.trans p2⟩
theorem Bs0 {B:Nat} {w:World} (s:SR ρ h B w) {t t' el k b:Nat} {y z r:CV} {u v:Value} (ht:Cq P t=some (el,k,b)) {zs:List CV} (hz:Tj P el=some zs) (hzl:Nat.beq zs.length k=true) (hk:0 < k)
  (hy:RC (okH h) ρ y u) (hv:RC (okH h) ρ z v) (htz:Af0 P t' z=true) (e:Cf6 h k b y z=some (r,h')) :
  ∃ q w' ρ',(Builtin.append_ #[t,t'] ty #[u,v]).run P w=.ok q w'/\Df ρ h h' B w w' ρ'/\RC (okH h') ρ' r q:=by
 obtain ⟨inf,zz,i1,i2,i3,i4,_⟩:=J0 hz ht hzl
 obtain ⟨hu,_⟩:=C3 ht
 unfold Cf6 at e
 split at e
 ·cases e
 rename_i m ys he
 obtain ⟨news,hs,hR⟩:=Bc8 s he htz hv
 have hnl:=hs.newsLen
 have hyl:=hR.1
 have nothing:∀ {A:Option Addr} {n K:Nat},m=0->n<=K->(Builtin.append_ #[t,t'] ty #[.slice A n K,v]).run P w=.ok (.slice A n K) w:=fun {A n K} hm hle=>by
  subst hm
  have:news=[]:=List.eq_nil_of_length_eq_zero (by omega)
  subst this
  exact run_append_nothing w t t' ty el inf hu i1 A n K hle v (by rw [i3];exact hs)
 have mk:∀ {A:Option Addr} {n K:Nat} {pre:List CV} {olds:List Value},0 < m->(Builtin.firstCells k n (.slice A n K)).run P w.drew=.ok olds.toArray w.drew->RCs (okH h) ρ pre olds->olds.length=n*k->K < n+m->(n+m)*b<=140737488355328->n+m<=1073741824->(Tt h (pre++ys) (n+m) (n+m) k [])=(r,h') ->
   ∃ q w' ρ',(Builtin.append_ #[t,t'] ty #[.slice A n K,v]).run P w=.ok q w'/\Df ρ h h' B w w' ρ'/\RC (okH h') ρ' r q:=fun {A n K pre olds} hm h1 h2 h3 h4 h5 h6 h7=>by
  obtain ⟨G,w',g1,g2,g3,g4,C,g5,g6,g7,g8⟩:=B52 (ty:=ty) s ht hz hzl hs hR hm h1 h2 h3 h4 h5 h6
  obtain ⟨ρ',e1,p⟩:=s.new (b:=.cs (pre++ys) [] false) (w':=w') (g:=(w.heap.size,C.size)) g4 rfl fun ρ' _ hx _=>⟨C,el,(0,0),g5,fun _=>rfl,g7,Nat.le_refl _,fun j x u a b=>⟨(g8 j x u a b).1.ext hx,(g8 j x u a b).2⟩⟩
  cases h7
  refine ⟨_,w',ρ',g3,p,?_⟩
  have:=RC.s (ρ:=ρ') (o:=0) (n:=n+m) (k:=n+m) (K:=G) (e:=k) (Gn s (.cs (pre++ys) [] false)) (Nat.le_refl _) g1 g2 (fun g=>by omega) (fun g=>by rw [e1];simp only;omega)
  rwa [e1] at this
 split at e
 ·obtain rfl:=hy.v_inv
  cases hm:Nat.beq m 0 with
  | true =>
   rw [hm] at e
   cases e
   exact ⟨_,w,ρ,nothing (Nat.eq_of_beq_eq_true hm) (Nat.le_refl _),Df.refl s,RC.nilS⟩
  | false =>
   rw [hm] at e
   obtain ⟨h1,e⟩:=Bl e
   simp only [Bool.and_eq_true] at h1
   have h2:=Nat.le_of_ble_eq_true h1.1
   have h3:=Nat.le_of_ble_eq_true h1.2
   have hm:=Nat.ne_of_beq_eq_false hm
   exact mk (A:=none) (n:=0) (K:=0) (pre:=[]) (olds:=[]) (by omega) (run_firstCells_none _ _ _ _ _) RCs.nil (by simp) (by omega) (by simpa using h2) (by omega) (by simpa using e)
 ·obtain ⟨A,K,rfl,hK⟩:=hy.z_inv
  obtain ⟨hm,e⟩:=Bl e
  cases e
  exact ⟨_,w,ρ,nothing (Nat.eq_of_beq_eq_true hm) (Nat.zero_le _),Df.refl s,.z hK⟩
 ·rename_i c o n cp q
  obtain ⟨K,rfl,hc,p1,p2,p3,p4,p5⟩:=hy.s_inv
  cases hm:Nat.beq m 0 with
  | true =>
   rw [hm] at e
   cases e
   exact ⟨_,w,ρ,nothing (Nat.eq_of_beq_eq_true hm) (by omega),Df.refl s,hy⟩
  | false =>
   rw [hm] at e
   have hm:=Nat.ne_of_beq_eq_false hm
   simp only [cond_false] at e
   -- cells are stored in place
   have room:∀ {w1:World},n+m<=K->(storeCells ⟨(ρ c).1,o+n*k,none⟩ news).run P w=.ok () w1->(∀ j,j < news.length->(w.cell? ⟨(ρ c).1,o+n*k+j,none⟩).isSome=true)->(∀ j,j < news.length->w.frozen? ⟨(ρ c).1,o+n*k+j,none⟩=false) ->
     (Builtin.append_ #[t,t'] ty #[.slice (some ⟨(ρ c).1,o,none⟩) n K,v]).run P w=.ok (.slice (some ⟨(ρ c).1,o,none⟩) (n+m) K) w1:=fun {w1} g1 g2 g3 g4=>by
    have h1:=run_append_room_src w t t' ty el inf hu i1 (ρ c).1 o n K v m news (by rw [i3];exact hs) g1 (by rw [i3];exact g3) (by rw [i3];exact g4)
    have h2:=run_storeCells_cells (P:=P) (ρ c).1 (o+n*k) news 0 w (by simpa using g3) (by simpa using g4) hs.one
    rw [g2] at h2
    simp only [Nat.add_zero,Result.ok.injEq,true_and] at h2
    rw [h1,i3,<-h2]
   have blk:∀ {l kin:_},h.get c=some (.cs l kin false)->o+n*k+news.length<=l.length\/o+n*k+news.length<=(ρ c).2->(∀ j,j < news.length->(w.cell? ⟨(ρ c).1,o+n*k+j,none⟩).isSome=true)/\∀ j,j < news.length->w.frozen? ⟨(ρ c).1,o+n*k+j,none⟩=false:=fun {l kin} g1 g2=>by
    obtain ⟨C,t1,fr,h1,h2,h3,h4,_⟩:=s.holds g1
    obtain rfl:=h2 rfl
    refine ⟨fun j hj=>?_,fun j hj=>?_⟩
    ·have:o+n*k+j < C.size:=by rcases g2 with g2 | g2<;>omega
     simp [World.cell?,h1,Array.getElem?_eq_getElem this]
    ·simp [World.frozen?,h1]
   cases hr:Nat.ble (n+m) cp with
   | true =>
    rw [hr] at e
    simp only [cond_true,Option.bind_eq_some_iff,Option.map_eq_some_iff] at e
    obtain ⟨l,hl,l',hs',h2,hw,e⟩:=e
    cases e
    have hr:=Nat.le_of_ble_eq_true hr
    have hput:l'=l.take (o+n*k)++ys++l.drop (o+n*k+ys.length)/\o+n*k<=l.length/\(o+n*k+ys.length<=l.length\/o+n*k+ys.length<=(ρ c).2):=by
     cases hq:(Nat.beq q k&&Nat.beq l.length (o+n*k)) with
     | true =>
      rw [hq] at hs'
      cases hs'
      simp only [Bool.and_eq_true] at hq
      have q1:=Nat.eq_of_beq_eq_true hq.1
      have q2:=Nat.eq_of_beq_eq_true hq.2
      refine ⟨by rw [<-q2];simp,by omega,.inr ?_⟩
      have:=p5 (by omega)
      rw [q1] at this
      have h8:(n+m)*k<=K*k:=Nat.mul_le_mul_right _ (by omega)
      rw [Nat.add_mul] at h8
      omega
     | false =>
      rw [hq] at hs'
      obtain ⟨q1,q2⟩:=J5 hs'
      exact ⟨q2,by omega,.inl q1⟩
    obtain ⟨w1,r1,r2⟩:=s.store (P:=P) hl hw hput.1 hput.2.1 hR hput.2.2
    obtain ⟨l0,kin,g1,_,hok,_⟩:=s.wr hw
    obtain ⟨kin',ro',g2⟩:=GH.cells_some hl
    rw [g1] at g2
    cases g2
    obtain ⟨b1,b2⟩:=blk g1 (by rw [<-hyl];exact hput.2.2)
    refine ⟨_,w1,ρ,room (by omega) r1 b1 b2,r2,?_⟩
    rw [hok]
    exact .s hc (by omega) p2 p3 p4 p5
   | false =>
    rw [hr] at e
    have hr:¬ n+m<=cp:=fun g=>by rw [Nat.ble_eq_true_of_le g] at hr;cases hr
    obtain ⟨hfit,e⟩:=D7 e
    simp only [Bool.and_eq_true] at hfit
    have f1:=Nat.le_of_ble_eq_true hfit.1
    have f2:=Nat.le_of_ble_eq_true hfit.2
    split at e
    case h_2=>cases e
    rename_i l kin ro hg
    simp only [Option.bind_eq_some_iff] at e
    obtain ⟨pre,hpre,e⟩:=e
    obtain ⟨rfl,t1⟩:=Eo hpre
    rw [Mi] at t1 e
    obtain ⟨f,hf⟩:=s.cell (show h.cells c=some l by simp [GH.cells,hg])
    have hlen:((l.drop o).take (n*k)).length=n*k:=by rw [List.length_take];exact Nat.min_eq_left t1
    have hat:∀ (j:Nat) x,((l.drop o).take (n*k))[j]? = some x->l[o+j]? = some x:=fun j x hj=>by
     have:=(List.getElem?_eq_some_iff.1 hj).1
     rw [hlen] at this
     rwa [List.getElem?_take_of_lt this,List.getElem?_drop] at hj
    have hO:RCs (okH h) ρ ((l.drop o).take (n*k)) ((List.range (n*k)).map fun j=>f (o+j)):=⟨by rw [hlen];simp,fun j x u a b=>by
     have h2:=(List.getElem?_eq_some_iff.1 b).1
     simp only [List.length_map,List.length_range] at h2
     rw [List.getElem?_map,List.getElem?_range h2] at b
     obtain rfl:=Option.some.inj b
     exact (hf _ x (hat j x a)).2⟩
    have hfirst:(Builtin.firstCells k n (.slice (some ⟨(ρ c).1,o,none⟩) n K)).run P w.drew=.ok ((List.range (n*k)).map fun j=>f (o+j)).toArray w.drew:=run_firstCells_some w.drew k n _ n K _ (by simp) fun j u hj=>by
     have h2:=(List.getElem?_eq_some_iff.1 hj).1
     simp only [List.length_map,List.length_range] at h2
     rw [List.getElem?_map,List.getElem?_range h2] at hj
     obtain rfl:=Option.some.inj hj
     rw [Dq]
     exact (hf _ _ (hat j _ (List.getElem?_eq_getElem (by omega)))).1
    cases hq:Nat.beq q 0 with
    | true =>
     rw [hq] at e
     have:=p4 (Nat.eq_of_beq_eq_true hq)
     exact mk (by omega) hfirst hO (by simp) (by omega) f1 f2 (by simpa using e)
    | false =>
     rw [hq] at e
     simp only [cond_false] at e
     obtain ⟨hc4,e3⟩:=Bl e
     clear e
     simp only [Bool.and_eq_true,Bool.not_eq_true'] at hc4
     obtain ⟨⟨⟨⟨c1,c2⟩,c3⟩,c4⟩,c5⟩:=hc4
     obtain rfl:=Nat.eq_of_beq_eq_true c1
     obtain rfl:=Nat.eq_of_beq_eq_true c2
     have c3:=Nat.eq_of_beq_eq_true c3
     subst c4
     have c5:=Nat.le_of_ble_eq_true c5
     have hl0:(l.drop 0).take (n*q)=l:=by rw [List.drop_zero,<-c3,List.take_length]
     rw [hl0] at e3 hO hlen
     cases e3
     by_cases hroom:n+m<=K
     ·have h9:=p5 (by omega)
      have h8:(n+m)*q<=K*q:=Nat.mul_le_mul_right _ (by omega)
      rw [Nat.add_mul] at h8
      obtain ⟨w1,ρ',r1,r2,r3,r4⟩:=s.extend (P:=P) hg c5 hR (by omega)
      obtain ⟨b1,b2⟩:=blk hg (.inr (by omega))
      rw [c3] at r1
      refine ⟨_,w1,ρ',room hroom (by simpa using r1) b1 b2,r4,?_⟩
      have:=RC.s (ρ:=ρ') (o:=0) (n:=n+m) (k:=n+m) (K:=K) (e:=q) r3 (Nat.le_refl _) hroom p3 (fun g=>by omega) (fun g=>by rw [r2];exact p5 g)
      rwa [r2] at this
     ·obtain ⟨G,w',g1,g2,g3,g4,C,g5,g6,g7,g8⟩:=B52 (ty:=ty) s ht hz hzl hs hR (by omega) hfirst hO (by simp) (by omega) f1 f2
      have p1':Df ρ h (h.setT c (.cs l kin true)) B w w ρ:=s.shut hg c5
      obtain ⟨ρ',e1,p⟩:=p1'.sr.new (b:=.cs (l++ys) (c :: kin) false) (w':=w') (g:=(w.heap.size,C.size)) g4 rfl fun ρ' _ hx _=>⟨C,el,(0,0),g5,fun _=>rfl,g7,Nat.le_refl _,fun j x u a b=>⟨(g8 j x u a b).1.ext hx,(g8 j x u a b).2⟩⟩
      refine ⟨_,w',ρ',g3,p1'.trans p,?_⟩
      have:=RC.s (ρ:=ρ') (o:=0) (n:=n+m) (k:=n+m) (K:=G) (e:=q) (Gn p1'.sr (.cs (l++ys) (c :: kin) false)) (Nat.le_refl _) g1 g2 (fun g=>by omega) (fun g=>by have h7:ρ' h.nx=_:=e1;rw [show (h.setT c (GB.cs l kin true)).nx=h.nx from rfl,h7];simp only;omega)
      rwa [e1] at this
 ·cases e
theorem Tr (w:World) (t tx ty e:TypeId) (i:TypeInfo) (z:Value) (k:IntKind) (kk:IntKind) (ht:P.underlying t=some (.slice e)) (hk:P.underlying tx=some (.int k)) (hi:P.info? e=some i) (hz:i.zero=some z) (m:Nat) (hm:0 < m) (h30:m<=16777216) (hb:m*i.bytes<=140737488355328) (hs:0 < i.size) :
  (Builtin.append_ #[t,tx] ty #[.slice none 0 0,.int kk (m:Nat)]).run P w=.ok (.slice (some ⟨w.heap.size,0,none⟩) m (grownCap w m 0 e)) (w.drew.alloc (.cells (Builtin.zeroCells z.cells m++Builtin.zeroCells z.cells (grownCap w m 0 e - m)) e)):=by
 have wm:IntKind.i64.wrap (m:Int)=m:=by rw [IntKind.wrap_i64];omega
 have h1:¬ ((m:Int) < 0):=by omega
 have h2:¬ ((m:Int)*(i.bytes:Int) > 2 ^ 48):=by
  rw [<-Int.natCast_mul]
  have:((m*i.bytes:Nat):Int)<=140737488355328:=Int.ofNat_le.2 hb
  omega
 have h2':¬ (281474976710656 < (m:Int)*(i.bytes:Int)):=by simpa using h2
 have h3:¬ m=0:=by omega
 have h4:¬ m*i.size=0:=fun h=>by rcases Nat.mul_eq_zero.1 h with g | g<;>omega
 have h5:¬ (9223372036854775807 < (m:Int)):=by omega
 have h6:¬ (281474976710656 < Builtin.nextslicecap m 0*i.bytes):=by rw [nextslicecap_zero hm];omega
 simp [Builtin.append_,run_underlying ht,run_underlying hk,asInt,asIntOf,wm,h1,h2',h3,h4,h5,h6,sizeOf,typeInfo,zeroValue,hi,hz,Question.forced,newRow,grownCap,Builtin.firstCells]
theorem D66 {t t':TypeId} {y z:Operand} (e:C64 P t t' (L y) (L z) h=some (x,h')):Co P L h ⟨dst,.call { callee:=.builtin .append,args:=#[y,z],argTypes:=#[t,t'] },ty,pos,after,gd⟩ x h':=by
 unfold C64 at e
 split at e
 case h_2=>cases e
 rename_i el k b ht
 simp only [Option.bind_eq_some_iff] at e
 obtain ⟨zs,hz,e⟩:=e
 obtain ⟨h1,e⟩:=D7 e
 simp only [Bool.and_eq_true] at h1
 have hk:=Bs.1 h1.1
 intro ρ B w a s hL
 have exec:∀ {v':Value} {w':World},(Builtin.append_ #[t,t'] ty #[a.eval y,a.eval z]).run P w=.ok v' w'->(execOp a.eval ⟨dst,.call { callee:=.builtin .append,args:=#[y,z],argTypes:=#[t,t'] },ty,pos,after,gd⟩).run P w=.ok (.value v') w':=fun h3=>by
  simp [execOp,resolve,invoke,builtin,h3]
 split at e
 ·rename_i kk n hz2
  split at e
  ·rename_i _ _ k2 ht2 hy
   have e:(bif Nat.blt 0 n.toNat&&Nat.ble (n.toNat*b) 140737488355328&&Nat.ble (n.toNat*k) 16777216 then some (Tt h (Ri zs n.toNat) n.toNat n.toNat k []) else none)=some (x,h'):=e
   obtain ⟨h2,e5⟩:=Bl e
   clear e
   simp only [Bool.and_eq_true] at h2
   obtain ⟨⟨b1,b2⟩,b3⟩:=h2
   have q1:=Bs.1 b1
   have q2:=Nat.le_of_ble_eq_true b2
   have q3:=Nat.le_of_ble_eq_true b3
   obtain ⟨inf,zz,i1,i2,i3,i4,rfl,i5,i6⟩:=J0 hz ht h1.2
   obtain ⟨hu,_⟩:=C3 ht
   have hyv:=hL y
   rw [hy] at hyv
   have hzv:=hL z
   rw [hz2] at hzv
   obtain ⟨m,hm⟩ : ∃ m:Nat,n.toNat=m:=⟨_,rfl⟩
   rw [hm] at q1 q2 q3 e5
   have hn:n=(m:Nat):=by omega
   subst hn
   have hmk:m<=16777216:=Nat.le_trans (Nat.le_mul_of_pos_right m hk) q3
   have hrun:=Tr (P:=P) w t t' ty el inf zz k2 kk hu (M1 ht2) i1 i2 m q1 hmk (by rw [i4];exact q2) (by omega)
   have g1:=grownCap_ge w m 0 el
   have g2:=grownCap_le_maxLen w m 0 el (by unfold maxLen;omega)
   generalize grownCap w m 0 el=G at hrun g1 g2
   have hR:=Sh (ok:=okH h) (ρ:=ρ) i5 m
   rw [i6] at hR
   have hzc:∀ q,(Builtin.zeroCells zz.cells q)=madeCells zz.cells (q*k):=fun q=>by simp [Builtin.zeroCells,madeCells,i6]
   rw [hzc,hzc] at hrun
   have hCs:(madeCells zz.cells (m*k)++madeCells zz.cells ((G - m)*k)).size=G*k:=by
    simp only [Array.size_append,madeCells,Array.size_map,Array.size_range]
    rw [<-Nat.add_mul];congr 1;omega
   have hl:=hR.1.trans Array.length_toList
   obtain ⟨ρ',p,hr⟩:=Q9 s (w':=_) (w0:=w.drew) (l:=Ri (zz.cells.toList.map .v) m) (C:=madeCells zz.cells (m*k)++madeCells zz.cells ((G - m)*k)) (t:=el) rfl ⟨rfl,rfl,rfl,rfl⟩ (by rw [Array.size_append];omega) (fun j x u a b=>hR.2 j x u a (by
    rw [Array.getElem?_append_left (by have:=(List.getElem?_eq_some_iff.1 a).1;omega)] at b
    rw [Array.getElem?_toList];exact b)) (n:=m) (k:=m) (K:=G) (e:=k) (Nat.le_refl _) g1 g2 (fun g=>by omega) (fun g=>by rw [hCs];exact Nat.le_refl _)
   rw [e5] at p hr
   exact ⟨_,_,ρ',.inl (exec (by rw [hyv.v_inv,hzv.v_inv];exact hrun)),p,hr⟩
  ·cases e
 ·rename_i hz3
  obtain ⟨h2,e⟩:=D7 e
  obtain ⟨q,w',ρ',r1,r2,r3⟩:=Bs0 (ty:=ty) s ht hz h1.2 hk (hL y) (hL z) h2 e
  exact ⟨q,w',ρ',.inl (exec r1),r2,r3⟩
theorem D61 {t:TypeId} {r:Option Operand} (e:C60 P t (r.map L) h=some (x,h')):Co P L h ⟨dst,.makeMap t r,ty,pos,after,gd⟩ x h':=by
 unfold C60 at e
 split at e
 case h_2=>cases e
 rename_i k z ht
 have run:∀ {a:Act} {w:World},(∀ y,r=some y->∃ q m,a.eval y=.int q m)->(execOp a.eval ⟨dst,.makeMap t r,ty,pos,after,gd⟩).run P w=.ok (.value (.map (some w.heap.size))) (w.alloc (.map #[] 0)):=fun {a w} hr=>by
  obtain ⟨kt,et,hu,_,_⟩:=M0 (w:=w) ht
  cases r with
  | none=>simp [execOp,Instr.makeMap]
  | some y =>
   obtain ⟨q,m,hx⟩:=hr y rfl
   simp [execOp,Instr.makeMap,hx,run_underlying hu,asInt,asIntOf]
 have fin:(∀ {ρ:Nat->Nat×Nat} {a:Act},(∀ y,RC (okH h) ρ (L y) (a.eval y))->∀ y,r=some y->∃ q m,a.eval y=.int q m)->(CV.m h.nx,h.new (.mp k []))=(x,h')->Co P L h ⟨dst,.makeMap t r,ty,pos,after,gd⟩ x h':=fun h1 e ρ B w a s hL=>by
  cases e
  obtain ⟨ρ',e1,p⟩:=s.new (b:=.mp k []) (w':=w.alloc (.map #[] 0)) (g:=(w.heap.size,0)) (Ap (Below.refl _ w)) rfl fun ρ' _ hx _=>⟨#[],0,World.alloc_heap_new _ _,rfl⟩
  refine ⟨_,_,ρ',.inl (run (h1 hL)),p,?_⟩
  have:=RC.m (ρ:=ρ') (Gn s (.mp k []))
  rwa [e1] at this
 split at e
 ·rename_i hr
  exact fin (fun hL y hy=>by subst hy;simp at hr) (Option.some.inj e)
 ·rename_i kk m hr
  refine fin (fun hL y hy=>?_) (Option.some.inj e)
  subst hy
  simp only [Option.map_some,Option.some.injEq] at hr
  have:=hL y
  rw [hr] at this
  exact ⟨kk,m,this.v_inv⟩
 ·cases e
end
end Go.Proofs.YtahgkllhbggmgaaGreatDoor
