/- Concrete runs: each operation, as it is reckoned, is what a world does. No program is known here. -/
import Derived.Test.YtahgkllhbggmgaaGreatDoorKAbsDraw
import Derived.Laws.CopyRow
import Derived.Deep.AppendSrc
import Derived.Great.BuildSlice
import Derived.RangeFuncIn
set_option linter.all false
set_option linter.unnecessarySimpa false
set_option linter.unusedSimpArgs false
set_option linter.unusedVariables false
namespace Go.Proofs.YtahgkllhbggmgaaGreatDoor
open Go.ChangeShapes Go.WideShapes Go.ChangeAt Go.RowKit
inductive TR (α:Type) where
 | lf
 | nd (x:Option α) (l r:TR α)
section
variable {α : Type}
/- told by recursors, so that the kernel reckons fast -/
noncomputable def TR.get (t:TR α):Nat->Option α :=
 TR.rec (motive:=fun _=>Nat->Option α) (fun _=>none) (fun x _ _ gl gr n=>Nat.rec (motive:=fun _=>Option α) x (fun m _=>Bool.rec (motive:=fun _=>Nat->Option α) gr gl (Nat.beq (Nat.mod m 2) 0) (Nat.div m 2)) n) t
def TR.one:Nat->Nat->α->TR α
 | 0,_,_=>.lf
 | _+1,0,a=>.nd (some a) .lf .lf
 | k+1,m+1,a=>bif Nat.beq (Nat.mod m 2) 0 then .nd none (TR.one k (Nat.div m 2) a) .lf else .nd none .lf (TR.one k (Nat.div m 2) a)
noncomputable def TR.set (t:TR α):Nat->α->TR α :=
 TR.rec (motive:=fun _=>Nat->α->TR α) (fun n a=>TR.one (Nat.succ n) n a) (fun x l r sl sr n a=>Nat.rec (motive:=fun _=>TR α) (.nd (some a) l r) (fun m _=>Bool.rec (motive:=fun _=>TR α) (.nd x l (sr (Nat.div m 2) a)) (.nd x (sl (Nat.div m 2) a) r) (Nat.beq (Nat.mod m 2) 0)) n) t
end
inductive CV where
 | v (x:Value)
 | p (c o:Nat)
 | s (c o n k e:Nat)
 | z
 | g (l:List CV)
 | t (l:List CV)
 | f (i:FuncId) (l:List CV)
 | y (c:Nat)
 | m (c:Nat)
 | u
instance:Inhabited CV:=⟨.v undef⟩
structure GL where
 st:LoopState
 pe:Option Code
 sl:TR CV
 n:Nat
 ps:List Tmp
 asg:Code
 bd:Code
 d:Nat
inductive GB where
 | cs (l:List CV) (kin:List Nat) (ro:Bool)
 | lp (L:GL)
 | df
 | mp (k:IntKind) (kv:List (Int×Value))
 | no
structure GH where
 t:TR GB
 nx:Nat
 fl:Nat
 hid:List (Nat×Nat)
def Df:List (Nat×Nat)->Nat->Bool
 | [],_=>false
 | (a,b) :: r,c=>(Nat.ble a c&&Nat.blt c b) || Df r c
/- stores are taken apart by their recursor: no chain of fields behind fields is left -/
noncomputable def GH.get (h:GH) (c:Nat):Option GB:=GH.rec (motive:=fun _=>Option GB) (fun t _ _ hid=>List.rec (motive:=fun _=>Option GB) (t.get c) (fun _ _ _=>bif Df hid c then none else t.get c) hid) h
noncomputable def GH.new (h:GH) (b:GB):GH:=GH.rec (motive:=fun _=>GH) (fun t nx fl hid=>⟨t.set nx b,Nat.succ nx,fl,hid⟩) h
noncomputable def GH.setT (h:GH) (c:Nat) (b:GB):GH:=GH.rec (motive:=fun _=>GH) (fun t nx fl hid=>⟨t.set c b,nx,fl,hid⟩) h
noncomputable def GH.put (h:GH) (c:Nat) (b:GB):Option GH:=bif Nat.ble h.fl c then some (h.setT c b) else none
noncomputable def gone:List Nat->TR GB->TR GB
 | [],t=>t
 | k :: r,t=>gone r (t.set k .no)
noncomputable def GH.wr (h:GH) (c:Nat) (l':List CV):Option GH :=
 match h.get c with
 | some (.cs _ kin false)=>GH.rec (motive:=fun _=>Option GH) (fun t nx fl hid=>bif Nat.ble fl c&&kin.all (fun k=>Nat.ble fl k&&Nat.blt k nx) then some ⟨(gone kin t).set c (.cs l' [] false),nx,fl,hid⟩ else none) h
 | _=>none
noncomputable def GH.dress (h:GH) (fl:Nat) (hid:List (Nat×Nat)):GH:=GH.rec (motive:=fun _=>GH) (fun t nx _ _=>⟨t,nx,fl,hid⟩) h
noncomputable def GH.cells (h:GH) (c:Nat):Option (List CV) :=
 match h.get c with
 | some (.cs l _ _)=>some l
 | _=>none
noncomputable def Bw6 (l:List CV):Nat->Option CV:=List.rec (motive:=fun _=>Nat->Option CV) (fun _=>none) (fun x _ ih n=>Nat.rec (motive:=fun _=>Option CV) (some x) (fun m _=>ih m) n) l
noncomputable def Z5 (l:List CV):Nat->List CV:=List.rec (motive:=fun _=>Nat->List CV) (fun _=>[]) (fun x l ih n=>Nat.casesOn (motive:=fun _=>List CV) n (x :: l) ih) l
noncomputable def ovC (l:List CV):List CV->Option (List CV):=List.rec (motive:=fun _=>List CV->Option (List CV)) (fun m=>List.casesOn (motive:=fun _=>Option (List CV)) m (some []) fun _ _=>none) (fun x l ih m=>List.casesOn (motive:=fun _=>Option (List CV)) m (some (x :: l)) fun y m=>Option.casesOn (motive:=fun _=>Option (List CV)) (ih m) none fun r=>some (y :: r)) l
noncomputable def A83 (l:List CV):Nat->List CV->Option (List CV):=List.rec (motive:=fun _=>Nat->List CV->Option (List CV)) (fun o m=>Nat.casesOn (motive:=fun _=>Option (List CV)) o (ovC [] m) fun _=>none) (fun x l ih o m=>Nat.casesOn (motive:=fun _=>Option (List CV)) o (ovC (x :: l) m) fun o=>Option.casesOn (motive:=fun _=>Option (List CV)) (ih o m) none fun r=>some (x :: r)) l
noncomputable def Qw (l:List CV):Nat->Option (List CV):=List.rec (motive:=fun _=>Nat->Option (List CV)) (fun n=>Nat.casesOn (motive:=fun _=>Option (List CV)) n (some []) fun _=>none) (fun x _ ih n=>Nat.casesOn (motive:=fun _=>Option (List CV)) n (some []) fun n=>Option.casesOn (motive:=fun _=>Option (List CV)) (ih n) none fun r=>some (x :: r)) l
noncomputable def rdC (q n o:Nat) (l:List CV):Option CV :=
 match q with
 | 0=>Bw6 l o
 | _=>(Qw (Z5 l o) n).map .g
def Gt:CV->List CV
 | .g l=>l
 | x=>[x]
def ofV:Value->CV
 | .agg a=>bif a.toList.all (·.oneCell') then .g (a.toList.map .v) else .u
 | x=>.v x
def Az4:CV->Bool
 | .v (.tuple _)=>false
 | .t _=>false
 | .u=>false
 | _=>true
def Rz (P:Program) (t:TypeId):Option (List CV) :=
 match tyZ P t with
 | some (_,zs)=>bif zs.all (·.oneCell') then some (zs.map .v) else none
 | none=>none
abbrev Bg:=TR CV
noncomputable def evC (P:Program) (sl:Bg) (x:Operand):CV :=
 Operand.rec (motive:=fun _=>Program->Bg->CV) (fun t _ sl=>Option.rec (motive:=fun _=>CV) (.v undef) (fun x=>x) (sl.get t)) (fun v _ _=>ofV v) (fun g P _=>bif Nat.blt g P.globals.size then .p g 0 else .u) (fun f _ _=>.f f []) x P sl
def Bx4:CV->Option Int
 | .v (.int _ n)=>some n
 | _=>none
def Qf (x:CV):Option Nat :=
 match Bx4 x with
 | some (.ofNat n)=>some n
 | _=>none
def Ai7 (P:Program) (t:TypeId):Bool :=
 match P.underlying t with
 | some .bool=>true
 | _=>false
def eqC (P:Program) (eqT:Nat->Bool) (t:TypeId):CV->CV->Option Bool
 | .v (.bool a),.v (.bool b)=>bif Ai7 P t then some (a==b) else none
 | .v (.string a),.v (.string b)=>some (a.data.toList==b.data.toList)
 | .v (.slice none 0 0),.v (.slice none 0 0)=>bif (Cl P t).isSome then some true else none
 | .s _ _ _ _ _,.v (.slice none 0 0)=>bif (Cl P t).isSome then some false else none
 | .z,.v (.slice none 0 0)=>bif (Cl P t).isSome then some false else none
 | .g [.v (.int .i64 a),.v (.int .i64 b)],.g [.v (.int .i64 a'),.v (.int .i64 b')]=>bif eqT t then some (a==a'&&b==b') else none
 | _,_=>none
def Cs9 (P:Program) (eqT:Nat->Bool) (op:BinOp) (t:TypeId) (x y:CV):Option CV :=
 match op,x,y with
 | .shl,.v (.int k a),.v (.int _ b)=>bif decide (0<=b) then some (.v (.int k (k.wrap (a*2 ^ min b.toNat k.bits)))) else none
 | .shr,.v (.int k a),.v (.int _ b)=>bif decide (0<=b) then some (.v (.int k (a.fdiv (2 ^ min b.toNat k.bits)))) else none
 | op,.v (.int k a),.v (.int k' b)=>bif decide (k≠k') then none else match op with
  | .lss=>some (.v (.bool (decide (a < b))))
  | .leq=>some (.v (.bool (decide (a<=b))))
  | .gtr=>some (.v (.bool (decide (b < a))))
  | .geq=>some (.v (.bool (decide (b<=a))))
  | .eql=>some (.v (.bool (decide (a=b))))
  | .neq=>some (.v (.bool (decide (a≠b))))
  | .add=>some (.v (.int k (k.wrap (a+b))))
  | .sub=>some (.v (.int k (k.wrap (a - b))))
  | .mul=>some (.v (.int k (k.wrap (a*b))))
  | .quo=>bif decide (b=0) then none else some (.v (.int k (k.wrap (a.tdiv b))))
  | .rem=>bif decide (b=0) then none else some (.v (.int k (a.tmod b)))
  | .and=>some (.v (.int k (k.wrap (BitVec.ofInt k.bits a &&& BitVec.ofInt k.bits b).toNat)))
  | .or=>some (.v (.int k (k.wrap (BitVec.ofInt k.bits a|||BitVec.ofInt k.bits b).toNat)))
  | .xor=>some (.v (.int k (k.wrap (BitVec.ofInt k.bits a^^^BitVec.ofInt k.bits b).toNat)))
  | .andNot=>some (.v (.int k (k.wrap (BitVec.ofInt k.bits a &&& ~~~BitVec.ofInt k.bits b).toNat)))
  | _=>none
 | .eql,x,y=>(eqC P eqT t x y).map fun b=>.v (.bool b)
 | .neq,x,y=>(eqC P eqT t x y).map fun b=>.v (.bool !b)
 | .add,.v (.string a),.v (.string b)=>bif Nat.ble (a.size+b.size) 1073741824 then some (.v (.string (a++b))) else none
 | _,_,_=>none
def u8C:CV->Option Nat
 | .v (.int .u8 (.ofNat n))=>some n
 | _=>none
def A44:List CV->Option (List Nat)
 | []=>some []
 | x :: l=>match u8C x,A44 l with
  | some n,some r=>some (n :: r)
  | _,_=>none
noncomputable def Bd2 (P:Program) (s d:TypeId) (h:GH):CV->Option (CV×GH)
 | .v (.int _ m)=>match Mw P s,Mw P d with
  | some _,some k=>some (.v (.int k (k.wrap m)),h)
  | _,_=>none
 | .v (.slice none 0 0)=>bif Kj P s&&Fc P d then some (.v (.string ByteArray.empty),h) else none
 | .v (.string z)=>bif Fc P s&&Kj P d&&Nat.ble z.size 1073741824 then
   some (.s h.nx 0 z.size z.size 1,h.new (.cs (z.data.toList.map fun b=>CV.v (.int .u8 (b.toNat:Nat))) [] true)) else none
 | .s c o n k e=>bif Kj P s&&Nat.beq s d then (match h.get c with
   | some (.cs l [] false)=>(h.put c (.cs l [] true)).map fun h'=>(.s c o n k e,h')
   | _=>none)
  else bif Kj P s&&Fc P d then
   (h.cells c).bind fun l=>(Qw (Z5 l o) n).bind fun bs=>(A44 bs).map fun l=>(.v (.string (T7 l)),h) else none
 | _=>none
noncomputable def Sw (h:GH) (k:Nat):CV->Option (Nat×List CV)
 | .v (.slice none 0 0)=>some (0,[])
 | .z=>some (0,[])
 | .s c o n _ _=>(h.cells c).bind fun l=>(Qw (Z5 l o) (n*k)).map fun m=>(n,m)
 | .v (.string z)=>bif Nat.beq k 1 then some (z.size,z.data.toList.map fun b=>CV.v (.int .u8 (b.toNat:Nat))) else none
 | _=>none
def Cm6:CV->Option Nat
 | .v (.slice none 0 0)=>some 0
 | .z=>some 0
 | .s _ _ n _ _=>some n
 | .v (.string z)=>some z.size
 | _=>none
noncomputable def S6 (h:GH) (l:List CV) (n k:Nat) (e:Nat) (kin:List Nat):CV×GH:=(.s h.nx 0 n k e,h.new (.cs l kin false))
noncomputable def C13 (h:GH) (k y:Nat) (x s:CV):Option (CV×GH) :=
 match Sw h k s with
 | none=>none
 | some (m,ys)=>match x with
  | .v (.slice none 0 0)=>bif Nat.beq m 0 then some (x,h) else bif Nat.ble (m*y) 140737488355328&&Nat.ble m 1073741824 then some (S6 h ys m m k []) else none
  | .z=>bif Nat.beq m 0 then some (x,h) else none
  | .s c o n cp e=>bif Nat.beq m 0 then some (x,h)
   else bif Nat.ble (n+m) cp then (h.cells c).bind fun l=>(bif Nat.beq e k&&Nat.beq l.length (o+n*k) then some (l++ys) else A83 l (o+n*k) ys).bind fun l'=>(h.wr c l').map fun h'=>(.s c o (n+m) cp e,h')
   else bif Nat.ble ((n+m)*y) 140737488355328&&Nat.ble (n+m) 1073741824 then (match h.get c with
    | some (.cs l kin ro)=>(Qw (Z5 l o) (n*k)).bind fun pre =>
     bif Nat.beq e 0 then some (S6 h (pre++ys) (n+m) (n+m) k [])
     else bif Nat.beq o 0&&Nat.beq e k&&Nat.beq l.length (n*k)&&!ro&&Nat.ble h.fl c then some (S6 (h.setT c (.cs l kin true)) (pre++ys) (n+m) (n+m) k (c :: kin))
     else none
    | _=>none) else none
  | _=>none
def Ba3:Option CV->Option (Option Nat)
 | none=>some none
 | some c=>(Qf c).map some
def B65 (x:CV) (l hh mm:Option Nat):Option CV :=
 match x with
 | .v (.string z)=>bif mm.isNone&&Nat.ble (l.getD 0) (hh.getD z.size)&&Nat.ble (hh.getD z.size) z.size then some (.v (.string (z.extract (l.getD 0) (hh.getD z.size)))) else none
 | _=>none
def Zn (k:Nat) (x:CV) (l hh mm:Option Nat):Option CV :=
 match x with
 | .v (.slice none 0 0)=>bif (mm.isNone || hh.isSome)&&Nat.beq (mm.getD 0) 0&&Nat.beq (l.getD 0) 0&&Nat.beq (hh.getD 0) 0 then some x else none
 | .z=>bif (mm.isNone || hh.isSome)&&Nat.beq (mm.getD 0) 0&&Nat.beq (l.getD 0) 0&&Nat.beq (hh.getD 0) 0 then some .z else none
 | .s c o n cp e=>bif Nat.ble (l.getD 0) (hh.getD n)&&Nat.ble (hh.getD n) cp then (match mm with
  | none=>bif Nat.beq (l.getD 0) (hh.getD n)&&Nat.blt 0 (l.getD 0) then some .z else bif Nat.beq e 0 || Nat.beq e k then some (.s c (o+l.getD 0*k) (hh.getD n - l.getD 0) (cp - l.getD 0) e) else none
  | some m=>bif hh.isSome&&Nat.ble (hh.getD n) m&&Nat.ble m cp then some (.s c (bif Nat.beq m (l.getD 0) then o else o+l.getD 0*k) (hh.getD n - l.getD 0) (m - l.getD 0) 0) else none) else none
 | _=>none
noncomputable def Z2 (places:List (Nat×Nat)):List CV->List (Nat×CV)->Option (List CV)
 | cells,[]=>some cells
 | cells,(i,v) :: rest=>match places[i]? with
  | none=>none
  | some (off,size)=>bif Az4 v&&Nat.beq (Gt v).length size then (A83 cells off (Gt v)).bind fun cs=>Z2 places cs rest else none
def Qd (zs:List CV):Nat->List CV
 | 0=>[]
 | n+1=>zs++Qd zs n
noncomputable def At5 (h:GH):List CV->Option (CV×GH)
 | [.v (.slice none 0 0),.v (.int .i64 (.ofNat n))]=>bif Nat.blt 0 n&&Nat.ble n 1073741824 then some (S6 h [] 0 n 1 []) else none
 | [.s c 0 m cp e,.v (.int .i64 (.ofNat n))]=>match h.get c with
  | some (.cs l kin false)=>bif Nat.blt 0 n&&Nat.ble (m+n) 1073741824&&Nat.beq l.length m&&Nat.ble h.fl c&&(Nat.beq e 1 || (Nat.beq e 0&&Nat.beq cp m)) then
    some (S6 (h.setT c (.cs l kin true)) l m (m+n) 1 (c :: kin)) else none
  | _=>none
 | _=>none
inductive Ex where
 | normal
 | exit (id:Nat)
 | ret
structure FrS where
 sl:Bg
 n:Nat
 ds:List Nat
 h:GH
inductive Lt where
 | call (f:FuncId) (l:List CV)
 | round (c:Nat) (l:List CV)
section
variable (P : Program) (eqT : Nat -> Bool) (rec : Lt -> GH -> Option (CV × GH))
noncomputable def B32 (c x y:CV) (h:GH):Option (CV×GH) :=
 match c with
 | .v (.bool true)=>some (x,h)
 | .v (.bool false)=>some (y,h)
 | _=>none
noncomputable def Ai0 (e:TypeId) (h:GH):Option (CV×GH):=(Rz P e).map fun z=>(.p h.nx 0,h.new (.cs z [] false))
noncomputable def Ca6 (x:CV) (h:GH):Option (CV×GH):=bif Az4 x then some (.p h.nx 0,h.new (.cs (Gt x) [] false)) else none
noncomputable def Ah9 (t:TypeId) (ps:List (Nat×CV)) (h:GH):Option (CV×GH):=(Kk P t).bind fun z=>(Rz P t).bind fun zs=>(Z2 z.2 zs ps).map fun cs=>(.g cs,h)
noncomputable def Zd (t:TypeId) (len:Nat) (ps:List (Nat×CV)) (h:GH):Option (CV×GH) :=
 match Cl P t with
 | some (e,k,_)=>(Rz P e).bind fun z=>bif Nat.blt 0 k&&Nat.ble (len*k) 16777216&&Nat.beq z.length k then
   (Z2 ((List.range len).map fun i=>(i*k,k)) (Qd z len) ps).map fun cs=>S6 h cs len len 0 [] else none
 | none=>none
noncomputable def B36 (t:TypeId) (x:CV) (h:GH):Option (CV×GH) :=
 match x with
 | .p c o=>match tyK P t with
  | some (q,s)=>(h.cells c).bind fun l=>(rdC q s o l).map fun x=>(x,h)
  | none=>none
 | _=>none
noncomputable def Un (t:TypeId) (x y:CV) (h:GH):Option (CV×GH) :=
 match x with
 | .p c o=>match tyK P t with
  | some (_,s)=>(h.cells c).bind fun l=>bif Az4 y&&Nat.beq (Gt y).length s then (A83 l o (Gt y)).bind fun l'=>(h.wr c l').map fun h'=>(.v undef,h') else none
  | none=>none
 | _=>none
noncomputable def Bs0 (x:CV) (h:GH):Option (CV×GH) :=
 match x with
 | .p c o=>some (.p c o,h)
 | .f i l=>some (.f i l,h)
 | .y c=>some (.y c,h)
 | _=>none
noncomputable def Bs4 (op:BinOp) (t:TypeId) (x y:CV) (h:GH):Option (CV×GH):=(Cs9 P eqT op t x y).map fun r=>(r,h)
noncomputable def xUn (op:UnOp) (x:CV) (h:GH):Option (CV×GH) :=
 match x with
 | .v (.bool b)=>match op with
  | .not=>some (.v (.bool !b),h)
  | _=>none
 | .v (.int k m)=>match op with
  | .neg=>some (.v (.int k (k.wrap (0 - m))),h)
  | .xor=>some (.v (.int k (k.wrap (BitVec.ofInt k.bits (if k.signed then -1 else k.max)^^^BitVec.ofInt k.bits m).toNat)),h)
  | _=>none
 | _=>none
noncomputable def xFn (fn:Fn) (first:Array Operand) (caps:List CV) (h:GH):Option (CV×GH) :=
 match fn with
 | .func f=>bif first.isEmpty then some (.f f caps,h) else none
 | _=>none
noncomputable def B34 (t:TypeId) (n m:CV) (h:GH):Option (CV×GH) :=
 match Cl P t,Qf n,Qf m with
 | some (e,k,y),some n,some m=>(Rz P e).bind fun z=>bif Nat.blt 0 k&&Nat.ble n m&&Nat.ble (m*k) 16777216&&Nat.ble (y*m) 281474976710656&&Nat.beq z.length k then some (S6 h (Qd z m) n m 0 []) else none
 | _,_,_=>none
noncomputable def Ah3 (t:TypeId) (x:CV) (lo hi mx:Option CV) (h:GH):Option (CV×GH) :=
 match Ba3 lo,Ba3 hi,Ba3 mx with
 | some l,some hh,some mm=>bif Fc P t then (B65 x l hh mm).map fun r=>(r,h) else match Cl P t with
  | some (_,k,_)=>(Zn k x l hh mm).map fun r=>(r,h)
  | none=>match Qu P t,x with
   | some (n,_,k),.p c o=>bif Nat.ble n 1073741824 then (Zn k (.s c o n n 0) l hh mm).map fun r=>(r,h) else none
   | _,_=>none
 | _,_,_=>none
noncomputable def Zc (t:TypeId) (x:CV) (f:Nat) (h:GH):Option (CV×GH) :=
 match x with
 | .p c o=>match tyF P t f with
  | some (off,_,s)=>bif Nat.beq s 0 then none else some (.p c (o+off),h)
  | none=>none
 | _=>none
noncomputable def Ah5 (t:TypeId) (x:CV) (f:Nat) (h:GH):Option (CV×GH) :=
 match x with
 | .g l=>match tyF P t f with
  | some (off,q,s)=>(rdC q s off l).map fun x=>(x,h)
  | none=>none
 | _=>none
noncomputable def Zb (t:TypeId) (x i:CV) (h:GH):Option (CV×GH) :=
 match Qf i with
 | some m=>match x with
  | .s c o n _ _=>match Cl P t with
   | some (_,k,_)=>bif Nat.blt m n&&Nat.blt 0 k then some (.p c (o+m*k),h) else none
   | none=>none
  | .p c o=>match Qu P t with
   | some (n,_,k)=>bif Nat.blt m n&&Nat.blt 0 k then some (.p c (o+m*k),h) else none
   | none=>none
  | _=>none
 | none=>none
noncomputable def Ah4 (t:TypeId) (x i:CV) (h:GH):Option (CV×GH) :=
 match Qf i with
 | some m=>match x with
  | .g l=>match Qu P t with
   | some (n,q,k)=>bif Nat.blt m n then (rdC q k (m*k) l).map fun x=>(x,h) else none
   | none=>none
  | .v (.string s)=>bif Fc P t then (s.data.toList[m]?).map fun b=>(.v (.int .u8 (b.toNat:Nat)),h) else none
  | _=>none
 | none=>none
noncomputable def Bs1 (t:TypeId) (r:Option CV) (h:GH):Option (CV×GH) :=
 match Pc P t with
 | some (k,_)=>match r with
  | none=>some (.m h.nx,h.new (.mp k []))
  | some (.v (.int _ _))=>some (.m h.nx,h.new (.mp k []))
  | _=>none
 | none=>none
noncomputable def B35 (t:TypeId) (x i:CV) (ok:Bool) (h:GH):Option (CV×GH) :=
 match x,i with
 | .m c,.v (.int k' m)=>match Pc P t,h.get c with
  | some (k,z),some (.mp k'' kv)=>bif !ok&&decide (k'=k)&&decide (k''=k)&&z.oneCell'&&kv.all (fun e=>e.2.oneCell') then some (.v ((J3 kv m).getD z),h) else none
  | _,_=>none
 | _,_=>none
noncomputable def B33 (t:TypeId) (x i y:CV) (h:GH):Option (CV×GH) :=
 match x,i,y with
 | .m c,.v (.int k' m),.v u=>match Pc P t,h.get c with
  | some (k,_),some (.mp k'' kv)=>bif decide (k'=k)&&decide (k''=k) then (h.put c (.mp k (K3 kv m u))).map fun h'=>(.v undef,h') else none
  | _,_=>none
 | _,_,_=>none
noncomputable def Uo (x:CV) (i:Nat) (h:GH):Option (CV×GH) :=
 match x with
 | .t l=>(Bw6 l i).map fun x=>(x,h)
 | _=>none
noncomputable def Ah7 (f:CV) (args:List CV) (h:GH):Option (CV×GH) :=
 match f with
 | .f f caps=>rec (.call f (args++caps)) h
 | .y c=>rec (.round c args) h
 | _=>none
def A76 (t':TypeId) (y:CV):Bool :=
 match y with
 | .v (.string _)=>Fc P t'
 | _=>(Cl P t').isSome
noncomputable def Bs5 (t t':TypeId) (x y:CV) (h:GH):Option (CV×GH) :=
 match Cl P t with
 | some (e,k,b)=>(Rz P e).bind fun z=>bif Nat.blt 0 k&&Nat.beq z.length k then (match y with
  | .v (.int _ n)=>match Mw P t',x with
   | some _,.v (.slice none 0 0) =>
    let m:=n.toNat
    bif Nat.blt 0 m&&Nat.ble (m*b) 140737488355328&&Nat.ble (m*k) 16777216 then some (S6 h (Qd z m) m m k []) else none
   | _,_=>none
  | y=>bif A76 P t' y then C13 h k b x y else none) else none
 | none=>none
noncomputable def B37 (t t':TypeId) (x y:CV) (h:GH):Option (CV×GH) :=
 match Cl P t with
 | some (_,k,_)=>(Sw h k y).bind fun r=>bif A76 P t' y then (match x with
  | .s c o n _ _=>(Qw r.2 (Nat.min r.1 n*k)).bind fun ys=>(h.cells c).bind fun l=>(A83 l o ys).bind fun l'=>(h.wr c l').map fun h'=>(.v (.int .i64 (Nat.min r.1 n:Nat)),h')
  | .z=>some (.v (.int .i64 0),h)
  | .v (.slice none 0 0)=>some (.v (.int .i64 0),h)
  | _=>none) else none
 | none=>none
noncomputable def Bs2 (t:TypeId) (x:CV) (h:GH):Option (CV×GH):=(Cm6 x).bind fun n=>bif (match x with | .v (.string _)=>Fc P t | _=>(Cl P t).isSome) then some (.v (.int .i64 (n:Nat)),h) else none
def Bs3 (t:TypeId) (x:CV) (h:GH):Option (CV×GH) :=
 bif (Cl P t).isNone then none else match x with
 | .s _ _ _ k 0=>some (.v (.int .i64 (k:Nat)),h)
 | .v (.slice none 0 0)=>some (.v (.int .i64 0),h)
 | _=>none
def Tx (mx:Bool) (x y:CV) (h:GH):Option (CV×GH) :=
 match x,y with
 | .v (.int k p),.v (.int _ q)=>some (.v (.int k (bif mx then max p q else min p q)),h)
 | _,_=>none
noncomputable def Ah6 (t:TypeId) (x:CV) (h:GH):Option (CV×GH) :=
 match Cl P t with
 | some (e,k,_)=>match x with
  | .v (.slice none 0 0)=>some (.v undef,h)
  | .z=>some (.v undef,h)
  | .s c o n _ _=>bif Nat.beq n 0 then some (.v undef,h) else (Rz P e).bind fun z=>bif Nat.beq z.length k then (h.cells c).bind fun l=>(A83 l o (Qd z n)).bind fun l'=>(h.wr c l').map fun h'=>(.v undef,h') else none
  | _=>none
 | none=>none
noncomputable def Ah8 (b:Builtin) (ts:List TypeId) (xs:List CV) (h:GH):Option (CV×GH) :=
 match b,ts,xs with
 | .append,[t,t'],[x,y]=>Bs5 P t t' x y h
 | .copy,[t,t'],[x,y]=>B37 P t t' x y h
 | .len,[t],[x]=>Bs2 P t x h
 | .clear,[t],[x]=>Ah6 P t x h
 | .cap,[t],[x]=>Bs3 P t x h
 | .max,_,[x,y]=>Tx true x y h
 | .min,_,[x,y]=>Tx false x y h
 | .min,_,[x,y,z,u]=>(Tx false x y h).bind fun r=>(Tx false r.1 z h).bind fun r=>Tx false r.1 u h
 | _,_,_=>none
noncomputable def B38 (c:Call) (L:Operand->CV) (h:GH):Option (CV×GH) :=
 match c.callee with
 | .value f=>Ah7 rec (L f) (c.args.toList.map L) h
 | .builtin b=>Ah8 P b c.argTypes.toList (c.args.toList.map L) h
 | _=>none
end
abbrev OpW:=Program->(Nat->Bool)->(Lt->GH->Option (CV×GH))->(Operand->CV)->GH->Option (CV×GH)
noncomputable def opD (op:Op):OpW :=
 Op.rec (motive:=fun _=>OpW)
  (fun x _ _ _ L h=>some (L x,h)) (fun x _ _ _ L h=>some (L x,h)) (fun c x y _ _ _ L h=>B32 (L c) (L x) (L y) h)
  (fun e P _ _ _ h=>Ai0 P e h) (fun _ x _ _ _ L h=>Ca6 (L x) h)
  (fun t ps P _ _ L h=>Ah9 P t (ps.toList.map fun p=>(p.1,L p.2)) h) (fun t n ps P _ _ L h=>Zd P t n (ps.toList.map fun p=>(p.1,L p.2)) h)
  (fun _ _ _ _ _ _ _ _ _=>none)
  (fun t x P _ _ L h=>B36 P t (L x) h) (fun t x y P _ _ L h=>Un P t (L x) (L y) h)
  (fun _ _ _ _ _ _=>none) (fun _ _ _ _ _ _=>none)
  (fun x _ _ _ L h=>Bs0 (L x) h)
  (fun op t x y _ P eqT _ L h=>Bs4 P eqT op t (L x) (L y) h) (fun op _ x _ _ _ L h=>xUn op (L x) h) (fun s d x P _ _ L h=>Bd2 P s d h (L x))
  (fun _ _ _ _ _ _ _=>none) (fun _ _ _ _ _ _ _=>none)
  (fun fn first caps _ _ _ L h=>xFn fn first (caps.toList.map L) h) (fun t r P _ _ L h=>Bs1 P t (r.map L) h) (fun _ _ _ _ _ _ _=>none) (fun t n m P _ _ L h=>B34 P t (L n) (L m) h)
  (fun t x lo hi mx P _ _ L h=>Ah3 P t (L x) (lo.map L) (hi.map L) (mx.map L) h)
  (fun t x f P _ _ L h=>Zc P t (L x) f h) (fun t x f P _ _ L h=>Ah5 P t (L x) f h) (fun t x i P _ _ L h=>Zb P t (L x) (L i) h) (fun t x i P _ _ L h=>Ah4 P t (L x) (L i) h)
  (fun t x i ok P _ _ L h=>B35 P t (L x) (L i) ok h) (fun t x i y P _ _ L h=>B33 P t (L x) (L i) (L y) h)
  (fun _ _ _ _ _ _ _ _=>none) (fun _ _ _ _ _ _ _ _ _=>none) (fun _ _ _ _ _ _ _=>none) (fun _ _ _ _ _ _ _=>none) (fun _ _ _ _ _ _=>none) (fun _ _ _ _ _ _ _ _ _=>none)
  (fun x i _ _ _ L h=>Uo (L x) i h) (fun c P _ rec L h=>B38 P rec c L h)
  (fun _ _ _ _ _ _=>none) (fun _ _ _ _ _ _=>none) (fun _ _ _ _ _ _=>none) (fun _ _ _ _ _ _ _=>none) (fun _ _ _ _ _ _ _ _=>none) (fun _ _ _ _ _ _ _=>none) op
section
variable (P : Program) (eqT : Nat -> Bool) (rec : Lt -> GH -> Option (CV × GH))
noncomputable def opC (L:Operand->CV) (h:GH) (o:Oper):Option (CV×GH):=opD o.op P eqT rec L h
noncomputable def Vm (sl:Bg) (n:Nat) (dst:Option Tmp) (x:CV):Option Bg :=
 Option.rec (motive:=fun _=>Option Bg) (some sl) (fun d=>Bool.rec (motive:=fun _=>Option Bg) none (some (sl.set d x)) (Nat.ble (Nat.succ d) n)) dst
noncomputable def Wd (ops:List Oper) (sl:Bg) (j:Nat) (b:Bool):Option Bool :=
 match (ops[j]?).bind (·.dst) with
 | some d=>match sl.get d with
  | some (.v (.bool x))=>some (x==b)
  | some (.v (.tuple _))=>some false
  | _=>none
 | none=>none
noncomputable def Qp (ops:List Oper) (sl:Bg) (o:Oper):Option Bool :=
 Option.rec (motive:=fun _=>Option Bool) (some true) (fun g=>Wd ops sl g.1 g.2) o.guard
noncomputable def goC (ops:List Oper) (n:Nat) (o:Oper) (K:Bg->GH->Option (Bg×GH)) (sl:Bg) (h:GH):Option (Bg×GH) :=
 Option.rec (motive:=fun _=>Option (Bg×GH)) none (fun b=>Bool.rec (motive:=fun _=>Option (Bg×GH))
  (Option.rec (motive:=fun _=>Option (Bg×GH)) none (fun sl'=>K sl' h) (Vm sl n o.dst (.v undef)))
  (Option.rec (motive:=fun _=>Option (Bg×GH)) none (fun r=>Prod.rec (motive:=fun _=>Option (Bg×GH)) (fun x h'=>Option.rec (motive:=fun _=>Option (Bg×GH)) none (fun sl'=>K sl' h') (Vm sl n o.dst x)) r) (opC P eqT rec (evC P sl) h o)) b) (Qp ops sl o)
noncomputable def Bw4 (ops:List Oper) (n:Nat) (l:List Oper):Bg->GH->Option (Bg×GH) :=
 List.rec (motive:=fun _=>Bg->GH->Option (Bg×GH)) (fun sl h=>some (sl,h)) (fun o _ ih=>goC P eqT rec ops n o ih) l
def Bv9 (o:Oper):List Tmp:=o.op.operands.toList.filterMap fun | .tmp u=>some u | _=>none
def Cq7 (ops:List Oper) (A:List Nat):Bool :=
 Rl ops.toArray&&Se (F7 ops)&&(List.range ops.length).all fun i=>match ops[i]? with
  | some o=>(match o.guard with
    | none=>true
    | some (j,_)=>(A.getD i 0).testBit j)&&(List.range ops.length).all fun j=>match (ops[j]?).bind (·.dst) with
   | some d=>!(Bv9 o).contains d || i==j || (A.getD i 0).testBit j || (A.getD j 0).testBit i
   | none=>true
  | none=>false
def Cs (o:Oper):Nat :=
 match o.op with
 | .load _ _=>1
 | .store _ _ _=>2
 | .call { callee:=.builtin .len,args:=_,argTypes:=_ }=>0
 | .call { callee:=.builtin .cap,args:=_,argTypes:=_ }=>0
 | .call { callee:=.builtin .max,args:=_,argTypes:=_ }=>0
 | .call { callee:=.builtin .min,args:=_,argTypes:=_ }=>0
 | .call _=>3
 | .convert _ _ _=>3
 | .lookup _ _ _ _=>3
 | .mapUpdate _ _ _ _=>3
 | _=>0
structure DI where
 o:Oper
 cut:Bool
 an:Nat
 cf:List Nat
 bad:Bool
def Wq (ops:List Oper):Option (List DI) :=
 let A:=bef [] (ops.map Cd)
 let n:=ops.length
 let free (i j:Nat):Bool:=!((A.getD i 0).testBit j || (A.getD j 0).testBit i || i==j)
 bif Cq7 ops A then some (ops.zipIdx.map fun (o,i)=>⟨o,(List.range n).all fun j=>!free i j,A.getD i 0,
  (List.range i).filter fun j=>free i j&&match Cs o,(ops[j]?).map Cs with
   | 1,some 2=>true
   | 2,some 1=>true
   | 2,some 2=>true
   | _,_=>false,
  (List.range n).any fun j=>free i j&&match Cs o,(ops[j]?).map Cs with
   | 3,some 2=>true
   | 2,some 3=>true
   | _,_=>false⟩) else none
def Ql (a:Nat):List Nat->Nat->Nat->List (Nat×Nat)
 | [],_,_=>[]
 | s :: r,j,e=>bif Nat.beq s e || a.testBit j then Ql a r (j - 1) s else (s,e) :: Ql a r (j - 1) s
noncomputable def Mk (L:Operand->CV) (o:Oper):Nat :=
 match o.op with
 | .load _ x=>match L x with
  | .p c _=>c+1
  | _=>0
 | .store _ x _=>match L x with
  | .p c _=>c+1
  | _=>0
 | _=>0
def Bd8 (b i:Nat) (fs:List Nat):List Nat->Bool
 | []=>true
 | j :: r=>!Nat.beq (fs.getD (i - 1 - j) 0) b&&Bd8 b i fs r
noncomputable def Ar8 (h:GH) (b:Nat):Bool :=
 match h.get (b - 1) with
 | some (.cs _ [] _)=>true
 | _=>false
noncomputable def Nr (k b:Nat) (h:GH):TR GB :=
 bif Nat.beq k 3 then h.t else bif Nat.beq k 1&&Nat.blt 0 b then (match h.get (b - 1) with
  | some g=>TR.set .lf (b - 1) g
  | none=>.lf) else .lf
noncomputable def Ba6 (k:Nat) (h r:GH):Option GH :=
 bif Nat.beq k 3 then some (r.dress h.fl h.hid) else bif Nat.beq r.nx h.nx then some h else bif Nat.beq r.nx (Nat.succ h.nx) then (match r.t.get h.nx with
  | some g=>some (h.new g)
  | none=>none) else none
noncomputable def B20 (d:DI) (i:Nat) (ss fs:List Nat) (sl:Bg) (h:GH):Option (CV×GH) :=
 bif d.cut then opC P eqT rec (evC P sl) h d.o
 else bif d.bad || !Bd8 (Mk (evC P sl) d.o) i fs d.cf then none
 else bif Nat.beq (Cs d.o) 2 then (bif Ar8 h (Mk (evC P sl) d.o) then opC P eqT rec (evC P sl) h d.o else none)
 else (opC P eqT rec (evC P sl) ⟨Nr (Cs d.o) (Mk (evC P sl) d.o) h,h.nx,h.nx,Ql d.an ss (i - 1) h.nx++h.hid⟩ d.o).bind fun r=>(Ba6 (Cs d.o) h r.2).map fun h'=>(r.1,h')
noncomputable def Bz7 (ops:List Oper) (n:Nat) (d:DI) (K:Nat->List Nat->List Nat->Bg->GH->Option (Bg×GH)) (i:Nat) (ss fs:List Nat) (sl:Bg) (h:GH):Option (Bg×GH) :=
 match Qp ops sl d.o with
 | some true=>match B20 P eqT rec d i ss fs sl h with
  | some (x,h')=>match Vm sl n d.o.dst x with
   | some sl'=>K (Nat.succ i) (h.nx :: ss) (Mk (evC P sl) d.o :: fs) sl' h'
   | none=>none
  | none=>none
 | some false=>match Vm sl n d.o.dst (.v undef) with
  | some sl'=>K (Nat.succ i) (h.nx :: ss) (0 :: fs) sl' h
  | none=>none
 | none=>none
noncomputable def drC (ops:List Oper) (n:Nat) (l:List DI):Nat->List Nat->List Nat->Bg->GH->Option (Bg×GH) :=
 List.rec (motive:=fun _=>Nat->List Nat->List Nat->Bg->GH->Option (Bg×GH)) (fun _ _ _ sl h=>some (sl,h)) (fun d _ ih=>Bz7 P eqT rec ops n d ih) l
noncomputable def Yv (f:FrS->Option (Ex×FrS)) (n:Nat):FrS->Option (Ex×FrS) :=
 Nat.rec (motive:=fun _=>FrS->Option (Ex×FrS)) (fun _=>none) (fun _ ih s=>match f s with
  | some (.normal,s')=>ih s'
  | r=>r) n
noncomputable def Aa3:List Tmp->List CV->Bg->Nat->Option Bg
 | [],[],sl,_=>some sl
 | p :: ps,x :: xs,sl,n=>bif Nat.blt p n then Aa3 ps xs (sl.set p x) n else none
 | _,_,_,_=>none
noncomputable def Bv8 (draw:Bool) (ops:List Oper) (s:FrS):Option (Ex×FrS) :=
 match draw with
 | false=>(Bw4 P eqT rec ops s.n ops s.sl s.h).map fun r=>(.normal,⟨r.1,s.n,s.ds,r.2⟩)
 | true=>match Wq ops with
  | some l=>(drC P eqT rec ops s.n l 0 [] [] s.sl s.h).map fun r=>(.normal,⟨r.1,s.n,s.ds,r.2⟩)
  | none=>none
def Bv1 (x y:FrS->Option (Ex×FrS)) (s:FrS):Option (Ex×FrS) :=
 match x s with
 | some (.normal,s')=>y s'
 | r=>r
noncomputable def Bd3 (c:Operand) (x y:FrS->Option (Ex×FrS)) (s:FrS):Option (Ex×FrS) :=
 match evC P s.sl c with
 | .v (.bool true)=>x s
 | .v (.bool false)=>y s
 | _=>none
def Aq3 (id:Nat) (x:FrS->Option (Ex×FrS)) (s:FrS):Option (Ex×FrS) :=
 match x s with
 | some (.exit j,s')=>bif Nat.beq j id then some (.normal,s') else some (.exit j,s')
 | r=>r
noncomputable def Bp5 (ro:Option Nat) (s:FrS):Option (Nat×GH×List Nat) :=
 match ro with
 | some l=>match s.h.get l with
  | some (.lp L)=>some (L.d,s.h,s.ds)
  | _=>none
 | none=>some (s.h.nx,s.h.new .df,s.h.nx :: s.ds)
noncomputable def Cp6 (c:Nat) (ds:List Nat) (h:GH) (s:FrS):Option (Ex×FrS) :=
 match h.get c with
 | some (.lp L)=>bif L.st==.busy then none else match h.put c (.lp { L with st:=.exhausted }) with
  | some h3=>match L.pe with
   | none=>some (.normal,{ s with ds:=ds,h:=h3 })
   | some .ret=>some (.ret,{ s with ds:=ds,h:=h3 })
   | some (.exit id)=>some (.exit id,{ s with ds:=ds,h:=h3 })
   | _=>none
  | none=>none
 | _=>none
noncomputable def Al0 (ro:Option Nat) (g:Operand) (ps:List Tmp) (asg bd:Code) (s:FrS):Option (Ex×FrS) :=
 match evC P s.sl g with
 | .f gf caps=>match Bp5 ro s with
  | some (d,h1,ds)=>match rec (.call gf (.y h1.nx :: caps)) (h1.new (.lp ⟨.ready,none,s.sl,s.n,ps,asg,bd,d⟩)) with
   | some (_,h2)=>Cp6 h1.nx ds h2 s
   | none=>none
  | none=>none
 | _=>none
noncomputable def Gs (fu:Nat) (ro:Option Nat) (c:Code):FrS->Option (Ex×FrS) :=
 Code.rec (motive:=fun _=>FrS->Option (Ex×FrS)) (fun s=>some (.normal,s)) (fun _ ops draw=>Bv8 P eqT rec draw ops.toList) (fun _ _ x y=>Bv1 x y) (fun c _ _ x y=>Bd3 P c x y) (fun id _ x=>Aq3 id x) (fun _ x=>Yv x fu)
  (fun g ps asg bd _ _=>Al0 P rec ro g ps.toList asg bd) (fun id s=>some (.exit id,s)) (fun _ x=>x) (fun _ s=>some (.normal,s)) (fun _ _=>none) (fun s=>some (.ret,s)) (fun _ _=>none) c
noncomputable def Bv4 (sl:Bg) (h:GH):ResultVar->Option CV
 | .tmp t=>sl.get t
 | .cell a t=>match tyK P t,sl.get a with
  | some (q,s),some (.p c o)=>(h.cells c).bind (rdC q s o)
  | _,_=>none
noncomputable def Bv3 (sl:Bg) (h:GH) (rs:List ResultVar):Option CV :=
 (rs.mapM (Bv4 P sl h)).map fun l=>match l with
  | [x]=>x
  | l=>.t l
noncomputable def X8:Nat->List CV->Bg->Bg
 | _,[],sl=>sl
 | i,x :: r,sl=>X8 (i+1) r (sl.set i x)
end
noncomputable def A81:List Nat->GH->Option GH
 | [],h=>some h
 | d :: r,h=>match h.get d with
  | some .df=>(h.put d .no).bind (A81 r)
  | _=>none
abbrev Sp:=FuncId->Option (GH->List CV->Option (CV×GH))
noncomputable def Vb (P:Program) (eqT:Nat->Bool) (sp:Sp):Nat->Lt->GH->Option (CV×GH)
 | 0,_,_=>none
 | fu+1,.call f l,h=>match sp f with
  | some g=>g h l
  | none=>match P.funcs[f]? with
  | some fn=>match fn.body with
   | some c => bif fn.name == "runtime.NumGoroutine" || Nat.blt fn.ntmps l.length then none else
    match Gs P eqT (Vb P eqT sp fu) fu none c ⟨X8 0 l .lf,fn.ntmps,[],h⟩ with
    | some (.exit _,_)=>none
    | some (_,s)=>match A81 s.ds s.h with
     | some h'=>(Bv3 P s.sl h' fn.results.toList).map fun x=>(x,h')
     | none=>none
    | none=>none
   | none=>none
  | none=>none
 | fu+1,.round c l,h=>match h.get c with
  | some (.lp L)=>match Aa3 L.ps l L.sl L.n with
   | some sl=>bif L.st==.ready then
    match Gs P eqT (Vb P eqT sp fu) fu (some c) L.asg ⟨sl,L.n,[],h⟩ with
    | some (.normal,s)=>match s.ds,s.h.get c with
     | [],some (.lp L1)=>match (bif L1.st==.ready then s.h.put c (.lp { L1 with st:=.busy }) else none) with
      | some h1=>match Gs P eqT (Vb P eqT sp fu) fu (some c) L.bd ⟨s.sl,L.n,[],h1⟩ with
       | some (e,s2)=>match s2.ds,s2.h.get c with
        | [],some (.lp L2) =>
         let j:Option Code:=match e with
          | .normal=>none
          | .ret=>some .ret
          | .exit id=>some (.exit id)
         (s2.h.put c (.lp { L2 with st:=bif j.isNone then .ready else .done,pe:=j })).map fun h3=>(.v (.bool j.isNone),h3)
        | _,_=>none
       | none=>none
      | none=>none
     | _,_=>none
    | _=>none
    else none
   | none=>none
  | _=>none
section
variable {α : Type}
theorem TR.get_lf (m:Nat):(TR.lf:TR α).get m=none:=rfl
theorem TR.get_0 (x:Option α) (l r:TR α):(TR.nd x l r).get 0=x:=rfl
theorem TR.get_s (x:Option α) (l r:TR α) (m:Nat):(TR.nd x l r).get (m+1)=if m % 2=0 then l.get (m / 2) else r.get (m / 2):=by
 have h:(TR.nd x l r).get (m+1)=Bool.rec (motive:=fun _=>Nat->Option α) r.get l.get (Nat.beq (Nat.mod m 2) 0) (Nat.div m 2):=rfl
 rw [h]
 cases e:Nat.beq (Nat.mod m 2) 0 with
 | true=>rw [if_pos (show m % 2=0 from Nat.eq_of_beq_eq_true e)];rfl
 | false=>rw [if_neg (show ¬ m % 2=0 from Nat.ne_of_beq_eq_false e)];rfl
theorem TR.set_0 (x:Option α) (l r:TR α) (a:α):(TR.nd x l r).set 0 a=.nd (some a) l r:=rfl
theorem TR.set_s (x:Option α) (l r:TR α) (m:Nat) (a:α):(TR.nd x l r).set (m+1) a=if m % 2=0 then .nd x (l.set (m / 2) a) r else .nd x l (r.set (m / 2) a):=by
 have h:(TR.nd x l r).set (m+1) a=Bool.rec (motive:=fun _=>TR α) (.nd x l (r.set (m / 2) a)) (.nd x (l.set (m / 2) a) r) (Nat.beq (Nat.mod m 2) 0):=rfl
 rw [h]
 cases e:Nat.beq (Nat.mod m 2) 0 with
 | true=>rw [if_pos (show m % 2=0 from Nat.eq_of_beq_eq_true e)]
 | false=>rw [if_neg (show ¬ m % 2=0 from Nat.ne_of_beq_eq_false e)]
theorem TR.one_s (k m:Nat) (a:α):TR.one (k+1) (m+1) a=if m % 2=0 then .nd none (TR.one k (m / 2) a) .lf else .nd none .lf (TR.one k (m / 2) a):=by
 show (bif Nat.beq (Nat.mod m 2) 0 then _ else _)=_
 cases e:Nat.beq (Nat.mod m 2) 0 with
 | true=>rw [if_pos (show m % 2=0 from Nat.eq_of_beq_eq_true e)];rfl
 | false=>rw [if_neg (show ¬ m % 2=0 from Nat.ne_of_beq_eq_false e)];rfl
theorem TR.get_one:∀ (k n:Nat) (a:α) (m:Nat),n < k->(TR.one k n a).get m=if m=n then some a else none
 | 0,_,_,_,h=>by omega
 | k+1,0,a,m,_=>by cases m<;>simp [TR.one,TR.get_0,TR.get_s,TR.get_lf]
 | k+1,n+1,a,m,h=>by
  have ih:=TR.get_one k (n / 2) a ((m - 1) / 2) (by omega)
  rw [TR.one_s]
  cases m with
  | zero=>split<;>simp [TR.get_0]
  | succ m =>
   simp only [Nat.add_sub_cancel] at ih
   split<;>simp only [TR.get_s,TR.get_lf,ih]<;>split<;>first | rfl | exact if_congr_iff (by omega) | (rw [if_neg (by omega)])
where if_congr_iff {p q:Prop} [Decidable p] [Decidable q] {β:Type} {x y:β} (h:p↔q):(if p then x else y)=if q then x else y:=by simp only [h]
theorem TR.get_set:∀ (t:TR α) (n:Nat) (a:α) (m:Nat),(t.set n a).get m=if m=n then some a else t.get m
 | .lf,n,a,m=>(TR.get_one (n+1) n a m (Nat.lt_succ_self n)).trans (by rw [TR.get_lf])
 | .nd x l r,0,a,m=>by
  rw [TR.set_0]
  cases m<;>simp [TR.get_0,TR.get_s]
 | .nd x l r,n+1,a,m=>by
  have h1:=TR.get_set l (n / 2) a ((m - 1) / 2)
  have h2:=TR.get_set r (n / 2) a ((m - 1) / 2)
  rw [TR.set_s]
  cases m with
  | zero=>split<;>simp [TR.get_0]
  | succ m =>
   simp only [Nat.add_sub_cancel] at h1 h2
   split<;>simp only [TR.get_s,h1,h2]<;>split<;>first | exact TR.get_one.if_congr_iff (by omega) | (rw [if_neg (by omega)])
end
inductive RC (ok:Nat->Prop) (ρ:Nat->Nat×Nat):CV->Value->Prop
 | v {x:Value} : (∀ a,x≠.agg a)->RC ok ρ (.v x) x
 | p {c o:Nat} : ok c->RC ok ρ (.p c o) (.pointer (some ⟨(ρ c).1,o,none⟩))
 | s {c o n k K e:Nat} : ok c->n<=k->k<=K->K<=maxLen->(e=0->K=k)->(e≠0->o+K*e<=(ρ c).2)->RC ok ρ (.s c o n k e) (.slice (some ⟨(ρ c).1,o,none⟩) n K)
 | z {A:Addr} {K:Nat} : K<=maxLen->RC ok ρ .z (.slice (some A) 0 K)
 | g {l:List CV} {vs:Array Value} : vs.size=l.length->(∀ (j:Nat) x u,l[j]? = some x->vs[j]? = some u->RC ok ρ x u)->(∀ (j:Nat) u,vs[j]? = some u->u.oneCell'=true)->RC ok ρ (.g l) (.agg vs)
 | t {l:List CV} {vs:Array Value} : vs.size=l.length->(∀ (j:Nat) x u,l[j]? = some x->vs[j]? = some u->RC ok ρ x u)->RC ok ρ (.t l) (.tuple vs)
 | f {i:FuncId} {l:List CV} {vs:Array Value} : vs.size=l.length->(∀ (j:Nat) x u,l[j]? = some x->vs[j]? = some u->RC ok ρ x u)->RC ok ρ (.f i l) (.func (.func i) #[] vs)
 | y {c:Nat} : ok c->RC ok ρ (.y c) (.func (.yield (ρ c).1) #[] #[])
 | m {c:Nat} : ok c->RC ok ρ (.m c) (.map (some (ρ c).1))
 | u {u:Value} : RC ok ρ .u u
section
variable {ok ok' : Nat -> Prop} {ρ ρ' : Nat -> Nat × Nat}
theorem RC.ext (h:∀ c,ok c->ok' c/\ρ' c=ρ c) {x:CV} {v:Value} (hx:RC ok ρ x v):RC ok' ρ' x v:=by
 induction hx with
 | v h1=>exact .v h1
 | p h1=>rw [<-(h _ h1).2];exact .p (h _ h1).1
 | s h1 h2 h3 h4 h5 h6=>rw [<-(h _ h1).2] at h6 ⊢;exact .s (h _ h1).1 h2 h3 h4 h5 h6
 | z h1=>exact .z h1
 | g h1 _ h3 ih=>exact .g h1 ih h3
 | t h1 _ ih=>exact .t h1 ih
 | f h1 _ ih=>exact .f h1 ih
 | y h1=>rw [<-(h _ h1).2];exact .y (h _ h1).1
 | m h1=>rw [<-(h _ h1).2];exact .m (h _ h1).1
 | u=>exact .u
theorem RC.ofV (u:Value):RC ok ρ (ofV u) u:=by
 unfold Go.Proofs.YtahgkllhbggmgaaGreatDoor.ofV
 split
 ·rename_i a
  cases e:a.toList.all (·.oneCell') with
  | false=>exact .u
  | true =>
   have hu:∀ (j:Nat) u,a[j]? = some u->u.oneCell'=true:=fun j u h2=>List.all_eq_true.1 e u (by rw [Array.mem_toList_iff];exact Array.mem_of_getElem? h2)
   refine .g (by simp) (fun j x u h1 h2=>?_) hu
   rw [List.getElem?_map,Array.getElem?_toList,h2] at h1
   obtain rfl:=Option.some.inj h1
   have hu:=hu j u h2
   exact .v fun a e=>by subst e;cases hu
 ·rename_i h
  exact .v h
theorem RC.one {x:CV} {u:Value} (h:RC ok ρ x u) (h1:Az4 x=true) (h2:∀ l,x≠.g l):u.oneCell'=true:=by
 cases h with
 | @v u hu=>cases u<;>first | rfl | (exact absurd rfl (hu _)) | cases h1
 | g=>exact absurd rfl (h2 _)
 | t=>cases h1
 | u=>cases h1
 | _=>rfl
theorem RC.cells {x:CV} {u:Value} (h:RC ok ρ x u) (h1:Az4 x=true):u.cells.size=(Gt x).length/\∀ (j:Nat) x' u',(Gt x)[j]? = some x'->u.cells[j]? = some u'->RC ok ρ x' u'/\u'.oneCell'=true:=by
 have one:(∀ l,x≠.g l)->u.cells=#[u]->Gt x=[x]->u.cells.size=(Gt x).length/\∀ (j:Nat) x' u',(Gt x)[j]? = some x'->u.cells[j]? = some u'->RC ok ρ x' u'/\u'.oneCell'=true:=fun h2 h3 h4=>by
  rw [h3,h4]
  refine ⟨rfl,fun j x' u' a b=>?_⟩
  cases j with
  | zero=>simp at a b;subst a b;exact ⟨h,h.one h1 h2⟩
  | succ j=>simp at a
 cases h with
 | @v u hu=>exact one (fun l e=>by cases e) (by cases u<;>first | rfl | exact absurd rfl (hu _)) rfl
 | g a b c=>exact ⟨a,fun j x u p q=>⟨b j x u p q,c j u q⟩⟩
 | t=>cases h1
 | u=>cases h1
 | _=>exact one (fun l e=>by cases e) rfl rfl
end
def SlR (ok:Nat->Prop) (ρ:Nat->Nat×Nat) (sl:Bg) (n:Nat) (tmps:Array Value):Prop:=tmps.size=n/\∀ i,RC ok ρ ((sl.get i).getD (.v undef)) (tmps.getD i undef)
def GB.holds (ok:Nat->Prop) (ρ:Nat->Nat×Nat) (w:World) (a:Nat×Nat):GB->Prop
 | .cs l _ ro=>∃ C t fr,w.heap[a.1]? = some (.cells C t fr)/\(ro=false->fr=(0,0))/\l.length<=C.size/\a.2<=C.size/\∀ (j:Nat) x u,l[j]? = some x->C[j]? = some u->RC ok ρ x u/\u.oneCell'=true
 | .lp L=>∃ fn tmps,w.heap[a.1]? = some (.loop { state:=L.st,pending:=L.pe,fn,tmps,params:=L.ps.toArray,assign:=L.asg,body:=L.bd,defers:=(ρ L.d).1 })/\ok L.d/\SlR ok ρ L.sl L.n tmps
 | .df=>w.heap[a.1]? = some (.deferred (some []))
 | .mp k kv=>∃ es clock,w.heap[a.1]? = some (.map es clock)/\es.toList.map (fun e=>(e.key,e.val))=kv.map fun x=>(.int k x.1,x.2)
 | .no=>True
def GB.live:GB->Bool
 | .no=>false
 | _=>true
def Q2 (c:Nat) (b b':GB):Prop:=(∃ l kin l' kin' ro',b=.cs l kin true/\b'=.cs l' kin' ro'/\c∈kin'/\l.length<=l'.length)\/∃ l kin l' kin',b=.cs l kin true/\b'=.cs l' kin' true
structure Rel (ok:Nat->Prop) (ρ:Nat->Nat×Nat) (get:Nat->Option GB) (fl B:Nat) (w:World):Prop where
 holds:∀ c b,get c=some b->ok c/\b.holds ok ρ w (ρ c)
 apart:∀ c d b b',get c=some b->get d=some b'->b.live=true->b'.live=true->(ρ c).1=(ρ d).1->c=d\/Q2 c b b'\/Q2 d b' b
 low:∀ c b,get c=some b->b.live=true->fl<=c->B<=(ρ c).1
 base:B<=w.heap.size
section
variable {ok ok' : Nat -> Prop} {ρ ρ' : Nat -> Nat × Nat} {get : Nat -> Option GB} {fl B : Nat} {w w' : World}
theorem SlR.ext (h:∀ c,ok c->ok' c/\ρ' c=ρ c) {sl:Bg} {n:Nat} {tmps:Array Value} (hs:SlR ok ρ sl n tmps):SlR ok' ρ' sl n tmps:=⟨hs.1,fun i=>(hs.2 i).ext h⟩
theorem GB.holds.ext (h:∀ c,ok c->ok' c/\ρ' c=ρ c) {b:GB} {a:Nat×Nat} (hb:b.holds ok ρ w a) (hw:b.live=true->w'.heap[a.1]? = w.heap[a.1]?):b.holds ok' ρ' w' a:=by
 cases b with
 | cs l kin ro =>
  obtain ⟨C,t,fr,h1,h2,h3,h5,h4⟩:=hb
  exact ⟨C,t,fr,(hw rfl).trans h1,h2,h3,h5,fun j x u a b=>⟨(h4 j x u a b).1.ext h,(h4 j x u a b).2⟩⟩
 | lp L =>
  obtain ⟨fn,tmps,h1,h2,h3⟩:=hb
  exact ⟨fn,tmps,(hw rfl).trans (by rw [(h _ h2).2];exact h1),(h _ h2).1,h3.ext h⟩
 | df=>exact (hw rfl).trans hb
 | mp k kv=>obtain ⟨es,clock,h1,h2⟩:=hb;exact ⟨es,clock,(hw rfl).trans h1,h2⟩
 | no=>trivial
theorem GB.holds.lt {b:GB} {a:Nat×Nat} (hb:b.holds ok ρ w a) (hl:b.live=true):a.1 < w.heap.size:=by
 cases b with
 | cs=>obtain ⟨C,t,fr,h1,_⟩:=hb;exact (Array.getElem?_eq_some_iff.1 h1).1
 | lp L=>obtain ⟨fn,tmps,h1,_⟩:=hb;exact (Array.getElem?_eq_some_iff.1 h1).1
 | df=>exact (Array.getElem?_eq_some_iff.1 hb).1
 | mp=>obtain ⟨es,clock,h1,_⟩:=hb;exact (Array.getElem?_eq_some_iff.1 h1).1
 | no=>cases hl
end
def okH (h:GH) (c:Nat):Prop:=c < h.nx/\Df h.hid c=false
structure SR (ρ:Nat->Nat×Nat) (h:GH) (B:Nat) (w:World):Prop where
 rel:Rel (okH h) ρ h.get h.fl B w
 fl:h.fl<=h.nx
 hid:∀ c,h.fl<=c->Df h.hid c=false
structure HLe (h h':GH):Prop where
 nx:h.nx<=h'.nx
 fl:h'.fl=h.fl
 hid:h'.hid=h.hid
 old:∀ c,c < h.fl->h'.t.get c=h.t.get c
theorem HLe.refl (h:GH):HLe h h:=⟨Nat.le_refl _,rfl,rfl,fun _ _=>rfl⟩
theorem HLe.trans {a b c:GH} (h:HLe a b) (k:HLe b c):HLe a c:=⟨Nat.le_trans h.nx k.nx,k.fl.trans h.fl,k.hid.trans h.hid,fun x hx=>(k.old x (by rw [h.fl];exact hx)).trans (h.old x hx)⟩
theorem HLe.ok {h h':GH} (hl:HLe h h') {c:Nat} (hc:okH h c):okH h' c:=⟨Nat.lt_of_lt_of_le hc.1 hl.nx,by rw [hl.hid];exact hc.2⟩
structure D5 (ρ:Nat->Nat×Nat) (h h':GH) (B:Nat) (w w':World) (ρ':Nat->Nat×Nat):Prop where
 le:HLe h h'
 same:∀ c,c < h.nx->ρ' c=ρ c
 sr:SR ρ' h' B w'
 low:Below B w w'
section
variable {ρ ρ' ρ'' : Nat -> Nat × Nat} {h h' h'' : GH} {B : Nat} {w w' w'' : World}
theorem D5.ext (p:D5 ρ h h' B w w' ρ'):∀ c,okH h c->okH h' c/\ρ' c=ρ c:=fun c hc=>⟨p.le.ok hc,p.same c hc.1⟩
theorem D5.refl (s:SR ρ h B w):D5 ρ h h B w w ρ:=⟨HLe.refl _,fun _ _=>rfl,s,Below.refl _ _⟩
theorem D5.trans (p:D5 ρ h h' B w w' ρ') (q:D5 ρ' h' h'' B w' w'' ρ''):D5 ρ h h'' B w w'' ρ'' :=
 ⟨p.le.trans q.le,fun c hc=>(q.same c (Nat.lt_of_lt_of_le hc p.le.nx)).trans (p.same c hc),q.sr,p.low.trans q.low⟩
theorem GH.get_eq (h:GH) (c:Nat):h.get c=bif Df h.hid c then none else h.t.get c:=by
 obtain ⟨t,nx,fl,hid⟩:=h
 cases hid<;>rfl
theorem GH.get_some {c:Nat} {b:GB} (e:h.get c=some b):Df h.hid c=false/\h.t.get c=some b:=by
 rw [GH.get_eq] at e
 cases hh:Df h.hid c with
 | true=>rw [hh] at e;cases e
 | false=>rw [hh] at e;exact ⟨rfl,e⟩
theorem GH.get_of {c:Nat} {b:GB} (h1:Df h.hid c=false) (h2:h.t.get c=some b):h.get c=some b:=by
 rw [GH.get_eq,h1];exact h2
theorem SR.holds (s:SR ρ h B w) {c:Nat} {b:GB} (e:h.get c=some b):b.holds (okH h) ρ w (ρ c):=(s.rel.holds c b e).2
theorem SR.ok (s:SR ρ h B w) {c:Nat} {b:GB} (e:h.get c=some b):okH h c:=(s.rel.holds c b e).1
theorem G7 (s:SR ρ h B w) (b:GB):okH (h.new b) h.nx:=⟨Nat.lt_succ_self _,s.hid _ s.fl⟩
theorem Uc {c:Nat} {b b':GB} (e:(h.new b).get c=some b'):Df h.hid c=false/\((c=h.nx/\b'=b)\/(c≠h.nx/\h.get c=some b')):=by
 obtain ⟨h1,h2⟩:=GH.get_some e
 refine ⟨h1,?_⟩
 have h2:(h.t.set h.nx b).get c=some b':=h2
 rw [TR.get_set] at h2
 split at h2
 ·rename_i hc;exact .inl ⟨hc,(Option.some.inj h2).symm⟩
 ·rename_i hc;exact .inr ⟨hc,GH.get_of h1 h2⟩
theorem Bk4 (s:SR ρ h B w) (b:GB):HLe h (h.new b):=⟨Nat.le_succ _,rfl,rfl,fun c hc=>by
 show (h.t.set h.nx b).get c=_
 rw [TR.get_set,if_neg (by have:=s.fl;omega)]⟩
theorem SR.name (s:SR ρ h B w) {b:GB} {g:Nat×Nat} (hlow:Below B w w') (hg:B<=g.1)
  (hold:∀ c b',h.get c=some b'->b'.live=true->(w'.heap[(ρ c).1]? = w.heap[(ρ c).1]? /\ (ρ c).1≠g.1)\/(b'.holds (okH h) ρ w' (ρ c)/\Q2 c b' b))
  (hb:∀ ρ',ρ' h.nx=g->(∀ c,okH h c->okH (h.new b) c/\ρ' c=ρ c)->okH (h.new b) h.nx->b.holds (okH (h.new b)) ρ' w' g):∃ ρ',ρ' h.nx=g/\D5 ρ h (h.new b) B w w' ρ':=by
 let ρ':Nat->Nat×Nat:=fun c=>if c=h.nx then g else ρ c
 have e0:ρ' h.nx=g:=by simp [ρ']
 have e1:∀ c,c < h.nx->ρ' c=ρ c:=fun c hc=>by simp [ρ',show ¬ c=h.nx by omega]
 have hle:=Bk4 s b
 have hx:∀ c,okH h c->okH (h.new b) c/\ρ' c=ρ c:=fun c hc=>⟨hle.ok hc,e1 c hc.1⟩
 refine ⟨ρ',e0,hle,e1,⟨⟨fun c b' e=>?_,fun c d b1 b2 q1 q2 l1 l2 hr=>?_,fun c b' q l hc=>?_,Nat.le_trans s.rel.base hlow.size⟩,Nat.le_trans s.fl (Nat.le_succ _),s.hid⟩,hlow⟩
 ·obtain ⟨_,⟨rfl,rfl⟩ | ⟨hc,q⟩⟩:=Uc e
  ·exact ⟨G7 s _,by rw [e0];exact hb ρ' e0 hx (G7 s _)⟩
  ·refine ⟨hle.ok (s.ok q),?_⟩
   rw [e1 c (s.ok q).1]
   cases hl:b'.live with
   | false=>exact (s.holds q).ext hx fun e=>by rw [hl] at e;cases e
   | true =>
    rcases hold c b' q hl with ⟨h1,_⟩ | ⟨h1,_⟩
    ·exact (s.holds q).ext hx fun _=>h1
    ·exact h1.ext hx fun _=>rfl
 ·obtain ⟨_,⟨ec,eb⟩ | ⟨hc,p1⟩⟩:=Uc q1<;>obtain ⟨_,⟨ed,eb2⟩ | ⟨hd,p2⟩⟩:=Uc q2
  ·exact .inl (ec.trans ed.symm)
  ·rw [ec,e0,e1 d (s.ok p2).1] at hr
   rcases hold d b2 p2 l2 with ⟨_,h1⟩ | ⟨_,h1⟩
   ·exact absurd hr.symm h1
   ·exact .inr (.inr (eb ▸ h1))
  ·rw [ed,e0,e1 c (s.ok p1).1] at hr
   rcases hold c b1 p1 l1 with ⟨_,h1⟩ | ⟨_,h1⟩
   ·exact absurd hr h1
   ·exact .inr (.inl (eb2 ▸ h1))
  ·rw [e1 c (s.ok p1).1,e1 d (s.ok p2).1] at hr
   exact s.rel.apart c d b1 b2 p1 p2 l1 l2 hr
 ·obtain ⟨_,⟨rfl,rfl⟩ | ⟨_,q⟩⟩:=Uc q
  ·rw [e0];exact hg
  ·rw [e1 c (s.ok q).1];exact s.rel.low c b' q l hc
theorem SR.new (s:SR ρ h B w) {b:GB} {g:Nat×Nat} (hb0:Below w.heap.size w w') (hg:g.1=w.heap.size)
  (hb:∀ ρ',ρ' h.nx=g->(∀ c,okH h c->okH (h.new b) c/\ρ' c=ρ c)->okH (h.new b) h.nx->b.holds (okH (h.new b)) ρ' w' g):∃ ρ',ρ' h.nx=g/\D5 ρ h (h.new b) B w w' ρ' :=
 s.name (hb0.mono s.rel.base) (by rw [hg];exact s.rel.base) (fun c b' q l=>.inl ⟨hb0.block _ ((s.holds q).lt l),by have:=(s.holds q).lt l;omega⟩) hb
theorem SR.turn (s:SR ρ h B w) {c:Nat} {b0 b:GB} {kin:List Nat} {t':TR GB} (hc:h.get c=some b0) (hl0:b0.live=true) (hf:h.fl<=c) (hk:∀ k∈kin,h.fl<=k/\okH h k)
  (ht:∀ d,t'.get d=if d=c then some b else if d∈kin then some .no else h.t.get d)
  (hel:∀ d b',h.get d=some b'->b'.live=true->(ρ d).1=(ρ c).1->d=c\/d∈kin)
  (hsz:w.heap.size<=w'.heap.size) (ho:w'.os=w.os/\w'.tape=w.tape/\w'.output=w.output) (hw:∀ g,g≠(ρ c).1->w'.heap[g]? = w.heap[g]?)
  (hb:b.holds (okH h) ρ w' (ρ c)):D5 ρ h ⟨t',h.nx,h.fl,h.hid⟩ B w w' ρ:=by
 have hB:=s.rel.low c b0 hc hl0 hf
 have hget:∀ {d b'},(⟨t',h.nx,h.fl,h.hid⟩ : GH).get d=some b'->Df h.hid d=false/\((d=c/\b'=b)\/(d≠c/\d∈kin/\b'=.no)\/(d≠c/\d∉kin/\h.get d=some b')):=fun {d b'} e=>by
  obtain ⟨h1,h2⟩:=GH.get_some e
  refine ⟨h1,?_⟩
  have h2:t'.get d=some b':=h2
  rw [ht] at h2
  split at h2
  ·rename_i e;exact .inl ⟨e,(Option.some.inj h2).symm⟩
  ·rename_i e
   split at h2
   ·rename_i e2;exact .inr (.inl ⟨e,e2,(Option.some.inj h2).symm⟩)
   ·rename_i e2;exact .inr (.inr ⟨e,e2,GH.get_of h1 h2⟩)
 refine ⟨⟨Nat.le_refl _,rfl,rfl,fun d hd=>?_⟩,fun _ _=>rfl,⟨⟨fun d b' e=>?_,fun d1 d2 b1 b2 q1 q2 l1 l2 hr=>?_,fun d b' q l hd=>?_,Nat.le_trans s.rel.base hsz⟩,s.fl,s.hid⟩,⟨ho.1,ho.2.1,ho.2.2,hsz,fun g hg=>hw g (by omega)⟩⟩
 ·show t'.get d=_
  rw [ht,if_neg (by omega),if_neg (fun hm=>by have:=(hk d hm).1;omega)]
 ·obtain ⟨_,⟨rfl,rfl⟩ | ⟨_,h1,rfl⟩ | ⟨h1,h2,q⟩⟩:=hget e
  ·exact ⟨s.ok hc,hb⟩
  ·exact ⟨(hk d h1).2,trivial⟩
  ·refine ⟨s.ok q,(s.holds q).ext (fun _ h=>⟨h,rfl⟩) fun hl=>hw _ fun e=>?_⟩
   rcases hel d b' q hl e with h | h
   ·exact h1 h
   ·exact h2 h
 ·obtain ⟨_,⟨rfl,rfl⟩ | ⟨_,_,rfl⟩ | ⟨h1,h2,q1⟩⟩:=hget q1<;>(try cases l1)<;>obtain ⟨_,⟨rfl,rfl⟩ | ⟨_,_,rfl⟩ | ⟨h3,h4,q2⟩⟩:=hget q2<;>(try cases l2)
  ·exact .inl rfl
  ·rcases hel d2 b2 q2 l2 hr.symm with h | h
   ·exact absurd h h3
   ·exact absurd h h4
  ·rcases hel d1 b1 q1 l1 hr with h | h
   ·exact absurd h h1
   ·exact absurd h h2
  ·exact s.rel.apart d1 d2 b1 b2 q1 q2 l1 l2 hr
 ·obtain ⟨_,⟨rfl,rfl⟩ | ⟨_,_,rfl⟩ | ⟨_,_,q⟩⟩:=hget q
  ·exact hB
  ·cases l
  ·exact s.rel.low d b' q l hd
theorem Ae1 {d:Nat} : ∀ (kin:List Nat) (t:TR GB),(gone kin t).get d=if d∈kin then some .no else t.get d
 | [],t=>by simp [gone]
 | k :: r,t=>by
  rw [gone,Ae1 r,TR.get_set]
  by_cases h1:d∈r<;>by_cases h2:d=k<;>simp [h1,h2]
theorem GH.wr_some {c:Nat} {l':List CV} (e:h.wr c l'=some h'):∃ l kin,h.get c=some (.cs l kin false)/\h.fl<=c/\(∀ k∈kin,h.fl<=k/\k < h.nx)/\h'=⟨(gone kin h.t).set c (.cs l' [] false),h.nx,h.fl,h.hid⟩:=by
 unfold GH.wr at e
 split at e
 ·rename_i l kin hc
  have e:(bif Nat.ble h.fl c&&kin.all (fun k=>Nat.ble h.fl k&&Nat.blt k h.nx) then some (⟨(gone kin h.t).set c (.cs l' [] false),h.nx,h.fl,h.hid⟩ : GH) else none)=some h':=e
  generalize hq:(Nat.ble h.fl c&&kin.all fun k=>Nat.ble h.fl k&&Nat.blt k h.nx)=q at e
  cases q with
  | false=>cases e
  | true =>
   simp only [Bool.and_eq_true,List.all_eq_true] at hq
   exact ⟨l,kin,hc,Nat.le_of_ble_eq_true hq.1,fun k hk=>⟨Nat.le_of_ble_eq_true (hq.2 k hk).1,Bk.1 (hq.2 k hk).2⟩,(Option.some.inj e).symm⟩
 ·cases e
theorem SR.wr (s:SR ρ h B w) {c:Nat} {l':List CV} (e:h.wr c l'=some h'):∃ l kin,h.get c=some (.cs l kin false)/\B<=(ρ c).1/\(okH h'=okH h)/\∀ (w':World) (C':Array Value) (t:TypeId),l'.length<=C'.size->(ρ c).2<=C'.size->(∀ (j:Nat) x u,l'[j]? = some x->C'[j]? = some u->RC (okH h) ρ x u/\u.oneCell'=true) ->
  w'.heap[(ρ c).1]? = some (.cells C' t (0,0))->w.heap.size<=w'.heap.size->(w'.os=w.os/\w'.tape=w.tape/\w'.output=w.output)->(∀ g,g≠(ρ c).1->w'.heap[g]? = w.heap[g]?)->D5 ρ h h' B w w' ρ:=by
 obtain ⟨l,kin,hc,hf,hq,rfl⟩:=GH.wr_some e
 refine ⟨l,kin,hc,s.rel.low c _ hc rfl hf,rfl,fun w' C' t h1 h2 h3 h4 h5 h6 h7=>s.turn hc rfl hf (kin:=kin) (b:=.cs l' [] false) (t':=(gone kin h.t).set c (.cs l' [] false)) (fun k hk=>⟨(hq k hk).1,(hq k hk).2,s.hid k (hq k hk).1⟩) (fun d=>by rw [TR.get_set,Ae1]) (fun d b' q l hr=>?_) h5 h6 h7 ⟨C',t,(0,0),h4,fun _=>rfl,h1,h2,h3⟩⟩
 rcases s.rel.apart d c b' _ q hc l rfl hr with h | (⟨_,_,_,_,_,_,h,h',_⟩ | ⟨_,_,_,_,_,h⟩) | (⟨_,_,_,_,_,h,_⟩ | ⟨_,_,_,_,h,_⟩)
 ·exact .inl h
 ·cases h;exact .inr h'
 ·cases h
 ·cases h
 ·cases h
theorem GH.put_some {c:Nat} {b:GB} (e:h.put c b=some h'):h.fl<=c/\h'=⟨h.t.set c b,h.nx,h.fl,h.hid⟩:=by
 have e:(bif Nat.ble h.fl c then some (⟨h.t.set c b,h.nx,h.fl,h.hid⟩ : GH) else none)=some h':=e
 generalize hq:Nat.ble h.fl c=q at e
 cases q with
 | false=>cases e
 | true=>exact ⟨Nat.le_of_ble_eq_true hq,(Option.some.inj e).symm⟩
theorem SR.put (s:SR ρ h B w) {c:Nat} {b0 b:GB} (e:h.put c b=some h') (hc:h.get c=some b0) (h0:∀ l kin ro,b0≠.cs l kin ro) (hl0:b0.live=true)
  (hsz:w.heap.size<=w'.heap.size) (ho:w'.os=w.os/\w'.tape=w.tape/\w'.output=w.output) (hw:∀ g,g≠(ρ c).1->w'.heap[g]? = w.heap[g]?) (hb:b.holds (okH h) ρ w' (ρ c)):D5 ρ h h' B w w' ρ:=by
 obtain ⟨hf,rfl⟩:=GH.put_some e
 refine s.turn hc hl0 hf (kin:=[]) (b:=b) (t':=h.t.set c b) (fun k hk=>by cases hk) (fun d=>by rw [TR.get_set];simp) (fun d b' q l hr=>?_) hsz ho hw hb
 rcases s.rel.apart d c b' _ q hc l hl0 hr with h | (⟨_,_,_,_,_,_,h,_⟩ | ⟨_,_,_,_,_,h⟩) | (⟨_,_,_,_,_,h,_⟩ | ⟨_,_,_,_,h,_⟩)
 ·exact .inl h
 ·exact absurd h (h0 _ _ _)
 ·exact absurd h (h0 _ _ _)
 ·exact absurd h (h0 _ _ _)
 ·exact absurd h (h0 _ _ _)
theorem SR.shut (s:SR ρ h B w) {c:Nat} {l:List CV} {kin:List Nat} {ro:Bool} (hc:h.get c=some (.cs l kin ro)) (hf:h.fl<=c):D5 ρ h ⟨h.t.set c (.cs l kin true),h.nx,h.fl,h.hid⟩ B w w ρ:=by
 have hget:∀ {d b'},(⟨h.t.set c (.cs l kin true),h.nx,h.fl,h.hid⟩ : GH).get d=some b'->Df h.hid d=false/\((d=c/\b'=.cs l kin true)\/(d≠c/\h.get d=some b')):=fun {d b'} e=>by
  obtain ⟨h1,h2⟩:=GH.get_some e
  refine ⟨h1,?_⟩
  have h2:(h.t.set c (.cs l kin true)).get d=some b':=h2
  rw [TR.get_set] at h2
  split at h2
  ·rename_i e;exact .inl ⟨e,(Option.some.inj h2).symm⟩
  ·rename_i e;exact .inr ⟨e,GH.get_of h1 h2⟩
 have old:∀ {d b'},(⟨h.t.set c (.cs l kin true),h.nx,h.fl,h.hid⟩ : GH).get d=some b'->∃ b0,h.get d=some b0/\b0.live=b'.live/\(b0=b'\/∃ r,b0=.cs l kin r/\b'=.cs l kin true):=fun {d b'} e=>by
  rcases (hget e).2 with ⟨rfl,rfl⟩ | ⟨_,q⟩
  ·exact ⟨_,hc,rfl,.inr ⟨_,rfl,rfl⟩⟩
  ·exact ⟨_,q,rfl,.inl rfl⟩
 have eld:∀ {d:Nat} {b1 b2 b1' b2':GB},Q2 d b1 b2->(b1=b1'\/∃ r,b1=.cs l kin r/\b1'=.cs l kin true)->(b2=b2'\/∃ r,b2=.cs l kin r/\b2'=.cs l kin true)->Q2 d b1' b2':=by
  rintro d b1 b2 b1' b2' (⟨l1,k1,l2,k2,r2,rfl,rfl,h1,h2⟩ | ⟨l1,k1,l2,k2,rfl,rfl⟩) (rfl | ⟨_,e1,rfl⟩) (rfl | ⟨_,e2,rfl⟩)
  ·exact .inl ⟨_,_,_,_,_,rfl,rfl,h1,h2⟩
  ·cases e2;exact .inl ⟨_,_,_,_,_,rfl,rfl,h1,h2⟩
  ·cases e1;exact .inl ⟨_,_,_,_,_,rfl,rfl,h1,h2⟩
  ·cases e1;cases e2;exact .inl ⟨_,_,_,_,_,rfl,rfl,h1,h2⟩
  ·exact .inr ⟨_,_,_,_,rfl,rfl⟩
  ·exact .inr ⟨_,_,_,_,rfl,rfl⟩
  ·exact .inr ⟨_,_,_,_,rfl,rfl⟩
  ·exact .inr ⟨_,_,_,_,rfl,rfl⟩
 refine ⟨⟨Nat.le_refl _,rfl,rfl,fun d hd=>?_⟩,fun _ _=>rfl,⟨⟨fun d b' e=>?_,fun d1 d2 b1 b2 q1 q2 l1 l2 hr=>?_,fun d b' q l hd=>?_,s.rel.base⟩,s.fl,s.hid⟩,Below.refl _ _⟩
 ·show (h.t.set c _).get d=_
  rw [TR.get_set,if_neg (by omega)]
 ·rcases (hget e).2 with ⟨rfl,rfl⟩ | ⟨_,q⟩
  ·refine ⟨s.ok hc,?_⟩
   obtain ⟨C,t,fr,h1,_,h3⟩:=s.holds hc
   exact ⟨C,t,fr,h1,(fun e=>by cases e),h3⟩
  ·exact ⟨s.ok q,s.holds q⟩
 ·obtain ⟨p1,r1,t1,u1⟩:=old q1
  obtain ⟨p2,r2,t2,u2⟩:=old q2
  rcases s.rel.apart d1 d2 p1 p2 r1 r2 (t1.trans l1) (t2.trans l2) hr with h | h | h
  ·exact .inl h
  ·exact .inr (.inl (eld h u1 u2))
  ·exact .inr (.inr (eld h u2 u1))
 ·obtain ⟨p,r,t,_⟩:=old q
  exact s.rel.low d p r (t.trans l) hd
end
section
variable {ok : Nat -> Prop} {ρ : Nat -> Nat × Nat} {u : Value}
theorem RC.p_inv {c o:Nat} (h:RC ok ρ (.p c o) u):u=.pointer (some ⟨(ρ c).1,o,none⟩)/\ok c:=by cases h;exact ⟨rfl,by assumption⟩
theorem RC.v_inv {v:Value} (h:RC ok ρ (.v v) u):u=v:=by cases h;rfl
theorem RC.g_inv {l:List CV} (h:RC ok ρ (.g l) u):∃ vs:Array Value,u=.agg vs/\vs.size=l.length/\∀ (j:Nat) x u,l[j]? = some x->vs[j]? = some u->RC ok ρ x u/\u.oneCell'=true:=by cases h with | g a b c=>exact ⟨_,rfl,a,fun j x u p q=>⟨b j x u p q,c j u q⟩⟩
theorem RC.m_inv {c:Nat} (h:RC ok ρ (.m c) u):u=.map (some (ρ c).1)/\ok c:=by cases h;exact ⟨rfl,by assumption⟩
theorem RC.int {k:IntKind} {n:Int} : RC ok ρ (.v (.int k n)) (.int k n):=.v fun _ e=>by cases e
theorem RC.bool {b:Bool} : RC ok ρ (.v (.bool b)) (.bool b):=.v fun _ e=>by cases e
theorem RC.str {b:ByteArray} : RC ok ρ (.v (.string b)) (.string b):=.v fun _ e=>by cases e
theorem RC.undef:RC ok ρ (.v undef) undef:=.v fun _ e=>by cases e
end
theorem A13:∀ (l:List CV) (n:Nat),Bw6 l n=l[n]?
 | [],_=>rfl
 | _ :: _,0=>rfl
 | x :: l,n+1=>(A13 l n).trans (by simp)
theorem Lp:∀ (l:List CV) (n:Nat),Z5 l n=l.drop n
 | [],n=>by simp [Z5]
 | _ :: _,0=>rfl
 | x :: l,n+1=>(Lp l n).trans (by simp)
theorem Eb:∀ {n:Nat} {l m:List CV},Qw l n=some m->m=l.take n/\n<=l.length
 | 0,l,m,h=>by cases l<;>(cases h;simp)
 | n+1,[],m,h=>by cases h
 | n+1,x :: l,m,h=>by
  have h:Option.rec (motive:=fun _=>Option (List CV)) none (fun r=>some (x :: r)) (Qw l n)=some m:=h
  cases e:Qw l n with
  | none=>rw [e] at h;cases h
  | some m' =>
   rw [e] at h
   obtain ⟨rfl,h2⟩:=Eb e
   cases h
   exact ⟨by simp,by simpa using h2⟩
theorem Vo:∀ {l m l':List CV},ovC l m=some l'->m.length<=l.length/\l'=m++l.drop m.length
 | [],[],l',h=>by cases h;simp
 | [],_ :: _,_,h=>by cases h
 | x :: l,[],l',h=>by cases h;simp
 | x :: l,y :: m,l',h=>by
  have h:Option.rec (motive:=fun _=>Option (List CV)) none (fun r=>some (y :: r)) (ovC l m)=some l':=h
  cases e:ovC l m with
  | none=>rw [e] at h;cases h
  | some r =>
   rw [e] at h
   obtain ⟨h1,rfl⟩:=Vo e
   cases h
   exact ⟨by simpa using h1,by simp⟩
theorem H7:∀ {l:List CV} {o:Nat} {m l':List CV},A83 l o m=some l'->o+m.length<=l.length/\l'=l.take o++m++l.drop (o+m.length)
 | [],0,m,l',h=>by
  obtain ⟨h1,rfl⟩:=Vo (l:=[]) h
  exact ⟨by simpa using h1,by simp⟩
 | [],o+1,m,l',h=>by cases h
 | x :: l,0,m,l',h=>by
  obtain ⟨h1,rfl⟩:=Vo (l:=x :: l) h
  exact ⟨by simpa using h1,by simp⟩
 | x :: l,o+1,m,l',h=>by
  have h:Option.rec (motive:=fun _=>Option (List CV)) none (fun r=>some (x :: r)) (A83 l o m)=some l':=h
  cases e:A83 l o m with
  | none=>rw [e] at h;cases h
  | some r =>
   rw [e] at h
   obtain ⟨h1,rfl⟩:=H7 e
   cases h
   exact ⟨by simp;omega,by rw [show o+1+m.length=(o+m.length)+1 by omega];simp⟩
theorem B07 {x:CV} {n:Int} (h:Bx4 x=some n):∃ k,x=.v (.int k n):=by
 unfold Bx4 at h
 split at h
 ·obtain rfl:=Option.some.inj h;exact ⟨_,rfl⟩
 ·cases h
theorem B01 {x:CV} {n:Nat} (h:Qf x=some n):∃ k,x=.v (.int k (n:Nat)):=by
 unfold Qf at h
 split at h
 ·rename_i m hm
  obtain rfl:=Option.some.inj h
  exact B07 hm
 ·cases h
theorem Bj {α:Type} {b:Bool} {x y:α} (h:(bif b then some x else none)=some y):b=true/\x=y:=by
 cases b with
 | true=>exact ⟨rfl,Option.some.inj h⟩
 | false=>cases h
theorem Cw {α:Type} {b:Bool} {x:Option α} {y:α} (h:(bif b then x else none)=some y):b=true/\x=some y:=by
 cases b with
 | true=>exact ⟨rfl,h⟩
 | false=>cases h
section
variable {ρ : Nat -> Nat × Nat} {h h' : GH} {B : Nat} {w w' : World}
theorem GH.cells_some {c:Nat} {l:List CV} (e:h.cells c=some l):∃ kin ro,h.get c=some (.cs l kin ro):=by
 unfold GH.cells at e
 split at e
 ·rename_i l' kin ro hg
  obtain rfl:=Option.some.inj e
  exact ⟨kin,ro,hg⟩
 ·cases e
theorem SR.cell (s:SR ρ h B w) {c:Nat} {l:List CV} (e:h.cells c=some l):∃ f:Nat->Value,∀ (j:Nat) x,l[j]? = some x->w.cell? ⟨(ρ c).1,j,none⟩=some (f j)/\RC (okH h) ρ x (f j)/\(f j).oneCell'=true:=by
 obtain ⟨kin,ro,hg⟩:=GH.cells_some e
 obtain ⟨C,t,fr,h1,_,h3,_,h4⟩:=s.holds hg
 refine ⟨fun j=>(C[j]?).getD undef,fun j x hx=>?_⟩
 have hj:j < C.size:=Nat.lt_of_lt_of_le (List.getElem?_eq_some_iff.1 hx).1 h3
 have hC:=Array.getElem?_eq_getElem hj
 have:=h4 j x _ hx hC
 refine ⟨?_,by simp only [hC,Option.getD_some];exact this⟩
 simp [World.cell?,h1,hC]
theorem RC.gof {ok:Nat->Prop} {m:List CV} {f:Nat->Value} (hm:∀ (j:Nat) x,m[j]? = some x->RC ok ρ x (f j)/\(f j).oneCell'=true):RC ok ρ (.g m) (.agg ((List.range m.length).map f).toArray):=by
 have key:∀ (j:Nat) x u,m[j]? = some x->((List.range m.length).map f).toArray[j]? = some u->u=f j:=fun j x u h1 h2=>by
  have hj:=(List.getElem?_eq_some_iff.1 h1).1
  have h2:((List.range m.length).map f)[j]? = some u:=by simpa using h2
  rw [List.getElem?_map,List.getElem?_range hj] at h2
  exact (Option.some.inj h2).symm
 refine .g (by simp) (fun j x u h1 h2=>by rw [key j x u h1 h2];exact (hm j x h1).1) fun j u h2=>?_
 have hj:j < m.length:=by have:=(Array.getElem?_eq_some_iff.1 h2).1;simpa using this
 have h1:=List.getElem?_eq_getElem hj
 rw [key j _ u h1 h2];exact (hm j _ h1).2
end
def RCs (ok:Nat->Prop) (ρ:Nat->Nat×Nat) (l:List CV) (vs:List Value):Prop:=l.length=vs.length/\∀ (j:Nat) x u,l[j]? = some x->vs[j]? = some u->RC ok ρ x u/\u.oneCell'=true
section
variable {ok ok' : Nat -> Prop} {ρ ρ' : Nat -> Nat × Nat}
theorem RCs.append {l m:List CV} {vs us:List Value} (h:RCs ok ρ l vs) (k:RCs ok ρ m us):RCs ok ρ (l++m) (vs++us):=by
 refine ⟨by simp [h.1,k.1],fun j x u a b=>?_⟩
 by_cases hj:j < l.length
 ·rw [List.getElem?_append_left hj] at a
  rw [List.getElem?_append_left (by rw [<-h.1];exact hj)] at b
  exact h.2 j x u a b
 ·rw [List.getElem?_append_right (by omega)] at a
  rw [List.getElem?_append_right (by rw [<-h.1];omega),<-h.1] at b
  exact k.2 _ x u a b
theorem RCs.one {l:List CV} {vs:List Value} (h:RCs ok ρ l vs):∀ v∈vs,v.oneCell'=true:=fun v hv=>by
 obtain ⟨j,hj⟩:=List.mem_iff_getElem?.1 hv
 have hlt:=(List.getElem?_eq_some_iff.1 hj).1
 rw [<-h.1] at hlt
 exact (h.2 j _ v (List.getElem?_eq_getElem hlt) hj).2
theorem RCs.nil:RCs ok ρ [] []:=⟨rfl,fun j x u a=>by simp at a⟩
theorem RCs.zeros {zs:List Value} (h1:∀ v∈zs,v.oneCell'=true):RCs ok ρ (zs.map .v) zs:=by
 refine ⟨by simp,fun j x u a b=>?_⟩
 rw [List.getElem?_map,b] at a
 obtain rfl:=Option.some.inj a
 have:=h1 u (List.mem_of_getElem? b)
 exact ⟨.v (fun a e=>by subst e;cases this),this⟩
theorem RCs.put {l m:List CV} {C vs:List Value} {o:Nat} (h:∀ (j:Nat) x u,l[j]? = some x->C[j]? = some u->RC ok ρ x u/\u.oneCell'=true) (hm:RCs ok ρ m vs) (ho:o<=l.length) (hC:l.length<=C.length) (hv:o+vs.length<=C.length) :
  (l.take o++m++l.drop (o+m.length)).length<=(C.take o++vs++C.drop (o+vs.length)).length/\∀ (j:Nat) x u,(l.take o++m++l.drop (o+m.length))[j]? = some x->(C.take o++vs++C.drop (o+vs.length))[j]? = some u->RC ok ρ x u/\u.oneCell'=true:=by
 have h0:=hm.1
 have h1:(l.take o).length=o:=by rw [List.length_take];exact Nat.min_eq_left ho
 have h2:(C.take o).length=o:=by rw [List.length_take];exact Nat.min_eq_left (by omega)
 refine ⟨by simp only [List.length_append,h1,h2,List.length_drop];omega,fun j x u a b=>?_⟩
 by_cases j1:j < o
 ·rw [List.append_assoc,List.getElem?_append_left (by omega),List.getElem?_take_of_lt j1] at a b
  exact h j x u a b
 ·by_cases j2:j < o+m.length
  ·rw [List.getElem?_append_left (by simp [h1];omega),List.getElem?_append_right (by omega),h1] at a
   rw [List.getElem?_append_left (by simp [h2];omega),List.getElem?_append_right (by omega),h2] at b
   exact hm.2 _ x u a b
  ·rw [List.getElem?_append_right (by simp [h1];omega),List.length_append,h1,List.getElem?_drop] at a
   rw [List.getElem?_append_right (by simp [h2];omega),List.length_append,h2,List.getElem?_drop,<-h0] at b
   exact h _ x u a b
theorem RC.cellsR {x:CV} {u:Value} (h:RC ok ρ x u) (h1:Az4 x=true):RCs ok ρ (Gt x) u.cells.toList:=by
 obtain ⟨h2,h3⟩:=h.cells h1
 exact ⟨by simp [h2],fun j x u a b=>h3 j x u a (by rw [<-Array.getElem?_toList];exact b)⟩
end
section
variable {P : Program} {ρ : Nat -> Nat × Nat} {h h' : GH} {B : Nat} {w : World}
theorem SR.store (s:SR ρ h B w) {c o:Nat} {l m l':List CV} (hl:h.cells c=some l) (e:h.wr c l'=some h') (hl':l'=l.take o++m++l.drop (o+m.length)) (ho:o<=l.length) {vs:List Value} (hm:RCs (okH h) ρ m vs) (hb:o+m.length<=l.length\/o+m.length<=(ρ c).2) :
  ∃ w1,(storeCells ⟨(ρ c).1,o,none⟩ vs).run P w=.ok () w1/\D5 ρ h h' B w w1 ρ:=by
 obtain ⟨l0,kin,hc,hB,hok,hw⟩:=s.wr e
 obtain ⟨kin',ro',hc'⟩:=GH.cells_some hl
 rw [hc] at hc'
 injection hc' with hc'
 injection hc' with q1 q2 q3
 subst q1 q2 q3
 obtain ⟨C,t,fr,h1,h2,h3,h4,h5⟩:=s.holds hc
 obtain rfl:=h2 rfl
 have hC:l0.length<=C.toList.length:=by simpa using h3
 have hv:o+vs.length<=C.size:=by rw [<-hm.1];rcases hb with hb | hb<;>omega
 have hst:=run_storeCells_at (P:=P) (ρ c).1 o t vs 0 C w h1 (by simpa using hv) hm.one
 refine ⟨_,hst,?_⟩
 obtain ⟨p1,p2⟩:=RCs.put (C:=C.toList) (fun j x u a b=>h5 j x u a (by rw [<-Array.getElem?_toList];exact b)) hm ho hC (by simpa using hv)
 simp only [Nat.add_zero]
 refine hw _ _ t ?_ ?_ ?_ (setRow_heap w _ C _ t (0,0) h1) (by simp) ⟨rfl,rfl,rfl⟩ fun g hg=>setRow_other w _ g _ hg
 ·rw [hl'];simpa using p1
 ·simp only [List.size_toArray,List.length_append,List.length_take,List.length_drop,Array.length_toList];omega
 ·rw [hl']
  exact fun j x u a b=>p2 j x u a (by simpa using b)
end
def Cg (P:Program) (L:Operand->CV) (h:GH) (o:Oper) (x:CV) (h':GH):Prop :=
 ∀ (ρ:Nat->Nat×Nat) (B:Nat) (w:World) (a:Act),SR ρ h B w->(∀ y,RC (okH h) ρ (L y) (a.eval y)) ->
  ∃ v w' ρ',((execOp a.eval o).run P w=.ok (.value v) w'\/((execOp a.eval o).run P w=.ok .skip w'/\v=undef))/\D5 ρ h h' B w w' ρ'/\RC (okH h') ρ' x v
section
variable {P : Program} {L : Operand -> CV} {h h' : GH} {o : Oper} {x : CV}
variable {dst : Option Tmp} {ty : TypeId} {pos : String} {after : Array Edge} {gd : Option (Nat × Bool)}
theorem Cg.pure_ (hh:∀ (ρ:Nat->Nat×Nat) (B:Nat) (w:World) (a:Act),SR ρ h B w->(∀ y,RC (okH h) ρ (L y) (a.eval y))->∃ v,(execOp a.eval o).run P w=.ok (.value v) w/\RC (okH h) ρ x v):Cg P L h o x h:=fun ρ B w a s hL=>by
 obtain ⟨v,h1,h2⟩:=hh ρ B w a s hL
 exact ⟨v,w,ρ,.inl h1,D5.refl s,h2⟩
theorem C03 {b y z:Operand} (e:B32 (L b) (L y) (L z) h=some (x,h')):Cg P L h ⟨dst,.pick b y z,ty,pos,after,gd⟩ x h':=by
 unfold B32 at e
 split at e
 ·rename_i hb
  cases e
  exact Cg.pure_ fun ρ B w a s hL=>⟨a.eval y,by have:=hL b;rw [hb] at this;simp [execOp,this.v_inv,asBool],hL y⟩
 ·rename_i hb
  cases e
  exact Cg.pure_ fun ρ B w a s hL=>⟨a.eval z,by have:=hL b;rw [hb] at this;simp [execOp,this.v_inv,asBool],hL z⟩
 ·cases e
theorem A68 {t:TypeId} {w:World} {zs:List CV} (e:Rz P t=some zs):∃ z,(zeroValue t).run P w=.ok z w/\zs=z.cells.toList.map .v/\(∀ v∈z.cells.toList,v.oneCell'=true)/\∃ q s,tyK P t=some (q,s):=by
 unfold Rz at e
 split at e
 ·rename_i q zs' hz
  obtain ⟨h1,rfl⟩:=Bj e
  obtain ⟨z,h2,rfl,s,h3⟩:=Zj (w:=w) hz
  exact ⟨z,h2,rfl,List.all_eq_true.1 h1,q,s,h3⟩
 ·cases e
theorem Sf {ρ:Nat->Nat×Nat} {B:Nat} {w w0 w':World} (s:SR ρ h B w) {l:List CV} {C:Array Value} {t:TypeId} (hw:w'=w0.alloc (.cells C t)) (h0:w0.heap=w.heap/\w0.os=w.os/\w0.tape=w.tape/\w0.output=w.output) (K:Nat) (hK:K<=C.size) (hl:l.length<=C.size)
  (hC:∀ (j:Nat) x u,l[j]? = some x->C[j]? = some u->RC (okH h) ρ x u/\u.oneCell'=true):∃ ρ',ρ' h.nx=(w.heap.size,K)/\okH (h.new (.cs l [] false)) h.nx/\D5 ρ h (h.new (.cs l [] false)) B w w' ρ':=by
 have hb:Below w.heap.size w w':=by
  subst hw
  have:=Below.alloc (Below.refl w.heap.size w0) (by rw [h0.1];exact Nat.le_refl _) (.cells C t)
  exact ⟨this.os.trans h0.2.1,this.tape.trans h0.2.2.1,this.output.trans h0.2.2.2,by rw [<-h0.1];exact this.size,fun k hk=>by rw [<-h0.1];exact (Below.heap_alloc w0 _ k (by rw [h0.1];exact hk))⟩
 obtain ⟨ρ',e1,p⟩:=s.new (b:=.cs l [] false) (w':=w') (g:=(w.heap.size,K)) hb rfl fun ρ' _ hx _=>⟨C,t,(0,0),by rw [hw,<-h0.1];exact World.alloc_heap_new _ _,fun _=>rfl,hl,hK,fun j x u a b=>⟨(hC j x u a b).1.ext hx,(hC j x u a b).2⟩⟩
 exact ⟨ρ',e1,G7 s _,p⟩
theorem Bm9 {e:TypeId} (q:Ai0 P e h=some (x,h')):Cg P L h ⟨dst,.alloc e,ty,pos,after,gd⟩ x h':=fun ρ B w a s hL=>by
 unfold Ai0 at q
 simp only [Option.map_eq_some_iff,Prod.mk.injEq] at q
 obtain ⟨zs,hz,rfl,rfl⟩:=q
 obtain ⟨z,h1,rfl,h2,_⟩:=A68 (w:=w) hz
 obtain ⟨ρ',e1,e2,p⟩:=Sf s (l:=z.cells.toList.map .v) (C:=z.cells) (t:=e) rfl ⟨rfl,rfl,rfl,rfl⟩ 0 (Nat.zero_le _) (by simp) fun j x u a b=>(RCs.zeros h2).2 j x u a (by rw [Array.getElem?_toList];exact b)
 refine ⟨.pointer (some ⟨w.heap.size,0,none⟩),_,ρ',.inl ?_,p,?_⟩
 ·simp only [execOp,Instr.alloc,newVar,newRow,newObj]
  simp only [Sem.run_bind,Sem.run_pure,h1,Result.andThen_ok,Sem.run]
  rfl
 ·have:=RC.p (ρ:=ρ') (o:=0) e2
  rwa [e1] at this
theorem Cs2 {e:TypeId} {y:Operand} (q:Ca6 (L y) h=some (x,h')):Cg P L h ⟨dst,.box e y,ty,pos,after,gd⟩ x h':=fun ρ B w a s hL=>by
 obtain ⟨h1,q⟩:=Bj q
 cases q
 obtain ⟨h2,h3⟩:=(hL y).cells h1
 obtain ⟨ρ',e1,e2,p⟩:=Sf s (l:=Gt (L y)) (C:=(a.eval y).cells) (t:=e) rfl ⟨rfl,rfl,rfl,rfl⟩ 0 (Nat.zero_le _) (by omega) h3
 refine ⟨.pointer (some ⟨w.heap.size,0,none⟩),_,ρ',.inl ?_,p,?_⟩
 ·simp only [execOp,Instr.box,newVar,newRow,newObj]
  simp only [Sem.run_bind,Sem.run_pure,Result.andThen_ok,Sem.run]
  rfl
 ·have:=RC.p (ρ:=ρ') (o:=0) e2
  rwa [e1] at this
theorem As5 {q n o:Nat} {l:List CV} {r:CV} (e:rdC q n o l=some r):(q=0/\l[o]? = some r)\/(q≠0/\o+n<=l.length+(if n=0 then o else 0)/\r=.g ((l.drop o).take n)/\((l.drop o).take n).length=n):=by
 unfold rdC at e
 split at e
 ·rw [A13] at e;exact .inl ⟨rfl,e⟩
 ·rename_i hq
  simp only [Option.map_eq_some_iff] at e
  obtain ⟨m,e,rfl⟩:=e
  obtain ⟨rfl,h1⟩:=Eb e
  rw [Lp] at h1 ⊢
  exact .inr ⟨fun e=>hq e,by simp at h1;split<;>omega,rfl,by rw [List.length_take];exact Nat.min_eq_left h1⟩
theorem B83 {ρ:Nat->Nat×Nat} {B:Nat} {w:World} (s:SR ρ h B w) {t q n c o:Nat} (ht:tyK P t=some (q,n)) {l:List CV} (hl:h.cells c=some l) {r:CV} (e:rdC q n o l=some r):∃ v,(Instr.loadAt t (.pointer (some ⟨(ρ c).1,o,none⟩))).run P w=.ok v w/\RC (okH h) ρ r v:=by
 obtain ⟨f,hf⟩:=s.cell hl
 obtain ⟨ha,hz⟩:=Cv (w:=w) ht
 rcases As5 e with ⟨rfl,e0⟩ | ⟨hq,_,rfl,hlen⟩
 ·obtain ⟨h1,h2,_⟩:=hf o r e0
  exact ⟨f o,by simp [Instr.loadAt,Instr.sureAddr,loadVar,ha,load,Sem.run,h1],h2⟩
 ·have hm:∀ (j:Nat) x,((l.drop o).take n)[j]? = some x->l[o+j]? = some x:=fun j x hj=>by
   have:=(List.getElem?_eq_some_iff.1 hj).1
   rw [hlen] at this
   rw [List.getElem?_take_of_lt this,List.getElem?_drop] at hj
   exact hj
  have hll:=run_loadCells (P:=P) w ⟨(ρ c).1,o,none⟩ n (fun j=>f (o+j)) fun j hj=>by
   rw [Dh]
   exact (hf (o+j) _ (hm j _ (List.getElem?_eq_getElem (by omega)))).1
  refine ⟨.agg ((List.range n).map fun j=>f (o+j)).toArray,by simp [Instr.loadAt,Instr.sureAddr,loadVar,ha,hz,hq,hll],?_⟩
  have:=RC.gof (ρ:=ρ) (ok:=okH h) (m:=(l.drop o).take n) (f:=fun j=>f (o+j)) fun j x hj=>(hf (o+j) x (hm j x hj)).2
  rwa [hlen] at this
theorem C08 {t:TypeId} {y:Operand} (e:B36 P t (L y) h=some (x,h')):Cg P L h ⟨dst,.load t y,ty,pos,after,gd⟩ x h':=by
 unfold B36 at e
 split at e
 ·rename_i c o hy
  split at e
  ·rename_i q n ht
   simp only [Option.bind_eq_some_iff,Option.map_eq_some_iff] at e
   obtain ⟨l,hl,r,hr,e⟩:=e
   cases e
   refine Cg.pure_ fun ρ B w a s hL=>?_
   have:=hL y
   rw [hy] at this
   obtain ⟨v,h1,h2⟩:=B83 s ht hl hr
   exact ⟨v,by simp only [execOp,this.p_inv.1];exact C6 h1,h2⟩
  ·cases e
 ·cases e
theorem Bm3 {t:TypeId} {y z:Operand} (e:Un P t (L y) (L z) h=some (x,h')):Cg P L h ⟨dst,.store t y z,ty,pos,after,gd⟩ x h':=by
 unfold Un at e
 split at e
 ·rename_i c o hy
  split at e
  ·rename_i q n ht
   simp only [Option.bind_eq_some_iff] at e
   obtain ⟨l,hl,e⟩:=e
   obtain ⟨h1,e⟩:=Cw e
   simp only [Bool.and_eq_true,Option.bind_eq_some_iff,Option.map_eq_some_iff] at h1 e
   obtain ⟨l',hs,h2,hw,e⟩:=e
   cases e
   obtain ⟨p1,p2⟩:=H7 hs
   intro ρ B w a s hL
   have hyv:=hL y
   rw [hy] at hyv
   have hm:=(hL z).cellsR h1.1
   have hn:=Nat.eq_of_beq_eq_true h1.2
   obtain ⟨w1,r1,r2⟩:=s.store (P:=P) hl hw p2 (by omega) hm (.inl p1)
   obtain ⟨ha,hz⟩:=Cv (w:=w) ht
   have hsz:(a.eval z).cells.size=n:=by have:=hm.1;rw [hn] at this;simpa using this.symm
   refine ⟨undef,w1,ρ,.inr ⟨?_,rfl⟩,r2,RC.undef⟩
   simp only [execOp,hyv.p_inv.1,Instr.storeAt,Instr.sureAddr,storeVar]
   simp [hz,hsz,r1]
  ·cases e
 ·cases e
theorem Cr8 {y:Operand} (e:Bs0 (L y) h=some (x,h')):Cg P L h ⟨dst,.nilCheck y,ty,pos,after,gd⟩ x h':=by
 unfold Bs0 at e
 split at e
 case h_4=>cases e
 all_goals
  rename_i hy
  cases e
  refine Cg.pure_ fun ρ B w a s hL=>⟨a.eval y,?_,by rw [<-hy];exact hL y⟩
  have:=hL y
  rw [hy] at this
  generalize hu:a.eval y=u at this
  cases this<;>(simp only [execOp,hu];rfl)
theorem Di2 {op:UnOp} {t:TypeId} {y:Operand} (e:xUn op (L y) h=some (x,h')):Cg P L h ⟨dst,.unOp op t y,ty,pos,after,gd⟩ x h':=by
 unfold xUn at e
 split at e
 ·rename_i b hy
  split at e
  ·cases e
   exact Cg.pure_ fun ρ B w a s hL=>⟨_,by have:=hL y;rw [hy] at this;simp only [execOp,this.v_inv];exact C6 (by simp [Op.unary]),RC.bool⟩
  ·cases e
 ·rename_i k m hy
  split at e
  ·cases e
   exact Cg.pure_ fun ρ B w a s hL=>⟨_,by have:=hL y;rw [hy] at this;simp only [execOp,this.v_inv];exact C6 (by simp [Op.unary,Op.intArith]),RC.int⟩
  ·cases e
   exact Cg.pure_ fun ρ B w a s hL=>⟨_,by have:=hL y;rw [hy] at this;simp only [execOp,this.v_inv];exact C6 (by simp [Op.unary,Op.intBits]),RC.int⟩
  ·cases e
 ·cases e
theorem Di3 {fn:Fn} {first caps:Array Operand} (e:xFn fn first (caps.toList.map L) h=some (x,h')):Cg P L h ⟨dst,.makeFunc fn first caps,ty,pos,after,gd⟩ x h':=by
 unfold xFn at e
 split at e
 ·rename_i f
  obtain ⟨h1,e⟩:=Bj e
  cases e
  have h1:first=#[]:=by simpa using h1
  subst h1
  refine Cg.pure_ fun ρ B w a s hL=>⟨.func (.func f) #[] (caps.map a.eval),by simp [execOp,Instr.makeFunc],.f (by simp) fun j x u a b=>?_⟩
  simp only [List.getElem?_map,Array.getElem?_toList,Array.getElem?_map,Option.map_eq_some_iff] at a b
  obtain ⟨q,hq,rfl⟩:=a
  obtain ⟨q',hq',rfl⟩:=b
  rw [hq] at hq'
  obtain rfl:=Option.some.inj hq'
  exact hL q
 ·cases e
theorem Be1 {t:TypeId} {y:Operand} {f:Nat} (e:Zc P t (L y) f h=some (x,h')):Cg P L h ⟨dst,.fieldAddr t y f,ty,pos,after,gd⟩ x h':=by
 unfold Zc at e
 split at e
 ·rename_i c o hy
  split at e
  ·rename_i off q n ht
   cases hn:Nat.beq n 0 with
   | true=>rw [hn] at e;cases e
   | false =>
    rw [hn] at e
    cases e
    have hn:=Nat.ne_of_beq_eq_false hn
    refine Cg.pure_ fun ρ B w a s hL=>?_
    have:=hL y
    rw [hy] at this
    obtain ⟨hu,hc⟩:=this.p_inv
    obtain ⟨fs,fd,h1,h2,rfl,h3⟩:=U6 ht
    obtain ⟨ha,hz⟩:=Cv (w:=w) h3
    refine ⟨.pointer (some ⟨(ρ c).1,o+fd.offset,none⟩),?_,.p hc⟩
    simp only [execOp,hu]
    exact C6 (by simp [Instr.fieldAt,run_underlying h1,h2,Instr.sureAddr,fieldPlace,hz,hn,Dh])
  ·cases e
 ·cases e
theorem Aa7 {ok:Nat->Prop} {ρ:Nat->Nat×Nat} {t q n o:Nat} {w:World} (ht:tyK P t=some (q,n)) {l:List CV} {vs:Array Value} (h1:vs.size=l.length) (h2:∀ (j:Nat) x u,l[j]? = some x->vs[j]? = some u->RC ok ρ x u/\u.oneCell'=true) {r:CV} (e:rdC q n o l=some r):∃ v,(part t vs o).run P w=.ok v w/\RC ok ρ r v:=by
 obtain ⟨ha,hz⟩:=Cv (w:=w) ht
 rcases As5 e with ⟨rfl,e0⟩ | ⟨hq,_,rfl,hlen⟩
 ·have hlt:=(List.getElem?_eq_some_iff.1 e0).1
  have hv:vs[o]? = some (vs[o]'(by omega)):=Array.getElem?_eq_getElem _
  exact ⟨vs[o]'(by omega),by simp [part,ha,hv],(h2 o _ _ e0 hv).1⟩
 ·refine ⟨.agg (vs.extract o (o+n)),by simp [part,ha,hz,hq],?_⟩
  have hln:n<=(l.drop o).length:=by rw [List.length_take] at hlen;omega
  rw [List.length_drop] at hln
  have hol:o+n<=l.length\/n=0:=by omega
  have key:∀ (j:Nat) u,(vs.extract o (o+n))[j]? = some u->j < n/\vs[o+j]? = some u:=fun j u a=>by
   have:=(Array.getElem?_eq_some_iff.1 a).1
   simp at this
   refine ⟨by omega,?_⟩
   rw [Array.getElem?_extract] at a
   by_cases hq:j < min (o+n) vs.size - o
   ·rw [if_pos hq] at a;exact a
   ·rw [if_neg hq] at a;cases a
  refine .g (by rw [Array.size_extract,hlen];omega) (fun j x u a b=>?_) fun j u b=>?_
  ·obtain ⟨k1,k2⟩:=key j u b
   rw [List.getElem?_take_of_lt k1,List.getElem?_drop] at a
   exact (h2 _ x u a k2).1
  ·obtain ⟨k1,k2⟩:=key j u b
   exact (h2 _ _ u (List.getElem?_eq_getElem (by omega)) k2).2
theorem Bm6 {t:TypeId} {y:Operand} {f:Nat} (e:Ah5 P t (L y) f h=some (x,h')):Cg P L h ⟨dst,.field t y f,ty,pos,after,gd⟩ x h':=by
 unfold Ah5 at e
 split at e
 ·rename_i l hy
  split at e
  ·rename_i off q n ht
   simp only [Option.map_eq_some_iff] at e
   obtain ⟨r,hr,e⟩:=e
   cases e
   refine Cg.pure_ fun ρ B w a s hL=>?_
   have:=hL y
   rw [hy] at this
   obtain ⟨vs,hu,hsz,hvs⟩:=this.g_inv
   obtain ⟨fs,fd,h1,h2,rfl,h3⟩:=U6 ht
   obtain ⟨v,r1,r2⟩:=Aa7 (w:=w) h3 hsz hvs hr
   refine ⟨v,?_,r2⟩
   simp only [execOp,hu]
   exact C6 (by simp [Instr.field,run_underlying h1,h2,asAgg,r1])
  ·cases e
 ·cases e
theorem B26 {y:Operand} {i:Nat} (e:Uo (L y) i h=some (x,h')):Cg P L h ⟨dst,.extract y i,ty,pos,after,gd⟩ x h':=by
 unfold Uo at e
 split at e
 ·rename_i l hy
  simp only [Option.map_eq_some_iff,A13] at e
  obtain ⟨r,hr,e⟩:=e
  cases e
  refine Cg.pure_ fun ρ B w a s hL=>?_
  have:=hL y
  rw [hy] at this
  generalize hu:a.eval y=u at this
  cases this with
  | @t _ vs h1 h2 =>
   have hlt:=(List.getElem?_eq_some_iff.1 hr).1
   have hv:vs[i]? = some (vs[i]'(by omega)):=Array.getElem?_eq_getElem _
   refine ⟨vs[i]'(by omega),?_,h2 i _ _ hr hv⟩
   simp only [execOp,hu]
   exact C6 (by simp [Instr.extract,hv])
 ·cases e
end
end Go.Proofs.YtahgkllhbggmgaaGreatDoor
