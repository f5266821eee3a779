/- The law NodeForms: whether any node is formed, and what a new one is, is what the reference says. The card (second form: of bulk at most 1048576). -/
import Derived.Test.YtblfjaedaijfoaaGreatDoorQLogWalk
import Derived.Test.YtblfjaedaijfoaaGreatDoorQViewEnc
import Derived.OpenShut
import Derived.Test.YtblfjaedaijfoaaGreatDoorQSess
import Derived.Test.YtblfjaedaijfoaaGreatDoorQNodeForm
import Derived.Test.YtblfjaedaijfoaaGreatDoorQNodeMade
import Derived.Test.YtblfjaedaijfoaaGreatDoorQByte
import Derived.Test.YtblfjaedaijfoaaGreatDoorQViewWrite
import Derived.Test.YtblfjaedaijfoaaGreatDoorQStretch
import Derived.Test.YtblfjaedaijfoaaGreatDoorQOuts
import Derived.Test.YtblfjaedaijfoaaGreatDoorQNodeSpec
import Derived.Test.YtblfjaedaijfoaaGreatDoorQDisk
import Derived.Test.YtblfjaedaijfoaaGreatDoorQZones
import Derived.Test.YtblfjaedaijfoaaGreatDoorQTouch
import Derived.Test.YtblfjaedaijfoaaGreatDoorQFrame
import Derived.Test.YtblfjaedaijfoaaGreatDoorQTwiceLaw
import Derived.Test.YtblfjaedaijfoaaGreatDoorQLogKnown
import Derived.Test.YtblfjaedaijfoaaGreatDoorQWire
import Derived.Test.YtblfjaedaijfoaaGreatDoorQDiskOwn
import Derived.Test.YtblfjaedaijfoaaGreatDoorQCrc
import Derived.Test.YtblfjaedaijfoaaGreatDoorQTurnRow
import Derived.Test.YtblfjaedaijfoaaGreatDoorQViewRead
import Derived.LoopNIn
import Derived.Test.YtblfjaedaijfoaaGreatDoorQViewTake
import Derived.Test.YtblfjaedaijfoaaGreatDoorQVecLaw
import Derived.Test.YtblfjaedaijfoaaGreatDoorCards
import Derived.Test.YtblfjaedaijfoaaGreatDoorTie
import Derived.Lib.LaidTab
import Derived.Deep.DeepWitnessRowRef
import Derived.Lib.SmallJoins
set_option linter.all false
set_option linter.unnecessarySimpa false
set_option linter.unusedSimpArgs false
set_option linter.unusedVariables false
namespace Go.Proofs.YtblfjaedaijfoaaGreatDoor
open Go.ChangeShapes Go.WideShapes Go.ChangeAt Go.RowKit
def C55 (w:World) (B:Nat) (cs:List Value) (z:At):Prop:=∃ v,cs=[.int .i64 z.span.lo,.int .i64 z.span.hi,v]/\I64 z.span.lo/\I64 z.span.hi/\C8 w B v z.vec
theorem B77 {w:World} : F7 Tryz.prog w 142 3 (C55 w w.heap.size):=by
 intro H enc fuel cs x h
 obtain ⟨hl,n,hf⟩:=Ce Tryz.underlying142 h
 have hk:Tryz.prog.cellsOf 142=3:=by kernel_rfl
 have hs:Tryz.prog.cellsOf 121=2:=by kernel_rfl
 have hv:Tryz.prog.cellsOf 22=1:=by kernel_rfl
 rw [hk] at hl
 refine ⟨hl,?_⟩
 match cs,hl with
 | [v0,v1,v2],_ =>
  obtain ⟨y0,h0⟩:=hf 0 121 0 2 rfl hs
  obtain ⟨y1,h1⟩:=hf 1 22 2 1 rfl hv
  obtain ⟨_,a,e0,i0,i1⟩:=A19 (w:=w) H enc n _ _ h0
  obtain ⟨_,b,_,e1,s1⟩:=J1 (w:=w) H enc n _ _ h1
  simp at e0 e1
  obtain ⟨rfl,rfl⟩:=e0
  subst e1
  exact ⟨⟨a,b⟩,_,rfl,i0,i1,s1⟩
abbrev Bj0 (w:World) (B:Nat) (v:Value) (l:List At):Prop:=Sl (C55 w B) 3 w B v l
theorem At9 {w:World} : F7 Tryz.prog w 23 1 (fun cs l=>∃ v,cs=[v]/\Bj0 w w.heap.size v l) :=
 Ea Tryz.underlying23 (by kernel_rfl) (by omega) B77
abbrev Ao1 (w:World) (B:Nat) (v:Value) (l:List C1):Prop:=Sl (C59 w B) 4 w B v l
theorem Aj8 {w:World} : F7 Tryz.prog w 25 1 (fun cs l=>∃ v,cs=[v]/\Ao1 w w.heap.size v l) :=
 Ea Tryz.underlying25 (by kernel_rfl) (by omega) A20
def Dd4 (w:World) (B:Nat) (cs:List Value) (x:Cr):Prop:=∃ v0 v1 v2 v3,cs=[v0,v1,v2,v3,.int .i64 x.room]/\C8 w B v0 x.known/\Bj0 w B v1 x.zones/\Mu w B v2 x.held/\Ao1 w B v3 x.bodies/\I64 x.room
theorem B78 {w:World} : F7 Tryz.prog w 27 5 (Dd4 w w.heap.size):=by
 intro H enc fuel cs x h
 obtain ⟨hl,n,hf⟩:=Ce Tryz.underlying27 h
 have hk:Tryz.prog.cellsOf 27=5:=by kernel_rfl
 have q0:Tryz.prog.cellsOf 22=1:=by kernel_rfl
 have q1:Tryz.prog.cellsOf 23=1:=by kernel_rfl
 have q2:Tryz.prog.cellsOf 24=1:=by kernel_rfl
 have q3:Tryz.prog.cellsOf 25=1:=by kernel_rfl
 have q4:Tryz.prog.cellsOf 3=1:=by kernel_rfl
 rw [hk] at hl
 refine ⟨hl,?_⟩
 match cs,hl with
 | [v0,v1,v2,v3,v4],_ =>
  obtain ⟨y0,h0⟩:=hf 0 22 0 1 rfl q0
  obtain ⟨y1,h1⟩:=hf 1 23 1 1 rfl q1
  obtain ⟨y2,h2⟩:=hf 2 24 2 1 rfl q2
  obtain ⟨y3,h3⟩:=hf 3 25 3 1 rfl q3
  obtain ⟨y4,h4⟩:=hf 4 3 4 1 rfl q4
  obtain ⟨_,a,_,e0,s0⟩:=J1 (w:=w) H enc n _ _ h0
  obtain ⟨_,b,_,e1,s1⟩:=At9 (w:=w) H enc n _ _ h1
  obtain ⟨_,c,_,e2,s2⟩:=Vb (w:=w) H enc n _ _ h2
  obtain ⟨_,d,_,e3,s3⟩:=Aj8 (w:=w) H enc n _ _ h3
  obtain ⟨_,r,e4,i4⟩:=C3 (w:=w) Tryz.underlying3 H enc n _ _ h4
  simp at e0 e1 e2 e3 e4
  subst e0 e1 e2 e3 e4
  exact ⟨⟨a,b,c,d,r⟩,_,_,_,_,rfl,s0,s1,s2,s3,i4⟩
theorem Cw0 {X:World} {cs:List Value} {x:At} (h:C55 X X.heap.size cs x):Ay X cs (enZ x):=by
 obtain ⟨v0,rfl,h1,h2,h⟩:=h
 exact ⟨.val h1,.val h2,Ky h (Nat.le_refl _),trivial⟩
theorem Bj3 {X:World} {v:Value} {l:List At} (h:Bj0 X X.heap.size v l):Cp X v (znI l):=Cp.of_typed (fun _ _ h=>Cw0 h) h (Nat.le_refl _)
theorem Xe {X:World} {v:Value} {l:List Nat} (h:W8 X X.heap.size v l):Cp X v (byI l):=Cp.of_typed (enc:=fun (b:Nat)=>[.val (.int .u8 b)]) (fun cs x h=>by
 obtain ⟨rfl,h1⟩:=h
 refine ⟨.val ?_,trivial⟩
 simp [okV,Lit.wf,IntKind.max,IntKind.min,IntKind.signed,IntKind.bits]
 omega) h (Nat.le_refl _)
theorem Dc3 {X:World} {cs:List Value} {x:C1} (h:C59 X X.heap.size cs x):Ay X cs (enB x):=by
 obtain ⟨v0,rfl,h1,h2,h3,h⟩:=h
 exact ⟨.val h1,.val h2,.val h3,Xe h,trivial⟩
theorem Bd7 {X:World} {v:Value} {l:List C1} (h:Ao1 X X.heap.size v l):Cp X v (boI l):=Cp.of_typed (fun _ _ h=>Dc3 h) h (Nat.le_refl _)
theorem Aj9 {P:Program} {w:World} {r:Reach} {base:Nat} {t:TypeId} {v:Value} {n:Nat} {e:TypeId} (ht:P.underlying t=some (.array n e)) (h:Value.okWide P w r base t v):∃ cs,v=.agg cs/\cs.size=P.cellsOf t:=by
 simp only [Value.okWide,ht] at h
 obtain ⟨cs,h1,h2,_⟩:=h
 exact ⟨cs,h1,h2⟩
theorem Bv2 {X:World} {v:Value} {l:List Sub} (h:Sm X X.heap.size v l):Cp X v (H9 l):=Cp.of_typed (fun _ _ h=>C71 h) h (Nat.le_refl _)
theorem Aq8 {P:Program} {w:World} {H:Type} {enc:TypeId×Value->H} {t e:TypeId} {fuel n c:Nat} {A:Option Addr} {x:DataW H×List MemPlace} (ht:P.underlying t=some (.slice e)) (h:DataW.trod enc P w 0 (fun _=>true) true fuel t [.slice A n c]=some x/\Rows.uptoBulk x.1<=1048576):n<=1048576:=by
 obtain ⟨h,hz⟩:=h
 rcases Go.Deep.open_slice ht h with ⟨e,_⟩ | ⟨a,len,cap,m,n',D,Pl,e,_,hl,hm,hmm,hx,hi⟩
 ·simp only [List.cons.injEq,Value.slice.injEq] at e
  omega
 ·simp only [List.cons.injEq,Value.slice.injEq] at e
  rw [hx] at hz
  simp only [Rows.uptoBulk] at hz
  have hlen:=Yh ((List.range len).map D)
  rw [List.length_map,List.length_range] at hlen
  omega
def B20 (w:World) (B:Nat) (cs:List Value) (x:F8):Prop:=∃ v,cs=[.int .i64 x.number,v,.int .i64 x.sure]/\I64 x.number/\I64 x.sure/\W8 w B v x.bytes
theorem B84 {w:World} : F7 Tryz.prog w 134 3 (B20 w w.heap.size):=by
 intro H enc fuel cs x h
 obtain ⟨hl,n,hf⟩:=Ce Tryz.underlying134 h
 rw [show Tryz.prog.cellsOf 134=3 by kernel_rfl] at hl
 refine ⟨hl,?_⟩
 match cs,hl with
 | [v0,v1,v2],_ =>
  obtain ⟨y0,h0⟩:=hf 0 3 0 1 rfl (by kernel_rfl)
  obtain ⟨y1,h1⟩:=hf 1 47 1 1 rfl (by kernel_rfl)
  obtain ⟨y2,h2⟩:=hf 2 3 2 1 rfl (by kernel_rfl)
  obtain ⟨_,a,e0,i0⟩:=C3 (w:=w) Tryz.underlying3 H enc n _ _ h0
  obtain ⟨_,b,_,e1,s1⟩:=Y2 (w:=w) H enc n _ _ h1
  obtain ⟨_,c,e2,i2⟩:=C3 (w:=w) Tryz.underlying3 H enc n _ _ h2
  simp at e0 e1 e2
  subst e0 e1 e2
  exact ⟨⟨a,b,c⟩,_,rfl,i0,i2,s1⟩
theorem Au2 {w:World} : F7 Tryz.prog w 34 1 (fun cs l=>∃ v,cs=[v]/\Sl (B20 w w.heap.size) 3 w w.heap.size v l) :=
 Ea Tryz.underlying34 (by kernel_rfl) (by omega) B84
theorem B83 {w:World} : F7 Tryz.prog w 33 1 (fun cs l=>∃ v,cs=[v]/\Sl (Cc8 w w.heap.size) 12 w w.heap.size v l) :=
 Ea Tryz.underlying33 (by kernel_rfl) (by omega) Bn6
def Dd8 (w:World) (B:Nat) (cs:List Value) (x:Gw):Prop:=∃ v,cs=[.int .i64 x.room,v]/\I64 x.room/\Sl (B20 w B) 3 w B v x.files
theorem B85 {w:World} : F7 Tryz.prog w 36 2 (Dd8 w w.heap.size):=by
 intro H enc fuel cs x h
 obtain ⟨hl,n,hf⟩:=Ce Tryz.underlying36 h
 rw [show Tryz.prog.cellsOf 36=2 by kernel_rfl] at hl
 refine ⟨hl,?_⟩
 match cs,hl with
 | [v0,v1],_ =>
  obtain ⟨y0,h0⟩:=hf 0 3 0 1 rfl (by kernel_rfl)
  obtain ⟨y1,h1⟩:=hf 1 34 1 1 rfl (by kernel_rfl)
  obtain ⟨_,a,e0,i0⟩:=C3 (w:=w) Tryz.underlying3 H enc n _ _ h0
  obtain ⟨_,b,_,e1,s1⟩:=Au2 (w:=w) H enc n _ _ h1
  simp at e0 e1
  subst e0 e1
  exact ⟨⟨a,b⟩,_,rfl,i0,s1⟩
structure Cf4 (w:World) (v:Nat->Value) (x:Eo):Prop where
 known:C8 w w.heap.size (v 0) x.view.known
 zones:Bj0 w w.heap.size (v 1) x.view.zones
 held:Mu w w.heap.size (v 2) x.view.held
 bodies:Ao1 w w.heap.size (v 3) x.view.bodies
 base:C8 w w.heap.size (v 4) x.log.base
 notes:Tg w w.heap.size (v 5) x.log.notes
 outs:Xi w w.heap.size (v 6) x.outs
 subs:Sm w w.heap.size (v 7) x.subs
 queue:Sl (Cc8 w w.heap.size) 12 w w.heap.size (v 8) x.queue
 files:Sl (B20 w w.heap.size) 3 w w.heap.size (v 9) x.disk.files
 small:x.log.notes.length<=1048576
def D0 (v:Nat->Value) (x:Eo):Array Value:=#[.int .i64 x.me,v 0,v 1,v 2,v 3,.int .i64 x.view.room,v 4,v 5,.int .i64 x.log.sure,v 6,v 7,.int .i64 x.tries,v 8,.int .i64 x.disk.room,v 9,.bool x.down]
theorem B82 {w:World} : F7 Tryz.prog w 38 16 (fun cs x=>∃ v,cs=(D0 v x).toList/\Lu x/\Cf4 w v x):=by
 intro H enc fuel cs x h
 obtain ⟨hl,n,hf⟩:=Ce Tryz.underlying38 h
 rw [show Tryz.prog.cellsOf 38=16 by kernel_rfl] at hl
 refine ⟨hl,?_⟩
 match cs,hl with
 | [v0,v1,v2,v3,v4,v5,v6,v7,v8,v9,v10,v11,v12,v13,v14,v15],_ =>
  obtain ⟨y0,h0⟩:=hf 0 3 0 1 rfl (by kernel_rfl)
  obtain ⟨y1,h1⟩:=hf 1 27 1 5 rfl (by kernel_rfl)
  obtain ⟨y2,h2⟩:=hf 2 30 6 3 rfl (by kernel_rfl)
  obtain ⟨y3,h3⟩:=hf 3 31 9 1 rfl (by kernel_rfl)
  obtain ⟨y4,h4⟩:=hf 4 32 10 1 rfl (by kernel_rfl)
  obtain ⟨y5,h5⟩:=hf 5 3 11 1 rfl (by kernel_rfl)
  obtain ⟨y6,h6⟩:=hf 6 33 12 1 rfl (by kernel_rfl)
  obtain ⟨y7,h7⟩:=hf 7 36 13 2 rfl (by kernel_rfl)
  obtain ⟨y8,h8⟩:=hf 8 4 15 1 rfl (by kernel_rfl)
  obtain ⟨_,a,e0,i0⟩:=C3 (w:=w) Tryz.underlying3 H enc n _ _ h0
  obtain ⟨_,b,p0,p1,p2,p3,e1,hK,hZ,hH,hB,iR⟩:=B78 (w:=w) H enc n _ _ h1
  obtain ⟨_,c,q0,q1,e2,hLB,hLN,iS⟩:=Bn7 (w:=w) H enc n _ _ h2
  obtain ⟨_,d,_,e3,s3⟩:=B80 (w:=w) H enc n _ _ h3
  obtain ⟨_,e,_,e4,s4⟩:=B79 (w:=w) H enc n _ _ h4
  obtain ⟨_,f,e5,i5⟩:=C3 (w:=w) Tryz.underlying3 H enc n _ _ h5
  obtain ⟨_,g,_,e6,s6⟩:=B83 (w:=w) H enc n _ _ h6
  obtain ⟨_,k,r0,e7,i7,s7⟩:=B85 (w:=w) H enc n _ _ h7
  obtain ⟨_,l,e8⟩:=Mk (w:=w) Tryz.underlying4 H enc n _ _ h8
  simp at e0 e1 e2 e3 e4 e5 e6 e7 e8
  obtain ⟨rfl,rfl,rfl,rfl,rfl⟩:=e1
  obtain ⟨rfl,rfl,rfl⟩:=e2
  obtain ⟨rfl,rfl⟩:=e7
  subst e0 e3 e4 e5 e6 e8
  refine ⟨⟨a,b,c,d,e,f,g,k,l⟩,fun j=>[v1,v2,v3,v4,v6,v7,v9,v10,v12,v14].getD j undef,rfl,⟨i0,iR,iS,i5,i7⟩,hK,hZ,hH,hB,hLB,hLN,s3,s4,s6,s7,?_⟩
  obtain ⟨-,m,hg⟩:=Ce Tryz.underlying30 h2
  obtain ⟨z,hz⟩:=hg 1 28 1 1 rfl (by kernel_rfl)
  obtain ⟨A,cp,rfl,-⟩:=hLN
  exact Aq8 Tryz.underlying28 hz
theorem D69 {X:World} {cs:List Value} {x:Msg} (h:Cc8 X X.heap.size cs x):Ay X cs (Af2 x):=by
 obtain ⟨vi,vv,vn,vb,rfl,hi,hv⟩:=h
 exact ⟨.val hi.kind,.val hi.from_,.val hi.to_,.val hi.session,.val hi.seq,Ry hv.interest (Nat.le_refl _),Ky hv.vector (Nat.le_refl _),Ac2 hv.notes,.val hi.object,.val hi.count,.val hi.node,Xe hv.value,trivial⟩
theorem D99 {X:World} {cs:List Value} {x:F8} (h:B20 X X.heap.size cs x):Ay X cs (enF x):=by
 obtain ⟨v0,rfl,h1,h2,h⟩:=h
 exact ⟨.val h1,Xe h,.val h2,trivial⟩
theorem Bz7 {E:Env} {X:World} {v:Nat->Value} {x:Eo} (h:Cf4 X v x):Bd E X (.agg (D0 v x)) (ndA x) :=
 .agg rfl fun j u c a b=>by
  match j,a,b with
  | 0,a,b=>simp [D0] at a;simp [ndC] at b;subst a b;exact .val
  | 1,a,b=>simp [D0] at a;simp [ndC] at b;subst a b;exact .iv (Ky h.known (Nat.le_refl _))
  | 2,a,b=>simp [D0] at a;simp [ndC] at b;subst a b;exact .iv (Bj3 h.zones)
  | 3,a,b=>simp [D0] at a;simp [ndC] at b;subst a b;exact .iv (Za h.held (Nat.le_refl _))
  | 4,a,b=>simp [D0] at a;simp [ndC] at b;subst a b;exact .iv (Bd7 h.bodies)
  | 5,a,b=>simp [D0] at a;simp [ndC] at b;subst a b;exact .val
  | 6,a,b=>simp [D0] at a;simp [ndC] at b;subst a b;exact .iv (Ky h.base (Nat.le_refl _))
  | 7,a,b=>simp [D0] at a;simp [ndC] at b;subst a b;exact .iv (Ac2 h.notes)
  | 8,a,b=>simp [D0] at a;simp [ndC] at b;subst a b;exact .val
  | 9,a,b=>simp [D0] at a;simp [ndC] at b;subst a b;exact .iv (By7 h.outs)
  | 10,a,b=>simp [D0] at a;simp [ndC] at b;subst a b;exact .iv (Bv2 h.subs)
  | 11,a,b=>simp [D0] at a;simp [ndC] at b;subst a b;exact .val
  | 12,a,b=>simp [D0] at a;simp [ndC] at b;subst a b;exact .iv (Cp.of_typed (fun _ _ h=>D69 h) h.queue (Nat.le_refl _))
  | 13,a,b=>simp [D0] at a;simp [ndC] at b;subst a b;exact .val
  | 14,a,b=>simp [D0] at a;simp [ndC] at b;subst a b;exact .iv (Cp.of_typed (fun _ _ h=>D99 h) h.files (Nat.le_refl _))
  | 15,a,b=>simp [D0] at a;simp [ndC] at b;subst a b;exact .val
  | j+16,a,b=>simp [D0] at a
set_option maxRecDepth 100000 in
theorem Au1 {w:World} : F7 Tryz.prog w 39 3 (fun cs (x:Int×Int×Int)=>cs=[.int .i64 x.1,.int .i64 x.2.1,.int .i64 x.2.2]/\I64 x.1/\I64 x.2.1/\I64 x.2.2):=by
 intro H enc fuel cs x h
 obtain ⟨h,hz⟩:=h
 obtain ⟨xs,m,rfl,rfl,hl,hn,hf⟩:=DataW.trod_array Tryz.underlying39 h
 rw [show Tryz.prog.cellsOf 39=3 by kernel_rfl] at hl
 have hi:Tryz.prog.cellsOf 3=1:=by kernel_rfl
 refine ⟨hl,?_⟩
 match cs,hl with
 | [v0,v1,v2],_ =>
  match xs,hn with
  | [y0,y1,y2],_ =>
   have h0:=hf 0 (by decide)
   have h1:=hf 1 (by decide)
   have h2:=hf 2 (by decide)
   rw [hi] at h0 h1 h2
   simp only [List.map_cons,List.map_nil,Rows.uptoBulk] at hz
   have b0:=M8 (d:=y0.1) (l:=[y0.1,y1.1,y2.1]) (by simp)
   have b1:=M8 (d:=y1.1) (l:=[y0.1,y1.1,y2.1]) (by simp)
   have b2:=M8 (d:=y2.1) (l:=[y0.1,y1.1,y2.1]) (by simp)
   obtain ⟨_,a,e0,i0⟩:=C3 (w:=w) Tryz.underlying3 H enc m _ _ ⟨h0,by omega⟩
   obtain ⟨_,b,e1,i1⟩:=C3 (w:=w) Tryz.underlying3 H enc m _ _ ⟨h1,by omega⟩
   obtain ⟨_,c,e2,i2⟩:=C3 (w:=w) Tryz.underlying3 H enc m _ _ ⟨h2,by omega⟩
   simp at e0 e1 e2
   subst e0 e1 e2
   exact ⟨(a,b,c),rfl,i0,i1,i2⟩
theorem Bk7 {E:Env} {X:World} {a b c:Int} : Bd E X (.agg #[.int .i64 a,.int .i64 b,.int .i64 c]) (.agg [.val (.int .i64 a),.val (.int .i64 b),.val (.int .i64 c)]) :=
 .agg rfl fun j v x e1 e2=>by
  match j,e1,e2 with
  | 0,a,b=>simp at a b;subst a b;exact .val
  | 1,a,b=>simp at a b;subst a b;exact .val
  | 2,a,b=>simp at a b;subst a b;exact .val
  | j+3,a,b=>simp at a
attribute [local irreducible] AW AWY Bo B4 vop Bj B7 Bf qop Bu C4 Aq Aj Bh A7 B9
attribute [local go_sem] Sw Cv Hu Fs F6 G3 Gu L2 L1 Fx Jk G2 Ef Dk Db Dq Cm My Ae Af
theorem C92 (me room bodies e:Int):Bz (.tup [.agg [.val (.int .i64 me),.val (.slice none 0 0),.val (.slice none 0 0),.val (.slice none 0 0),.val (.slice none 0 0),.val (.int .i64 bodies),.val (.slice none 0 0),.val (.slice none 0 0),.val (.int .i64 0),.val (.slice none 0 0),.val (.slice none 0 0),.val (.int .i64 0),.val (.slice none 0 0),.val (.int .i64 room),.val (.slice none 0 0),.val (.bool false)],.val (.int .i64 e)]) (.tup [ndA ⟨me,⟨[],[],[],[],bodies⟩,R7,[],[],0,[],⟨room,[]⟩,false⟩,.val (.int .i64 e)]):=by
 refine Ep rfl fun p hp=>?_
 simp only [List.zip_cons_cons,List.zip_nil_right,List.mem_cons,List.not_mem_nil,or_false] at hp
 rcases hp with rfl | rfl
 ·rw [Gu,G3]
  refine Es rfl fun p hp=>?_
  simp only [List.zip_cons_cons,List.zip_nil_right,List.mem_cons,List.not_mem_nil,or_false] at hp
  rcases hp with rfl | rfl | rfl | rfl | rfl | rfl | rfl | rfl | rfl | rfl | rfl | rfl | rfl | rfl | rfl | rfl
  all_goals first
   | exact Bz.rfl_ _
   | exact Bg _
 ·exact Bz.rfl_ _
set_option maxRecDepth 100000 in
set_option maxHeartbeats 1600000 in
theorem B62 (me room bodies : Int) : A7 Tryz.prog A8 9 [.val (.int .i64 me), .val (.int .i64 room), .val (.int .i64 bodies)] (.tup [ndA (Yq me room bodies).1, .val (.int .i64 (Yq me room bodies).2)]) [] := by
  refine A7.ofS (n := 37) (rs := [.cell 6 38, .tmp 7]) Tryz.func9 rfl (by kernel_rfl) Tryz.ntmps9 (by kernel_rfl) (by simp) (fun _ _ => A8.later) ?_
  intro hok V w0
  obtain ⟨R, hR⟩ : ∃ R, Yq me room bodies = R := ⟨_, rfl⟩
  rw [hR]
  unfold Yq Ke at hR
  refine g ?_
  repeat' (first | refine st_ rfl (g ?_) | refine Al (fun h => g ?_) (fun h => g ?_) | (refine B8 rfl rfl (fun h e => ?_) (fun h e => ?_) <;> simp only [e] <;> clear e <;> refine g ?_))
  all_goals first
    | (rw [if_neg (by simp only [Bool.and_eq_true, decide_eq_true_eq]; omega)] at hR
       subst hR
       exact Ak3 _ rfl _)
    | (rw [if_pos (by simp only [Bool.and_eq_true, decide_eq_true_eq]; omega)] at hR
       subst hR
       exact C92 _ _ _ _)
theorem C89 {l:List Sub} {p:Sub->Bool} {m:Nat} (hm:m < l.length) (h:p l[m]=true) (ht:∀ x∈l.take m,p x=false):(if l.any p=true then ((l.findIdx p:Nat):Int) else -1)=(m:Int):=by
 rw [if_pos (List.any_eq_true.2 ⟨_,List.getElem_mem hm,h⟩),(List.findIdx_eq hm).2 ⟨h,fun j hj=>ht _ (List.mem_take_iff_getElem.2 ⟨j,by omega,rfl⟩)⟩]
theorem C88 {l:List Sub} {p:Sub->Bool} (ht:∀ x∈l,p x=false):(if l.any p=true then ((l.findIdx p:Nat):Int) else -1)=-1:=by
 rw [if_neg]
 rw [List.any_eq_true]
 rintro ⟨x,hx,hp⟩
 rw [ht x hx] at hp
 cases hp
set_option maxRecDepth 100000 in
set_option maxHeartbeats 1600000 in
theorem Bl8 (n:Eo) (f:Int) (hI:Lu n):A7 Tryz.prog A8 49 [ndA n,.val (.int .i64 f)] (.val (.int .i64 (Aq2 n.subs f))) []:=by
 refine A7.of (n:=22) (rs:=[.tmp 4]) Tryz.func49 rfl (by kernel_rfl) Tryz.ntmps49 (by kernel_rfl) (by simp) (fun _ _=>A8.later) ?_
 intro hok V w0
 obtain ⟨iM,iR,iS,iT,iD⟩:=hI
 have hu:AV.okd (.iv (H9 n.subs)):=hok.1.2.2.2.2.2.2.2.2.2.2.1
 have hlen:n.subs.length<=1073741824:=by simpa using hu.1
 refine g ?_
 refine AW.seq ?_
 refine AW.reg rfl fun KK hKK=>?_
 refine g ?_
 repeat' (refine hKK _ (g ?_);clear hKK KK)
 refine AW.freeze 300 _ rfl ⟨iM,trivial,trivial,trivial,trivial,iR,trivial,trivial,iS,trivial,trivial,iT,trivial,iD,trivial,trivial,trivial⟩ ?_
 simp only [go_sem,reduceIte,Nat.reduceEqDiff]
 refine g ?_
 repeat' refine st_ rfl (g ?_)
 refine AW.loop (fun m:{m:Nat // m<=n.subs.length/\∀ x∈n.subs.take m,decide (x.from_=f)=false}=>⟨[(1,.val (.int .i64 f)),(2,.ip [.val (.int .i64 n.me),stI n.view.known,znI n.view.zones,wrI n.view.held,boI n.view.bodies,.val (.int .i64 n.view.room),stI n.log.base,noI n.log.notes,.val (.int .i64 n.log.sure),ouI n.outs,H9 n.subs,.val (.int .i64 n.tries),msI n.queue,.val (.int .i64 n.disk.room),flI n.disk.files,.val (.bool n.down)]),(5,.val (.int .i64 (m.1:Nat)))],[]⟩) (fun m=>n.subs.length - m.1) ⟨0,Nat.zero_le _,fun x hx=>by simp at hx⟩ id ⟨⟨rfl,rfl,rfl,trivial⟩,trivial,List.nodup_nil⟩ fun ⟨m,hm,ht⟩=>?_
 simp only
 repeat (refine AW.seq ?_)
 refine AW.reg rfl fun KK hKK=>?_
 refine g ?_
 repeat' (refine hKK _ (g ?_);clear hKK KK)
 repeat (refine AW.seq ?_)
 refine st_ rfl ?_
 refine g ?_
 refine Al (fun h=>?_) (fun h=>?_)
 ·have hlt:m < n.subs.length:=by omega
  have hget:=Cx (f:=Vp) (List.getElem?_eq_getElem hlt)
  refine st_ rfl (g ?_)
  refine g ?_
  repeat' (first | refine st_ rfl (g ?_) | refine Al (fun h=>g ?_) (fun h=>g ?_) | refine ix_ (by omega) (g ?_))
  ·have h2:n.subs[m].from_=f:=by simpa using h
   exact (C89 hlt (by simpa using h2) ht).symm
  ·have h2:¬ n.subs[m].from_=f:=by simpa using h
   refine ⟨⟨m+1,by omega,fun x hx=>?_⟩,id,⟨⟨rfl,rfl,rfl,trivial⟩,trivial,List.nodup_nil⟩,by show n.subs.length - (m+1) < n.subs.length - m;omega⟩
   rw [List.take_succ_eq_append_getElem hlt] at hx
   rcases List.mem_append.1 hx with h1 | h1
   ·exact ht x h1
   ·rw [List.mem_singleton.1 h1];simpa using h2
 ·obtain rfl:m=n.subs.length:=by omega
  rw [List.take_length] at ht
  refine AW.exit ?_
  simp only [reduceIte]
  refine g ?_
  repeat' refine st_ rfl (g ?_)
  exact (C88 ht).symm
end Go.Proofs.YtblfjaedaijfoaaGreatDoor
namespace Go.Proofs.YtblfjaedaijfoaaGreatDoor
open Go.ChangeShapes Go.WideShapes Go.ChangeAt Go.RowKit
attribute [local irreducible] AW AWY Bo B4 vop Bj B7 Bf qop Bu C4 Aq Aj Bh A7 B9
attribute [local go_sem] Hv Dq G6 Eb Cm Jc Hr Db Dk Ae Af
theorem C73 (x y:Operand) (p q:Int) (w:World):(do eqGuard .neq 121 x y (.agg #[.int .i64 p,.int .i64 q]) (.agg #[.int .i64 p,.int .i64 q]);binOp .neq 121 (.agg #[.int .i64 p,.int .i64 q]) (.agg #[.int .i64 p,.int .i64 q]):Sem Value).run Tryz.prog w=.ok (.bool false) w:=by
 go_simp
theorem Bt6 (x y:Operand) (p q r:Int) (b:Bool) (w:World):(do eqGuard .neq 102 x y (.agg #[.int .i64 p,.int .i64 q,.int .i64 r,.bool b]) (.agg #[.int .i64 p,.int .i64 q,.int .i64 r,.bool b]);binOp .neq 102 (.agg #[.int .i64 p,.int .i64 q,.int .i64 r,.bool b]) (.agg #[.int .i64 p,.int .i64 q,.int .i64 r,.bool b]):Sem Value).run Tryz.prog w=.ok (.bool false) w:=by
 go_simp
set_option maxRecDepth 100000 in
set_option maxHeartbeats 800000 in
theorem V9 (l:List C1):A7 Tryz.prog A8 133 [.iv (boI l),.iv (boI l)] (.val (.bool true)) []:=by
 refine A7.of (n:=27) (rs:=[.tmp 4]) Tryz.func133 rfl (by kernel_rfl) Tryz.ntmps133 (by kernel_rfl) (by simp) (fun _ _=>A8.later) ?_
 intro hok V w0
 have hlen:l.length<=1073741824:=by simpa [boI] using hok.1.1
 refine g ?_
 repeat' refine st_ rfl (g ?_)
 refine AW.loop (fun i:{i:Nat // i<=l.length}=>⟨[(0,.iv (boI l)),(1,.iv (boI l)),(5,.val (.int .i64 (i.1:Nat)))],[]⟩) (fun i=>l.length - i.1) ⟨0,Nat.zero_le _⟩ id ⟨⟨rfl,rfl,rfl,trivial⟩,trivial,List.nodup_nil⟩ fun ⟨i,hi⟩=>?_
 refine g ?_
 repeat' (first | refine st_ rfl (g ?_) | exact trivial | refine Al (fun h=>g ?_) (fun h=>g ?_))
 have hlt:i < l.length:=by omega
 have hg:=Cx (f:=enB) (List.getElem?_eq_getElem hlt)
 have hsame:=Va l[i] l[i]
 rw [decide_eq_true rfl] at hsame
 refine AW.drawn (ds:=[17,18,19,20,21,22,23,24,25,26]) (fin:=[]) (bs:=[0,0,0,0,0,0,0,0,0,0]) [⟨[],[],[],[],0⟩,⟨[],[],[],[],0⟩,⟨[(17,0),(18,1)],[],[],[],0⟩,⟨[(19,2)],[],[],[],0⟩,⟨[],[],[],[],0⟩,⟨[],[],[],[],0⟩,⟨[(21,4),(22,5)],[],[],[],0⟩,⟨[(23,6)],[],[],[],0⟩,⟨[(20,3),(24,7)],[],[],[],0⟩,⟨[(25,8)],[],[],[],0⟩] (by kernel_rfl) rfl (by kernel_rfl) rfl rfl rfl fun KD hKD=>?_
 refine g ?_
 repeat' (first | refine st_ rfl (g ?_) | (refine hKD _ _ ⟨rfl,g ?_⟩;clear hKD KD) | refine ix_ (by omega) (g ?_) | refine A9 (hsame) rfl (g ?_))
 exact ⟨⟨i+1,hlt⟩,id,⟨⟨rfl,rfl,rfl,trivial⟩,trivial,List.nodup_nil⟩,by show l.length - (i+1) < l.length - i;omega⟩
set_option maxRecDepth 100000 in
set_option maxHeartbeats 800000 in
theorem Xu (l:List Ap):A7 Tryz.prog A8 132 [.iv (wrI l),.iv (wrI l)] (.val (.bool true)) []:=by
 refine A7.of (n:=26) (rs:=[.tmp 4]) Tryz.func132 rfl (by kernel_rfl) Tryz.ntmps132 (by kernel_rfl) (by simp) (fun _ _=>A8.later) ?_
 intro hok V w0
 have hlen:l.length<=1073741824:=by simpa [wrI] using hok.1.1
 refine g ?_
 repeat' refine st_ rfl (g ?_)
 refine AW.loop (fun i:{i:Nat // i<=l.length}=>⟨[(0,.iv (wrI l)),(1,.iv (wrI l)),(5,.val (.int .i64 (i.1:Nat)))],[]⟩) (fun i=>l.length - i.1) ⟨0,Nat.zero_le _⟩ id ⟨⟨rfl,rfl,rfl,trivial⟩,trivial,List.nodup_nil⟩ fun ⟨i,hi⟩=>?_
 refine g ?_
 repeat' (first | refine st_ rfl (g ?_) | exact trivial | refine Al (fun h=>g ?_) (fun h=>g ?_))
 have hlt:i < l.length:=by omega
 have hg:=Cx (f:=enW) (List.getElem?_eq_getElem hlt)
 refine AW.drawn (ds:=[17,18,19,20,21,22,23,24,25]) (fin:=[]) (bs:=[0,0,0,0,0,0,0,0,0]) [⟨[],[],[],[],0⟩,⟨[],[],[],[],0⟩,⟨[(17,0),(18,1)],[],[],[],0⟩,⟨[(19,2)],[],[],[],0⟩,⟨[],[],[],[],0⟩,⟨[],[],[],[],0⟩,⟨[(21,4),(22,5)],[],[],[],0⟩,⟨[(23,6)],[],[],[],0⟩,⟨[(20,3),(24,7)],[],[],[],0⟩] (by kernel_rfl) rfl (by kernel_rfl) rfl rfl rfl fun KD hKD=>?_
 refine g ?_
 repeat' refine ix_ (by omega) (g ?_)
 refine ⟨_,fun u=>Bt6 _ _ _ _ _ _ u,?_⟩
 refine g ?_
 repeat' (first | refine st_ rfl (g ?_) | refine Bi (g ?_) | (refine hKD _ _ ⟨rfl,g ?_⟩;clear hKD KD))
 exact ⟨⟨i+1,hlt⟩,id,⟨⟨rfl,rfl,rfl,trivial⟩,trivial,List.nodup_nil⟩,by show l.length - (i+1) < l.length - i;omega⟩
set_option maxRecDepth 100000 in
set_option maxHeartbeats 800000 in
theorem Xt (l:List At):A7 Tryz.prog A8 131 [.iv (znI l),.iv (znI l)] (.val (.bool true)) []:=by
 refine A7.of (n:=42) (rs:=[.tmp 4]) Tryz.func131 rfl (by kernel_rfl) Tryz.ntmps131 (by kernel_rfl) (by simp) (fun _ _=>A8.later) ?_
 intro hok V w0
 have hlen:l.length<=1073741824:=by simpa [znI] using hok.1.1
 refine g ?_
 repeat' refine st_ rfl (g ?_)
 refine AW.loop (fun i:{i:Nat // i<=l.length}=>⟨[(0,.iv (znI l)),(1,.iv (znI l)),(5,.val (.int .i64 (i.1:Nat)))],[]⟩) (fun i=>l.length - i.1) ⟨0,Nat.zero_le _⟩ id ⟨⟨rfl,rfl,rfl,trivial⟩,trivial,List.nodup_nil⟩ fun ⟨i,hi⟩=>?_
 refine g ?_
 repeat' (first | refine st_ rfl (g ?_) | exact trivial | refine Al (fun h=>g ?_) (fun h=>g ?_))
 have hlt:i < l.length:=by omega
 have hg:=Cx (f:=enZ) (List.getElem?_eq_getElem hlt)
 have hsame:=G9 l[i].vec l[i].vec
 rw [decide_eq_true rfl] at hsame
 refine AW.drawn (ds:=[17,18,19,20,21,22,23,24,25,26,27,28,29,30,31,32,33,34,35,36,37,38,39,40,41]) (fin:=[]) (bs:=[0,0,0,0,0,0,0,0,0,0,0,0,0,0,0,0,0,0,0,0,0,0,0,0,0]) [⟨[],[],[],[],0⟩,⟨[],[],[],[],0⟩,⟨[(17,0),(18,1)],[],[],[],0⟩,⟨[(19,2)],[],[],[],0⟩,⟨[(20,3)],[],[],[],0⟩,⟨[],[],[],[],0⟩,⟨[],[],[],[],0⟩,⟨[(22,5),(23,6)],[],[],[],0⟩,⟨[(24,7)],[],[],[],0⟩,⟨[(25,8)],[],[],[],0⟩,⟨[(21,4),(26,9)],[],[],[],0⟩,⟨[(27,10)],[],[],[],0⟩,⟨[],[],[],[],0⟩,⟨[],[],[],[],0⟩,⟨[(29,12),(30,13)],[],[],[],0⟩,⟨[(31,14)],[],[],[],0⟩,⟨[(32,15)],[],[],[],0⟩,⟨[],[],[],[],0⟩,⟨[],[],[],[],0⟩,⟨[(34,17),(35,18)],[],[],[],0⟩,⟨[(36,19)],[],[],[],0⟩,⟨[(37,20)],[],[],[],0⟩,⟨[(33,16),(38,21)],[],[],[],0⟩,⟨[(39,22)],[],[],[],0⟩,⟨[(28,11),(40,23)],[],[],[],0⟩] (by kernel_rfl) rfl (by kernel_rfl) rfl rfl rfl fun KD hKD=>?_
 refine g ?_
 repeat' refine ix_ (by omega) (g ?_)
 refine ⟨_,fun u=>C73 _ _ _ _ u,?_⟩
 refine g ?_
 repeat' (first | refine st_ rfl (g ?_) | refine Bi (g ?_) | (refine hKD _ _ ⟨rfl,g ?_⟩;clear hKD KD) | refine ix_ (by omega) (g ?_) | refine A9 (hsame) rfl (g ?_))
 exact ⟨⟨i+1,hlt⟩,id,⟨⟨rfl,rfl,rfl,trivial⟩,trivial,List.nodup_nil⟩,by show l.length - (i+1) < l.length - i;omega⟩
set_option maxRecDepth 100000 in
set_option maxHeartbeats 800000 in
theorem Ai1 (v:Cr) (iR:I64 v.room):A7 Tryz.prog A8 51 [vwA v,vwA v] (.val (.bool true)) []:=by
 refine A7.of (n:=38) (rs:=[.tmp 4]) Tryz.func51 rfl (by kernel_rfl) Tryz.ntmps51 (by kernel_rfl) (by simp) (fun _ _=>A8.later) ?_
 intro hok V w0
 have hs:=G9 v.known v.known
 rw [decide_eq_true rfl] at hs
 refine g ?_
 refine AW.seq ?_
 refine AW.reg rfl fun KK hKK=>?_
 refine g ?_
 repeat' (refine hKK _ (g ?_);clear hKK KK)
 refine AW.freeze 300 _ rfl ⟨trivial,trivial,trivial,trivial,iR,trivial⟩ ?_
 simp only [go_sem,reduceIte,Nat.reduceEqDiff]
 refine AW.freeze 400 _ rfl ⟨trivial,trivial,trivial,trivial,iR,trivial⟩ ?_
 simp only [go_sem,reduceIte,Nat.reduceEqDiff]
 refine g ?_
 repeat' (first | refine st_ rfl (g ?_) | refine A9 (hs) rfl (g ?_) | refine A9 (Xt _) rfl (g ?_) | refine A9 (Xu _) rfl (g ?_) | refine A9 (V9 _) rfl (g ?_))
 exact decide_eq_true trivial
set_option maxRecDepth 100000 in
theorem Bm1 (room:Int):A7 Tryz.prog A8 42 [.val (.int .i64 room)] (.tup [vwA (A81 room).1,.val (.int .i64 (A81 room).2)]) []:=by
 refine A7.ofS (n:=13) (rs:=[.cell 2 27,.tmp 3]) Tryz.func42 rfl (by kernel_rfl) Tryz.ntmps42 (by kernel_rfl) (by simp) (fun _ _=>A8.later) ?_
 intro hok V w0
 obtain ⟨R,hR⟩ : ∃ R,A81 room=R:=⟨_,rfl⟩
 rw [hR]
 unfold A81 Ke at hR
 refine g ?_
 repeat' (first | refine st_ rfl (g ?_) | refine Al (fun h=>g ?_) (fun h=>g ?_) | (refine B8 rfl rfl (fun h e=>?_) (fun h e=>?_)<;>simp only [e]<;>clear e<;>refine g ?_))
 ·rw [if_neg (by simp;omega)] at hR
  exact Ru hR.symm
 ·rw [if_neg (by simp;omega)] at hR
  exact Ru hR.symm
 ·rw [if_pos (by simp;omega)] at hR
  subst hR
  exact Bg5 room
end Go.Proofs.YtblfjaedaijfoaaGreatDoor
namespace Go.Proofs.YtblfjaedaijfoaaGreatDoor
open Go.ChangeShapes Go.WideShapes Go.ChangeAt Go.RowKit
attribute [local irreducible] AW AWY Bo B4 vop Bj B7 Bf qop Bu C4 Aq Aj Bh A7 B9 Ge
attribute [local go_sem] Pa L2 X1 G6 Cv Ae Af
set_option maxRecDepth 100000 in
set_option maxHeartbeats 1600000 in
theorem B64 (x y:Msg) (e:x=y):A7 Tryz.prog A8 136 [msA x,msA y] (.val (.bool true)) []:=by
 refine A7.of (n:=66) (rs:=[.tmp 4]) Tryz.func136 rfl (by kernel_rfl) Tryz.ntmps136 (by kernel_rfl) (by simp) (fun _ _=>A8.later) ?_
 intro hok V w0
 have h3:=Va x.body y.body
 rw [decide_eq_true (congrArg Msg.body e)] at h3
 obtain ⟨a1,a2,a3,a4,a5,a6,a7,a8,⟨a9,⟨b1,b2⟩,b3⟩⟩:=x
 obtain ⟨c1,c2,c3,c4,c5,c6,c7,c8,⟨c9,⟨d1,d2⟩,d3⟩⟩:=y
 injection e with e1 e2 e3 e4 e5 e6 e7 e8 e9
 subst e8
 refine g ?_
 repeat' (first | refine st_ rfl (g ?_) | exact trivial | (refine B8 rfl rfl (fun h e=>?_) (fun h e=>?_)<;>simp only [e]<;>clear e<;>refine g ?_) | refine A9 (Qt _ _) rfl (g ?_) | refine A9 (G9 _ _) rfl (g ?_) | refine A9 (Wv _) rfl (g ?_) | refine A9 (h3) rfl (g ?_))
 all_goals contradiction
theorem As0 (x:Msg):A7 Tryz.prog A8 136 [msA x,msA x] (.val (.bool true)) []:=B64 x x rfl
set_option maxRecDepth 100000 in
set_option maxHeartbeats 800000 in
theorem A06 (l:List Msg):A7 Tryz.prog A8 55 [.iv (msI l),.iv (msI l)] (.val (.bool true)) []:=by
 refine A7.of (n:=27) (rs:=[.tmp 4]) Tryz.func55 rfl (by kernel_rfl) Tryz.ntmps55 (by kernel_rfl) (by simp) (fun _ _=>A8.later) ?_
 intro hok V w0
 have hlen:l.length<=1073741824:=by simpa [msI] using hok.1.1
 refine g ?_
 repeat' refine st_ rfl (g ?_)
 refine AW.loop (fun i:{i:Nat // i<=l.length}=>⟨[(0,.iv (msI l)),(1,.iv (msI l)),(5,.val (.int .i64 (i.1:Nat)))],[]⟩) (fun i=>l.length - i.1) ⟨0,Nat.zero_le _⟩ id ⟨⟨rfl,rfl,rfl,trivial⟩,trivial,List.nodup_nil⟩ fun ⟨i,hi⟩=>?_
 refine g ?_
 repeat' (first | refine st_ rfl (g ?_) | exact trivial | refine Al (fun h=>g ?_) (fun h=>g ?_))
 have hlt:i < l.length:=by omega
 have hg:=Cx (f:=Af2) (List.getElem?_eq_getElem hlt)
 refine AW.drawn (ds:=[17,18,19,20,21,22,23,24,25,26]) (fin:=[]) (bs:=[0,0,0,0,0,0,0,0,0,0]) [⟨[],[],[],[],0⟩,⟨[],[],[],[],0⟩,⟨[(17,0),(18,1)],[],[],[],0⟩,⟨[(19,2)],[],[],[],0⟩,⟨[],[],[],[],0⟩,⟨[],[],[],[],0⟩,⟨[(21,4),(22,5)],[],[],[],0⟩,⟨[(23,6)],[],[],[],0⟩,⟨[(20,3),(24,7)],[],[],[],0⟩,⟨[(25,8)],[],[],[],0⟩] (by kernel_rfl) rfl (by kernel_rfl) rfl rfl rfl fun KD hKD=>?_
 refine g ?_
 repeat' (first | refine st_ rfl (g ?_) | (refine hKD _ _ ⟨rfl,g ?_⟩;clear hKD KD) | refine ix_ (by omega) (g ?_) | refine A9 (As0 _) rfl (g ?_))
 exact ⟨⟨i+1,hlt⟩,id,⟨⟨rfl,rfl,rfl,trivial⟩,trivial,List.nodup_nil⟩,by show l.length - (i+1) < l.length - i;omega⟩
end Go.Proofs.YtblfjaedaijfoaaGreatDoor
namespace Go.Proofs.YtblfjaedaijfoaaGreatDoor
open Go.ChangeShapes Go.WideShapes Go.ChangeAt Go.RowKit
attribute [local irreducible] AW AWY Bo B4 vop Bj B7 Bf qop Bu C4 Aq Aj Bh A7 B9
attribute [local go_sem] G2 Ms Ef C9 Ae Af
theorem Bw2 (l m:List Ab):A7 Tryz.prog A8 125 [.iv (stI l),.iv (stI m)] (.iv (stI (Di [l,m]))) []:=(B58 l m).frz trivial
set_option maxHeartbeats 1600000 in
set_option maxRecDepth 100000 in
theorem T8 (l:Log) (iS:I64 l.sure):A7 Tryz.prog A8 44 [Q4 l] (.val (.bool (Cf l))) []:=by
 refine A7.of (n:=56) (rs:=[.tmp 2]) Tryz.func44 rfl (by kernel_rfl) Tryz.ntmps44 (by kernel_rfl) (by simp) (fun _ _=>A8.later) ?_
 intro hok V w0
 have hlen:l.notes.length<=1073741824:=by simpa using hok.1.2.1.1
 obtain ⟨B,hB⟩ : ∃ B,Cf l=B:=⟨_,rfl⟩
 rw [hB]
 unfold Cf Zl at hB
 refine g ?_
 refine AW.seq ?_
 refine AW.reg rfl fun KK hKK=>?_
 refine g ?_
 repeat' (refine hKK _ (g ?_);clear hKK KK)
 refine AW.freeze 200 _ rfl ⟨trivial,trivial,iS,trivial⟩ ?_
 simp only [go_sem,reduceIte,Nat.reduceEqDiff]
 refine g ?_
 repeat' refine st_ rfl (g ?_)
 refine A9 (L6 l.base) rfl ?_
 cases hb:Ak l.base
 ·obtain rfl:B=false:=by rw [<-hB,hb];rfl
  refine g ?_
  repeat' refine st_ rfl (g ?_)
  first | exact trivial | exact ⟨.inl trivial,id,List.nodup_nil⟩ | exact ⟨.inl trivial,id,rfl,List.nodup_nil⟩ | rfl
 refine g ?_
 by_cases h0:l.sure < 0
 ·obtain rfl:B=false:=by rw [<-hB,decide_eq_false (p:=0<=l.sure) (by omega)];simp
  simp only [decide_eq_true h0]
  refine g ?_
  repeat' refine st_ rfl (g ?_)
  first | exact trivial | exact ⟨.inl trivial,id,List.nodup_nil⟩ | exact ⟨.inl trivial,id,rfl,List.nodup_nil⟩ | rfl
 simp only [decide_eq_false h0]
 refine g ?_
 repeat' (first | refine st_ rfl (g ?_) | refine Cy (fun h=>g ?_) (fun h=>g ?_))
 ·obtain rfl:B=false:=by
   have:=of_decide_eq_true h
   rw [<-hB,decide_eq_false (p:=l.sure<=l.notes.length) (by omega)];simp
  first | exact trivial | exact ⟨.inl trivial,id,List.nodup_nil⟩ | exact ⟨.inl trivial,id,rfl,List.nodup_nil⟩ | rfl
 have h1:l.sure<=l.notes.length:=by have:=of_decide_eq_false h;omega
 rw [hb,decide_eq_true h1,decide_eq_true (p:=0<=l.sure) (by omega),Bool.true_and,Bool.true_and,Bool.true_and] at hB
 refine AW.loop (fun m:{m:Nat // m<=l.notes.length/\Cs l.base (l.notes.take m)=true}=>⟨[(1,.ip [stI l.base,noI l.notes,.val (.int .i64 l.sure)]),(3,.iv (stI (Bk l.base (l.notes.take m.1)))),(4,.val (.int .i64 (m.1:Nat)))],[]⟩) (fun m=>l.notes.length - m.1) ⟨0,Nat.zero_le _,rfl⟩ id ⟨⟨rfl,rfl,rfl,trivial⟩,trivial,List.nodup_nil⟩ fun ⟨m,hm,ht⟩=>?_
 have hsp:∀ (hlt:m < l.notes.length),l.notes=l.notes.take m++l.notes[m] :: l.notes.drop (m+1):=fun hlt=>by rw [<-List.drop_eq_getElem_cons hlt,List.take_append_drop]
 clear h
 refine g ?_
 repeat' (first | refine st_ rfl (g ?_) | refine Cy (fun h=>g ?_) (fun h=>g ?_))
 ·have hlt:m < l.notes.length:=by simpa using h
  have hs2:Cs l.base l.notes=((Ax l.notes[m]&&Aw (Bk l.base (l.notes.take m)) l.notes[m].start)&&Cs (Di [Bk l.base (l.notes.take m),l.notes[m].end_]) (l.notes.drop (m+1))):=by
   conv=>lhs;rw [hsp hlt]
   rw [E5,ht,Bool.true_and];rfl
  refine ⟨by omega,_,Cx (List.getElem?_eq_getElem hlt),?_⟩
  refine g ?_
  repeat' refine Bi (g ?_)
  refine A9 (A76 l.notes[m]) rfl ?_
  cases hf:Ax l.notes[m]
  ·refine g ?_
   repeat' refine st_ rfl (g ?_)
   obtain rfl:B=false:=by rw [<-hB,hs2,hf];rfl
   first | exact trivial | exact ⟨.inl trivial,id,List.nodup_nil⟩ | exact ⟨.inl trivial,id,rfl,List.nodup_nil⟩ | rfl
  refine g ?_
  refine ⟨by omega,_,Cx (List.getElem?_eq_getElem hlt),?_⟩
  refine g ?_
  repeat' refine Bi (g ?_)
  refine A9 (Ar9 l.notes[m] _) rfl ?_
  cases hc:Aw (Bk l.base (l.notes.take m)) l.notes[m].start
  ·refine g ?_
   repeat' refine st_ rfl (g ?_)
   obtain rfl:B=false:=by rw [<-hB,hs2,hf,hc];rfl
   first | exact trivial | exact ⟨.inl trivial,id,List.nodup_nil⟩ | exact ⟨.inl trivial,id,rfl,List.nodup_nil⟩ | rfl
  refine g ?_
  repeat' refine st_ rfl (g ?_)
  refine ⟨by omega,_,Cx (List.getElem?_eq_getElem hlt),?_⟩
  refine g ?_
  repeat' refine Bi (g ?_)
  refine A9 (Bw2 (Bk l.base (l.notes.take m)) l.notes[m].end_) rfl ?_
  refine g ?_
  repeat' refine st_ rfl (g ?_)
  refine ⟨⟨m+1,hlt,?_⟩,id,⟨⟨rfl,?_,rfl,trivial⟩,trivial,List.nodup_nil⟩,by show l.notes.length - (m+1) < l.notes.length - m;omega⟩
  ·rw [List.take_succ_eq_append_getElem hlt,E5,ht,Bool.true_and]
   simp [Cs,hf,hc]
  ·rw [List.take_succ_eq_append_getElem hlt,Mo]
   rfl
 ·have:m=l.notes.length:=by simp at h;omega
  subst this
  rw [List.take_length] at ht
  rw [ht] at hB
  subst hB
  first | exact trivial | exact ⟨.inl trivial,id,List.nodup_nil⟩ | exact ⟨.inl trivial,id,rfl,List.nodup_nil⟩ | rfl
theorem As1 (l:Log) (iS:I64 l.sure):A7 Tryz.prog A8 52 [Q4 l,Q4 l] (.val (.bool true)) []:=by
 refine A7.of (n:=24) (rs:=[.tmp 4]) Tryz.func52 rfl (by kernel_rfl) Tryz.ntmps52 (by kernel_rfl) (by simp) (fun _ _=>A8.later) ?_
 intro hok V w0
 refine g ?_
 refine g ?_
 repeat' refine st_ rfl (g ?_)
 refine A9 (G9 l.base l.base) rfl ?_
 simp only [decide_true]
 refine g ?_
 refine A9 (Wv l.notes) rfl ?_
 refine g ?_
 repeat' refine st_ rfl (g ?_)
 first | exact trivial | exact ⟨.inl trivial,id,List.nodup_nil⟩ | exact ⟨.inl trivial,id,rfl,List.nodup_nil⟩ | rfl
end Go.Proofs.YtblfjaedaijfoaaGreatDoor
namespace Go.Proofs.YtblfjaedaijfoaaGreatDoor
open Go.ChangeShapes Go.WideShapes Go.ChangeAt Go.RowKit
attribute [local irreducible] AW AWY Bo B4 vop Bj B7 Bf qop Bu C4 Aq Aj Bh A7 B9
attribute [local go_sem] Dk Ef Cv L2 Pa X1 L1 Mr G2 Ms Db Dq Cm Eb Ae Af
set_option maxRecDepth 100000 in
theorem Ar7 (l:List Out):A7 Tryz.prog A8 53 [.iv (ouI l),.iv (ouI [])] (.val (.bool (decide (l.length=0)))) []:=by
 cases l with
 | nil=>exact V0 []
 | cons x l =>
  refine A7.of (n:=61) (rs:=[.tmp 4]) Tryz.func53 rfl (by kernel_rfl) Tryz.ntmps53 (by kernel_rfl) (by simp) (fun _ _=>A8.later) ?_
  intro hok V w0
  rw [show decide ((x :: l).length=0)=false from rfl]
  refine g ?_
  repeat' (first | refine st_ rfl (g ?_) | exact trivial)
set_option maxRecDepth 100000 in
theorem Bm3 (l:List Msg):A7 Tryz.prog A8 55 [.iv (msI l),.iv (msI [])] (.val (.bool (decide (l.length=0)))) []:=by
 cases l with
 | nil=>exact A06 []
 | cons x l =>
  refine A7.of (n:=27) (rs:=[.tmp 4]) Tryz.func55 rfl (by kernel_rfl) Tryz.ntmps55 (by kernel_rfl) (by simp) (fun _ _=>A8.later) ?_
  intro hok V w0
  rw [show decide ((x :: l).length=0)=false from rfl]
  refine g ?_
  repeat' (first | refine st_ rfl (g ?_) | exact trivial)
set_option maxRecDepth 100000 in
theorem B57 (l:List At):A7 Tryz.prog A8 131 [.iv (znI l),.iv (znI [])] (.val (.bool (decide (l.length=0)))) []:=by
 cases l with
 | nil=>exact Xt []
 | cons x l =>
  refine A7.of (n:=42) (rs:=[.tmp 4]) Tryz.func131 rfl (by kernel_rfl) Tryz.ntmps131 (by kernel_rfl) (by simp) (fun _ _=>A8.later) ?_
  intro hok V w0
  rw [show decide ((x :: l).length=0)=false from rfl]
  refine g ?_
  repeat' (first | refine st_ rfl (g ?_) | exact trivial)
set_option maxRecDepth 100000 in
theorem Bw1 (l:List Ap):A7 Tryz.prog A8 132 [.iv (wrI l),.iv (wrI [])] (.val (.bool (decide (l.length=0)))) []:=by
 cases l with
 | nil=>exact Xu []
 | cons x l =>
  refine A7.of (n:=26) (rs:=[.tmp 4]) Tryz.func132 rfl (by kernel_rfl) Tryz.ntmps132 (by kernel_rfl) (by simp) (fun _ _=>A8.later) ?_
  intro hok V w0
  rw [show decide ((x :: l).length=0)=false from rfl]
  refine g ?_
  repeat' (first | refine st_ rfl (g ?_) | exact trivial)
set_option maxRecDepth 100000 in
theorem As8 (l:List C1):A7 Tryz.prog A8 133 [.iv (boI l),.iv (boI [])] (.val (.bool (decide (l.length=0)))) []:=by
 cases l with
 | nil=>exact V9 []
 | cons x l =>
  refine A7.of (n:=27) (rs:=[.tmp 4]) Tryz.func133 rfl (by kernel_rfl) Tryz.ntmps133 (by kernel_rfl) (by simp) (fun _ _=>A8.later) ?_
  intro hok V w0
  rw [show decide ((x :: l).length=0)=false from rfl]
  refine g ?_
  repeat' (first | refine st_ rfl (g ?_) | exact trivial)
set_option maxRecDepth 100000 in
theorem Bm2 (l:List Bc):A7 Tryz.prog A8 134 [.iv (noI l),.iv (noI [])] (.val (.bool (decide (l.length=0)))) []:=by
 cases l with
 | nil=>exact Wv []
 | cons x l =>
  refine A7.of (n:=27) (rs:=[.tmp 4]) Tryz.func134 rfl (by kernel_rfl) Tryz.ntmps134 (by kernel_rfl) (by simp) (fun _ _=>A8.later) ?_
  intro hok V w0
  rw [show decide ((x :: l).length=0)=false from rfl]
  refine g ?_
  repeat' (first | refine st_ rfl (g ?_) | exact trivial)
set_option maxRecDepth 100000 in
theorem Ar4 (v:Cr) (r:Int) (iR:I64 v.room) (iQ:I64 r):A7 Tryz.prog A8 51 [vwA v,vwA ⟨[],[],[],[],r⟩] (.val (.bool (decide (v.known=[])&&decide (v.zones.length=0)&&decide (v.held.length=0)&&decide (v.bodies.length=0)&&decide (v.room=r)))) []:=by
 refine A7.of (n:=38) (rs:=[.tmp 4]) Tryz.func51 rfl (by kernel_rfl) Tryz.ntmps51 (by kernel_rfl) (by simp) (fun _ _=>A8.later) ?_
 intro hok V w0
 have hk:=G9 v.known []
 have hz:=B57 v.zones
 have hw:=Bw1 v.held
 have hb:=As8 v.bodies
 obtain ⟨B,hB⟩ : ∃ B,(decide (v.known=[])&&decide (v.zones.length=0)&&decide (v.held.length=0)&&decide (v.bodies.length=0)&&decide (v.room=r))=B:=⟨_,rfl⟩
 rw [hB]
 refine g ?_
 refine AW.seq ?_
 refine AW.reg rfl fun KK hKK=>?_
 refine g ?_
 repeat' (refine hKK _ (g ?_);clear hKK KK)
 refine AW.freeze 300 _ rfl ⟨trivial,trivial,trivial,trivial,iR,trivial⟩ ?_
 simp only [go_sem,reduceIte,Nat.reduceEqDiff]
 refine AW.freeze 400 _ rfl ⟨trivial,trivial,trivial,trivial,iQ,trivial⟩ ?_
 simp only [go_sem,reduceIte,Nat.reduceEqDiff]
 refine g ?_
 repeat' (first | refine st_ rfl (g ?_) | (refine B8 rfl rfl (fun h e=>?_) (fun h e=>?_)<;>simp only [e]<;>clear e<;>refine g ?_) | refine A9 (hk) rfl (g ?_) | refine A9 (hz) rfl (g ?_) | refine A9 (hw) rfl (g ?_) | refine A9 (hb) rfl (g ?_))
 all_goals (subst hB;simp [*])
set_option maxRecDepth 100000 in
theorem B65 (l:Log) (iS:I64 l.sure):A7 Tryz.prog A8 52 [Q4 l,Q4 ⟨[],[],0⟩] (.val (.bool (decide (l.base=[])&&decide (l.sure=0)&&decide (l.notes.length=0)))) []:=by
 refine A7.of (n:=24) (rs:=[.tmp 4]) Tryz.func52 rfl (by kernel_rfl) Tryz.ntmps52 (by kernel_rfl) (by simp) (fun _ _=>A8.later) ?_
 intro hok V w0
 have hk:=G9 l.base []
 have hn:=Bm2 l.notes
 obtain ⟨B,hB⟩ : ∃ B,(decide (l.base=[])&&decide (l.sure=0)&&decide (l.notes.length=0))=B:=⟨_,rfl⟩
 rw [hB]
 refine g ?_
 refine AW.seq ?_
 refine AW.reg rfl fun KK hKK=>?_
 refine g ?_
 repeat' (refine hKK _ (g ?_);clear hKK KK)
 refine AW.freeze 300 _ rfl ⟨trivial,trivial,iS,trivial⟩ ?_
 simp only [go_sem,reduceIte,Nat.reduceEqDiff]
 refine AW.freeze 400 _ rfl ⟨trivial,trivial,rfl,trivial⟩ ?_
 simp only [go_sem,reduceIte,Nat.reduceEqDiff]
 refine g ?_
 repeat' (first | refine st_ rfl (g ?_) | (refine B8 rfl rfl (fun h e=>?_) (fun h e=>?_)<;>simp only [e]<;>clear e<;>refine g ?_) | refine A9 (hk) rfl (g ?_) | refine A9 (hn) rfl (g ?_))
 all_goals (subst hB;simp [*])
end Go.Proofs.YtblfjaedaijfoaaGreatDoor
namespace Go.Proofs.YtblfjaedaijfoaaGreatDoor
open Go.ChangeShapes Go.WideShapes Go.ChangeAt Go.RowKit
theorem A31:∀ {l:List F8} {k:Nat} (e:Int) (h:k < l.length),J6 e (l.take (k+1))=l[k].number
 | [],_,_,h=>absurd h (Nat.not_lt_zero _)
 | f :: l,0,e,_=>by simp [J6]
 | f :: l,k+1,e,h=>by
  rw [List.take_succ_cons]
  exact A31 (l:=l) f.number (by simpa using h)
theorem Aw4 {room:Int} : ∀ {l:List F8} {u:Nat} {e:Int},F5 room u e l=true->e<=J6 e l
 | [],_,_,_=>Int.le_refl _
 | f :: l,u,e,h=>by
  simp only [F5,Yb,Bool.and_eq_true,decide_eq_true_eq] at h
  have:=Aw4 h.2
  show e<=J6 f.number l
  omega
attribute [local irreducible] AW AWY Bo B4 vop Bj B7 Bf qop Bu C4 Aq Aj Bh A7 B9
attribute [local go_sem] Cv Hu Fs F6 Ae Af
set_option maxRecDepth 100000 in
set_option maxHeartbeats 3200000 in
theorem Xy (d : Gw) (iR : I64 d.room) : A7 Tryz.prog A8 41 [dkA d] (.val (.bool (Bs d))) [] := by
  refine A7.of (n := 77) (rs := [.tmp 2]) Tryz.func41 rfl (by kernel_rfl) Tryz.ntmps41 (by kernel_rfl) (by simp) (fun _ _ => A8.later) ?_
  intro hok V w0
  have hfl : AV.okd (.iv (flI d.files)) := hok.1.2.1
  have hlen : d.files.length <= 1073741824 := by simpa [flI] using hfl.1
  obtain ⟨B, hB⟩ : ∃ B, Bs d = B := ⟨_, rfl⟩
  rw [hB]
  refine g ?_
  refine AW.seq ?_
  refine AW.reg rfl fun KK hKK => ?_
  refine g ?_
  repeat' (refine hKK _ (g ?_); clear hKK KK)
  refine AW.freeze 200 _ rfl ⟨iR, trivial, trivial⟩ ?_
  simp only [go_sem, reduceIte, Nat.reduceEqDiff]
  refine g ?_
  repeat' (first | refine st_ rfl (g ?_) | refine Al (fun h => g ?_) (fun h => g ?_) | (refine B8 rfl rfl (fun h e => ?_) (fun h e => ?_) <;> simp only [e] <;> clear e <;> refine g ?_))
  · rw [<- hB]; simp [Bs]; intros; omega
  · rw [<- hB]; simp [Bs]; intros; omega
  have hR : 0 <= d.room /\ d.room <= 16777216 := by omega
  have hBF : B = F5 d.room 0 (-1) d.files := by rw [<- hB]; simp [Bs, hR]
  clear hB
  refine AW.loop (fun m : {m : Nat // m <= d.files.length /\ F5 d.room 0 (-1) (d.files.take m) = true} => ⟨[(1, .ip [.val (.int .i64 d.room), flI d.files]), (3, .val (.int .i64 (d.room - (Jp (d.files.take m.1) : Nat)))), (4, .val (.int .i64 (m.1 : Nat)))], []⟩) (fun m => d.files.length - m.1) ⟨0, Nat.zero_le _, rfl⟩ id ⟨⟨rfl, by show Cq _ 3 = .val (.int .i64 (d.room - 0)); rw [Int.sub_zero]; rfl, rfl, trivial⟩, trivial, List.nodup_nil⟩ fun ⟨m, hm, ht⟩ => ?_
  simp only
  have hsum := Q8 hR.1 (u := 0) (by omega) ht
  repeat (refine AW.seq ?_)
  refine AW.reg rfl fun KK hKK => ?_
  refine g ?_
  repeat' (refine hKK _ (g ?_); clear hKK KK)
  repeat (refine AW.seq ?_)
  refine st_ rfl ?_
  refine g ?_
  refine Al (fun h => ?_) (fun h => ?_)
  · have hlt : m < d.files.length := by omega
    obtain ⟨i1, i2, i3⟩ := Bh1 hfl hlt
    have hat := Ay1 hlt ht
    rw [<- hBF] at hat
    have hN : Yb d.room (Jp (d.files.take m)) (J6 (-1) (d.files.take m)) d.files[m] = false -> false = B := fun h => by rw [hat, h]; rfl
    have hl0 : m = 0 -> J6 (-1) (d.files.take m) = -1 := fun h => by subst h; rfl
    have hl1 : (h : 0 < m) -> J6 (-1) (d.files.take m) = (d.files[m - 1]'(by omega)).number := fun h => by
      obtain ⟨k, rfl⟩ : ∃ k, m = k + 1 := ⟨m - 1, by omega⟩
      exact A31 _ _
    have hge := Aw4 ht
    have hend : Yb d.room (Jp (d.files.take m)) (J6 (-1) (d.files.take m)) d.files[m] = true -> F5 d.room 0 (-1) (d.files.take (m + 1)) = true /\ d.room - (Jp (d.files.take m) : Nat) - (d.files[m].bytes.length : Nat) = d.room - ((Jp (d.files.take (m + 1)) : Nat) : Int) := fun h => by
      obtain ⟨g1, g2, -⟩ := A49 hlt ht h
      exact ⟨g1, by rw [g2]; omega⟩
    refine st_ rfl (g ?_)
    refine g ?_
    refine g ?_
    repeat' (first | refine st_ rfl (g ?_) | refine ix_ (by omega) (g ?_))
    refine AW.freeze 600 _ rfl ⟨i1, trivial, i2, trivial⟩ ?_
    simp only [go_sem, reduceIte, Nat.reduceEqDiff]
    refine AW.drawn (ds := [28, 29, 30, 31, 32, 33, 34, 35, 36, 37, 38, 39, 40, 41, 42, 43, 44, 45, 46, 47, 48, 49, 50, 51, 52, 53, 54, 55, 56, 57, 58, 59, 60, 61, 62, 63, 64, 65, 66, 67, 68, 69, 70, 71]) (fin := []) (bs := [0, 0, 0, 0, 0, 0, 0, 0, 0, 0, 0, 0, 0, 0, 0, 0, 0, 0, 0, 0, 0, 0, 0, 0, 0, 0, 0, 0, 0, 0, 0, 0, 0, 0, 0, 0, 0, 0, 0, 0, 0, 0, 0, 0]) [⟨[], [], [], [], 0⟩, ⟨[(28, 0)], [], [], [], 0⟩, ⟨[(29, 1)], [], [], [], 0⟩, ⟨[(30, 2)], [], [], [], 0⟩, ⟨[], [], [], [], 0⟩, ⟨[(32, 4)], [], [], [], 0⟩, ⟨[(33, 5)], [], [], [], 0⟩, ⟨[(31, 3), (34, 6)], [], [], [], 0⟩, ⟨[(35, 7)], [], [], [], 0⟩, ⟨[], [], [], [], 0⟩, ⟨[(37, 9)], [], [], [], 0⟩, ⟨[(38, 10)], [], [], [], 0⟩, ⟨[], [], [], [], 0⟩, ⟨[(40, 12)], [], [], [], 0⟩, ⟨[], [], [], [], 0⟩, ⟨[(42, 14)], [], [], [], 0⟩, ⟨[(41, 13), (43, 15)], [], [], [], 0⟩, ⟨[(44, 16)], [], [], [], 0⟩, ⟨[(45, 17)], [], [], [], 0⟩, ⟨[], [], [], [], 0⟩, ⟨[(47, 19)], [], [], [], 0⟩, ⟨[(46, 18), (48, 20)], [], [], [], 0⟩, ⟨[(39, 11), (49, 21)], [], [], [], 0⟩, ⟨[(36, 8), (50, 22)], [], [], [], 0⟩, ⟨[(51, 23)], [], [], [], 0⟩, ⟨[], [], [], [], 0⟩, ⟨[(53, 25)], [], [], [], 0⟩, ⟨[(54, 26)], [], [], [], 0⟩, ⟨[(52, 24), (55, 27)], [], [], [], 0⟩, ⟨[(56, 28)], [], [], [], 0⟩, ⟨[], [], [], [], 0⟩, ⟨[(58, 30)], [], [], [], 0⟩, ⟨[], [], [], [], 0⟩, ⟨[(60, 32)], [], [], [], 0⟩, ⟨[(61, 33)], [], [], [], 0⟩, ⟨[(59, 31), (62, 34)], [], [], [], 0⟩, ⟨[(57, 29), (63, 35)], [], [], [], 0⟩, ⟨[(64, 36)], [], [], [], 0⟩, ⟨[], [], [], [], 0⟩, ⟨[(66, 38)], [], [], [], 0⟩, ⟨[(67, 39)], [], [], [], 0⟩, ⟨[], [], [], [], 0⟩, ⟨[(68, 40), (69, 41)], [], [], [], 0⟩, ⟨[(65, 37), (70, 42)], [], [], [], 0⟩] (by kernel_rfl) rfl (by kernel_rfl) rfl rfl rfl fun KD hKD => ?_
    refine g ?_
    repeat' (first | refine st_ rfl (g ?_) | refine Al (fun h => g ?_) (fun h => g ?_) | (refine hKD _ _ ⟨rfl, g ?_⟩; clear hKD KD) | (refine M3 rfl rfl (fun h e => ?_) (fun h e => ?_) <;> simp only [e] <;> clear e <;> refine g ?_) | (refine ixm (m - 1) (by omega) (by omega) (by omega) ?_) <;> refine g ?_)
    all_goals first
      | exact hN (decide_eq_false (by omega))
      | exact hN (decide_eq_false (by have := hl1 (by omega); omega))
      | (obtain ⟨g1, g2⟩ := hend (decide_eq_true (by rcases Nat.eq_zero_or_pos m with h0 | h0; (have := hl0 h0; omega); (have := hl1 h0; omega)))
         exact ⟨⟨m + 1, by omega, g1⟩, id, ⟨⟨rfl, congrArg (fun z => AV.val (.int .i64 z)) g2, rfl, trivial⟩, trivial, List.nodup_nil⟩, by show d.files.length - (m + 1) < d.files.length - m; omega⟩)
  · refine AW.exit ?_
    simp only [reduceIte]
    refine g ?_
    repeat' refine st_ rfl (g ?_)
    rw [List.take_of_length_le (by omega)] at ht
    rw [hBF, ht]
end Go.Proofs.YtblfjaedaijfoaaGreatDoor
namespace Go.Proofs.YtblfjaedaijfoaaGreatDoor
open Go.ChangeShapes Go.WideShapes Go.ChangeAt Go.RowKit
attribute [local irreducible] AW AWY Bo B4 vop Bj B7 Bf qop Bu C4 Aq Aj Bh A7 B9
attribute [local go_sem] Cv Hu Fs F6 Ae Af
set_option maxRecDepth 100000 in
set_option maxHeartbeats 1600000 in
theorem Xx (d:Gw) (iR:I64 d.room):A7 Tryz.prog A8 56 [dkA d,dkA d] (.val (.bool true)) []:=by
 refine A7.of (n:=59) (rs:=[.tmp 4]) Tryz.func56 rfl (by kernel_rfl) Tryz.ntmps56 (by kernel_rfl) (by simp) (fun _ _=>A8.later) ?_
 intro hok V w0
 have hfl:AV.okd (.iv (flI d.files)):=hok.1.2.1
 have hlen:d.files.length<=1073741824:=by simpa [flI] using hfl.1
 refine g ?_
 refine AW.seq ?_
 refine AW.reg rfl fun KK hKK=>?_
 refine g ?_
 repeat' (refine hKK _ (g ?_);clear hKK KK)
 refine AW.freeze 300 _ rfl ⟨iR,trivial,trivial⟩ ?_
 simp only [go_sem,reduceIte,Nat.reduceEqDiff]
 refine AW.freeze 400 _ rfl ⟨iR,trivial,trivial⟩ ?_
 simp only [go_sem,reduceIte,Nat.reduceEqDiff]
 refine g ?_
 repeat' refine st_ rfl (g ?_)
 refine AW.loop (fun i:{i:Nat // i<=d.files.length}=>⟨[(2,.ip [.val (.int .i64 d.room),flI d.files]),(3,.ip [.val (.int .i64 d.room),flI d.files]),(5,.val (.int .i64 (i.1:Nat)))],[]⟩) (fun i=>d.files.length - i.1) ⟨0,Nat.zero_le _⟩ id ⟨⟨rfl,rfl,rfl,trivial⟩,trivial,List.nodup_nil⟩ fun ⟨i,hi⟩=>?_
 simp only
 repeat (refine AW.seq ?_)
 refine AW.reg rfl fun KK hKK=>?_
 refine g ?_
 repeat' (refine hKK _ (g ?_);clear hKK KK)
 repeat (refine AW.seq ?_)
 refine st_ rfl ?_
 refine g ?_
 refine Al (fun h=>?_) (fun h=>?_)
 ·have hlt:i < d.files.length:=by omega
  refine st_ rfl (g ?_)
  refine AW.seq ?_
  refine AW.block ?_
  repeat (refine AW.seq ?_)
  refine AW.drawn (ds:=[29,30,31,32,33,34,35,36,37,38,6,7]) (fin:=[2,3]) (bs:=[0,0,0,0,0,0,0,0,0,0,0,1,2,3]) [⟨[],[],[],[],0⟩,⟨[(29,0)],[],[],[],0⟩,⟨[],[],[],[],0⟩,⟨[(30,1),(31,2)],[],[],[],0⟩,⟨[(32,3)],[],[],[],0⟩,⟨[],[],[],[],0⟩,⟨[(34,5)],[],[],[],0⟩,⟨[],[],[],[],0⟩,⟨[(35,6),(36,7)],[],[],[],0⟩,⟨[(37,8)],[],[],[],0⟩,⟨[],[],[],[],1⟩,⟨[],[],[],[],1⟩,⟨[(6,10),(33,4)],[],[],[0],1⟩,⟨[(7,11),(38,9)],[],[],[1],1⟩] (by kernel_rfl) rfl (by kernel_rfl) rfl rfl rfl fun KD hKD=>?_
  refine g ?_
  repeat' (first | refine st_ rfl (g ?_) | (refine hKD _ _ ⟨rfl,g ?_⟩;clear hKD KD) | refine ix_ (by omega) (g ?_) | refine A9 (V8 _ _) rfl (g ?_))
  all_goals first
   | exact ⟨⟨i+1,hlt⟩,id,⟨⟨rfl,rfl,rfl,trivial⟩,trivial,List.nodup_nil⟩,by show d.files.length - (i+1) < d.files.length - i;omega⟩
   | (simp at *;done)
 ·refine AW.exit ?_
  simp only [reduceIte]
  refine g ?_
  repeat' (first | refine st_ rfl (g ?_) | exact trivial)
end Go.Proofs.YtblfjaedaijfoaaGreatDoor
namespace Go.Proofs.YtblfjaedaijfoaaGreatDoor
open Go.ChangeShapes Go.WideShapes Go.ChangeAt Go.RowKit
theorem B09 (b c:Bool) (w:World):(do pure ();binOp .eql 4 (.bool b) (.bool c):Sem Value).run Tryz.prog w=.ok (.bool (decide (b=c))) w:=by
 cases b<;>cases c<;>go_simp<;>rfl
attribute [local irreducible] AW AWY Bo B4 vop Bj B7 Bf qop Bu C4 Aq Aj Bh A7 B9
attribute [local go_sem] Cv Fs F6 G3 Gu L2 L1 Fx G2 Ef Dk Db Dq Cm Ae Af
set_option maxRecDepth 100000 in
set_option maxHeartbeats 3200000 in
theorem A05 (n m : Eo) (hI : Lu n) (hJ : Lu m) (b1 b2 b3 b4 b5 b6 : Bool)
    (h1 : A7 Tryz.prog A8 51 [vwA n.view, vwA m.view] (.val (.bool b1)) [])
    (h2 : A7 Tryz.prog A8 52 [Q4 n.log, Q4 m.log] (.val (.bool b2)) [])
    (h3 : A7 Tryz.prog A8 53 [.iv (ouI n.outs), .iv (ouI m.outs)] (.val (.bool b3)) [])
    (h4 : A7 Tryz.prog A8 54 [.iv (H9 n.subs), .iv (H9 m.subs)] (.val (.bool b4)) [])
    (h5 : A7 Tryz.prog A8 55 [.iv (msI n.queue), .iv (msI m.queue)] (.val (.bool b5)) [])
    (h6 : A7 Tryz.prog A8 56 [dkA n.disk, dkA m.disk] (.val (.bool b6)) []) :
    A7 Tryz.prog A8 12 [ndA n, ndA m] (.val (.bool (decide (n.me = m.me) && b1 && b2 && b3 && b4 && decide (n.tries = m.tries) && b5 && b6 && decide (n.down = m.down)))) [] := by
  refine A7.of (n := 66) (rs := [.tmp 4]) Tryz.func12 rfl (by kernel_rfl) Tryz.ntmps12 (by kernel_rfl) (by simp) (fun _ _ => A8.later) ?_
  intro hok V w0
  obtain ⟨B, hB⟩ : ∃ B, (decide (n.me = m.me) && b1 && b2 && b3 && b4 && decide (n.tries = m.tries) && b5 && b6 && decide (n.down = m.down)) = B := ⟨_, rfl⟩
  rw [hB]
  obtain ⟨iM, iR, iS, iT, iD⟩ := hI
  obtain ⟨jM, jR, jS, jT, jD⟩ := hJ
  refine g ?_
  refine AW.seq ?_
  refine AW.reg rfl fun KK hKK => ?_
  refine g ?_
  repeat' (refine hKK _ (g ?_); clear hKK KK)
  refine AW.freeze 300 _ rfl ⟨iM, trivial, trivial, trivial, trivial, iR, trivial, trivial, iS, trivial, trivial, iT, trivial, iD, trivial, trivial, trivial⟩ ?_
  simp only [go_sem, reduceIte, Nat.reduceEqDiff]
  refine AW.freeze 400 _ rfl ⟨jM, trivial, trivial, trivial, trivial, jR, trivial, trivial, jS, trivial, trivial, jT, trivial, jD, trivial, trivial, trivial⟩ ?_
  simp only [go_sem, reduceIte, Nat.reduceEqDiff]
  refine g ?_
  repeat' (first | refine st_ rfl (g ?_) | (refine B8 rfl rfl (fun h e => ?_) (fun h e => ?_) <;> simp only [e] <;> clear e <;> refine g ?_) | (refine Cn rfl rfl (fun h => ?_) (fun h => ?_) <;> simp only [h] <;> refine g ?_) | refine A9 (h1) rfl (g ?_) | refine A9 (h2) rfl (g ?_) | refine A9 (h3) rfl (g ?_) | refine A9 (h4) rfl (g ?_) | refine A9 (h5) rfl (g ?_) | refine A9 (h6) rfl (g ?_))
  all_goals first
    | (subst hB; simp [*]; done)
    | (refine ⟨_, fun u => B09 _ _ u, Bi ?_⟩
       refine g ?_
       repeat' refine st_ rfl (g ?_)
       subst hB
       simp [*])
theorem Ai3 (n:Eo) (hI:Lu n):A7 Tryz.prog A8 12 [ndA n,ndA n] (.val (.bool true)) []:=by
 have h:=A05 n n hI hI _ _ _ _ _ _ (Ai1 n.view hI.room) (As1 n.log hI.sure) (V0 n.outs) (A01 n.subs n.subs) (A06 n.queue) (Xx n.disk hI.droom)
 simpa using h
end Go.Proofs.YtblfjaedaijfoaaGreatDoor
namespace Go.Proofs.YtblfjaedaijfoaaGreatDoor
open Go.ChangeShapes Go.WideShapes Go.ChangeAt Go.RowKit
attribute [local irreducible] AW AWY Bo B4 vop Bj B7 Bf qop Bu C4 Aq Aj Bh A7 B9
attribute [local go_sem] Cv Fs F6 G3 Gu L2 L1 Fx G2 Ef Dk Db Dq Cm My Ae Af
def An2 (n:Eo):Eo:=⟨n.me,⟨[],[],[],[],n.view.room⟩,⟨[],[],0⟩,[],[],0,[],n.disk,true⟩
theorem Bs8 (n:Eo):Bz (.agg [.val (.int .i64 n.me),.val (.slice none 0 0),.val (.slice none 0 0),.val (.slice none 0 0),.val (.slice none 0 0),.val (.int .i64 n.view.room),.val (.slice none 0 0),.val (.slice none 0 0),.val (.int .i64 0),.val (.slice none 0 0),.val (.slice none 0 0),.val (.int .i64 0),.val (.slice none 0 0),.val (.int .i64 n.disk.room),.iv (flI n.disk.files),.val (.bool true)]) (ndA (An2 n)):=by
 rw [Gu,G3]
 refine Es rfl fun p hp=>?_
 simp only [An2,List.zip_cons_cons,List.zip_nil_right,List.mem_cons,List.not_mem_nil,or_false] at hp
 rcases hp with rfl | rfl | rfl | rfl | rfl | rfl | rfl | rfl | rfl | rfl | rfl | rfl | rfl | rfl | rfl | rfl
 all_goals first
  | exact Bz.rfl_ _
  | exact Bg _
set_option maxRecDepth 100000 in
set_option maxHeartbeats 3200000 in
theorem Ai4 (n:Eo) (hI:Lu n) (hd:n.down=true):A7 Tryz.prog A8 11 [ndA n] (.val (.bool (Dc n))) []:=by
 have hs:=A05 n (An2 n) hI ⟨hI.me,hI.room,rfl,rfl,hI.droom⟩ _ _ _ _ _ _ (Ar4 n.view n.view.room hI.room hI.room) (B65 n.log hI.sure) (Ar7 n.outs) (A01 n.subs []) (Bm3 n.queue) (Xx n.disk hI.droom)
 rw [show ndA n=.agg (ndC n) from rfl,G3,hd] at hs
 have hdf:=Xy n.disk hI.droom
 have hnew:=Bm1 n.view.room
 unfold A81 at hnew
 refine A7.of (n:=143) (rs:=[.tmp 2]) Tryz.func11 rfl (by kernel_rfl) Tryz.ntmps11 (by kernel_rfl) (by simp) (fun _ _=>A8.later) ?_
 intro hok V w0
 obtain ⟨iM,iR,iS,iT,iD⟩:=hI
 have hq:AV.okd (.iv (msI n.queue)):=hok.1.2.2.2.2.2.2.2.2.2.2.2.2.1
 have l2:n.queue.length<=1073741824:=by simpa using hq.1
 obtain ⟨B,hB⟩ : ∃ B,Dc n=B:=⟨_,rfl⟩
 rw [hB]
 unfold Dc B35 at hB
 rw [hd,if_pos rfl] at hB
 unfold Ay7 at hB
 refine g ?_
 refine AW.seq ?_
 refine AW.reg rfl fun KK hKK=>?_
 refine g ?_
 repeat' (refine hKK _ (g ?_);clear hKK KK)
 refine AW.freeze 200 _ rfl ⟨iM,trivial,trivial,trivial,trivial,iR,trivial,trivial,iS,trivial,trivial,iT,trivial,iD,trivial,trivial,trivial⟩ ?_
 simp only [go_sem,reduceIte,Nat.reduceEqDiff]
 rw [hd]
 cases hr:Ke n.view.room
 ·rw [if_neg (by simp [hr])] at hnew
  refine g ?_
  repeat' (first | refine st_ rfl (g ?_) | refine Al (fun h=>g ?_) (fun h=>g ?_) | (refine B8 rfl rfl (fun h e=>?_) (fun h e=>?_)<;>simp only [e]<;>clear e<;>refine g ?_) | (refine Cn rfl rfl (fun h=>?_) (fun h=>?_)<;>simp only [h]<;>refine g ?_) | refine A9 (hdf) rfl (g ?_) | refine A9 (hnew) rfl (g ?_))
  all_goals (rw [<-hB];simp [hr])
 ·rw [if_pos hr] at hnew
  refine g ?_
  repeat' (first | refine st_ rfl (g ?_) | refine Al (fun h=>g ?_) (fun h=>g ?_) | (refine B8 rfl rfl (fun h e=>?_) (fun h e=>?_)<;>simp only [e]<;>clear e<;>refine g ?_) | (refine Cn rfl rfl (fun h=>?_) (fun h=>?_)<;>simp only [h]<;>refine g ?_) | refine A9 (hdf) rfl (g ?_) | refine A9 (hnew) rfl (g ?_) | (refine A61 hs (Sbs.cons_ (Sbs.of_ (Bs8 n) (Sbs.rfl_ _))) rfl (g ?_))<;>refine g ?_)
  all_goals first
   | (rw [<-hB];simp [hr];done)
   | (rw [<-hB];simp [hr];omega)
   | (rw [<-hB];simp [hr];intros;omega)
   | (rw [<-hB];simp [*];done)
   | (simp at h;rw [<-hB];simp [hr,h];done)
   | skip
  have hm:n.me>=0/\n.me < 64/\0<=n.tries/\n.tries < 1099511627776/\n.queue.length<=4096:=by omega
  rename_i hdk
  simp at hdk
  rw [<-hB,hdk,hr,Bool.eq_iff_iff]
  simp [An2,hm,List.length_eq_zero_iff]
  constructor
  ·intro h
   have ht:n.tries=0:=of_decide_eq_true h.1.2
   simp_all
  ·intro h
   simp_all
end Go.Proofs.YtblfjaedaijfoaaGreatDoor
namespace Go.Proofs.YtblfjaedaijfoaaGreatDoor
open Go.ChangeShapes Go.WideShapes Go.ChangeAt Go.RowKit
attribute [local irreducible] AW AWY Bo B4 vop Bj B7 Bf qop Bu C4 Aq Aj Bh A7 B9
attribute [local go_sem] G2 Ms Ef Ae Af
set_option maxRecDepth 100000 in
theorem Ai6 (l:Log) (iS:I64 l.sure) (h:Cf l=true):A7 Tryz.prog A8 46 [Q4 l] (.iv (stI (Bk l.base l.notes))) []:=by
 refine A7.ofS (n:=27) (rs:=[.tmp 2]) Tryz.func46 rfl (by kernel_rfl) Tryz.ntmps46 (by kernel_rfl) (by simp) (fun _ _=>A8.later) ?_
 intro hok V w0
 have hf:=T8 l iS
 rw [h] at hf
 have hlen:l.notes.length<=1073741824:=by simpa [noI] using hok.1.2.1.1
 refine g ?_
 refine AW.seq ?_
 refine AW.reg rfl fun KK hKK=>?_
 refine g ?_
 repeat' (refine hKK _ (g ?_);clear hKK KK)
 refine AW.freeze 200 _ rfl ⟨trivial,trivial,iS,trivial⟩ ?_
 simp only [go_sem,reduceIte,Nat.reduceEqDiff]
 refine g ?_
 repeat' (first | refine st_ rfl (g ?_) | refine A9 (hf) rfl (g ?_) | refine A9 (Ai2 _) rfl (g ?_))
 refine AW.loop (fun m:{m:Nat // m<=l.notes.length}=>⟨[(1,.ip [stI l.base,noI l.notes,.val (.int .i64 l.sure)]),(3,.iv (stI (Bk l.base (l.notes.take m.1)))),(4,.val (.int .i64 (m.1:Nat)))],[]⟩) (fun m=>l.notes.length - m.1) ⟨0,Nat.zero_le _⟩ id ⟨⟨rfl,rfl,rfl,trivial⟩,trivial,List.nodup_nil⟩ fun ⟨m,hm⟩=>?_
 simp only
 repeat (refine AW.seq ?_)
 refine AW.reg rfl fun KK hKK=>?_
 refine g ?_
 repeat' (refine hKK _ (g ?_);clear hKK KK)
 repeat (refine AW.seq ?_)
 refine st_ rfl ?_
 refine g ?_
 refine Al (fun h=>?_) (fun h=>?_)
 ·have hlt:m < l.notes.length:=by omega
  refine st_ rfl (g ?_)
  refine g ?_
  repeat' (first | refine st_ rfl (g ?_) | refine ix_ (by omega) (g ?_) | refine A9 (Bw2 _ _) rfl (g ?_))
  refine ⟨⟨m+1,hlt⟩,id,⟨⟨rfl,?_,rfl,trivial⟩,trivial,List.nodup_nil⟩,by show l.notes.length - (m+1) < l.notes.length - m;omega⟩
  have e:Bk l.base (l.notes.take (m+1))=Di [Bk l.base (l.notes.take m),l.notes[m].end_]:=by
   unfold Bk
   rw [List.take_succ_eq_append_getElem hlt,List.foldl_append]
   rfl
  exact congrArg (fun z=>AV.iv (stI z)) e.symm
 ·obtain rfl:m=l.notes.length:=by omega
  rw [List.take_length]
  refine AW.exit ?_
  simp only [reduceIte]
  refine g ?_
  repeat' refine st_ rfl (g ?_)
  exact Bz.rfl_ _
end Go.Proofs.YtblfjaedaijfoaaGreatDoor
namespace Go.Proofs.YtblfjaedaijfoaaGreatDoor
open Go.ChangeShapes Go.WideShapes Go.ChangeAt Go.RowKit
attribute [local irreducible] AW AWY Bo B4 vop Bj B7 Bf qop Bu C4 Aq Aj Bh A7 B9
attribute [local go_sem] Cv Fs F6 G3 Gu L2 Pa X1 L1 Mr Fx G2 Ef Dk Db Dq Cm My Ae Af
set_option maxRecDepth 100000 in
set_option maxHeartbeats 6400000 in
theorem B63 (n:Eo) (hI:Lu n) (hd:n.down=false):A7 Tryz.prog A8 11 [ndA n] (.val (.bool (Dc n))) []:=by
 have hvf:=B59 n.view hI.room
 have hlf:=T8 n.log hI.sure
 have hkn:=Ai6 n.log hI.sure
 have heq:=G9 (Bk n.log.base n.log.notes) n.view.known
 have hfo:=As3 n.outs n.log.notes.length
 have hfs:=As2 n.subs
 have hsb:=Bl8 n n.me hI
 have hdf:=Xy n.disk hI.droom
 rw [show ndA n=.agg (ndC n) from rfl,G3,hd] at hsb
 refine A7.of (n:=143) (rs:=[.tmp 2]) Tryz.func11 rfl (by kernel_rfl) Tryz.ntmps11 (by kernel_rfl) (by simp) (fun _ _=>A8.later) ?_
 intro hok V w0
 obtain ⟨iM,iR,iS,iT,iD⟩:=hI
 have hq:AV.okd (.iv (msI n.queue)):=hok.1.2.2.2.2.2.2.2.2.2.2.2.2.1
 have ho:AV.okd (.iv (ouI n.outs)):=hok.1.2.2.2.2.2.2.2.2.2.1
 have l1:n.outs.length<=1073741824:=by simpa using ho.1
 have l2:n.queue.length<=1073741824:=by simpa using hq.1
 have l3:n.log.notes.length<=1073741824:=by simpa using hok.1.2.2.2.2.2.2.2.1.1
 obtain ⟨B,hB⟩ : ∃ B,Dc n=B:=⟨_,rfl⟩
 rw [hB]
 unfold Dc B35 at hB
 rw [hd,if_neg (by simp)] at hB
 refine g ?_
 refine AW.seq ?_
 refine AW.reg rfl fun KK hKK=>?_
 refine g ?_
 repeat' (refine hKK _ (g ?_);clear hKK KK)
 refine AW.freeze 200 _ rfl ⟨iM,trivial,trivial,trivial,trivial,iR,trivial,trivial,iS,trivial,trivial,iT,trivial,iD,trivial,trivial,trivial⟩ ?_
 simp only [go_sem,reduceIte,Nat.reduceEqDiff]
 rw [hd]
 refine g ?_
 repeat' (first | refine st_ rfl (g ?_) | refine Al (fun h=>g ?_) (fun h=>g ?_) | (refine B8 rfl rfl (fun h e=>?_) (fun h e=>?_)<;>simp only [e]<;>clear e<;>refine g ?_) | (refine Cn rfl rfl (fun h=>?_) (fun h=>?_)<;>simp only [h]<;>refine g ?_) | refine A9 (hdf) rfl (g ?_))
 all_goals first
  | (rw [<-hB];simp;done)
  | (rw [<-hB];simp;omega)
  | (rw [<-hB];simp;intros;omega)
  | (simp at h;rw [<-hB];simp [h];done)
  | skip
 refine AW.drawn (ds:=[61,62,63,64,65,66,67,68,69,70,71,72,73,74,75,76,77,78,79,80,81,82,83,84,85,86,87,88,89,90,91,92,93,94,95,96]) (fin:=[]) (bs:=[0,0,0,0,0,0,0,0,0,0,0,0,0,0,0,0,0,0,0,0,0,0,0,0,0,0,0,0,0,0,0,0,0,0,0,0]) [⟨[],[],[],[],0⟩,⟨[(61,0)],[],[],[],0⟩,⟨[(62,1)],[],[],[],0⟩,⟨[(63,2)],[],[],[],0⟩,⟨[(64,3)],[],[],[],0⟩,⟨[],[],[],[],0⟩,⟨[(66,5)],[],[],[],0⟩,⟨[(67,6)],[],[],[],0⟩,⟨[(68,7)],[],[],[],0⟩,⟨[(65,4),(69,8)],[],[],[],0⟩,⟨[(70,9)],[],[],[],0⟩,⟨[],[],[],[],0⟩,⟨[(72,11)],[],[],[],0⟩,⟨[(73,12)],[],[],[],0⟩,⟨[],[],[],[],0⟩,⟨[(75,14)],[],[],[],0⟩,⟨[(76,15)],[],[],[],0⟩,⟨[(74,13),(77,16)],[],[],[],0⟩,⟨[(78,17)],[],[],[],0⟩,⟨[(71,10),(79,18)],[],[],[],0⟩,⟨[(80,19)],[],[],[],0⟩,⟨[],[],[],[],0⟩,⟨[(82,21)],[],[],[],0⟩,⟨[],[],[],[],0⟩,⟨[(84,23)],[],[],[],0⟩,⟨[(85,24)],[],[],[],0⟩,⟨[(86,25)],[],[],[],0⟩,⟨[(83,22),(87,26)],[],[],[],0⟩,⟨[(88,27)],[],[],[],0⟩,⟨[(81,20),(89,28)],[],[],[],0⟩,⟨[(90,29)],[],[],[],0⟩,⟨[],[],[],[],0⟩,⟨[(92,31)],[],[],[],0⟩,⟨[(93,32)],[],[],[],0⟩,⟨[(94,33)],[],[],[],0⟩,⟨[(91,30),(95,34)],[],[],[],0⟩] (by kernel_rfl) rfl (by kernel_rfl) rfl rfl rfl fun KD hKD=>?_
 cases hL:Cf n.log
 ·rw [hL] at hlf
  refine g ?_
  repeat' (first | refine st_ rfl (g ?_) | (refine hKD _ _ ⟨rfl,g ?_⟩;clear hKD KD) | (refine Ul rfl rfl (fun h=>?_) (fun h=>?_)<;>simp only [h]<;>refine g ?_) | refine A9 (hvf) rfl (g ?_) | refine A9 (hlf) rfl (g ?_))
  all_goals (rw [<-hB];simp [Bk6,hL])
 rw [hL] at hlf
 refine g ?_
 repeat' (first | refine st_ rfl (g ?_) | refine Cy (fun h=>g ?_) (fun h=>g ?_) | (refine hKD _ _ ⟨rfl,g ?_⟩;clear hKD KD) | (refine Ul rfl rfl (fun h=>?_) (fun h=>?_)<;>simp only [h]<;>refine g ?_) | refine A9 (hvf) rfl (g ?_) | refine A9 (hlf) rfl (g ?_) | refine A9 (hkn hL) rfl (g ?_) | refine A9 (heq) rfl (g ?_) | refine A9 (hfo) rfl (g ?_) | refine A9 (hfs) rfl (g ?_))
 all_goals first
  | (simp at h;rw [<-hB];simp [Bk6,A34,hL,h];done)
  | skip
 rename_i g1 g2 g3 g4 g5 g6 g7 g8 g9
 have e5:Bs n.disk=true:=by simpa using g5
 have e7:Am n.view=true:=by simpa using g7
 have e8:Bk n.log.base n.log.notes=n.view.known:=by simpa using g8
 have e9:Gf n.log.notes.length n.outs=true:=by simpa using g9
 have e10:Fo n.subs=true:=by simpa using h
 have hm:(0<=n.me/\n.me < 64)/\(0<=n.tries/\n.tries < 1099511627776)/\n.queue.length<=4096:=by omega
 unfold Bk6 A34 at hB
 rw [if_pos hL,e5,e7,hL,e9,e10,decide_eq_true e8,decide_eq_true hm.1,decide_eq_true hm.2.1,decide_eq_true hm.2.2] at hB
 simp only [Bool.true_and] at hB
 clear g1 g2 g3 g4 g5 g6 g7 g8 g9
 refine AW.loop (fun m:{m:Nat // m<=n.outs.length/\∀ x∈n.outs.take m,¬ x.to_=n.me}=>⟨[(1,.ip [.val (.int .i64 n.me),stI n.view.known,znI n.view.zones,wrI n.view.held,boI n.view.bodies,.val (.int .i64 n.view.room),stI n.log.base,noI n.log.notes,.val (.int .i64 n.log.sure),ouI n.outs,H9 n.subs,.val (.int .i64 n.tries),msI n.queue,.val (.int .i64 n.disk.room),flI n.disk.files,.val (.bool false)]),(5,.val (.int .i64 (m.1:Nat)))],[]⟩) (fun m=>n.outs.length - m.1) ⟨0,Nat.zero_le _,fun x hx=>by simp at hx⟩ id ⟨⟨rfl,rfl,trivial⟩,trivial,List.nodup_nil⟩ fun ⟨m,hm,ht⟩=>?_
 simp only
 repeat (refine AW.seq ?_)
 refine AW.reg rfl fun KK hKK=>?_
 refine g ?_
 repeat' (refine hKK _ (g ?_);clear hKK KK)
 repeat (refine AW.seq ?_)
 refine st_ rfl ?_
 refine g ?_
 refine Al (fun h=>?_) (fun h=>?_)
 ·have hlt:m < n.outs.length:=by omega
  refine st_ rfl (g ?_)
  refine AW.seq ?_
  refine AW.block ?_
  repeat (refine AW.seq ?_)
  refine AW.drawn (ds:=[104,105,106,107,108,109,110,111,112]) (fin:=[]) (bs:=[0,0,0,0,0,0,0,0,0]) [⟨[],[],[],[],0⟩,⟨[(104,0)],[],[],[],0⟩,⟨[],[],[],[],0⟩,⟨[(105,1),(106,2)],[],[],[],0⟩,⟨[(107,3)],[],[],[],0⟩,⟨[(108,4)],[],[],[],0⟩,⟨[],[],[],[],0⟩,⟨[(110,6)],[],[],[],0⟩,⟨[(109,5),(111,7)],[],[],[],0⟩] (by kernel_rfl) rfl (by kernel_rfl) rfl rfl rfl fun KD hKD=>?_
  refine g ?_
  repeat' (first | refine st_ rfl (g ?_) | refine Al (fun h=>g ?_) (fun h=>g ?_) | (refine hKD _ _ ⟨rfl,g ?_⟩;clear hKD KD) | refine ix_ (by omega) (g ?_))
  ·rw [<-hB,Si hlt (by simp [h])];rfl
  ·refine ⟨⟨m+1,hlt,fun x hx=>?_⟩,id,⟨⟨rfl,rfl,trivial⟩,trivial,List.nodup_nil⟩,by show n.outs.length - (m+1) < n.outs.length - m;omega⟩
   rw [List.take_succ_eq_append_getElem hlt] at hx
   rcases List.mem_append.1 hx with h1 | h1
   ·exact ht x h1
   ·rw [List.mem_singleton.1 h1];exact h
 obtain rfl:m=n.outs.length:=by omega
 rw [List.take_length] at ht
 rw [List.all_eq_true.2 (fun x hx=>by simp [ht x hx]),Bool.true_and] at hB
 refine AW.exit ?_
 simp only [reduceIte]
 refine g ?_
 repeat' (first | refine st_ rfl (g ?_) | refine Al (fun h=>g ?_) (fun h=>g ?_) | refine A9 (hsb) rfl (g ?_))
 ·have ha:n.subs.any (fun s=>decide (s.from_=n.me))=true:=by
   unfold Aq2 at h
   by_cases ha:n.subs.any (fun s=>decide (s.from_=n.me))=true
   ·exact ha
   ·rw [if_neg ha] at h;omega
  rw [<-hB,<-List.not_any_eq_all_not,ha]
  simp
 have ha:n.subs.any (fun s=>decide (s.from_=n.me))=false:=by
  cases ha:n.subs.any (fun s=>decide (s.from_=n.me)) with
  | false=>rfl
  | true =>
   exfalso
   unfold Aq2 at h
   rw [if_pos ha] at h
   omega
 rw [<-List.not_any_eq_all_not,ha,Bool.not_false,Bool.and_true] at hB
 refine AW.loop (fun m:{m:Nat // m<=n.queue.length/\∀ x∈n.queue.take m,Vh n.me x=true}=>⟨[(1,.ip [.val (.int .i64 n.me),stI n.view.known,znI n.view.zones,wrI n.view.held,boI n.view.bodies,.val (.int .i64 n.view.room),stI n.log.base,noI n.log.notes,.val (.int .i64 n.log.sure),ouI n.outs,H9 n.subs,.val (.int .i64 n.tries),msI n.queue,.val (.int .i64 n.disk.room),flI n.disk.files,.val (.bool false)]),(6,.val (.int .i64 (m.1:Nat)))],[]⟩) (fun m=>n.queue.length - m.1) ⟨0,Nat.zero_le _,fun x hx=>by simp at hx⟩ id ⟨⟨rfl,rfl,trivial⟩,trivial,List.nodup_nil⟩ fun ⟨m,hm,ht⟩=>?_
 simp only
 repeat (refine AW.seq ?_)
 refine AW.reg rfl fun KK hKK=>?_
 refine g ?_
 repeat' (refine hKK _ (g ?_);clear hKK KK)
 repeat (refine AW.seq ?_)
 refine st_ rfl ?_
 refine g ?_
 refine Al (fun h=>?_) (fun h=>?_)
 ·have hlt:m < n.queue.length:=by omega
  have hwf:=A74 n.queue[m] (Cd9 hq hlt)
  refine st_ rfl (g ?_)
  refine AW.seq ?_
  refine AW.block ?_
  repeat (refine AW.seq ?_)
  refine AW.drawn (ds:=[125,126,127,128,129,130,131,132,133,134,135,136,137,138,139,140,141,142]) (fin:=[]) (bs:=[0,0,0,0,0,0,0,0,0,0,0,0,0,0,0,0,0,0]) [⟨[],[],[],[],0⟩,⟨[(125,0)],[],[],[],0⟩,⟨[],[],[],[],0⟩,⟨[(126,1),(127,2)],[],[],[],0⟩,⟨[(128,3)],[],[],[],0⟩,⟨[(129,4)],[],[],[],0⟩,⟨[(130,5)],[],[],[],0⟩,⟨[(131,6)],[],[],[],0⟩,⟨[],[],[],[],0⟩,⟨[(133,8)],[],[],[],0⟩,⟨[],[],[],[],0⟩,⟨[(134,9),(135,10)],[],[],[],0⟩,⟨[(136,11)],[],[],[],0⟩,⟨[(137,12)],[],[],[],0⟩,⟨[],[],[],[],0⟩,⟨[(139,14)],[],[],[],0⟩,⟨[(138,13),(140,15)],[],[],[],0⟩,⟨[(132,7),(141,16)],[],[],[],0⟩] (by kernel_rfl) rfl (by kernel_rfl) rfl rfl rfl fun KD hKD=>?_
  refine g ?_
  repeat' (first | refine st_ rfl (g ?_) | refine Al (fun h=>g ?_) (fun h=>g ?_) | (refine hKD _ _ ⟨rfl,g ?_⟩;clear hKD KD) | (refine Ul rfl rfl (fun h=>?_) (fun h=>?_)<;>simp only [h]<;>refine g ?_) | refine ix_ (by omega) (g ?_) | refine A9 (hwf) rfl (g ?_))
  ·rw [<-hB,Si hlt (by simp only [Vh];simp at h;simp [h])]
  ·rw [<-hB,Si hlt (by simp only [Vh,decide_eq_false h,Bool.false_and])]
  ·rename_i h2
   refine ⟨⟨m+1,hlt,fun x hx=>?_⟩,id,⟨⟨rfl,rfl,trivial⟩,trivial,List.nodup_nil⟩,by show n.queue.length - (m+1) < n.queue.length - m;omega⟩
   rw [List.take_succ_eq_append_getElem hlt] at hx
   rcases List.mem_append.1 hx with h1 | h1
   ·exact ht x h1
   ·rw [List.mem_singleton.1 h1]
    simp only [Vh]
    simp at h h2
    simp [h,h2]
 obtain rfl:m=n.queue.length:=by omega
 rw [List.take_length] at ht
 refine AW.exit ?_
 simp only [reduceIte]
 refine g ?_
 repeat' refine st_ rfl (g ?_)
 rw [<-hB]
 exact (List.all_eq_true.2 ht).symm
theorem Ai5 (n:Eo) (hI:Lu n):A7 Tryz.prog A8 11 [ndA n] (.val (.bool (Dc n))) []:=by
 cases hd:n.down
 ·exact B63 n hI hd
 ·exact Ai4 n hI hd
end Go.Proofs.YtblfjaedaijfoaaGreatDoor
namespace Go.Proofs.YtblfjaedaijfoaaGreatDoor
open Go.ChangeShapes Go.WideShapes Go.ChangeAt Go.RowKit
attribute [local irreducible] AW AWY Bo B4 vop Bj B7 Bf qop Bu C4 Aq Aj Bh A7 B9
attribute [local go_sem] Cv Fs F6 G3 Gu L2 L1 Fx G2 Ef Dk Db Dq Cm My Ae Af
theorem Bg6 {me room bodies:Int} (iM:I64 me) (iR:I64 room) (iB:I64 bodies):Lu (Yq me room bodies).1:=by
 unfold Yq
 split
 ·exact ⟨iM,iB,rfl,rfl,iR⟩
 ·exact ⟨rfl,rfl,rfl,rfl,rfl⟩
set_option maxRecDepth 100000 in
set_option maxHeartbeats 3200000 in
theorem Ak7 (n:Eo) (a b c:Int) (hI:Lu n) (iA:I64 a) (iB:I64 b) (iC:I64 c) (hal:A7 Tryz.prog H7 7 [] (.val (.bool true)) []):A7 Tryz.prog H7 3 [ndA n,.agg [.val (.int .i64 a),.val (.int .i64 b),.val (.int .i64 c)]] (.val (.bool true)) []:=by
 have h1:=(Ac5 a b c iA iB iC).nd
 have h2:=(B62 a b c).nd
 have h3:=(A27 n hI).nd
 have h4:=(Ai5 n hI).nd
 have h5:=(Ai3 (Yq a b c).1 (Bg6 iA iB iC)).nd
 obtain ⟨iM,iR,iS,iT,iD⟩:=hI
 obtain ⟨jM,jR,jS,jT,jD⟩:=Bg6 iA iB iC
 refine A7.of (n:=46) (rs:=[.tmp 4]) Tryz.func3 rfl (by kernel_rfl) Tryz.ntmps3 (by kernel_rfl) (by simp) (fun _ _=>H7.later) ?_
 intro hok V w0
 refine g ?_
 refine AW.seq ?_
 refine AW.reg rfl fun KK hKK=>?_
 refine g ?_
 repeat' (refine hKK _ (g ?_);clear hKK KK)
 refine AW.freeze 300 _ rfl ⟨iM,trivial,trivial,trivial,trivial,iR,trivial,trivial,iS,trivial,trivial,iT,trivial,iD,trivial,trivial,trivial⟩ ?_
 simp only [go_sem,reduceIte,Nat.reduceEqDiff]
 refine AW.freeze 400 _ rfl ⟨iA,iB,iC,trivial⟩ ?_
 simp only [go_sem,reduceIte,Nat.reduceEqDiff]
 refine g ?_
 repeat' (first | refine st_ rfl (g ?_) | refine Bi (g ?_) | refine A9 (hal) rfl (g ?_) | refine A9 (h1) rfl (g ?_) | refine A9 (h2) rfl (g ?_))
 refine AW.freeze 600 _ rfl ⟨jM,trivial,trivial,trivial,trivial,jR,trivial,trivial,jS,trivial,trivial,jT,trivial,jD,trivial,trivial,trivial⟩ ?_
 simp only [go_sem,reduceIte,Nat.reduceEqDiff]
 refine AW.freeze 800 _ rfl ⟨jM,trivial,trivial,trivial,trivial,jR,trivial,trivial,jS,trivial,trivial,jT,trivial,jD,trivial,trivial,trivial⟩ ?_
 simp only [go_sem,reduceIte,Nat.reduceEqDiff]
 refine AW.drawn (ds:=[31,32,33,34,35,36,37,38,39,40,41,42,43,44,45,4]) (fin:=[]) (bs:=[0,0,0,0,0,0,0,0,0,0,0,0,0,0,0,0]) [⟨[],[],[],[],0⟩,⟨[(31,0)],[],[],[],0⟩,⟨[],[],[],[],0⟩,⟨[(33,2)],[],[],[],0⟩,⟨[(32,1),(34,3)],[],[],[],0⟩,⟨[(35,4)],[],[],[],0⟩,⟨[],[],[],[],0⟩,⟨[],[],[],[],0⟩,⟨[(37,6),(38,7)],[],[],[],0⟩,⟨[(36,5),(39,8)],[],[],[],0⟩,⟨[(40,9)],[],[],[],0⟩,⟨[],[],[],[],0⟩,⟨[],[],[],[],0⟩,⟨[(42,11),(43,12)],[],[],[],0⟩,⟨[(41,10),(44,13)],[],[],[],0⟩,⟨[(45,14)],[],[],[],0⟩] (by kernel_rfl) rfl (by kernel_rfl) rfl rfl rfl fun KD hKD=>?_
 refine g ?_
 repeat' (first | refine A9 (h3) rfl (g ?_) | refine A9 (h4) rfl (g ?_))
 refine ⟨_,fun u=>B09 _ _ u,Bi ?_⟩
 rw [decide_eq_true rfl]
 refine g ?_
 repeat' (first | refine st_ rfl (g ?_) | (refine hKD _ _ ⟨rfl,g ?_⟩;clear hKD KD) | refine A9 (h5) rfl (g ?_))
 exact decide_eq_true trivial
end Go.Proofs.YtblfjaedaijfoaaGreatDoor
namespace Go.Proofs.YtblfjaedaijfoaaGreatDoor
open Go.ChangeShapes Go.WideShapes Go.ChangeAt Go.RowKit
theorem Bo6:Bz (.agg [.val (.slice none 0 0),.val (.slice none 0 0),.val (.slice none 0 0),.val (.slice none 0 0)]) (Ft R6):=by
 refine Es rfl fun p hp=>?_
 simp only [List.zip_cons_cons,List.zip_nil_right,List.mem_cons,List.not_mem_nil,or_false] at hp
 rcases hp with rfl | rfl | rfl | rfl
 ·exact Bg 2
 ·exact Bg 2
 ·exact Bg 2
 ·exact Bg 4
attribute [local irreducible] AW AWY Bo B4 vop Bj B7 Bf qop Bu C4 Aq Aj Bh A7 B9
attribute [local go_sem] Sw Cv Hu Fs F6 G3 Gu L2 Pa X1 L1 Mr Fx Jk G2 Ms C9 Ef Dk Db Dq Cm My Ae Af
def twC (n:Eo) (a b c d e f:AV):List AV:=[.val (.int .i64 n.me),.iv (stI n.view.known),.iv (znI n.view.zones),.iv (wrI n.view.held),.iv (boI n.view.bodies),.val (.int .i64 n.view.room),.iv (stI n.log.base),a,.val (.int .i64 n.log.sure),b,c,.val (.int .i64 n.tries),d,e,f,.val (.bool false)]
def Bt3:List AV:=[.val (.int .i64 0),.val (.slice none 0 0),.val (.slice none 0 0),.val (.slice none 0 0),.val (.slice none 0 0),.val (.int .i64 0),.val (.slice none 0 0),.val (.slice none 0 0),.val (.int .i64 0),.val (.slice none 0 0),.val (.slice none 0 0),.val (.int .i64 0),.val (.slice none 0 0),.val (.int .i64 0),.val (.slice none 0 0),.val (.bool false)]
def ndP (n:Eo):AV:=.ip [.val (.int .i64 n.me),stI n.view.known,znI n.view.zones,wrI n.view.held,boI n.view.bodies,.val (.int .i64 n.view.room),stI n.log.base,noI n.log.notes,.val (.int .i64 n.log.sure),ouI n.outs,H9 n.subs,.val (.int .i64 n.tries),msI n.queue,.val (.int .i64 n.disk.room),flI n.disk.files,.val (.bool n.down)]
theorem C01 (n:Eo):ndP n=.ip [.val (.int .i64 n.me),stI n.view.known,znI n.view.zones,wrI n.view.held,boI n.view.bodies,.val (.int .i64 n.view.room),stI n.log.base,noI n.log.notes,.val (.int .i64 n.log.sure),ouI n.outs,H9 n.subs,.val (.int .i64 n.tries),msI n.queue,.val (.int .i64 n.disk.room),flI n.disk.files,.val (.bool n.down)]:=rfl
attribute [local go_sem] C01
end Go.Proofs.YtblfjaedaijfoaaGreatDoor
namespace Go.Proofs.YtblfjaedaijfoaaGreatDoor
open Go.ChangeShapes Go.WideShapes Go.ChangeAt Go.RowKit
attribute [local irreducible] AW AWY Bo B4 vop Bj B7 Bf qop Bu C4 Aq Aj Bh A7 B9
attribute [local go_sem] G2 Ms Ef C9 Ae Af
set_option maxRecDepth 100000 in
set_option maxHeartbeats 1600000 in
theorem Bp4 (l:Log) (iS:I64 l.sure):A7 Tryz.prog A8 191 [Q4 l] (.agg [.iv (stI l.base),.own 0,.val (.int .i64 l.sure)]) [.row 0 98 4 (l.notes.map enN)]:=by
 refine A7.of (n:=31) (rs:=[.cell 2 30]) Tryz.func191 rfl (by kernel_rfl) Tryz.ntmps191 (by kernel_rfl) (by simp) (fun _ _=>A8.later) ?_
 intro hok V w0
 have hlen:l.notes.length<=1073741824:=by simpa using hok.1.2.1.1
 refine g ?_
 refine AW.seq ?_
 refine AW.reg rfl fun KK hKK=>?_
 refine g ?_
 repeat' (refine hKK _ (g ?_);clear hKK KK)
 refine AW.freeze 200 _ rfl ⟨trivial,trivial,iS,trivial⟩ ?_
 simp only [go_sem,reduceIte,Nat.reduceEqDiff]
 refine g ?_
 repeat' refine st_ rfl (g ?_)
 refine AW.drawn (ds:=[6,7,8,9,10,11,12,13,14,3]) (fin:=[0,1,3]) (bs:=[1,1,1,1,1,1,2,2,2,2,3]) [⟨[],[],[],[],0⟩,⟨[(6,0)],[],[0],[],0⟩,⟨[(7,1)],[],[0],[],0⟩,⟨[],[],[],[],0⟩,⟨[(9,3)],[],[0],[],0⟩,⟨[(10,4)],[],[0],[],1⟩,⟨[],[],[],[],0⟩,⟨[(12,6)],[],[0],[],0⟩,⟨[(8,2),(11,5),(13,7)],[],[],[],0⟩,⟨[],[],[],[],1⟩,⟨[(3,9),(14,8)],[],[],[2],1⟩] (by kernel_rfl) rfl (by kernel_rfl) rfl rfl rfl fun KD hKD=>?_
 refine g ?_
 repeat' (first | refine st_ rfl (g ?_) | (refine hKD _ _ ⟨rfl,g ?_⟩;clear hKD KD) | refine A9 (Ko _) rfl (g ?_) | refine A9 (B02 _) rfl (g ?_))
 refine AW.loop (fun m:{m:Nat // m<=l.notes.length}=>⟨[(2,.bp 300 0),(3,.bp 400 0),(16,.iv (noI l.notes)),(17,.val (.int .i64 (l.notes.length:Nat))),(18,.val (.int .i64 (m.1:Nat)))],[.box 300 [.val (.slice none 0 0),.val (.slice none 0 0),.val (.int .i64 0)],.row 1200 98 4 (l.notes.map enN),.box 400 [.iv (stI l.base),.own 1200,.val (.int .i64 l.sure)]]⟩) (fun m=>l.notes.length - m.1) ⟨0,Nat.zero_le _⟩ id ⟨⟨rfl,rfl,rfl,rfl,rfl,trivial⟩,⟨rfl,rfl,rfl,trivial⟩,by simp [By,BA.id]⟩ fun ⟨m,hm⟩=>?_
 simp only
 repeat (refine AW.seq ?_)
 refine AW.reg rfl fun KK hKK=>?_
 refine g ?_
 repeat' (refine hKK _ (g ?_);clear hKK KK)
 repeat (refine AW.seq ?_)
 refine st_ rfl ?_
 refine g ?_
 refine Al (fun h=>?_) (fun h=>?_)
 ·have hlt:m < l.notes.length:=by omega
  refine st_ rfl (g ?_)
  refine g ?_
  repeat' (first | refine st_ rfl (g ?_) | refine ix_ (by omega) (g ?_))
  refine AW.freeze 600 _ rfl ⟨trivial,trivial,trivial,trivial,trivial⟩ ?_
  simp only [go_sem,reduceIte,Nat.reduceEqDiff]
  refine AW.drawn (ds:=[23,24,25,26,27,28]) (fin:=[0,2,3]) (bs:=[3,3,3,3,3,3,3]) [⟨[],[],[],[],0⟩,⟨[(23,0)],[],[0,1,2],[],0⟩,⟨[],[],[],[],0⟩,⟨[],[],[0,1,2],[],0⟩,⟨[(26,3)],[],[0,1,2],[],0⟩,⟨[(24,1),(25,2)],[],[0,1,2],[],0⟩,⟨[(28,5),(27,4)],[],[],[1],1⟩] (by kernel_rfl) rfl (by kernel_rfl) rfl rfl rfl fun KD hKD=>?_
  have hget:=Cx (f:=enN) (List.getElem?_eq_getElem hlt)
  have hset:(l.notes.map enN).set m (F2 (enN l.notes[m]) 0 [stI l.notes[m].start,stI l.notes[m].end_,spI l.notes[m].blur,wrI l.notes[m].writes])=l.notes.map enN:=Zy hget
  refine g ?_
  repeat' (first | refine A9 (A18 _) rfl (g ?_) | (refine Ba4 hlt ?_)<;>refine g ?_)
  refine ⟨_,_,rfl,⟨trivial,trivial,trivial,trivial,trivial⟩,hget,Bi ?_⟩
  rw [hset]
  refine g ?_
  repeat' (first | refine st_ rfl (g ?_) | (refine hKD _ _ ⟨rfl,g ?_⟩;clear hKD KD))
  exact ⟨⟨m+1,hlt⟩,id,⟨⟨rfl,rfl,rfl,rfl,rfl,trivial⟩,⟨rfl,rfl,rfl,trivial⟩,by simp [By,BA.id]⟩,by show l.notes.length - (m+1) < l.notes.length - m;omega⟩
 ·refine AW.exit ?_
  simp only [reduceIte]
  refine g ?_
  repeat' refine st_ rfl (g ?_)
  exact ⟨fun _=>1200,rfl,rfl,by simp⟩
theorem C08 {q:Log×Int} {e:Int} (h:q=(R7,e)):Bz (.tup [.agg [.val (.slice none 0 0),.val (.slice none 0 0),.val (.int .i64 0)],.val (.int .i64 e)]) (.tup [Q4 q.1,.val (.int .i64 q.2)]):=by
 subst h
 refine Ep rfl fun p hp=>?_
 simp only [List.zip_cons_cons,List.zip_nil_right,List.mem_cons,List.not_mem_nil,or_false] at hp
 rcases hp with rfl | rfl
 ·refine Es rfl fun p hp=>?_
  simp only [List.zip_cons_cons,List.zip_nil_right,List.mem_cons,List.not_mem_nil,or_false] at hp
  rcases hp with rfl | rfl | rfl
  ·exact Bg 2
  ·exact Bg 4
  ·exact Bz.rfl_ _
 ·exact Bz.rfl_ _
set_option maxRecDepth 100000 in
set_option maxHeartbeats 1600000 in
theorem Ak8 (l:Log) (x:Bc) (iS:I64 l.sure) (hlt:l.notes.length < 1073741824):A7 Tryz.prog A8 160 [Q4 l,Ft x] (.tup [Q4 (Sh l x).1,.val (.int .i64 (Sh l x).2)]) []:=by
 refine A7.ofS (n:=37) (rs:=[.cell 4 30,.tmp 5]) Tryz.func160 rfl (by kernel_rfl) Tryz.ntmps160 (by kernel_rfl) (by simp) (fun _ _=>A8.later) ?_
 intro hok V w0
 have hlen:l.notes.length<=1073741824:=by simpa using hok.1.2.1.1
 have hw:=Y6 l iS
 have hf:=J4 x
 obtain ⟨R,hR⟩ : ∃ R,Sh l x=R:=⟨_,rfl⟩
 rw [hR]
 unfold Sh at hR
 unfold A35 at hw
 refine g ?_
 refine AW.seq ?_
 refine AW.reg rfl fun KK hKK=>?_
 refine g ?_
 repeat' (refine hKK _ (g ?_);clear hKK KK)
 refine AW.freeze 300 _ rfl ⟨trivial,trivial,iS,trivial⟩ ?_
 simp only [go_sem,reduceIte,Nat.reduceEqDiff]
 refine AW.freeze 400 _ rfl ⟨trivial,trivial,trivial,trivial,trivial⟩ ?_
 simp only [go_sem,reduceIte,Nat.reduceEqDiff]
 cases hL:Cf l with
 | false =>
  rw [if_neg (by simp [hL]),hL] at hw
  rw [if_neg (by simp [hL])] at hR
  refine g ?_
  repeat' (first | refine st_ rfl (g ?_) | refine A9 (hw) rfl (g ?_))
  exact C08 hR.symm
 | true =>
 rw [if_pos hL,hL] at hw
 cases hN:Ax x with
 | false =>
  rw [hN] at hf
  rw [if_neg (by simp [hN])] at hR
  refine g ?_
  repeat' (first | refine st_ rfl (g ?_) | refine A9 (hw) rfl (g ?_) | refine A9 (hf) rfl (g ?_))
  exact C08 hR.symm
 | true =>
 rw [hN] at hf
 rw [if_pos ⟨hL,hN⟩] at hR
 have hc:=Q2 x (Bk l.base l.notes)
 cases hC:Aw (Bk l.base l.notes) x.start with
 | false =>
  rw [hC] at hc
  rw [if_neg (by simp [hC])] at hR
  refine g ?_
  repeat' (first | refine st_ rfl (g ?_) | refine A9 (hw) rfl (g ?_) | refine A9 (hf) rfl (g ?_) | refine A9 (hc) rfl (g ?_))
  exact C08 hR.symm
 | true =>
 rw [hC] at hc
 rw [if_pos hC] at hR
 refine g ?_
 repeat' (first | refine st_ rfl (g ?_) | refine A9 (hw) rfl (g ?_) | refine A9 (hf) rfl (g ?_) | refine A9 (hc) rfl (g ?_) | refine A9 (Bp4 l iS) rfl (g ?_))
 refine AW.le (ρ:=id) (S:=⟨[(3,.ip [stI x.start,stI x.end_,spI x.blur,wrI x.writes]),(4,.bp 500 0),(8,.bp 900 0)],[.row 2900 98 4 (l.notes.map enN),.box 900 [.iv (stI l.base),.own 2900,.val (.int .i64 l.sure)],.box 500 [.val (.slice none 0 0),.val (.slice none 0 0),.val (.int .i64 0)]]⟩) ⟨⟨rfl,rfl,rfl,trivial⟩,⟨rfl,rfl,rfl,trivial⟩,by simp [By,BA.id]⟩ ?_
 refine AW.drawn (ds:=[29,30,31,32,33,34,35]) (fin:=[2,3,4,5]) (bs:=[3,3,3,3,3,4,5,5]) [⟨[],[],[],[],0⟩,⟨[(29,0)],[],[0,1,2],[],0⟩,⟨[],[],[0,1,2],[],0⟩,⟨[(31,2)],[],[0,1,2],[],0⟩,⟨[(32,3)],[],[],[],1⟩,⟨[(30,1),(33,4)],[],[1,2,3],[0],1⟩,⟨[],[],[],[],0⟩,⟨[(35,6),(34,5)],[],[],[1],1⟩] (by kernel_rfl) rfl (by kernel_rfl) rfl rfl rfl fun KD hKD=>?_
 refine g ?_
 repeat' refine A9 (A18 x) rfl (g ?_)
 refine bs1 (by omega) rfl rfl rfl ⟨trivial,trivial,trivial,trivial,trivial⟩ ?_
 refine g ?_
 refine Co rfl (by kernel_rfl) (by omega) (by kernel_rfl) rfl (by simp only [List.length_map,List.length_singleton];omega) ?_
 refine g ?_
 repeat' (refine hKD _ _ ⟨rfl,g ?_⟩;clear hKD KD)
 refine AW.freeze 3500 _ rfl trivial ?_
 simp only [go_sem,reduceIte,Nat.reduceEqDiff]
 refine g ?_
 repeat' refine st_ rfl (g ?_)
 subst hR
 rw [show l.notes.map enN++[[stI x.start,stI x.end_,spI x.blur,wrI x.writes]]=(l.notes++[x]).map enN by rw [List.map_append];rfl]
 exact Bz.rfl_ _
end Go.Proofs.YtblfjaedaijfoaaGreatDoor
namespace Go.Proofs.YtblfjaedaijfoaaGreatDoor
open Go.ChangeShapes Go.WideShapes Go.ChangeAt Go.RowKit
theorem AW.seqLe {P:Program} {G:World->Prop} {V w0:World} {n:Nd} {ro:Option Nat} {σ:Ag} {K:Exit->Ag->Prop} {x y:Code} (S:Ag) (h1:AW P G ro V w0 n x σ fun e σ'=>e=.normal/\LeS id S σ') (h2:AW P G ro V w0 n y S K):AW P G ro V w0 n (.seq x y) σ K :=
 AW.seq (AW.mono h1 fun e σ' h=>by
  obtain ⟨rfl,h⟩:=h
  exact AW.le h h2)
def enA (x:Ll):AV:=.agg [.val (.int .i64 x.kind),.iv (stI x.note.start),.iv (stI x.note.end_),.iv (spI x.note.blur),.iv (wrI x.note.writes),.val (.int .i64 x.body.object),.val (.int .i64 x.body.stamp.count),.val (.int .i64 x.body.stamp.node),.iv (byI x.body.value),.val (.int .i64 x.from_),.iv (spI x.interest),.iv (stI x.view.known),.iv (znI x.view.zones),.iv (wrI x.view.held),.iv (boI x.view.bodies),.val (.int .i64 x.view.room),.iv (H9 x.subs)]
theorem U6 (x:Ll):enA x=.agg [.val (.int .i64 x.kind),.iv (stI x.note.start),.iv (stI x.note.end_),.iv (spI x.note.blur),.iv (wrI x.note.writes),.val (.int .i64 x.body.object),.val (.int .i64 x.body.stamp.count),.val (.int .i64 x.body.stamp.node),.iv (byI x.body.value),.val (.int .i64 x.from_),.iv (spI x.interest),.iv (stI x.view.known),.iv (znI x.view.zones),.iv (wrI x.view.held),.iv (boI x.view.bodies),.val (.int .i64 x.view.room),.iv (H9 x.subs)]:=rfl
attribute [local irreducible] AW AWY Bo B4 vop Bj B7 Bf qop Bu C4 Aq Aj Bh A7 B9
attribute [local go_sem] Af8 Ax0 Eb Cm Jc G6 Dq Hv Db Dk C9 My Sw Z7 Am2 U6 Fx Jk Ae Af
theorem Bt0 (x:C1):A7 Tryz.prog A8 289 [boA x] (.val (.bool (Pd x))) []:=by
 refine A7.of (n:=18) (rs:=[.tmp 2]) Tryz.func289 rfl (by kernel_rfl) Tryz.ntmps289 (by kernel_rfl) (by simp) (fun _ _=>A8.later) ?_
 intro hok V w0
 obtain ⟨B,hB⟩ : ∃ B,Pd x=B:=⟨_,rfl⟩
 rw [hB]
 obtain ⟨xo,⟨xc,xn⟩,xv⟩:=x
 unfold Pd at hB
 refine g ?_
 repeat' (first | refine st_ rfl (g ?_) | (refine B8 rfl rfl (fun h e=>?_) (fun h e=>?_)<;>simp only [e]<;>clear e<;>refine g ?_))
 ·refine ⟨_,fun u=>Me _ _ _ _ _ _ u,?_⟩
  refine g ?_
  repeat' (first | refine st_ rfl (g ?_) | refine Bi (g ?_) | (refine Cn rfl rfl (fun h=>?_) (fun h=>?_)<;>simp only [h]<;>refine g ?_))
  all_goals (rw [<-hB];simp at h;simp_all)
  rw [<-hB]
  by_cases c:xc=0<;>simp_all
 ·rw [<-hB];simp [*]
theorem Bc3 (n:Bc):A7 Tryz.prog A8 290 [Ft n] (.val (.bool (Nm n))) []:=by
 refine A7.of (n:=19) (rs:=[.tmp 2]) Tryz.func290 rfl (by kernel_rfl) Tryz.ntmps290 (by kernel_rfl) (by simp) (fun _ _=>A8.later) ?_
 intro hok V w0
 have l1:n.start.length<=1073741824:=by simpa [stI] using hok.1.1.1
 have l2:n.end_.length<=1073741824:=by simpa [stI] using hok.1.2.1.1
 have l3:n.blur.length<=1073741824:=by simpa [spI] using hok.1.2.2.1.1
 have l4:n.writes.length<=1073741824:=by simpa [wrI] using hok.1.2.2.2.1.1
 obtain ⟨B,hB⟩ : ∃ B,Nm n=B:=⟨_,rfl⟩
 rw [hB]
 refine g ?_
 repeat' refine st_ rfl (g ?_)
 have z1:=List.length_eq_zero_iff (l:=n.start)
 have z2:=List.length_eq_zero_iff (l:=n.end_)
 have z3:=List.length_eq_zero_iff (l:=n.blur)
 have z4:=List.length_eq_zero_iff (l:=n.writes)
 rw [<-hB,Nm,Bool.eq_iff_iff]
 simp only [Bool.and_eq_true,decide_eq_true_eq,<-z1,<-z2,<-z3,<-z4]
 omega
theorem Bd8 (v:Cr):A7 Tryz.prog A8 288 [vwA v] (.val (.bool (Ua v))) []:=by
 refine A7.of (n:=24) (rs:=[.tmp 2]) Tryz.func288 rfl (by kernel_rfl) Tryz.ntmps288 (by kernel_rfl) (by simp) (fun _ _=>A8.later) ?_
 intro hok V w0
 have l1:v.known.length<=1073741824:=by simpa [stI] using hok.1.1.1
 have l2:v.zones.length<=1073741824:=by simpa [znI] using hok.1.2.1.1
 have l3:v.held.length<=1073741824:=by simpa [wrI] using hok.1.2.2.1.1
 have l4:v.bodies.length<=1073741824:=by simpa [boI] using hok.1.2.2.2.1.1
 obtain ⟨B,hB⟩ : ∃ B,Ua v=B:=⟨_,rfl⟩
 rw [hB]
 refine g ?_
 repeat' (first | refine st_ rfl (g ?_) | (refine B8 rfl rfl (fun h e=>?_) (fun h e=>?_)<;>simp only [e]<;>clear e<;>refine g ?_))
 all_goals
  have z1:=List.length_eq_zero_iff (l:=v.known)
  have z2:=List.length_eq_zero_iff (l:=v.zones)
  have z3:=List.length_eq_zero_iff (l:=v.held)
  have z4:=List.length_eq_zero_iff (l:=v.bodies)
  rw [<-hB,Ua,Bool.eq_iff_iff]
  simp only [Bool.and_eq_true,decide_eq_true_eq,<-z1,<-z2,<-z3,<-z4]
  first | omega | exact ⟨fun e=>(by cases e),fun e=>by omega⟩
theorem C54 (b:List Nat) (x:C1) (hx:Ca x=false):A7 Tryz.prog A8 228 [.iv (byI b),boA x] (.tup [.any,.val (.int .i64 1)]) []:=by
 refine A7.ofS (n:=23) (rs:=[.tmp 4,.tmp 5]) Tryz.func228 rfl (by kernel_rfl) Tryz.ntmps228 (by kernel_rfl) (by simp) (fun _ _=>A8.later) ?_
 intro hok V w0
 have hf:=Uf x
 rw [hx] at hf
 refine g ?_
 repeat' (first | refine st_ rfl (g ?_) | refine A9 (hf) rfl (g ?_))
 refine Ep rfl fun p hp=>?_
 simp only [List.zip_cons_cons,List.zip_nil_right,List.mem_cons,List.not_mem_nil,or_false] at hp
 rcases hp with rfl | rfl
 ·exact fun _ _ _ _=>Bd.any
 ·exact Bz.rfl_ _
theorem Z9:Bz (.val (.slice none 0 0)) (.iv (byI [])):=Bg 1
theorem B16 (x:C1) (i1:I64 x.object) (i2:I64 x.stamp.node) (i3:I64 x.stamp.count):A7 Tryz.prog A8 291 [boA x] (.val (.bool (Ca x))) []:=by
 refine A7.of (n:=12) (rs:=[.tmp 2]) Tryz.func291 rfl (by kernel_rfl) Tryz.ntmps291 (by kernel_rfl) (by simp) (fun _ _=>A8.later) ?_
 intro hok V w0
 cases hx:Ca x with
 | true =>
  have h:=(Uc [] x hx (by simp) i1 i2 i3).args_ (args':=[.val (.slice none 0 0),boA x]) (Sbs.of_ Z9 (Sbs.rfl_ _))
  refine g ?_
  repeat' (first | refine st_ rfl (g ?_) | refine A9 (h) rfl (g ?_))
  exact decide_eq_true trivial
 | false =>
  have h:=(C54 [] x hx).args_ (args':=[.val (.slice none 0 0),boA x]) (Sbs.of_ Z9 (Sbs.rfl_ _))
  refine g ?_
  repeat' (first | refine st_ rfl (g ?_) | refine A9 (h) rfl (g ?_))
  exact decide_eq_false id
def Kn:Int->List Sub->Int
 | e,[]=>e
 | _,s :: l=>Kn s.from_ l
theorem Ps:∀ {a b:List Sub} {e:Int},Kc e (a++b)=(Kc e a&&Kc (Kn e a) b)
 | [],b,e=>rfl
 | s :: a,b,e=>by simp only [List.cons_append,Kc,Ps (a:=a),Bool.and_assoc,Kn]
theorem Rb:∀ (a b:List Sub) (e:Int),Kn e (a++b)=Kn (Kn e a) b
 | [],_,_=>rfl
 | s :: a,b,_=>Rb a b s.from_
theorem Bv8 {l:List Sub} {m:Nat} (h:m < l.length) (ht:Kc (-1) (l.take m)=true):Kc (-1) l=(Qq (Kn (-1) (l.take m)) l[m]&&Kc l[m].from_ (l.drop (m+1))):=by
 conv=>lhs;rw [<-List.take_append_drop m l,List.drop_eq_getElem_cons h]
 rw [Ps,ht,Bool.true_and]
 rfl
theorem B48 {l:List Sub} {m:Nat} (h:m < l.length) (ht:Kc (-1) (l.take m)=true) (hf:Qq (Kn (-1) (l.take m)) l[m]=true):Kc (-1) (l.take (m+1))=true/\Kn (-1) (l.take (m+1))=l[m].from_:=by
 rw [List.take_succ_eq_append_getElem h]
 exact ⟨by rw [Ps,ht];simp [Kc,hf],by rw [Rb];rfl⟩
theorem Bl2 {e:Int} {s:Sub} (h1:e < s.from_) (h2:s.from_ < 64) (h3:0 < s.interest.length) (h4:Br s.interest=true) (h5:s.session=0) (h6:s.seq=0) (h7:s.live=false) (h8:s.heard=false) (h9:s.idle=false):Qq e s=true:=by
 simp [Qq,h1,h2,h3,h4,h5,h6,h7,h8,h9]
theorem Kb {e:Int} {s:Sub} (h:e < s.from_->s.from_ < 64->0 < s.interest.length->Br s.interest=true->s.session=0->s.seq=0->s.live=false->s.heard=false->s.idle=false->False):Qq e s=false:=by
 refine Bool.eq_false_iff.2 fun e=>?_
 simp only [Qq,Bool.and_eq_true,decide_eq_true_eq,Bool.not_eq_true'] at e
 obtain ⟨⟨⟨⟨⟨⟨⟨⟨e1,e2⟩,e3⟩,e4⟩,e5⟩,e6⟩,e7⟩,e8⟩,e9⟩:=e
 exact h e1 e2 e3 e4 e5 e6 e7 e8 e9
set_option maxRecDepth 100000 in
set_option maxHeartbeats 1600000 in
theorem Bm4 (l:List Sub):A7 Tryz.prog A8 292 [.iv (H9 l)] (.val (.bool (Wm l))) []:=by
 refine A7.of (n:=61) (rs:=[.tmp 2]) Tryz.func292 rfl (by kernel_rfl) Tryz.ntmps292 (by kernel_rfl) (by simp) (fun _ _=>A8.later) ?_
 intro hok V w0
 have hlen:l.length<=1073741824:=by simpa [H9] using hok.1.1
 obtain ⟨B,hB⟩ : ∃ B,Wm l=B:=⟨_,rfl⟩
 rw [hB]
 refine g ?_
 repeat' refine st_ rfl (g ?_)
 refine AW.loop (fun m:{m:Nat // m<=l.length/\Kc (-1) (l.take m)=true}=>⟨[(0,.iv (H9 l)),(3,.val (.int .i64 (Kn (-1) (l.take m.1)))),(6,.iv (H9 l)),(7,.val (.int .i64 (l.length:Nat))),(8,.val (.int .i64 (m.1:Nat)))],[]⟩) (fun m=>l.length - m.1) ⟨0,Nat.zero_le _,rfl⟩ id ⟨⟨rfl,rfl,rfl,rfl,rfl,trivial⟩,trivial,List.nodup_nil⟩ fun ⟨m,hm,ht⟩=>?_
 simp only
 repeat (refine AW.seq ?_)
 refine AW.reg rfl fun KK hKK=>?_
 refine g ?_
 repeat' (refine hKK _ (g ?_);clear hKK KK)
 repeat (refine AW.seq ?_)
 refine st_ rfl ?_
 refine g ?_
 refine Al (fun h=>?_) (fun h=>?_)
 ·have hlt:m < l.length:=by omega
  have hat:=Bv8 hlt ht
  have hst:=B48 hlt ht
  have hB2:B=(Kc (-1) l&&decide (l.length<=16)):=hB.symm
  rw [hat] at hB2
  have hN:Qq (Kn (-1) (l.take m)) l[m]=false->false=B:=fun h=>by rw [hB2,h];rfl
  refine st_ rfl (g ?_)
  refine g ?_
  repeat' (first | refine st_ rfl (g ?_) | refine Cy (fun h=>g ?_) (fun h=>g ?_) | (refine B8 rfl rfl (fun h e=>?_) (fun h e=>?_)<;>simp only [e]<;>clear e<;>refine g ?_) | (refine Cn rfl rfl (fun h=>?_) (fun h=>?_)<;>simp only [h]<;>refine g ?_) | refine ix_ (by omega) (g ?_) | refine A9 (Pu _) rfl (g ?_))
  ·exact hN (Kb fun e1 e2 e3 e4 e5 e6 e7 e8 e9=>by omega)
  ·exact hN (Kb fun e1 e2 e3 e4 e5 e6 e7 e8 e9=>by omega)
  ·exact hN (Kb fun e1 e2 e3 e4 e5 e6 e7 e8 e9=>by omega)
  ·exact hN (Kb fun e1 e2 e3 e4 e5 e6 e7 e8 e9=>by simp [e4] at h)
  ·exact hN (Kb fun e1 e2 e3 e4 e5 e6 e7 e8 e9=>h e5)
  ·exact hN (Kb fun e1 e2 e3 e4 e5 e6 e7 e8 e9=>h e6)
  ·exact hN (Kb fun e1 e2 e3 e4 e5 e6 e7 e8 e9=>by simp [e7] at h)
  ·exact hN (Kb fun e1 e2 e3 e4 e5 e6 e7 e8 e9=>by simp [e8] at h)
  ·exact hN (Kb fun e1 e2 e3 e4 e5 e6 e7 e8 e9=>by simp [e9] at h)
  ·obtain ⟨g1,g2⟩:=hst (Bl2 (by omega) (by omega) (by omega) (by simpa using ‹(!Br l[m].interest)=false›) (Decidable.not_not.1 ‹¬¬l[m].session=0›) (Decidable.not_not.1 ‹¬¬l[m].seq=0›) ‹l[m].live=false› ‹l[m].heard=false› h)
   exact ⟨⟨m+1,by omega,g1⟩,id,⟨⟨rfl,by rw [g2];rfl,rfl,rfl,rfl,trivial⟩,trivial,List.nodup_nil⟩,by show l.length - (m+1) < l.length - m;omega⟩
 ·refine AW.exit ?_
  simp only [reduceIte]
  refine g ?_
  repeat' refine st_ rfl (g ?_)
  rw [List.take_of_length_le (by omega)] at ht
  rw [<-hB,Wm,ht,Bool.true_and]
  exact decide_eq_decide.2 (by omega)
end Go.Proofs.YtblfjaedaijfoaaGreatDoor
namespace Go.Proofs.YtblfjaedaijfoaaGreatDoor
open Go.ChangeShapes Go.WideShapes Go.ChangeAt Go.RowKit
attribute [local irreducible] AW AWY Bo B4 vop Bj B7 Bf qop Bu C4 Aq Aj Bh A7 B9
attribute [local go_sem] Af8 Ax0 Eb Cm Jc G6 Dq Hv Db Dk C9 My Sw Z7 Am2 U6 Fx Jk Ae Af
def enC (x:Ll):List IV:=[.val (.int .i64 x.kind),stI x.note.start,stI x.note.end_,spI x.note.blur,wrI x.note.writes,.val (.int .i64 x.body.object),.val (.int .i64 x.body.stamp.count),.val (.int .i64 x.body.stamp.node),byI x.body.value,.val (.int .i64 x.from_),spI x.interest,stI x.view.known,znI x.view.zones,wrI x.view.held,boI x.view.bodies,.val (.int .i64 x.view.room),H9 x.subs]
theorem Ck6 (x:Ll):enC x=[.val (.int .i64 x.kind),stI x.note.start,stI x.note.end_,spI x.note.blur,wrI x.note.writes,.val (.int .i64 x.body.object),.val (.int .i64 x.body.stamp.count),.val (.int .i64 x.body.stamp.node),byI x.body.value,.val (.int .i64 x.from_),spI x.interest,stI x.view.known,znI x.view.zones,wrI x.view.held,boI x.view.bodies,.val (.int .i64 x.view.room),H9 x.subs]:=rfl
structure Ao0 (x:Ll):Prop where
 kind:I64 x.kind
 object:I64 x.body.object
 count:I64 x.body.stamp.count
 node:I64 x.body.stamp.node
 from_:I64 x.from_
 room:I64 x.view.room
def P6 (x:Ll):Bool:=decide (x.from_≠0) || decide (0 < x.interest.length)
def L7 (x:Ll):Bool:=!Ua x.view || decide (0 < x.subs.length)
attribute [local go_sem] Ck6
set_option maxRecDepth 100000 in
set_option maxHeartbeats 3200000 in
theorem Am3 (x:Ll) (hi:Ao0 x):A7 Tryz.prog A8 225 [enA x] (.val (.bool (D1 x))) []:=by
 refine A7.of (n:=173) (rs:=[.tmp 2]) Tryz.func225 rfl (by kernel_rfl) Tryz.ntmps225 (by kernel_rfl) (by simp) (fun _ _=>A8.later) ?_
 intro hok V w0
 have hl:=Jo x.view hi.room
 have hb:=Bd8 x.view
 have hbd:=B16 x.body hi.object hi.node hi.count
 have hba:=Bt0 x.body
 have hem:=Bc3 x.note
 have hno:=J4 x.note
 obtain ⟨B,hB⟩ : ∃ B,D1 x=B:=⟨_,rfl⟩
 rw [hB]
 refine g ?_
 refine AW.seq ?_
 refine AW.reg rfl fun KK hKK=>?_
 refine g ?_
 repeat' (refine hKK _ (g ?_);clear hKK KK)
 refine AW.freeze 200 _ rfl ⟨hi.kind,trivial,trivial,trivial,trivial,hi.object,hi.count,hi.node,trivial,hi.from_,trivial,trivial,trivial,trivial,trivial,hi.room,trivial,trivial⟩ ?_
 simp only [go_sem,reduceIte,Nat.reduceEqDiff]
 refine AW.seqLe ⟨[(1,.ip (enC x)),(3,.val (.bool (P6 x)))],[]⟩ ?_ ?_
 ·refine g ?_
  repeat' (first | refine st_ rfl (g ?_) | (refine B8 rfl rfl (fun h e=>?_) (fun h e=>?_)<;>simp only [e]<;>clear e<;>refine g ?_))
  ·refine ⟨⟨rfl,?_,trivial⟩,trivial,List.nodup_nil⟩
   show _=AV.val (.bool (P6 x))
   rw [show P6 x=true by simp [P6,h]]
   rfl
  ·refine ⟨⟨rfl,?_,trivial⟩,trivial,List.nodup_nil⟩
   show _=AV.val (.bool (P6 x))
   rw [show P6 x=decide ((0:Int) < (x.interest.length:Nat)) by rw [P6,decide_eq_false h,Bool.false_or];exact decide_eq_decide.2 (by omega)]
   rfl
 refine AW.seqLe ⟨[(1,.ip (enC x)),(3,.val (.bool (P6 x))),(4,.val (.bool (L7 x)))],[]⟩ ?_ ?_
 ·refine g ?_
  repeat' (first | refine st_ rfl (g ?_) | (refine Cn rfl rfl (fun h=>?_) (fun h=>?_)<;>simp only [h]<;>refine g ?_) | refine A9 (hb) rfl (g ?_))
  ·refine ⟨⟨rfl,rfl,?_,trivial⟩,trivial,List.nodup_nil⟩
   show _=AV.val (.bool (L7 x))
   rw [L7,h,Bool.true_or]
   rfl
  ·refine ⟨⟨rfl,rfl,?_,trivial⟩,trivial,List.nodup_nil⟩
   show _=AV.val (.bool (L7 x))
   rw [L7,h,Bool.false_or,show decide (0 < x.subs.length)=decide ((0:Int) < (x.subs.length:Nat)) from decide_eq_decide.2 (by omega)]
   rfl
 have hE:B=(if x.kind=1 then Ax x.note&&Pd x.body&&!P6 x&&!L7 x
  else if x.kind=2 then Nm x.note&&Ca x.body&&!P6 x&&!L7 x
  else if x.kind=3 then (match x.note.writes with
   | [w]=>!P6 x&&!L7 x&&Ax x.note&&(w.gone&&Pd x.body || !w.gone&&Ca x.body&&decide (x.body.object=w.object)&&decide (x.body.stamp=w.stamp))
   | _=>false)
  else if x.kind=4 then Nm x.note&&Pd x.body&&!L7 x&&decide (0<=x.from_)&&decide (x.from_ < 64)&&Br x.interest
  else if x.kind=5 then Nm x.note&&Pd x.body&&!P6 x&&Am x.view&&Wm x.subs
  else false):=hB.symm
 clear hB hok
 generalize P6 x=SB at *
 generalize L7 x=CB at *
 have hr:=Bm4 x.subs
 have hs:=Pu x.interest
 have hwl:=hno
 generalize Ax x.note=NB at *
 generalize Pd x.body=BB at *
 generalize Nm x.note=MB at *
 generalize Ca x.body=DB at *
 generalize Am x.view=VB at *
 generalize Wm x.subs=RB at *
 generalize Br x.interest=PB at *
 refine g ?_
 repeat' (first | refine st_ rfl (g ?_) | refine Al (fun h=>g ?_) (fun h=>g ?_) | refine Cy (fun h=>g ?_) (fun h=>g ?_) | (refine B8 rfl rfl (fun h e=>?_) (fun h e=>?_)<;>simp only [e]<;>clear e<;>refine g ?_) | (refine Cn rfl rfl (fun h=>?_) (fun h=>?_)<;>simp only [h]<;>refine g ?_) | refine A9 (hno) rfl (g ?_) | refine A9 (hba) rfl (g ?_) | refine A9 (hem) rfl (g ?_) | refine A9 (hbd) rfl (g ?_) | refine A9 (hl) rfl (g ?_) | refine A9 (hr) rfl (g ?_) | refine A9 (hs) rfl (g ?_))
 all_goals try (clear hno hba hem hbd hl hr hs hb hwl;rw [hE];clear hE;rcases x.note.writes with _ | ⟨w,_ | _⟩<;>simp_all;done)
 ·clear hno hba hem hbd hl hr hs hb hwl
  rw [hE]
  rcases hw:x.note.writes with _ | ⟨w,_ | ⟨w2,ws⟩⟩
  ·simp [*]
  ·rw [hw] at h;simp at h
  ·simp [*]
 ·obtain ⟨w,hw⟩ : ∃ w,x.note.writes=[w]:=List.length_eq_one_iff.1 (by omega)
  have hNB:NB=true:=by simpa using h
  have hE2:B=(w.gone&&BB || !w.gone&&DB&&decide (x.body.object=w.object)&&decide (x.body.stamp=w.stamp)):=by
   clear hno hba hem hbd hl hr hs hb hwl
   rw [hE,hw]
   simp [*]
  clear hE
  rw [hw]
  refine ⟨enW w,rfl,Bi (g ?_)⟩
  refine g ?_
  repeat' (first | refine st_ rfl (g ?_) | (refine B8 rfl rfl (fun h e=>?_) (fun h e=>?_)<;>simp only [e]<;>clear e<;>refine g ?_) | (refine Cn rfl rfl (fun h=>?_) (fun h=>?_)<;>simp only [h]<;>refine g ?_) | refine A9 (hba) rfl (g ?_) | refine A9 (hbd) rfl (g ?_))
  ·rw [hE2]
   clear hno hba hem hbd hl hr hs hb hwl hE2
   simp [*]
  ·rw [hE2]
   clear hno hba hem hbd hl hr hs hb hwl hE2
   simp [*]
  ·refine ⟨_,fun u=>Me _ _ _ _ _ _ u,?_⟩
   refine g ?_
   repeat' (first | refine st_ rfl (g ?_) | refine Bi (g ?_))
   all_goals
    rw [hE2,Rx]
    clear hno hba hem hbd hl hr hs hb hwl hE2
    simp [*]
  ·rw [hE2]
   have e:=decide_eq_false h
   clear hno hba hem hbd hl hr hs hb hwl hE2
   simp [*]
  ·rw [hE2]
   clear hno hba hem hbd hl hr hs hb hwl hE2
   simp [*]
 ·clear hno hba hem hbd hl hr hs hb hwl
  have e:=decide_eq_false h
  rw [hE]
  simp [*]
 ·clear hno hba hem hbd hl hr hs hb hwl
  have e:=decide_eq_false h
  rw [hE]
  simp [*]
end Go.Proofs.YtblfjaedaijfoaaGreatDoor
namespace Go.Proofs.YtblfjaedaijfoaaGreatDoor
open Go.ChangeShapes Go.WideShapes Go.ChangeAt Go.RowKit
attribute [local irreducible] AW AWY Bo B4 vop Bj B7 Bf qop Bu C4 Aq Aj Bh A7 B9
attribute [local go_sem] Af8 Ax0 Eb Cm Jc G6 Dq Hv Db Dk C9 My Sw Z7 Am2 U6 Fx Jk Ae Af
set_option maxRecDepth 100000 in
theorem Af3 (b:List Nat) (l:List Int) (h0:∀ n∈l,0<=n) (hl:l.length<=1000) (hb:b.length<=900000000):A7 Tryz.prog A8 226 [.iv (byI b),.iv (inI l)] (.iv (byI (b++Gb l))) []:=by
 refine A7.of (n:=21) (rs:=[.tmp 4]) Tryz.func226 rfl (by kernel_rfl) Tryz.ntmps226 (by kernel_rfl) (by simp) (fun _ _=>A8.later) ?_
 intro hok V w0
 refine g ?_
 repeat' refine st_ rfl (g ?_)
 refine AW.loop (fun m:{m:Nat // m<=l.length}=>⟨[(0,.iv (byI (b++Gb (l.take m.1)))),(7,.iv (inI l)),(8,.val (.int .i64 (l.length:Nat))),(9,.val (.int .i64 (m.1:Nat)))],[]⟩) (fun m=>l.length - m.1) ⟨0,Nat.zero_le _⟩ id ⟨⟨?_,rfl,rfl,rfl,trivial⟩,trivial,List.nodup_nil⟩ fun ⟨m,hm⟩=>?_
 ·simp [Gb];rfl
 simp only
 repeat (refine AW.seq ?_)
 refine AW.reg rfl fun KK hKK=>?_
 refine g ?_
 repeat' (refine hKK _ (g ?_);clear hKK KK)
 repeat (refine AW.seq ?_)
 refine st_ rfl ?_
 refine g ?_
 refine Al (fun h=>?_) (fun h=>?_)
 ·have hlt:m < l.length:=by omega
  have hn:=h0 l[m] (List.getElem_mem hlt)
  obtain ⟨-,o1,-⟩:=Do (by simpa [inI] using hok.2.1.2) [IV.val (.int .i64 l[m])] (List.mem_map_of_mem (f:=fun n:Int=>[IV.val (.int .i64 n)]) (List.getElem_mem hlt))
  have o2:=I64.hi o1
  have ht:=A23 hlt
  have hle:=J3 (l.take m)
  rw [List.length_take] at hle
  obtain ⟨k,hk⟩ : ∃ k:Nat,l[m]=(k:Int):=⟨l[m].toNat,by omega⟩
  rw [hk] at ht o2
  refine st_ rfl (g ?_)
  refine g ?_
  repeat' (first | refine st_ rfl (g ?_) | refine ix_ (by omega) (g ?_))
  rw [hk]
  refine g ?_
  repeat' (first | refine st_ rfl (g ?_) | refine A9 (Ag5 _ k (by omega) (by simp;omega)) rfl (g ?_))
  refine ⟨⟨m+1,hlt⟩,id,⟨⟨?_,rfl,rfl,rfl,trivial⟩,trivial,List.nodup_nil⟩,by show l.length - (m+1) < l.length - m;omega⟩
  rw [ht,Int.toNat_natCast,<-List.append_assoc]
  rfl
 ·refine AW.exit ?_
  simp only [reduceIte]
  refine g ?_
  repeat' refine st_ rfl (g ?_)
  rw [List.take_of_length_le (by omega)]
theorem C91 {q:List Nat×Int} {e:Int} (h:q=([],e)):Bz (.tup [.val (.slice none 0 0),.val (.int .i64 e)]) (.tup [.iv (byI q.1),.val (.int .i64 q.2)]):=by
 subst h
 refine Ep rfl fun p hp=>?_
 simp only [List.zip_cons_cons,List.zip_nil_right,List.mem_cons,List.not_mem_nil,or_false] at hp
 rcases hp with rfl | rfl
 ·exact Z9
 ·exact Bz.rfl_ _
set_option maxRecDepth 100000 in
set_option maxHeartbeats 3200000 in
theorem Bs1 (x:Ll) (hi:Ao0 x) (h5:¬ x.kind=5):A7 Tryz.prog A8 156 [enA x] (.tup [.iv (byI (Af5 x).1),.val (.int .i64 (Af5 x).2)]) []:=by
 refine A7.ofS (n:=101) (rs:=[.tmp 2,.tmp 3]) Tryz.func156 rfl (by kernel_rfl) Tryz.ntmps156 (by kernel_rfl) (by simp) (fun _ _=>A8.later) ?_
 intro hok V w0
 have hf:=Am3 x hi
 cases hF:D1 x with
 | false =>
  rw [hF] at hf
  refine g ?_
  repeat' (first | refine st_ rfl (g ?_) | refine A9 (hf) rfl (g ?_))
  exact C91 (by rw [Af5,hF];rfl)
 | true =>
  rw [hF] at hf
  rw [show Af5 x=(Gv x,0) by rw [Af5,if_pos hF]]
  have hc:x.kind=1\/x.kind=2\/x.kind=3\/x.kind=4:=by
   rw [D1] at hF
   by_cases k1:x.kind=1
   ·omega
   by_cases k2:x.kind=2
   ·omega
   by_cases k3:x.kind=3
   ·omega
   by_cases k4:x.kind=4
   ·omega
   simp [k1,k2,k3,k4,h5] at hF
  have hk:=(Af3 [] [x.kind] (by simp;omega) (by simp) (by simp)).args_ (args':=[.val (.slice none 0 0),.iv (inI [x.kind])]) (Sbs.of_ Z9 (Sbs.rfl_ _))
  obtain ⟨Y,hY⟩ : ∃ Y,Gh x.kind.toNat=Y:=⟨_,rfl⟩
  have hYl:Y.length<=9:=hY ▸ Li _
  rw [show ([]:List Nat)++Gb [x.kind]=Y by simp [Gb,hY]] at hk
  refine g ?_
  refine AW.seq ?_
  refine AW.reg rfl fun KK hKK=>?_
  refine g ?_
  repeat' (refine hKK _ (g ?_);clear hKK KK)
  refine AW.freeze 200 _ rfl ⟨hi.kind,trivial,trivial,trivial,trivial,hi.object,hi.count,hi.node,trivial,hi.from_,trivial,trivial,trivial,trivial,trivial,hi.room,trivial,trivial⟩ ?_
  simp only [go_sem,reduceIte,Nat.reduceEqDiff]
  refine g ?_
  repeat' (first | refine st_ rfl (g ?_) | refine A9 (hf) rfl (g ?_))
  refine bd1 (by omega) rfl rfl rfl ⟨hi.kind,trivial⟩ ?_
  rcases hc with k | k | k | k
  ·have hn:Ax x.note=true:=by
    rw [D1,if_pos k] at hF
    simp only [Bool.and_eq_true] at hF
    exact hF.1.1.1
   refine g ?_
   repeat' (first | refine st_ rfl (g ?_) | refine Al (fun h=>g ?_) (fun h=>g ?_) | refine A9 (hk) rfl (g ?_) | refine A9 (A66 Y x.note hn (by omega)) rfl (g ?_))
   all_goals try (exfalso;omega)
   rw [Gv,if_pos k,hY]
   exact Bz.rfl_ _
  ·have hn:Ca x.body=true:=by
    rw [D1,if_neg (by omega),if_pos k] at hF
    simp only [Bool.and_eq_true] at hF
    exact hF.1.1.2
   refine g ?_
   repeat' (first | refine st_ rfl (g ?_) | refine Al (fun h=>g ?_) (fun h=>g ?_) | refine A9 (hk) rfl (g ?_) | refine A9 (Uc Y x.body hn (by omega) hi.object hi.node hi.count) rfl (g ?_))
   all_goals try (exfalso;omega)
   rw [Gv,if_neg (by omega),if_pos k,hY]
   exact Bz.rfl_ _
  ·rw [D1,if_neg (by omega),if_neg (by omega),if_pos k] at hF
   obtain ⟨w,hw⟩ : ∃ w,x.note.writes=[w]:=by
    rcases hw:x.note.writes with _ | ⟨w,_ | ⟨w2,ws⟩⟩
    ·rw [hw] at hF;cases hF
    ·exact ⟨w,rfl⟩
    ·rw [hw] at hF;cases hF
   rw [hw] at hF
   simp only [Bool.and_eq_true,Bool.or_eq_true] at hF
   obtain ⟨⟨-,hn⟩,hg⟩:=hF
   have hnl:(A24 x.note).length<=100000:=by
    simp only [Ax,Bool.and_eq_true] at hn
    obtain ⟨⟨⟨⟨n1,n2⟩,-⟩,n3⟩,n4⟩:=hn
    have y1:=Ui n1
    have y2:=Ui n2
    have y3:=Ar1 n3
    have y4:=Zd w
    rw [A24,hw]
    simp only [List.length_append,Zc,List.flatMap_cons,List.flatMap_nil,List.length_nil,List.length_cons]
    have:=Li (0+1)
    omega
   refine g ?_
   repeat' (first | refine st_ rfl (g ?_) | refine Al (fun h=>g ?_) (fun h=>g ?_) | refine A9 (hk) rfl (g ?_) | refine A9 (A66 Y x.note hn (by omega)) rfl (g ?_))
   all_goals try (exfalso;omega)
   rw [hw]
   refine ⟨enW w,rfl,Bi (g ?_)⟩
   cases hgo:w.gone with
   | true =>
    refine g ?_
    repeat' refine st_ rfl (g ?_)
    all_goals try (exfalso;omega)
    rw [Gv,if_neg (by omega),if_neg (by omega),if_pos k,hY,hw]
    simp only [List.headD_cons,hgo,reduceIte,List.append_nil]
    exact Bz.rfl_ _
   | false =>
    rw [hgo] at hg
    have hbf:Ca x.body=true:=by simp at hg;exact hg.1.1
    refine g ?_
    repeat' (first | refine st_ rfl (g ?_) | refine A9 (Uc (Y++A24 x.note) x.body hbf (by rw [List.length_append];omega) hi.object hi.node hi.count) rfl (g ?_))
    all_goals try (exfalso;omega)
    rw [Gv,if_neg (by omega),if_neg (by omega),if_pos k,hY,hw]
    simp only [List.headD_cons,hgo,Bool.false_eq_true,if_false,List.append_assoc]
    exact Bz.rfl_ _
  ·rw [D1,if_neg (by omega),if_neg (by omega),if_neg (by omega),if_pos k] at hF
   simp only [Bool.and_eq_true,decide_eq_true_eq] at hF
   obtain ⟨⟨⟨-,f0⟩,f1⟩,hs⟩:=hF
   refine g ?_
   repeat' (first | refine st_ rfl (g ?_) | refine Al (fun h=>g ?_) (fun h=>g ?_) | refine A9 (hk) rfl (g ?_))
   all_goals try (exfalso;omega)
   refine AW.drawn (ds:=[60,61,62,63,64,65,66,67,59,68,69,4]) (fin:=[]) (bs:=[0,0,0,0,0,0,0,0,0,0,0,0]) [⟨[],[4],[],[],0⟩,⟨[],[],[],[],0⟩,⟨[(61,1)],[],[],[],0⟩,⟨[(62,2)],[],[],[],0⟩,⟨[(60,0),(63,3)],[],[],[],0⟩,⟨[],[],[],[],0⟩,⟨[(65,5)],[],[],[],0⟩,⟨[(64,4),(66,6)],[],[],[],0⟩,⟨[(67,7)],[],[],[],0⟩,⟨[(59,8)],[],[],[],0⟩,⟨[(59,8)],[],[],[],0⟩,⟨[(68,9)],[],[],[],0⟩] (by kernel_rfl) rfl (by kernel_rfl) rfl rfl rfl fun KD hKD=>?_
   refine g ?_
   refine bd1 (by omega) rfl rfl rfl ⟨hi.from_,trivial⟩ ?_
   have hl:=Af3 Y [x.from_] (by simpa using f0) (by simp) (by omega)
   rw [show Gb [x.from_]=Gh x.from_.toNat by simp [Gb]] at hl
   have h9:=Li x.from_.toNat
   refine g ?_
   repeat' (first | refine st_ rfl (g ?_) | (refine hKD _ _ ⟨rfl,g ?_⟩;clear hKD KD) | refine A9 (hl) rfl (g ?_) | refine A9 (Ag3 (Y++Gh x.from_.toNat) x.interest hs (by rw [List.length_append];omega)) rfl (g ?_))
   rw [Gv,if_neg (by omega),if_neg (by omega),if_neg (by omega),if_pos k,hY,List.append_assoc]
   exact Bz.rfl_ _
end Go.Proofs.YtblfjaedaijfoaaGreatDoor
namespace Go.Proofs.YtblfjaedaijfoaaGreatDoor
open Go.ChangeShapes Go.WideShapes Go.ChangeAt Go.RowKit
attribute [local irreducible] AW AWY Bo B4 vop Bj B7 Bf qop Bu C4 Aq Aj Bh A7 B9
attribute [local go_sem] Cv Hu Fs F6 Ae Af
end Go.Proofs.YtblfjaedaijfoaaGreatDoor
namespace Go.Proofs.YtblfjaedaijfoaaGreatDoor
open Go.ChangeShapes Go.WideShapes Go.ChangeAt Go.RowKit
theorem Bp9 {l:List F8} {m:Nat} (h:l.length=m+1):J6 (-1) l=l[m].number:=by
 have:=A32 (l:=l) (e:=-1) (by intro e;rw [e] at h;simp at h)
 rw [this,List.getLast_eq_getElem]
 congr 2
 omega
attribute [local irreducible] AW AWY Bo B4 vop Bj B7 Bf qop Bu C4 Aq Aj Bh A7 B9
attribute [local go_sem] Cv Hu Fs F6 Ae Af
set_option maxRecDepth 100000 in
theorem Ba2 (d:Gw) (iR:I64 d.room):A7 Tryz.prog A8 180 [dkA d] (.val (.int .i64 (A30 d))) []:=by
 refine A7.of (n:=20) (rs:=[.tmp 2]) Tryz.func180 rfl (by kernel_rfl) Tryz.ntmps180 (by kernel_rfl) (by simp) (fun _ _=>A8.later) ?_
 intro hok V w0
 have hfl:AV.okd (.iv (flI d.files)):=hok.1.2.1
 have hlen:d.files.length<=1073741824:=by simpa [flI] using hfl.1
 have hf:=Jt d iR
 obtain ⟨B,hB⟩ : ∃ B,A30 d=B:=⟨_,rfl⟩
 rw [hB]
 unfold A30 at hB
 refine g ?_
 refine AW.seq ?_
 refine AW.reg rfl fun KK hKK=>?_
 refine g ?_
 repeat' (refine hKK _ (g ?_);clear hKK KK)
 refine AW.freeze 200 _ rfl ⟨iR,trivial,trivial⟩ ?_
 simp only [go_sem,reduceIte,Nat.reduceEqDiff]
 rcases Nat.eq_zero_or_pos d.files.length with h0 | h0
 ·refine g ?_
  repeat' (first | refine st_ rfl (g ?_) | (refine B8 rfl rfl (fun h e=>?_) (fun h e=>?_)<;>simp only [e]<;>clear e<;>refine g ?_))
  ·exfalso;omega
  rw [<-hB,List.length_eq_zero_iff.1 h0]
  split<;>rfl
 obtain ⟨m,hm⟩ : ∃ m,d.files.length=m+1:=⟨d.files.length - 1,by omega⟩
 cases hF:Bs d with
 | false =>
  rw [hF] at hf
  rw [if_neg (by simp [hF])] at hB
  refine g ?_
  repeat' (first | refine st_ rfl (g ?_) | (refine B8 rfl rfl (fun h e=>?_) (fun h e=>?_)<;>simp only [e]<;>clear e<;>refine g ?_) | refine A9 (hf) rfl (g ?_))
  all_goals first | exact hB | (exfalso;omega)
 | true =>
  rw [hF] at hf
  rw [if_pos hF,Bp9 hm] at hB
  refine g ?_
  repeat' (first | refine st_ rfl (g ?_) | (refine B8 rfl rfl (fun h e=>?_) (fun h e=>?_)<;>simp only [e]<;>clear e<;>refine g ?_) | refine A9 (hf) rfl (g ?_) | (refine ixm m (by omega) (by omega) (by omega) ?_)<;>refine g ?_)
  all_goals first | exact hB | (exfalso;omega)
end Go.Proofs.YtblfjaedaijfoaaGreatDoor
namespace Go.Proofs.YtblfjaedaijfoaaGreatDoor
open Go.ChangeShapes Go.WideShapes Go.ChangeAt Go.RowKit
attribute [local irreducible] AW AWY Bo B4 vop Bj B7 Bf qop Bu C4 Aq Aj Bh A7 B9
attribute [local go_sem] Cv Hu Fs F6 Ae Af
theorem C86 {p:List Nat} (h:AV.okd (.iv (byI p))) {x:Nat} (hx:x∈p):x < 256:=by
 obtain ⟨-,h1,-⟩:=Do (by simpa [byI] using h.2) [IV.val (.int .u8 (x:Int))] (List.mem_map.2 ⟨x,hx,rfl⟩)
 have h2:(Lit.int .u8 (x:Int)).wf=true:=h1
 simp [Lit.wf,IntKind.max,IntKind.min,IntKind.signed,IntKind.bits] at h2
 omega
end Go.Proofs.YtblfjaedaijfoaaGreatDoor
namespace Go.Proofs.YtblfjaedaijfoaaGreatDoor
open Go.ChangeShapes Go.WideShapes Go.ChangeAt Go.RowKit
attribute [local irreducible] AW AWY Bo B4 vop Bj B7 Bf qop Bu C4 Aq Aj Bh A7 B9
attribute [local go_sem] U6 G3 Gu Ef Dk C9 F6 Ae Af
def B99 (n:Eo) (v:Cr) (m:Bc):Eo:=⟨n.me,v,(Sh n.log m).1,n.outs,n.subs,n.tries,n.queue,n.disk,n.down⟩
set_option maxRecDepth 100000 in
set_option maxHeartbeats 1600000 in
theorem A29 (n:Eo) (v:Cr) (m:Bc) (iR:I64 v.room) (iS:I64 n.log.sure) (hl:n.log.notes.length < 1073741824):Cg Tryz.prog A8 68 [.bp 0 0,vwA v,Ft m] (.tup []) [.box 0 (ndC n)] [] [(0,ndC (B99 n v m))] []:=by
 refine Cg.of [(0,0)] (n:=22) (rs:=[]) Tryz.func68 rfl (by kernel_rfl) Tryz.ntmps68 (by kernel_rfl) (by simp) ⟨rfl,trivial⟩ rfl rfl fun hok V w0 F=>?_
 refine g ?_
 refine AW.seq ?_
 refine AW.reg rfl fun KK hKK=>?_
 refine g ?_
 repeat' (refine hKK _ (g ?_);clear hKK KK)
 refine AW.freeze 500 _ rfl ⟨trivial,trivial,trivial,trivial,iR,trivial⟩ ?_
 simp only [go_sem,reduceIte,Nat.reduceEqDiff]
 refine AW.freeze 600 _ rfl ⟨trivial,trivial,trivial,trivial,trivial⟩ ?_
 simp only [go_sem,reduceIte,Nat.reduceEqDiff]
 refine g ?_
 repeat' refine st_ rfl (g ?_)
 refine AW.drawn (ds:=[11,12,13,14,15,16,17,10,18,19,20,21]) (fin:=[1,2]) (bs:=[2,2,2,2,2,2,2,2,2,2,2,2,2]) [⟨[],[],[],[],0⟩,⟨[],[],[],[],0⟩,⟨[(12,1)],[],[],[],0⟩,⟨[(13,2)],[],[],[],0⟩,⟨[(14,3)],[],[0,1],[],0⟩,⟨[],[],[0,1],[],0⟩,⟨[(15,4),(16,5)],[],[0,1],[],0⟩,⟨[(17,6)],[],[],[],0⟩,⟨[(10,7)],[],[],[],0⟩,⟨[(10,7)],[],[],[],0⟩,⟨[(11,0)],[],[],[],0⟩,⟨[(20,10)],[],[],[],0⟩,⟨[(21,11),(18,8)],[],[],[0],1⟩] (by kernel_rfl) rfl (by kernel_rfl) rfl rfl rfl fun KD hKD=>?_
 refine g ?_
 repeat' (first | (refine hKD _ _ ⟨rfl,g ?_⟩;clear hKD KD) | refine A9 (Ak8 n.log m iS hl) rfl (g ?_))
 exact ⟨.inr trivial,id,fun _ _ _ h=>h,⟨rfl,trivial⟩,⟨rfl,rfl⟩,by simp⟩
def Az1 (n:Eo) (d:Gw):Eo:=⟨n.me,n.view,n.log,n.outs,n.subs,n.tries,n.queue,d,n.down⟩
set_option maxRecDepth 100000 in
set_option maxHeartbeats 1600000 in
theorem A16 (n:Eo) (x:Ll) (hi:Ao0 x) (h5:¬ x.kind=5) (hx:D1 x=true) (f:FuncId) (R:Gw×Int) (hlay:A7 Tryz.prog H7 f [dkA n.disk,.iv (byI (Gv x))] (.tup [dkA R.1,.val (.int .i64 R.2)]) []):Cg Tryz.prog H7 66 [.bp 0 0,enA x,.fn f []] (.val (.int .i64 R.2)) [.box 0 (ndC n)] [] [(0,ndC (Az1 n (if R.2=0 then R.1 else n.disk)))] []:=by
 refine Cg.of [(0,0)] (n:=35) (rs:=[.tmp 6]) Tryz.func66 rfl (by kernel_rfl) Tryz.ntmps66 (by kernel_rfl) (by simp) ⟨rfl,trivial⟩ rfl rfl fun hok V w0 F=>?_
 have hc:=(Bs1 x hi h5).nd
 unfold Af5 at hc
 rw [if_pos hx] at hc
 refine g ?_
 repeat' (first | refine st_ rfl (g ?_) | refine Al (fun h=>g ?_) (fun h=>g ?_) | refine A9 (hc) rfl (g ?_) | refine A9 (hlay) rfl (g ?_))
 ·rw [if_pos h]
  exact ⟨id,fun _ _ _ h=>h,⟨rfl,trivial⟩,⟨rfl,rfl⟩,by simp⟩
 ·rw [if_neg h]
  exact ⟨id,fun _ _ _ h=>h,⟨rfl,trivial⟩,⟨rfl,rfl⟩,by simp⟩
end Go.Proofs.YtblfjaedaijfoaaGreatDoor
namespace Go.Proofs.YtblfjaedaijfoaaGreatDoor
def Cd8 (v:Cr) (r:List Ab) (f:Nat->Bool):Bc:=⟨[],r,Fa fun o=>!f o,Be2 v.held (Fa f)⟩
def Cf2 (v:Cr) (it:List Ao) (o:Nat):Bool:=Bm it o&&Bm (Mt v.zones) o
def Ch8 (v:Cr) (it:List Ao) (o:Nat):Bool:=Bm it o&&!Bm (Mt v.zones) o
def Ah2 (v:Cr) (it:List Ao):Nat->List (List Ab)
 | 0=>[]
 | m+1=>Ah2 v it m++if Cf2 v it m=true/\Cw v.zones v.known m∉Ah2 v it m then [Cw v.zones v.known m] else []
def Cg9 (v:Cr) (it:List Ao) (r:List Ab) (o:Nat):Bool:=Cf2 v it o&&decide (Cw v.zones v.known o=r)
def D39 (v:Cr) (it:List Ao):List Bc:=Cd8 v v.known (Ch8 v it) :: (Ah2 v it 256).map fun r=>Cd8 v r (Cg9 v it r)
def E48 (v:Cr) (it:List Ao):List Bc×Int:=if Am v=true then (D39 v it,0) else ([],1)
structure E14 (v:Cr) (r:List Ab) (f:Nat->Bool):Prop where
 formed:Ak r=true
 below:Aw v.known r=true
 told:∀ o:Nat,o < 256->f o=true->Cw v.zones v.known o=r
def Bu8:Cr->List Bc->Cr×Bool
 | v,[]=>(v,true)
 | v,n :: l=>if (Et v n).2=0 then Bu8 (Et v n).1 l else (v,false)
def Dj5 (x v:Cr) (it:List Ao):Cr×Bool:=if Am v=true then Bu8 x (D39 v it) else (x,false)
structure E45 (v x:Cr) (T:Nat->Bool):Prop where
 vf:VF x
 known:x.known=v.known
 reach:∀ o:Nat,o < 256->Cw x.zones x.known o=if T o=true then Cw v.zones v.known o else []
 held:∀ o:Nat,o < 256->Jr x.held o=if T o=true then Jr v.held o else none
 bodies:x.bodies=[]
def Dy7:Cr:=⟨[],[],[],[],0⟩
attribute [local irreducible] Gx Mx Qe
structure Yu where
 me:Int
 object:Int
 skip:Int
 value:List Nat
 gone:Bool
structure Act where
 kind:Int
 note:Bc
 deed:Yu
 body:C1
structure C60 where
 view:Cr
 all:List Ap
 bodies:List C1
def Cg8 (v:Cr) (l:List Ap):List Ap:=l.filter fun w=>Dx v.zones v.known w
def Dw (v:Cr) (d:Yu):C57:=Jn v d.me d.object d.skip d.value d.gone
def Ac7 (v:Cr) (d:Yu):Ab:=(Fu (Ek v.known) d.me d.skip).1
def Y5 (v:Cr) (d:Yu):Ap:=⟨Ac7 v d,d.object,d.gone⟩
def C11 (k:Int):Int:=k % 18446744073709551616 % 3
def E54 (s:C60) (a:Act):C60 :=
 if C11 a.kind=0 then
  (if (Et s.view a.note).2=0 then ⟨(Et s.view a.note).1,s.all++Cg8 (Et s.view a.note).1 a.note.writes,s.bodies⟩ else s)
 else if C11 a.kind=1 then
  (if (Dw s.view a.deed).err=0 then ⟨(Dw s.view a.deed).view,s.all++(if Dx (Dw s.view a.deed).view.zones (Dw s.view a.deed).view.known (Y5 s.view a.deed)=true then [Y5 s.view a.deed] else []),s.bodies++[⟨a.deed.object,Ac7 s.view a.deed,a.deed.value⟩]⟩ else s)
 else
  (if (Hw s.view a.body).2=0 then ⟨(Hw s.view a.body).1,s.all,s.bodies++[a.body]⟩ else s)
structure E18 (s:C60):Prop where
 vf:VF s.view
 told:∀ w∈s.all,∃ u∈s.view.held,u.object=w.object/\Ak2 u w=false
 from_:∀ u∈s.view.held,u∈s.all
 bodies:∀ x∈s.view.bodies,x∈s.bodies
theorem C47 {v:Cr} {x:C1} (h:(Hw v x).2=0):(Hw v x).1=⟨v.known,v.zones,v.held,Nj v.room (Fk v.bodies x.object++[x]),v.room⟩:=by
 unfold Hw at h ⊢
 split at h
 ·rename_i hc
  rw [if_pos hc]
  split at h
  ·rename_i hw
   rw [if_pos hw]
  ·simp at h
 ·simp at h
theorem Bt5 {v:Cr} {d:Yu} (h:(Dw v d).err=0):∃ n:Bc,n.writes=[Y5 v d]/\(Dw v d).note=n/\(Et v n).2=0/\((Dw v d).view=(Et v n).1\/(Hw (Et v n).1 ⟨d.object,Ac7 v d,d.value⟩).2=0/\(Dw v d).view=(Hw (Et v n).1 ⟨d.object,Ac7 v d,d.value⟩).1):=by
 unfold Dw Jn at h ⊢
 split at h
 rotate_left
 ·simp [R5] at h
 rename_i hc
 rw [if_pos hc]
 split at h
 rotate_left
 ·rename_i hs
  exact absurd h hs
 rename_i hs
 rw [if_pos hs]
 split at h
 rotate_left
 ·rename_i hn
  exact absurd h hn
 rename_i hn
 rw [if_pos hn]
 split at h
 rotate_left
 ·rename_i ht
  exact absurd h ht
 rename_i ht
 rw [if_pos ht]
 have hw:(ofN v.known ⟨(Fu (Ek v.known) d.me d.skip).1,d.object,d.gone⟩).1.writes=[Y5 v d]:=by
  unfold ofN at hn ⊢
  split at hn
  ·rename_i hh
   rw [if_pos hh]
   rfl
  ·simp at hn
 split at h
 ·rename_i hg
  rw [if_pos hg]
  exact ⟨_,hw,rfl,ht,.inl rfl⟩
 ·rename_i hg
  rw [if_neg hg]
  split at h
  ·rename_i hb
   rw [if_pos hb]
   exact ⟨_,hw,rfl,ht,.inr ⟨hb,rfl⟩⟩
  ·rename_i hb
   exact absurd h hb
end Go.Proofs.YtblfjaedaijfoaaGreatDoor
namespace Go.Proofs.YtblfjaedaijfoaaGreatDoor
open Go.ChangeShapes Go.WideShapes Go.ChangeAt Go.RowKit
attribute [local irreducible] Gx Mx Qe
theorem B11 {v:Cr} {x:C1} (h:(Hw v x).2=0):Cc x=true:=by
 unfold Hw at h
 split at h
 ·exact (‹_/\_›).2
 ·simp at h
theorem B25 {v:Cr} {d:Yu} (h:(Dw v d).err=0) (hg:d.gone=false):Cc ⟨d.object,Ac7 v d,d.value⟩=true:=by
 unfold Dw Jn at h
 split at h
 rotate_left
 ·simp [R5] at h
 split at h
 rotate_left
 ·rename_i hs
  exact absurd h hs
 split at h
 rotate_left
 ·rename_i hs
  exact absurd h hs
 split at h
 rotate_left
 ·rename_i hs
  exact absurd h hs
 rw [if_neg (by simp [hg])] at h
 split at h
 ·exact B11 ‹_›
 ·rename_i hs
  exact absurd h hs
structure C56 (v:Cr) (d:Yu) (n:Bc):Prop where
 note:(Dw v d).note=n
 writes:n.writes=[Y5 v d]
 formed:Ax n=true
 start:Aw v.known n.start=true
 view:Am (Dw v d).view=true
 known:(Dw v d).view.known=Ct v.known n
 body:d.gone=false->Cc ⟨d.object,Ac7 v d,d.value⟩=true
theorem Bj8 {v:Cr} {d:Yu} (h:(Dw v d).err=0):∃ n,C56 v d n:=by
 obtain ⟨n,h1,h2,h3,h4⟩:=Bt5 h
 obtain ⟨t1,t2,t3,t4⟩:=Aq0 h3
 refine ⟨n,h2,h1,t2,t3,?_,?_,B25 h⟩
 ·rcases h4 with e | ⟨e1,e2⟩
  ·rw [e];exact Ah1 h3
  ·rw [e2];exact An1 e1
 ·rcases h4 with e | ⟨e1,e2⟩
  ·rw [e,t4]
  ·rw [e2,C47 e1,t4]
def Dl3:Ll:=⟨0,R6,U0,0,[],Ln,[]⟩
def Kv (m:Bc) (o:Int) (l:List Nat) (gone:Bool):Ll:=⟨3,m,if gone=true then U0 else ⟨o,(m.writes.headD noW).stamp,l⟩,0,[],Ln,[]⟩
def Ba0 (n:Eo) (v:Cr) (m:Bc) (d:Gw):Eo:=⟨n.me,v,(Sh n.log m).1,n.outs,n.subs,n.tries,n.queue,d,false⟩
def Pj (n:Eo) (d:Yu):Eo×Ab×Int :=
 if upE n=0 then
  (if (Dw n.view d).err=0 then
   (if (Bx9 n.disk (Kv (Dw n.view d).note d.object d.value d.gone)).2=0 then
    (Ba0 n (Dw n.view d).view (Dw n.view d).note (Bx9 n.disk (Kv (Dw n.view d).note d.object d.value d.gone)).1,((Dw n.view d).note.writes.headD noW).stamp,0)
   else (Wz,⟨0,0⟩,(Bx9 n.disk (Kv (Dw n.view d).note d.object d.value d.gone)).2))
  else (Wz,⟨0,0⟩,(Dw n.view d).err))
 else (Wz,⟨0,0⟩,upE n)
theorem Bd6 (x:C1):Ca x=Cc x:=by
 unfold Ca Cc Dm
 rw [Bool.decide_and]
theorem A67 {v:Cr} {d:Yu} {n:Bc} (h:C56 v d n):D1 (Kv n d.object d.value d.gone)=true:=by
 have hw:=h.writes
 have hf:=h.formed
 have hb:=h.body
 unfold D1 Kv
 simp only [hw,hf,List.headD_cons]
 cases hg:d.gone with
 | true=>simp [Y5,hg,Pd,U0,Ua,Ln]
 | false =>
  have:=hb hg
  simp [Y5,hg,Bd6,this,Ua,Ln]
theorem C67 {n:Eo} (h:upE n=0):Dc n=true/\n.down=false:=by
 unfold upE at h
 split at h
 ·rename_i hf
  split at h
  ·simp at h
  ·rename_i hd
   exact ⟨hf,by simpa using hd⟩
 ·simp at h
end Go.Proofs.YtblfjaedaijfoaaGreatDoor
namespace Go.Proofs.YtblfjaedaijfoaaGreatDoor
open Go.ChangeShapes Go.WideShapes Go.ChangeAt Go.RowKit
theorem Cg.sub {P:Program} {G:World->Prop} {f:FuncId} {args args':List AV} {r:AV} {B nb:List BA} {bx:List (Nat×List AV)} {kr:List BA} (h:Cg P G f args r B nb bx kr) (hs:Sbs args' args):Cg P G f args' r B nb bx kr:=⟨h.1,fun V w0 w E vs F a b c=>h.2 V w0 w E vs F a b (hs _ _ _ c)⟩
theorem C83 {d:Gw} {x:Ll} (hx:D1 x=true):Bx9 d x=(if (Ks d (Gv x)).2=0 then (Ks d (Gv x)).1 else d,(Ks d (Gv x)).2):=by
 unfold Bx9
 rw [if_pos hx]
 obtain ⟨q,e⟩ : ∃ q,Ks d (Gv x)=q:=⟨_,rfl⟩
 rw [e]
 obtain ⟨d',c⟩:=q
 by_cases hc:c=0
 ·subst hc;rfl
 ·simp only [if_neg hc]
theorem Cb0 (m:Bc) (o:Int) (l:List Nat):Bz (.agg [.val (.int .i64 3),.iv (stI m.start),.iv (stI m.end_),.iv (spI m.blur),.iv (wrI m.writes),.val (.int .i64 0),.val (.int .i64 0),.val (.int .i64 0),.val (.slice none 0 0),.val (.int .i64 0),.val (.slice none 0 0),.val (.slice none 0 0),.val (.slice none 0 0),.val (.slice none 0 0),.val (.slice none 0 0),.val (.int .i64 0),.val (.slice none 0 0)]) (enA (Kv m o l true)):=by
 rw [U6]
 refine Es rfl fun p hp=>?_
 simp only [Kv,if_true,List.zip_cons_cons,List.zip_nil_right,List.mem_cons,List.not_mem_nil,or_false] at hp
 rcases hp with rfl | rfl | rfl | rfl | rfl | rfl | rfl | rfl | rfl | rfl | rfl | rfl | rfl | rfl | rfl | rfl | rfl
 all_goals first
  | exact Bz.rfl_ _
  | exact Bg _
theorem Cb1 (m:Bc) (o:Int) (l:List Nat):Bz (.agg [.val (.int .i64 3),.iv (stI m.start),.iv (stI m.end_),.iv (spI m.blur),.iv (wrI m.writes),.val (.int .i64 o),.val (.int .i64 (m.writes.headD noW).stamp.count),.val (.int .i64 (m.writes.headD noW).stamp.node),.iv (byI l),.val (.int .i64 0),.val (.slice none 0 0),.val (.slice none 0 0),.val (.slice none 0 0),.val (.slice none 0 0),.val (.slice none 0 0),.val (.int .i64 0),.val (.slice none 0 0)]) (enA (Kv m o l false)):=by
 rw [U6]
 refine Es rfl fun p hp=>?_
 simp only [Kv,Bool.false_eq_true,if_false,List.zip_cons_cons,List.zip_nil_right,List.mem_cons,List.not_mem_nil,or_false] at hp
 rcases hp with rfl | rfl | rfl | rfl | rfl | rfl | rfl | rfl | rfl | rfl | rfl | rfl | rfl | rfl | rfl | rfl | rfl
 all_goals first
  | exact Bz.rfl_ _
  | exact Bg _
attribute [local irreducible] AW AWY Bo B4 vop Bj B7 Bf qop Bu C4 Aq Aj Bh A7 Cg B9
attribute [local go_sem] Sw Cv Hu Fs F6 G3 Gu L2 L1 Fx G2 C9 Ef Dk Db Dq Cm Eb My U6 Ae Af
theorem Bg4 {R:Eo×Ab×Int} {e:Int} (h:R=(Wz,⟨0,0⟩,e)):Bz (.tup [.agg [.val (.int .i64 0),.val (.slice none 0 0),.val (.slice none 0 0),.val (.slice none 0 0),.val (.slice none 0 0),.val (.int .i64 0),.val (.slice none 0 0),.val (.slice none 0 0),.val (.int .i64 0),.val (.slice none 0 0),.val (.slice none 0 0),.val (.int .i64 0),.val (.slice none 0 0),.val (.int .i64 0),.val (.slice none 0 0),.val (.bool false)],.agg [.val (.int .i64 0),.val (.int .i64 0)],.val (.int .i64 e)]) (.tup [ndA R.1,.agg [.val (.int .i64 R.2.1.count),.val (.int .i64 R.2.1.node)],.val (.int .i64 R.2.2)]):=by
 subst h
 refine Ep rfl fun p hp=>?_
 simp only [List.zip_cons_cons,List.zip_nil_right,List.mem_cons,List.not_mem_nil,or_false] at hp
 rcases hp with rfl | rfl | rfl
 ·rw [Gu,G3]
  refine Es rfl fun p hp=>?_
  simp only [List.zip_cons_cons,List.zip_nil_right,List.mem_cons,List.not_mem_nil,or_false] at hp
  rcases hp with rfl | rfl | rfl | rfl | rfl | rfl | rfl | rfl | rfl | rfl | rfl | rfl | rfl | rfl | rfl | rfl
  all_goals first
   | exact Bz.rfl_ _
   | exact Bg _
 ·exact Bz.rfl_ _
 ·exact Bz.rfl_ _
-- theorem diskN_if (n : Node) (d d' : Disk) (c : Prop) [Decidable c] : ndC (diskN n (if c then d else d')) = ndC (diskN n (if c then d else d')) := rfl
set_option maxRecDepth 100000 in
set_option maxHeartbeats 6400000 in
theorem Bo2 (n:Eo) (o skip:Int) (l:List Nat) (gone:Bool) (hI:Lu n) (iO:I64 o) (iS:I64 skip) (hln:n.log.notes.length < 1073741824)
  (hvw:A7 Tryz.prog A8 64 [vwA n.view,.val (.int .i64 n.me),.val (.int .i64 o),.val (.int .i64 skip),.iv (byI l),.val (.bool gone)] (.tup [vwA (Jn n.view n.me o skip l gone).view,Ft (Jn n.view n.me o skip l gone).note,.val (.int .i64 (Jn n.view n.me o skip l gone).err)]) [])
  (htw:Am n.view=true->Cf n.log=true->n.down=false->A7 Tryz.prog A8 65 [ndA n] (ndA n) [])
  (hja:∀ X,Kv (Dw n.view ⟨n.me,o,skip,l,gone⟩).note o l gone=X->D1 X=true->A7 Tryz.prog H7 67 [dkA n.disk,.iv (byI (Gv X))] (.tup [dkA (Ks n.disk (Gv X)).1,.val (.int .i64 (Ks n.disk (Gv X)).2)]) []) :
  A7 Tryz.prog H7 14 [ndA n,.val (.int .i64 o),.val (.int .i64 skip),.iv (byI l),.val (.bool gone)] (.tup [ndA (Pj n ⟨n.me,o,skip,l,gone⟩).1,.agg [.val (.int .i64 (Pj n ⟨n.me,o,skip,l,gone⟩).2.1.count),.val (.int .i64 (Pj n ⟨n.me,o,skip,l,gone⟩).2.1.node)],.val (.int .i64 (Pj n ⟨n.me,o,skip,l,gone⟩).2.2)]) []:=by
 refine A7.ofS (n:=74) (rs:=[.cell 10 38,.cell 11 53,.tmp 12]) Tryz.func14 rfl (by kernel_rfl) Tryz.ntmps14 (by kernel_rfl) (by simp) (fun _ _=>H7.later) ?_
 intro hok V w0
 obtain ⟨D,hD⟩ : ∃ D:Yu,⟨n.me,o,skip,l,gone⟩=D:=⟨_,rfl⟩
 obtain ⟨R,hR⟩ : ∃ R,Pj n D=R:=⟨_,rfl⟩
 rw [hD,hR]
 unfold Pj at hR
 have hu:=(Au9 n hI).nd
 replace hvw:=hvw.nd
 rw [show Jn n.view n.me o skip l gone=Dw n.view D by subst hD;rfl] at hvw
 obtain ⟨iM,iR,iS',iT,iD⟩:=hI
 refine g ?_
 refine AW.seq ?_
 refine AW.reg rfl fun KK hKK=>?_
 refine g ?_
 repeat' (refine hKK _ (g ?_);clear hKK KK)
 refine AW.freeze 600 _ rfl ⟨iM,trivial,trivial,trivial,trivial,iR,trivial,trivial,iS',trivial,trivial,iT,trivial,iD,trivial,trivial,trivial⟩ ?_
 simp only [go_sem,reduceIte,Nat.reduceEqDiff]
 by_cases hup:upE n=0
 rotate_left
 ·rw [if_neg hup] at hR
  refine g ?_
  repeat' (first | refine st_ rfl (g ?_) | refine Al (fun h=>g ?_) (fun h=>g ?_) | refine A9 (hu) rfl (g ?_))
  ·exact Bg4 hR.symm
  ·exact absurd (by simpa using h) hup
 rw [if_pos hup] at hR
 obtain ⟨hF,hdn⟩:=C67 hup
 have hF':=hF
 unfold Dc at hF'
 rw [hdn] at hF'
 simp only [Bool.and_eq_true,Bool.false_eq_true,if_false,B35,Bk6,decide_eq_true_eq] at hF'
 replace htw:=(htw hF'.2.1.1.1.1.1.1.1 hF'.2.1.1.1.1.1.1.2 hdn).nd
 by_cases hw:(Dw n.view D).err=0
 rotate_left
 ·rw [if_neg hw] at hR
  refine g ?_
  repeat' (first | refine st_ rfl (g ?_) | refine Al (fun h=>g ?_) (fun h=>g ?_) | refine A9 (hu) rfl (g ?_) | refine A9 (hvw) rfl (g ?_))
  ·exact absurd hup h
  ·exact Bg4 hR.symm
  ·exact absurd (by simpa using h) hw
 rw [if_pos hw] at hR
 obtain ⟨m,hm⟩:=Bj8 hw
 have hxf:=A67 hm
 rw [hm.note] at hR hvw
 obtain ⟨v',hv'⟩ : ∃ v',(Dw n.view D).view=v':=⟨_,rfl⟩
 rw [hv'] at hR hvw
 have hwr:=hm.writes
 obtain ⟨w,hww⟩ : ∃ w,Y5 n.view D=w:=⟨_,rfl⟩
 rw [hww] at hwr
 obtain ⟨st,en,bl,ws⟩:=m
 simp only at hwr
 subst hwr
 obtain ⟨X,hX⟩ : ∃ X,Kv ⟨st,en,bl,[w]⟩ o l gone=X:=⟨_,rfl⟩
 have hXD:Kv ⟨st,en,bl,[w]⟩ D.object D.value D.gone=X:=by rw [<-hX,<-hD]
 rw [hXD] at hR hxf
 have hXk:X.kind=3:=by rw [<-hX];rfl
 replace hja:=hja X (by rw [hD,hm.note];exact hX) hxf
 rw [C83 hxf] at hR
 obtain ⟨J,hJ⟩ : ∃ J,Ks n.disk (Gv X)=J:=⟨_,rfl⟩
 rw [hJ] at hR hja
 have hG:I64 (Ek n.view.known):=Ae2 _ fun k=>Lk (fun s hs=>by
  obtain ⟨-,h2,-⟩:=Do (by simpa [stI] using hok.1.2.1.2) (Rj s) (List.mem_map_of_mem hs)
  exact h2) k
 obtain ⟨x1,x2⟩:=Av4 (s:=skip) (I64.hi hG) iM
 have hws:w.stamp=(Fu (Ek n.view.known) n.me skip).1:=by rw [<-hww,<-hD];rfl
 rw [<-hws] at x1 x2
 have hXi:Ao0 X:=by
  rw [<-hX]
  cases gone
  ·exact ⟨rfl,iO,x1,x2,rfl,rfl⟩
  ·exact ⟨rfl,rfl,rfl,rfl,rfl,rfl⟩
 have iR':I64 v'.room:=by
  have hv1:=hm.view
  rw [hv'] at hv1
  unfold Am Fq Bw Ke at hv1
  simp only [Bool.and_eq_true,decide_eq_true_eq] at hv1
  exact I64.of (by omega) (by omega)
 cases hg:gone
 ·rw [hg] at hX hvw
  refine g ?_
  repeat' (first | refine st_ rfl (g ?_) | refine Al (fun h=>g ?_) (fun h=>g ?_) | refine A9 (hu) rfl (g ?_) | refine A9 (hvw) rfl (g ?_) | (refine A9 htw rfl (g ?_))<;>refine g ?_)
  ·exact absurd hup h
  ·exact absurd hw h
  refine Kq [] _ (fun _=>2000) (Cg.sub (A16 n X hXi (by rw [hXk];decide) hxf 67 J hja) (Sbs.cons_ (Sbs.of_ (by rw [<-hX];exact Cb1 ⟨st,en,bl,[w]⟩ o l) (Sbs.rfl_ _)))) rfl rfl rfl (g ?_)
  refine g ?_
  repeat' (first | refine st_ rfl (g ?_) | refine Al (fun h=>g ?_) (fun h=>g ?_) | (refine Kq [] _ (fun _=>2000) (Cg.nd (A29 (Az1 n (if J.2=0 then J.1 else n.disk)) v' ⟨st,en,bl,[w]⟩ iR' iS' hln)) rfl rfl rfl (g ?_))<;>refine g ?_)
  ·rw [if_neg h] at hR
   exact Bg4 hR.symm
  ·have h0:J.2=0:=Classical.byContradiction h
   rw [if_pos h0,if_pos h0] at hR
   subst hR
   refine AW.drawn (ds:=[72,73,12]) (fin:=[0,1,2,3,4,7,8]) (bs:=[7,7,7,8,9]) [⟨[],[],[0,1,2,3,4,5,6],[],0⟩,⟨[],[],[0,1,2,3,4,5],[],0⟩,⟨[(72,0)],[],[],[6],1⟩,⟨[(73,1)],[],[],[5],1⟩,⟨[],[],[],[],0⟩] (by kernel_rfl) rfl (by kernel_rfl) rfl rfl rfl fun KD hKD=>?_
   refine g ?_
   repeat' (first | refine st_ rfl (g ?_) | (refine hKD _ _ ⟨rfl,g ?_⟩;clear hKD KD))
   simp only [if_pos h0,Ba0,Az1,B99,hdn,List.headD_cons]
   exact Bz.rfl_ _
 ·rw [hg] at hX hvw
  refine g ?_
  repeat' (first | refine st_ rfl (g ?_) | refine Al (fun h=>g ?_) (fun h=>g ?_) | refine A9 (hu) rfl (g ?_) | refine A9 (hvw) rfl (g ?_) | (refine A9 htw rfl (g ?_))<;>refine g ?_)
  ·exact absurd hup h
  ·exact absurd hw h
  refine Kq [] _ (fun _=>2000) (Cg.sub (A16 n X hXi (by rw [hXk];decide) hxf 67 J hja) (Sbs.cons_ (Sbs.of_ (by rw [<-hX];exact Cb0 ⟨st,en,bl,[w]⟩ o l) (Sbs.rfl_ _)))) rfl rfl rfl (g ?_)
  refine g ?_
  repeat' (first | refine st_ rfl (g ?_) | refine Al (fun h=>g ?_) (fun h=>g ?_) | (refine Kq [] _ (fun _=>2000) (Cg.nd (A29 (Az1 n (if J.2=0 then J.1 else n.disk)) v' ⟨st,en,bl,[w]⟩ iR' iS' hln)) rfl rfl rfl (g ?_))<;>refine g ?_)
  ·rw [if_neg h] at hR
   exact Bg4 hR.symm
  ·have h0:J.2=0:=Classical.byContradiction h
   rw [if_pos h0,if_pos h0] at hR
   subst hR
   refine AW.drawn (ds:=[72,73,12]) (fin:=[0,1,2,3,4,7,8]) (bs:=[7,7,7,8,9]) [⟨[],[],[0,1,2,3,4,5,6],[],0⟩,⟨[],[],[0,1,2,3,4,5],[],0⟩,⟨[(72,0)],[],[],[6],1⟩,⟨[(73,1)],[],[],[5],1⟩,⟨[],[],[],[],0⟩] (by kernel_rfl) rfl (by kernel_rfl) rfl rfl rfl fun KD hKD=>?_
   refine g ?_
   repeat' (first | refine st_ rfl (g ?_) | (refine hKD _ _ ⟨rfl,g ?_⟩;clear hKD KD))
   simp only [if_pos h0,Ba0,Az1,B99,hdn,List.headD_cons]
   exact Bz.rfl_ _
end Go.Proofs.YtblfjaedaijfoaaGreatDoor
namespace Go.Proofs.YtblfjaedaijfoaaGreatDoor
open Go.ChangeShapes Go.WideShapes Go.ChangeAt Go.RowKit
attribute [local irreducible] AW AWY Bo B4 vop Bj B7 Bf qop Bu C4 Aq Aj Bh A7 Cg B9
attribute [local go_sem] Sw Cv Hu Fs F6 G3 Gu L2 L1 Fx G2 C9 Ef Dk Db Dq Cm Eb Jc My Ae Af
structure Got where
 err:Int
 value:List Nat
 gone:Bool
 stamp:Ab
def Cj5 (q:Got):AV:=.agg [.val (.int .i64 q.err),.iv (byI q.value),.val (.bool q.gone),.val (.int .i64 q.stamp.count),.val (.int .i64 q.stamp.node)]
theorem Bh3 (q:Got):Cj5 q=.agg [.val (.int .i64 q.err),.iv (byI q.value),.val (.bool q.gone),.val (.int .i64 q.stamp.count),.val (.int .i64 q.stamp.node)]:=rfl
attribute [local go_sem] Bh3
def Bg0 (n:Eo) (o:Int):Got:=if upE n=0 then ⟨(V5 n.view o).2.2,(V5 n.view o).1,(V5 n.view o).2.1.gone,(V5 n.view o).2.1.stamp⟩ else ⟨upE n,[],false,⟨0,0⟩⟩
theorem Cj4 {q:Got} {e:Int} (h:q=⟨e,[],false,⟨0,0⟩⟩):Bz (.agg [.val (.int .i64 e),.val (.slice none 0 0),.val (.bool false),.val (.int .i64 0),.val (.int .i64 0)]) (Cj5 q):=by
 subst h
 refine Es rfl fun p hp=>?_
 simp only [List.zip_cons_cons,List.zip_nil_right,List.mem_cons,List.not_mem_nil,or_false] at hp
 rcases hp with rfl | rfl | rfl | rfl | rfl
 all_goals first
  | exact Bz.rfl_ _
  | exact Bg _
set_option maxRecDepth 100000 in
set_option maxHeartbeats 1600000 in
theorem B90 (n:Eo) (o:Int) (hI:Lu n) (iO:I64 o):A7 Tryz.prog A8 17 [ndA n,.val (.int .i64 o)] (Cj5 (Bg0 n o)) []:=by
 refine A7.ofS (n:=30) (rs:=[.cell 4 58]) Tryz.func17 rfl (by kernel_rfl) Tryz.ntmps17 (by kernel_rfl) (by simp) (fun _ _=>A8.later) ?_
 intro hok V w0
 obtain ⟨R,hR⟩ : ∃ R,Bg0 n o=R:=⟨_,rfl⟩
 rw [hR]
 unfold Bg0 at hR
 have hu:=Au9 n hI
 have hv:=B28 n.view o hI.room iO
 obtain ⟨iM,iR,iS',iT,iD⟩:=hI
 refine g ?_
 refine AW.seq ?_
 refine AW.reg rfl fun KK hKK=>?_
 refine g ?_
 repeat' (refine hKK _ (g ?_);clear hKK KK)
 refine AW.freeze 300 _ rfl ⟨iM,trivial,trivial,trivial,trivial,iR,trivial,trivial,iS',trivial,trivial,iT,trivial,iD,trivial,trivial,trivial⟩ ?_
 simp only [go_sem,reduceIte,Nat.reduceEqDiff]
 refine g ?_
 repeat' (first | refine st_ rfl (g ?_) | refine Al (fun h=>g ?_) (fun h=>g ?_) | refine A9 (hu) rfl (g ?_) | refine A9 (hv) rfl (g ?_))
 ·rw [if_neg h] at hR
  exact Cj4 hR.symm
 ·rw [if_pos (Classical.byContradiction h)] at hR
  subst hR
  exact Bz.rfl_ _
end Go.Proofs.YtblfjaedaijfoaaGreatDoor
namespace Go.Proofs.YtblfjaedaijfoaaGreatDoor
open Go.ChangeShapes Go.WideShapes Go.ChangeAt Go.RowKit
section
variable {P : Program} {G : World -> Prop} {σ : Ag} {V w0 : World} {n : Nd} {ro : Option Nat} {K : Exit -> Ag -> Prop} {c : Code}
def AWr (P:Program) (G:World->Prop) (ro:Option Nat) (V w0:World) (n:Nd) (c:Code) (K:Exit->Ag->Prop):Nat->Ag->Prop
 | 0,_=>False
 | m+1,σ=>AW P G ro V w0 n c σ fun e σ'=>match e with
  | .normal=>AWr P G ro V w0 n c K m σ'
  | e=>K e σ'
theorem AWr.in (hG:∀ w',Below w0.heap.size w0 w'->G w') {m0:Fm} : ∀ (m:Nat) (σ:Ag),AWr P G ro V w0 n c K m σ->∀ m1 E a w,m1.nd=n->Fm.le m0 m1->St V w0 m1 E σ a w->Code.roundsIn (FW ro) 0 P c (Arr V w0 m0 K) m a w
 | m+1,σ,h,m1,E,a,w,hn,hle,hs=>wpIn_mono (h hG m1 E a w hn hs) fun e a' w' h'=>by
  obtain ⟨m',E',σ',h1,h2,h3⟩:=h'
  cases e with
  | normal=>exact AWr.in hG m σ' h2 m' E' a' w' (h1.nd.trans hn) (hle.trans h1) h3
  | _=>exact ⟨m',E',σ',hle.trans h1,h2,h3⟩
theorem AW.once (h:AW P G ro V w0 n c σ fun e σ'=>match e with
  | .normal=>False
  | e=>K e σ'):AW P G ro V w0 n (.loop c) σ K:=fun hG m0 E a w hn hs=>wpIn_loop_rounds 1 (AWr.in hG 1 σ h m0 E a w hn (Fm.le.refl m0) hs)
theorem AW.twice (h:AW P G ro V w0 n c σ fun e σ'=>match e with
  | .normal=>AW P G ro V w0 n c σ' fun e σ'=>match e with
   | .normal=>False
   | e=>K e σ'
  | e=>K e σ'):AW P G ro V w0 n (.loop c) σ K:=fun hG m0 E a w hn hs=>wpIn_loop_rounds 2 (AWr.in hG 2 σ h m0 E a w hn (Fm.le.refl m0) hs)
end
attribute [local irreducible] AW AWY Bo B4 vop Bj B7 Bf qop Bu C4 Aq Aj Bh A7 Cg B9
attribute [local go_sem] Hr Db Hv Dq G6 Cv Eb Cm Jc Dk C9 Ae Af
set_option maxRecDepth 100000 in
theorem Ba5 (y:List IV) (hy:y.length=4):Cg Tryz.prog A8 283 [.own 1,.val (.int .i64 0),.iv (.sl 4 [y])] (.own 0) [.row 1 102 4 []] [.row 0 102 4 [y]] [] []:=by
 refine Cg.of [] (n:=95) (rs:=[.tmp 6]) Tryz.func283 rfl (by kernel_rfl) Tryz.ntmps283 (by kernel_rfl) (by simp) trivial rfl rfl fun hok V w0 F=>?_
 refine g ?_
 repeat' refine st_ rfl (g ?_)
 refine ⟨0,rfl,Nat.zero_le _,Bi (g ?_)⟩
 refine g ?_
 repeat' refine st_ rfl (g ?_)
 refine Co rfl (by kernel_rfl) (by omega) (by kernel_rfl) rfl (by simp) ?_
 refine g ?_
 repeat' refine st_ rfl (g ?_)
 exact ⟨fun b=>if b=0 then 2600 else b,fun _ _ _ h=>h,trivial,⟨rfl,rfl⟩,by simp⟩
set_option maxRecDepth 100000 in
theorem B50:A7 Tryz.prog A8 217 [.iv (wrI []),.iv (wrI [])] (.tup [.iv (wrI []),.val (.int .i64 0)]) []:=by
 refine A7.of (n:=57) (rs:=[.tmp 4,.tmp 5]) Tryz.func217 rfl (by kernel_rfl) Tryz.ntmps217 (by kernel_rfl) (by simp) (fun _ _=>A8.later) ?_
 intro hok V w0
 have h1:=Gs []
 rw [show C6 []=true from rfl] at h1
 refine g ?_
 repeat' (first | refine st_ rfl (g ?_) | refine A9 (h1) rfl (g ?_) | refine A9 (N9 []) rfl (g ?_))
 refine AW.once ?_
 repeat (refine AW.seq ?_)
 refine AW.reg rfl fun KK hKK=>?_
 refine g ?_
 repeat' (refine hKK _ (g ?_);clear hKK KK)
 repeat (refine AW.seq ?_)
 refine st_ rfl ?_
 refine g ?_
 refine AW.exit ?_
 simp only [reduceIte]
 refine g ?_
 refine AW.freeze 1600 _ rfl trivial ?_
 simp only [go_sem,reduceIte,Nat.reduceEqDiff]
 refine g ?_
 repeat' (first | refine st_ rfl (g ?_) | exact trivial | refine A9 (C42 []) rfl (g ?_))
set_option maxRecDepth 100000 in
theorem B49 (w:Ap) (hw:Fp w=true) (o1:I64 w.stamp.count) (o2:I64 w.stamp.node) (o3:I64 w.object):A7 Tryz.prog A8 217 [.iv (wrI []),.iv (wrI [w])] (.tup [.iv (wrI [w]),.val (.int .i64 0)]) []:=by
 refine A7.of (n:=57) (rs:=[.tmp 4,.tmp 5]) Tryz.func217 rfl (by kernel_rfl) Tryz.ntmps217 (by kernel_rfl) (by simp) (fun _ _=>A8.later) ?_
 intro hok V w0
 have h1:=Gs []
 rw [show C6 []=true from rfl] at h1
 have h2:=Xl w
 rw [hw] at h2
 have h3:=Pt [] w.object (fun i j x y _ h=>by simp at h)
 refine g ?_
 repeat' (first | refine st_ rfl (g ?_) | refine A9 (h1) rfl (g ?_) | refine A9 (N9 []) rfl (g ?_))
 refine AW.twice ?_
 refine g ?_
 repeat' (first | refine st_ rfl (g ?_) | refine A9 (h2) rfl (g ?_))
 refine Np h3 (by simp [Wy,J2,okA,okV];exact ⟨o1,o2,o3⟩) rfl (fun _ h=>by cases h) (Sbs.rfl_ _) rfl (g ?_)
 refine g ?_
 repeat' refine st_ rfl (g ?_)
 refine bd1 (by omega) rfl rfl rfl ⟨o1,o2,o3,trivial,trivial⟩ ?_
 refine g ?_
 refine Kq [.box 900 [.val (.int .i64 w.stamp.count),.val (.int .i64 w.stamp.node),.val (.int .i64 w.object),.val (.bool w.gone)]] [] (fun _=>1600) (Ba5 (enW w) rfl) rfl rfl rfl (g ?_)
 refine g ?_
 iterate 3 (refine st_ rfl (g ?_))
 refine AW.exit ?_
 simp only [reduceIte]
 refine g ?_
 refine AW.freeze 4000 _ rfl trivial ?_
 simp only [go_sem,reduceIte,Nat.reduceEqDiff]
 refine g ?_
 repeat' (first | refine st_ rfl (g ?_) | exact trivial | refine A9 (C42 [w]) rfl (g ?_))
section
variable (f : FuncId) (C D : List IV) (p : Ap -> Bool) (hp : ∀ x, A7 Tryz.prog A8 f [wA x, .ip C, .ip D] (.val (.bool (p x))) [])
include hp
theorem Bd0 (l:List Ap) (ha:l.any p=false):Cg Tryz.prog A8 214 [.own 1,.fn f [.ip C,.ip D]] (.own 0) [.row 1 102 4 (l.map enW)] [.row 0 102 4 (l.map enW)] [] []:=by
 refine Cg.of [] (n:=42) (rs:=[.tmp 4]) Tryz.func214 rfl (by kernel_rfl) Tryz.ntmps214 (by kernel_rfl) (by simp) trivial rfl rfl fun hok V w0 F=>?_
 have hidx:=Bq5 f C D p hp l
 rw [ha,if_neg (by decide)] at hidx
 refine g ?_
 repeat' refine st_ rfl (g ?_)
 refine Np hidx (by simp [Wy]) rfl (fun _ h=>by cases h) (Sbs.rfl_ _) rfl (g ?_)
 refine g ?_
 repeat' refine st_ rfl (g ?_)
 exact ⟨fun b=>if b=0 then 1 else b,fun _ _ _ h=>h,trivial,⟨rfl,rfl⟩,by simp⟩
end
set_option maxRecDepth 100000 in
set_option maxHeartbeats 3200000 in
theorem Xn (room:Int) (n:Bc) (N:List Ab) (iR:I64 room) (hv:Am ⟨[],[],[],[],room⟩=true) (hz:Jv [] [] n=([],N,0)) (hr:∀ w∈n.writes,Dx [] N w=true)
  (hput:A7 Tryz.prog A8 217 [.iv (wrI []),.iv (wrI n.writes)] (.tup [.iv (wrI n.writes),.val (.int .i64 0)]) []) :
  A7 Tryz.prog A8 147 [vwA ⟨[],[],[],[],room⟩,Ft n] (.tup [vwA ⟨N,[],n.writes,[],room⟩,.val (.int .i64 0)]) []:=by
 refine A7.of (n:=85) (rs:=[.cell 4 27,.tmp 5]) Tryz.func147 rfl (by kernel_rfl) Tryz.ntmps147 (by kernel_rfl) (by simp) (fun _ _=>A8.later) ?_
 intro hok V w0
 have hwl:n.writes.length<=1073741824:=by simpa [wrI] using hok.2.1.2.2.2.1.1
 have hf:=Jo ⟨[],[],[],[],room⟩ iR
 rw [hv] at hf
 have htk:=B34 [] [] n
 rw [hz] at htk
 refine g ?_
 refine AW.seq ?_
 refine AW.reg rfl fun KK hKK=>?_
 refine g ?_
 repeat' (refine hKK _ (g ?_);clear hKK KK)
 refine AW.freeze 300 _ rfl ⟨trivial,trivial,trivial,trivial,iR,trivial⟩ ?_
 simp only [go_sem,reduceIte,Nat.reduceEqDiff]
 refine AW.freeze 400 _ rfl ⟨trivial,trivial,trivial,trivial,trivial⟩ ?_
 simp only [go_sem,reduceIte,Nat.reduceEqDiff]
 refine g ?_
 repeat' (first | refine st_ rfl (g ?_) | refine A9 (hf) rfl (g ?_))
 refine A9 htk rfl (g ?_)
 refine g ?_
 refine AW.freeze 700 _ rfl ⟨trivial,trivial⟩ ?_
 simp only [go_sem,reduceIte,Nat.reduceEqDiff]
 refine AW.freeze 800 _ rfl ⟨trivial,trivial⟩ ?_
 simp only [go_sem,reduceIte,Nat.reduceEqDiff]
 refine g ?_
 repeat' (first | refine st_ rfl (g ?_) | refine A9 (N9 _) rfl (g ?_))
 have hdel:=Bd0 216 [znI []] [stI N] (fun w=>!Dx [] N w) (Ba1 [] N) n.writes (List.any_eq_false.2 fun w hw=>by simp [hr w hw])
 refine Kq [] [.box 500 [.val (.slice none 0 0),.val (.slice none 0 0),.val (.slice none 0 0),.val (.slice none 0 0),.val (.int .i64 0)]] (fun _=>3600) hdel rfl rfl rfl (g ?_)
 refine g ?_
 refine AW.freeze 3800 _ rfl trivial ?_
 simp only [go_sem,reduceIte,Nat.reduceEqDiff]
 refine g ?_
 repeat' (first | refine st_ rfl (g ?_) | refine A9 (hput) rfl (g ?_) | refine A9 (Y9 [] (-1)) rfl (g ?_))
 refine AW.loop (fun m:{m:Nat // m<=n.writes.length}=>⟨[(2,.ip [stI [],znI [],wrI [],boI [],.val (.int .i64 room)]),(4,.bp 500 0),(6,.ip [znI []]),(7,.ip [stI N]),(10,.iv (wrI n.writes)),(11,.own 5200),(52,.iv (wrI n.writes)),(53,.val (.int .i64 (n.writes.length:Nat))),(54,.val (.int .i64 (m.1:Nat)))],[.row 5200 79 4 [],.box 500 [.val (.slice none 0 0),.val (.slice none 0 0),.val (.slice none 0 0),.val (.slice none 0 0),.val (.int .i64 0)]]⟩) (fun m=>n.writes.length - m.1) ⟨0,Nat.zero_le _⟩ id ⟨⟨rfl,rfl,rfl,rfl,rfl,rfl,rfl,rfl,rfl,trivial⟩,⟨rfl,rfl,trivial⟩,by simp [By,BA.id]⟩ fun ⟨m,hm⟩=>?_
 simp only
 repeat (refine AW.seq ?_)
 refine AW.reg rfl fun KK hKK=>?_
 refine g ?_
 repeat' (refine hKK _ (g ?_);clear hKK KK)
 repeat (refine AW.seq ?_)
 refine st_ rfl ?_
 refine g ?_
 refine Cy (fun h=>?_) (fun h=>?_)
 ·have hlt:m < n.writes.length:=by have:=of_decide_eq_true h;omega
  obtain ⟨w,hw⟩ : ∃ w,n.writes[m]=w:=⟨_,rfl⟩
  have hget:=Cx (f:=enW) (List.getElem?_eq_getElem hlt)
  rw [hw] at hget
  have hidx:=Ad7 [] 219 (enW w) (fun x=>decide (x.object=w.object)) fun x=>B56 w x
  rw [List.any_nil,if_neg (by decide)] at hidx
  obtain ⟨-,o1,o2,o3,-⟩:=Do (by simpa [wrI] using hok.2.1.2.2.2.1.2) (enW w) (hw ▸ List.mem_map_of_mem (List.getElem_mem hlt))
  refine st_ rfl (g ?_)
  refine AW.seq ?_
  refine AW.block ?_
  repeat (refine AW.seq ?_)
  refine AW.reg rfl fun KK hKK=>?_
  refine g ?_
  refine ⟨by omega,_,hget,?_⟩
  refine g ?_
  repeat' (first | refine Bi (g ?_) | (refine hKK _ (g ?_);clear hKK KK))
  refine AW.freeze 1400 _ rfl ⟨o1,o2,o3,trivial,trivial⟩ ?_
  simp only [go_sem,reduceIte,Nat.reduceEqDiff]
  refine g ?_
  repeat' refine st_ rfl (g ?_)
  refine Np hidx (by simp [Wy,J2];exact ⟨trivial,rfl⟩) rfl (fun _ h=>by cases h) (Sbs.rfl_ _) rfl (g ?_)
  refine g ?_
  repeat' refine st_ rfl (g ?_)
  refine ⟨⟨m+1,hlt⟩,id,⟨⟨rfl,rfl,rfl,rfl,rfl,rfl,rfl,rfl,rfl,trivial⟩,⟨rfl,rfl,trivial⟩,by simp [By,BA.id]⟩,by show n.writes.length - (m+1) < n.writes.length - m;omega⟩
 ·refine AW.exit ?_
  simp only [reduceIte]
  refine AW.freeze 5200 _ rfl trivial ?_
  simp only [go_sem,reduceIte,Nat.reduceEqDiff]
  refine g ?_
  repeat' (first | refine st_ rfl (g ?_) | exact trivial)
end Go.Proofs.YtblfjaedaijfoaaGreatDoor
namespace Go.Proofs.YtblfjaedaijfoaaGreatDoor
open Go.ChangeShapes Go.WideShapes Go.ChangeAt Go.RowKit
attribute [local irreducible] AW AWY Bo B4 vop Bj B7 Bf qop Bu C4 Aq Aj Bh A7 B9
attribute [local go_sem] Sw Cv Hu Fs F6 G3 Gu L2 L1 Mr Fx Jk G2 C9 Ef Dk Db Dq Cm My C01 Ae Af
def Bo9 (me room bodies:Int):Eo:=⟨me,⟨[],[],[],[],bodies⟩,R7,[],[],0,[],⟨room,[]⟩,false⟩
set_option maxRecDepth 100000 in
set_option maxHeartbeats 3200000 in
theorem Av0 (me room bodies:Int) (iM:I64 me) (iR:I64 room) (iB:I64 bodies) (hv:Am ⟨[],[],[],[],bodies⟩=true):A7 Tryz.prog A8 65 [ndA (Bo9 me room bodies)] (ndA (Bo9 me room bodies)) []:=by
 refine A7.ofS (n:=138) (rs:=[.cell 2 38]) Tryz.func65 rfl (by kernel_rfl) Tryz.ntmps65 (by kernel_rfl) (by simp) (fun _ _=>A8.later) ?_
 intro hok V w0
 have ht:A7 Tryz.prog A8 147 [vwA ⟨[],[],[],[],bodies⟩,Ft R6] (.tup [vwA ⟨[],[],[],[],bodies⟩,.val (.int .i64 0)]) []:=Xn bodies R6 [] iB hv (by kernel_rfl) (fun w hw=>by cases hw) B50
 simp only [Bo9,R7]
 refine g ?_
 refine AW.seq ?_
 refine AW.reg rfl fun KK hKK=>?_
 refine g ?_
 repeat' (refine hKK _ (g ?_);clear hKK KK)
 refine AW.freeze 200 _ rfl ⟨iM,trivial,trivial,trivial,trivial,iB,trivial,trivial,rfl,trivial,trivial,rfl,trivial,iR,trivial,trivial,trivial⟩ ?_
 simp only [go_sem,reduceIte,Nat.reduceEqDiff]
 refine g ?_
 repeat' refine st_ rfl (g ?_)
 refine AW.drawn (ds:=[11,12,13,14,15,16,17,18,19,20,21,22,23,3]) (fin:=[0,2]) (bs:=[1,1,1,1,1,1,1,1,1,1,1,1,1,1,2]) [⟨[],[],[],[],0⟩,⟨[(11,0)],[],[0],[],0⟩,⟨[],[],[],[],0⟩,⟨[(13,2)],[],[0],[],0⟩,⟨[],[],[],[],0⟩,⟨[(15,4)],[],[],[],0⟩,⟨[(16,5)],[],[0],[],0⟩,⟨[(17,6)],[],[0],[],0⟩,⟨[],[],[],[],0⟩,⟨[(19,8)],[],[],[],0⟩,⟨[(20,9)],[],[0],[],0⟩,⟨[(18,7),(21,10)],[],[],[],0⟩,⟨[(12,1),(14,3),(22,11)],[],[],[],0⟩,⟨[],[],[],[],1⟩,⟨[(3,13),(23,12)],[],[],[1],1⟩] (by kernel_rfl) rfl (by kernel_rfl) rfl rfl rfl fun KD hKD=>?_
 refine g ?_
 repeat' (first | refine st_ rfl (g ?_) | (refine hKD _ _ ⟨rfl,g ?_⟩;clear hKD KD) | refine A9 (Ko []) rfl (g ?_) | (refine A61 ht (Sbs.cons_ (Sbs.of_ Bo6 (Sbs.rfl_ _))) rfl (g ?_))<;>refine g ?_ | (refine A9 (Bq1 ⟨[],[],0⟩ 0 rfl rfl) rfl (g ?_))<;>refine g ?_)
 refine AW.le (S:=⟨[(2,.bp 300 0),(3,.bp 400 0),(1,ndP (Bo9 me room bodies)),(34,.fn 222 [Bp5 ⟨[],[],0⟩,.ip [.val (.int .i64 0)]])],[.box 400 [.val (.int .i64 me),.iv (stI []),.iv (znI []),.iv (wrI []),.iv (boI []),.val (.int .i64 bodies),.iv (stI []),.val (.slice none 0 0),.val (.int .i64 0),.val (.slice none 0 0),.val (.slice none 0 0),.val (.int .i64 0),.val (.slice none 0 0),.val (.int .i64 0),.val (.slice none 0 0),.val (.bool false)],.box 300 Bt3]⟩) (ρ:=id) ⟨⟨rfl,rfl,rfl,rfl,trivial⟩,⟨rfl,rfl,trivial⟩,by simp [By,BA.id]⟩ ?_
 have he:Bc2 ⟨[],[],0⟩ (Int.toNat 0)=[]:=by kernel_rfl
 refine AW.range (Bq0 ⟨[],[],0⟩ 0 rfl) [(2,.bp 300 0),(3,.bp 400 0)] [(1,ndP (Bo9 me room bodies)),(34,.fn 222 [Bp5 ⟨[],[],0⟩,.ip [.val (.int .i64 0)]])] (fun _=>[.box 400 [.val (.int .i64 me),.iv (stI []),.iv (znI []),.iv (wrI []),.iv (boI []),.val (.int .i64 bodies),.iv (stI []),.val (.slice none 0 0),.val (.int .i64 0),.val (.slice none 0 0),.val (.slice none 0 0),.val (.int .i64 0),.val (.slice none 0 0),.val (.int .i64 0),.val (.slice none 0 0),.val (.bool false)],.box 300 Bt3]) (fun _=>True) rfl trivial rfl rfl rfl rfl (fun x=>⟨rfl,rfl⟩) (fun k pre x hsp hP=>by rw [he] at hsp;have:=hsp.length_le;simp at this) (fun xs hS hP=>?_)
 simp only [Bt3,Bo9,R7]
 refine g ?_
 repeat' (first | refine st_ rfl (g ?_) | refine A9 (Am7 []) rfl (g ?_) | refine A9 (Am4 []) rfl (g ?_) | (refine AW.once (g ?_))<;>refine g ?_)
 refine AW.freeze 7100 _ rfl trivial ?_
 simp only [go_sem,reduceIte,Nat.reduceEqDiff]
 refine AW.freeze 4800 _ rfl trivial ?_
 simp only [go_sem,reduceIte,Nat.reduceEqDiff]
 refine AW.drawn (ds:=[106,107,108,109,110,111,112,113,114]) (fin:=[1,2,3]) (bs:=[2,2,2,2,2,2,2,3,3,3]) [⟨[],[],[],[],0⟩,⟨[(106,0)],[],[],[],0⟩,⟨[(107,1)],[],[0,1],[],0⟩,⟨[],[],[],[],0⟩,⟨[(109,3)],[],[],[],0⟩,⟨[(110,4)],[],[0,1],[],0⟩,⟨[(111,5)],[],[0,1],[],1⟩,⟨[(108,2),(112,6)],[],[],[],0⟩,⟨[],[],[],[],0⟩,⟨[(114,8),(113,7)],[],[],[0],1⟩] (by kernel_rfl) rfl (by kernel_rfl) rfl rfl rfl fun KD hKD=>?_
 refine g ?_
 repeat' (first | refine st_ rfl (g ?_) | (refine hKD _ _ ⟨rfl,g ?_⟩;clear hKD KD) | refine A9 (Ye []) rfl (g ?_))
 refine AW.once ?_
 refine g ?_
 repeat' ((fail_if_success refine AW.ret ?_);refine st_ rfl (g ?_))
 refine AW.freeze 11300 _ rfl trivial ?_
 simp only [go_sem,reduceIte,Nat.reduceEqDiff]
 refine g ?_
 repeat' refine st_ rfl (g ?_)
 refine Es rfl fun p hp=>?_
 simp only [List.zip_cons_cons,List.zip_nil_right,List.mem_cons,List.not_mem_nil,or_false] at hp
 rcases hp with rfl | rfl | rfl | rfl | rfl | rfl | rfl | rfl | rfl | rfl | rfl | rfl | rfl | rfl | rfl | rfl
 all_goals first
  | exact Bz.rfl_ _
  | exact Bg _
end Go.Proofs.YtblfjaedaijfoaaGreatDoor
namespace Go.Proofs.YtblfjaedaijfoaaGreatDoor
open Go.ChangeShapes Go.WideShapes Go.ChangeAt Go.RowKit
attribute [local irreducible] AW AWY Bo B4 vop Bj B7 Bf qop Bu C4 Aq Aj Bh A7 Cg B9
attribute [local go_sem] Cv Hu Fs F6 Ae Af
set_option maxRecDepth 100000 in
theorem Bq4 (y:List IV) (hy:y.length=3):Cg Tryz.prog A8 235 [.own 1,.val (.int .i64 0),.iv (.sl 3 [y])] (.own 0) [.row 1 134 3 []] [.row 0 134 3 [y]] [] []:=by
 refine Cg.of [] (n:=95) (rs:=[.tmp 6]) Tryz.func235 rfl (by kernel_rfl) Tryz.ntmps235 (by kernel_rfl) (by simp) trivial rfl rfl fun hok V w0 F=>?_
 refine g ?_
 repeat' refine st_ rfl (g ?_)
 refine ⟨0,rfl,Nat.zero_le _,Bi (g ?_)⟩
 refine g ?_
 repeat' refine st_ rfl (g ?_)
 refine Co rfl (by kernel_rfl) (by omega) (by kernel_rfl) rfl (by simp) ?_
 refine g ?_
 repeat' refine st_ rfl (g ?_)
 exact ⟨fun b=>if b=0 then 2600 else b,fun _ _ _ h=>h,trivial,⟨rfl,rfl⟩,by simp⟩
theorem Bh5 {room:Int} (hr:0<=room/\room<=16777216):Bs ⟨room,[]⟩=true:=by simp [Bs,F5,hr.1,hr.2]
def Bi3 (room:Int) (b:List Nat):Gw:=⟨room,[⟨1,b,0⟩]⟩
set_option maxRecDepth 100000 in
set_option maxHeartbeats 1600000 in
theorem Bd1 (room:Int) (b:List Nat) (iR:I64 room) (hr:0<=room/\room<=16777216) (hb:(b.length:Int)<=room):A7 Tryz.prog A8 158 [dkA ⟨room,[]⟩,.val (.int .i64 1),.iv (byI b)] (.tup [dkA (Bi3 room b),.val (.int .i64 0)]) []:=by
 refine A7.ofS (n:=64) (rs:=[.cell 6 36,.tmp 7]) Tryz.func158 rfl (by kernel_rfl) Tryz.ntmps158 (by kernel_rfl) (by simp) (fun _ _=>A8.later) ?_
 intro hok V w0
 have hf:=Jt ⟨room,[]⟩ iR
 have hu:=Bc6 ⟨room,[]⟩ iR
 have hF:=Bh5 hr
 rw [hF] at hf
 rw [show A95 ⟨room,[]⟩=0 by rw [A95,if_pos hF];rfl] at hu
 have hfi:=Bc9 ⟨room,[]⟩ 1 (fun i j x y _ h=>by simp at h) iR
 rw [show Aj5 [] 1=0 from rfl,show A42 [] 1=none from rfl] at hfi
 refine g ?_
 refine AW.seq ?_
 refine AW.reg rfl fun KK hKK=>?_
 refine g ?_
 repeat' (refine hKK _ (g ?_);clear hKK KK)
 refine AW.freeze 400 _ rfl ⟨iR,trivial,trivial⟩ ?_
 simp only [go_sem,reduceIte,Nat.reduceEqDiff]
 refine g ?_
 repeat' (first | refine st_ rfl (g ?_) | refine A9 (hf) rfl (g ?_))
 refine AW.drawn (ds:=[23,24,25,26,27,28,29,30]) (fin:=[0]) (bs:=[1,1,1,1,1,1,1,1]) [⟨[],[],[],[],0⟩,⟨[(23,0)],[],[0],[],0⟩,⟨[],[],[],[],0⟩,⟨[(25,2)],[],[0],[],0⟩,⟨[],[],[0],[],0⟩,⟨[(27,4)],[],[0],[],0⟩,⟨[(26,3),(28,5)],[],[],[],0⟩,⟨[(24,1),(29,6)],[],[],[],0⟩] (by kernel_rfl) rfl (by kernel_rfl) rfl rfl rfl fun KD hKD=>?_
 refine g ?_
 repeat' (first | refine st_ rfl (g ?_) | refine Al (fun h=>g ?_) (fun h=>g ?_) | (refine hKD _ _ ⟨rfl,g ?_⟩;clear hKD KD) | refine A9 (hu) rfl (g ?_))
 ·exfalso;omega
 refine g ?_
 repeat' (first | refine st_ rfl (g ?_) | refine A9 (A51 ⟨room,[]⟩ iR) rfl (g ?_))
 refine Np hfi (by simp [Wy,J2,okA,okV];exact ⟨iR,rfl⟩) rfl (fun _ h=>by cases h) (by exact Sbs.rfl_ _) rfl (g ?_)
 refine g ?_
 repeat' refine st_ rfl (g ?_)
 refine bd1 (by omega) rfl rfl rfl ⟨rfl,trivial,rfl,trivial⟩ ?_
 refine g ?_
 refine Kq [.box 900 [.val (.int .i64 room),.own 3400]] [.box 700 [.val (.int .i64 0),.val (.slice none 0 0)]] (fun _=>3400) (Bq4 [.val (.int .i64 1),.val (.slice none 0 0),.val (.int .i64 0)] rfl) rfl rfl rfl (g ?_)
 refine g ?_
 repeat' refine st_ rfl (g ?_)
 refine AW.drawn (ds:=[50,51,52,53,54,55,56,57,58,59,60,61,62]) (fin:=[1,2,3,4]) (bs:=[3,3,3,3,3,3,3,3,3,3,3,4,4,4]) [⟨[],[],[],[],0⟩,⟨[(50,0)],[],[0,1,2],[],0⟩,⟨[],[],[],[],0⟩,⟨[],[],[],[],0⟩,⟨[(53,3)],[],[0,1,2],[],0⟩,⟨[],[],[],[],0⟩,⟨[(54,4),(55,5)],[],[0,1,2],[],0⟩,⟨[(56,6)],[],[],[],0⟩,⟨[(57,7)],[],[0,1,2],[],0⟩,⟨[],[],[],[],0⟩,⟨[(58,8),(59,9)],[],[0,1,2],[],1⟩,⟨[(51,1),(52,2)],[],[0,1,2,3],[],0⟩,⟨[(61,11)],[],[],[],0⟩,⟨[(62,12),(60,10)],[],[],[0],1⟩] (by kernel_rfl) rfl (by kernel_rfl) rfl rfl rfl fun KD hKD=>?_
 have hget:[[IV.val (.int .i64 1),IV.val (.slice none 0 0),IV.val (.int .i64 0)]][0]? = some [IV.val (.int .i64 1),IV.val (.slice none 0 0),IV.val (.int .i64 0)]:=rfl
 refine g ?_
 repeat' refine Bi (g ?_)
 refine append_nil (e:=5) (k:=1) (by kernel_rfl) (by omega) (by kernel_rfl) rfl (by rw [List.length_map];omega) ?_
 refine g ?_
 repeat' (first | refine Bi (g ?_) | (refine hKD _ _ ⟨rfl,g ?_⟩;clear hKD KD))
 refine AW.freeze 6100 _ rfl trivial ?_
 simp only [go_sem,reduceIte,Nat.reduceEqDiff]
 refine AW.freeze 4900 _ rfl trivial ?_
 simp only [go_sem,reduceIte,Nat.reduceEqDiff]
 refine g ?_
 repeat' refine st_ rfl (g ?_)
 exact Bz.rfl_ _
set_option maxRecDepth 100000 in
set_option maxHeartbeats 1600000 in
theorem Ak9 (room:Int) (b:List Nat) (iR:I64 room) (hr:0<=room/\room<=16777216) (hb:(b.length:Int)<=room):A7 Tryz.prog A8 159 [dkA ⟨room,[]⟩,.iv (byI b)] (.tup [dkA (Bi3 room b),.val (.int .i64 0)]) []:=by
 refine A7.ofS (n:=31) (rs:=[.cell 4 36,.tmp 5]) Tryz.func159 rfl (by kernel_rfl) Tryz.ntmps159 (by kernel_rfl) (by simp) (fun _ _=>A8.later) ?_
 intro hok V w0
 have hs:=Bc7 ⟨room,[]⟩ iR
 rw [show Zk ⟨room,[]⟩=(⟨room,[]⟩,0) by rw [Zk,if_pos (Bh5 hr)];rfl] at hs
 have hl:=Ba2 ⟨room,[]⟩ iR
 rw [show A30 ⟨room,[]⟩=-1 by rw [A30,if_pos (Bh5 hr)];rfl] at hl
 refine g ?_
 refine AW.seq ?_
 refine AW.reg rfl fun KK hKK=>?_
 refine g ?_
 repeat' (refine hKK _ (g ?_);clear hKK KK)
 refine AW.freeze 300 _ rfl ⟨iR,trivial,trivial⟩ ?_
 simp only [go_sem,reduceIte,Nat.reduceEqDiff]
 refine g ?_
 repeat' (first | refine st_ rfl (g ?_) | refine A9 (hl) rfl (g ?_))
 refine ⟨0,rfl,Bi (g ?_)⟩
 refine g ?_
 repeat' (first | refine st_ rfl (g ?_) | refine A9 (hs) rfl (g ?_) | refine A9 (Bd1 room b iR hr hb) rfl (g ?_))
 exact Bz.rfl_ _
set_option maxRecDepth 100000 in
set_option maxHeartbeats 1600000 in
theorem Ba3 (room:Int) (p:List Nat) (iR:I64 room) (hr:0<=room/\room<=16777216) (hp:p.length<=1048576) (hb:((Uz p).length:Int)<=room):A7 Tryz.prog H7 67 [dkA ⟨room,[]⟩,.iv (byI p)] (.tup [dkA (Bi3 room (Uz p)),.val (.int .i64 0)]) []:=by
 refine A7.ofS (n:=59) (rs:=[.cell 4 36,.tmp 5]) Tryz.func67 rfl (by kernel_rfl) Tryz.ntmps67 (by kernel_rfl) (by simp) (fun _ _=>H7.later) ?_
 intro hok V w0
 have hs:=Bl6 p hp fun x hx=>C86 hok.2.1 hx
 have hf:=(Jt ⟨room,[]⟩ iR).nd
 rw [Bh5 hr] at hf
 refine g ?_
 refine AW.seq ?_
 refine AW.reg rfl fun KK hKK=>?_
 refine g ?_
 repeat' (refine hKK _ (g ?_);clear hKK KK)
 refine AW.freeze 300 _ rfl ⟨iR,trivial,trivial⟩ ?_
 simp only [go_sem,reduceIte,Nat.reduceEqDiff]
 refine g ?_
 repeat' (first | refine st_ rfl (g ?_) | refine A9 (hs) rfl (g ?_) | refine A9 (hf) rfl (g ?_) | refine A9 ((Ak9 room (Uz p) iR hr hb).nd) rfl (g ?_))
 exact Bz.rfl_ _
end Go.Proofs.YtblfjaedaijfoaaGreatDoor
namespace Go.Proofs.YtblfjaedaijfoaaGreatDoor
open Go.ChangeShapes Go.WideShapes Go.ChangeAt Go.RowKit
attribute [local irreducible] AW AWY Bo B4 vop Bj B7 Bf qop Bu C4 Aq Aj Bh A7 B9
attribute [local go_sem] Cv Bh3 G3 Gu Ae Af
def Gz:Eo:=⟨0,⟨[],[],[],[],99⟩,R7,[],[],0,[],⟨4096,[]⟩,false⟩
def Aw1:Eo:=(Pj Gz ⟨0,3,0,[104,105],false⟩).1
theorem C06:Yq 0 4096 99=(Gz,0):=by kernel_rfl
theorem B97:(Pj Gz ⟨0,3,0,[104,105],false⟩).2=(⟨1,0⟩,0):=by kernel_rfl
theorem Bp7:Bg0 Aw1 3=⟨0,[104,105],false,⟨1,0⟩⟩:=by kernel_rfl
theorem Bg8:Lu Aw1:=⟨by unfold I64;kernel_rfl,by unfold I64;kernel_rfl,by unfold I64;kernel_rfl,by unfold I64;kernel_rfl,by unfold I64;kernel_rfl⟩
def C07:Bc:=⟨[],[⟨1,0⟩],[],[⟨⟨1,0⟩,3,false⟩]⟩
def Ac8:List Nat:=Gv (Kv (Dw Gz.view ⟨Gz.me,3,0,[104,105],false⟩).note 3 [104,105] false)
theorem Bp6:A7 Tryz.prog A8 64 [vwA Gz.view,.val (.int .i64 Gz.me),.val (.int .i64 3),.val (.int .i64 0),.iv (byI [104,105]),.val (.bool false)] (.tup [vwA (Jn Gz.view Gz.me 3 0 [104,105] false).view,Ft (Jn Gz.view Gz.me 3 0 [104,105] false).note,.val (.int .i64 (Jn Gz.view Gz.me 3 0 [104,105] false).err)]) [] :=
 Bk0 Gz.view Gz.me 3 0 [104,105] false rfl rfl rfl rfl fun s n h1 h2=>by
  subst h1
  obtain rfl:C07=n:=Eq.trans (by kernel_rfl) h2
  rw [show Et Gz.view C07=(⟨[⟨1,0⟩],[],[⟨⟨1,0⟩,3,false⟩],[],99⟩,0) by kernel_rfl]
  exact Xn 99 C07 [⟨1,0⟩] rfl (by kernel_rfl) (by kernel_rfl) (fun w hw=>by rw [List.mem_singleton.1 hw];kernel_rfl) (B49 _ (by kernel_rfl) rfl rfl rfl)
theorem Bp8:A7 Tryz.prog H7 67 [dkA Gz.disk,.iv (byI Ac8)] (.tup [dkA (Ks Gz.disk Ac8).1,.val (.int .i64 (Ks Gz.disk Ac8).2)]) []:=by
 rw [show Ks Gz.disk Ac8=(Bi3 4096 (Uz Ac8),0) by kernel_rfl]
 exact Ba3 4096 Ac8 rfl ⟨by decide,by decide⟩ (of_decide_eq_true (by kernel_rfl)) (of_decide_eq_true (by kernel_rfl))
set_option maxRecDepth 100000 in
set_option maxHeartbeats 3200000 in
theorem An5:A7 Tryz.prog H7 7 [] (.val (.bool true)) []:=by
 refine A7.of (n:=42) (rs:=[.tmp 0]) Tryz.func7 rfl (by kernel_rfl) Tryz.ntmps7 (by kernel_rfl) (by simp) (fun _ _=>H7.later) ?_
 intro hok V w0
 have hn:=(Ac5 0 4096 99 rfl rfl rfl).nd
 rw [C06] at hn
 have hw:=Bo2 Gz 3 0 [104,105] false ⟨rfl,rfl,rfl,rfl,rfl⟩ rfl rfl (by decide) Bp6 (fun _ _ _=>Av0 0 4096 99 rfl rfl rfl (by kernel_rfl)) fun X hX hx=>hX ▸ Bp8
 rw [show (⟨Gz.me,3,0,[104,105],false⟩ : Yu)=⟨0,3,0,[104,105],false⟩ from rfl,B97,show (Pj Gz ⟨0,3,0,[104,105],false⟩).1=Aw1 from rfl] at hw
 have hr:=(B90 Aw1 3 Bg8 rfl).nd
 rw [Bp7] at hr
 have l1:=Bg8
 generalize Aw1=n1 at hw hr l1
 generalize Gz=n0 at hn hw
 refine g ?_
 refine AW.seq ?_
 refine AW.reg rfl fun KK hKK=>?_
 refine g ?_
 repeat' (refine hKK _ (g ?_);clear hKK KK)
 refine AW.seq ?_
 refine AW.reg rfl fun KK hKK=>?_
 refine g ?_
 refine A9 hn rfl (g ?_)
 refine g ?_
 repeat' (refine hKK _ (g ?_);clear hKK KK)
 refine AW.seq ?_
 refine AW.mark (l1:=[_,_]) rfl rfl Tryz.underlying47 Tryz.underlying5 fun KK hKK=>?_
 refine g ?_
 refine bs2 (by omega) rfl rfl rfl ⟨rfl,trivial⟩ rfl rfl rfl ⟨rfl,trivial⟩ ?_
 refine g ?_
 refine hKK _ 1300 _ _ rfl rfl (by simp) ?_
 clear hKK KK
 intro KK hKK
 refine g ?_
 refine A9 hw rfl (g ?_)
 refine g ?_
 repeat' (refine hKK _ (g ?_);clear hKK KK)
 refine g ?_
 repeat' (first | refine st_ rfl (g ?_) | refine A9 (hr) rfl (g ?_))
 simp only [decide_true]
 refine ⟨_,fun u=>Me _ _ _ _ _ _ u,?_⟩
 refine g ?_
 repeat' refine Bi (g ?_)
 refine ⟨[104,105],rfl,?_⟩
 refine g ?_
 repeat' refine Bi (g ?_)
 have hs:Zo [104,105]=⟨#[104,105]⟩:=by kernel_rfl
 rw [hs]
 refine Bv3 (g ?_)
 refine g ?_
 repeat' refine st_ rfl (g ?_)
 exact decide_eq_true trivial
end Go.Proofs.YtblfjaedaijfoaaGreatDoor
namespace Go.Proofs.YtblfjaedaijfoaaGreatDoor
open Go.ChangeShapes Go.WideShapes Go.ChangeAt Go.RowKit
def C09 (cs:Array Value):Obj->Obj
 | .cells _ t frozen=>.cells cs t frozen
 | o=>o
def C69:Array Value:=#[.int .u8 0,.int .u8 1,.int .u8 56,.int .u8 2,.int .u8 57,.int .u8 49,.int .u8 28,.int .u8 3,.int .u8 61,.int .u8 58,.int .u8 42,.int .u8 50,.int .u8 38,.int .u8 29,.int .u8 17,.int .u8 4,.int .u8 62,.int .u8 47,.int .u8 59,.int .u8 36,.int .u8 45,.int .u8 43,.int .u8 51,.int .u8 22,.int .u8 53,.int .u8 39,.int .u8 33,.int .u8 30,.int .u8 24,.int .u8 18,.int .u8 12,.int .u8 5,.int .u8 63,.int .u8 55,.int .u8 48,.int .u8 27,.int .u8 60,.int .u8 41,.int .u8 37,.int .u8 16,.int .u8 46,.int .u8 35,.int .u8 44,.int .u8 21,.int .u8 52,.int .u8 32,.int .u8 23,.int .u8 11,.int .u8 54,.int .u8 26,.int .u8 40,.int .u8 15,.int .u8 34,.int .u8 20,.int .u8 31,.int .u8 10,.int .u8 25,.int .u8 14,.int .u8 19,.int .u8 9,.int .u8 13,.int .u8 8,.int .u8 7,.int .u8 6]
noncomputable def Be6 (os:Os):World :=
 { World.holding Tryz.prog os ⟨#[],#[],[]⟩ with heap:=(World.holding Tryz.prog os ⟨#[],#[],[]⟩).heap.modify 1 (C09 C69) }
theorem Bu5 : Tryz.prog.globalNamed "math/bits.deBruijn64tab" = some 1 := by kernel_rfl
theorem Cg6:(Tryz.prog.globals[1]?).map (·.type)=some 327:=by kernel_rfl
theorem B33 {laid : List (String × DataW Unit)} {W : World} (e : (laid.filter fun x => x.1 == "math/bits.deBruijn64tab") = [("math/bits.deBruijn64tab", Lib.tabData .u8 (Lib.deBruijn64tab.map Int.ofNat))]) (h : laidMetH Tryz.prog laid W) : A8 W := by
 have h1 := h.filter (fun x => x.1 == "math/bits.deBruijn64tab")
 rw [e] at h1
 have h2:=Lib.tabIs_of_head (rest:=[]) Bu5 Cg6 Tryz.underlying327 Tryz.underlying5 (by kernel_rfl) (by kernel_rfl) h1
 intro j hj
 have h3:=h2.cell Bu5 j (by simpa using hj)
 rw [h3]
 simp [List.getD,hj]
theorem B47 {H:Type} {l:List (DataW H)} (h:Rows.uptoSmall H l=true):∀ d,d∈l->Rows.uptoBulk d<=1048576:=by
 have h2:Rows.uptoBulkAll l<=1048576:=of_decide_eq_true h
 intro d hd
 have:=M8 hd
 omega
def C39:Array Value:=#[.int .u32 0,.int .u32 498536548,.int .u32 997073096,.int .u32 651767980,.int .u32 1994146192,.int .u32 1802195444,.int .u32 1303535960,.int .u32 1342533948,.int .u32 3988292384,.int .u32 4027552580,.int .u32 3604390888,.int .u32 3412177804,.int .u32 2607071920,.int .u32 2262029012,.int .u32 2685067896,.int .u32 3183342108]
noncomputable def Ak4 (os:Os):World:={ Be6 os with heap:=(Be6 os).heap.modify 0 (C09 C39) }
theorem Bi5 : Tryz.prog.globalNamed "telltale/frame.table" = some 0 := by kernel_rfl
theorem Cb8:(Tryz.prog.globals[0]?).map (·.type)=some 295:=by kernel_rfl
theorem Az4 {laid : List (String × DataW Unit)} {W : World} (e : (laid.filter fun x => x.1 == "telltale/frame.table") = [("telltale/frame.table", Lib.tabData .u32 (A70.map Int.ofNat))]) (h : laidMetH Tryz.prog laid W) : Xj W := by
 have h1 := h.filter (fun x => x.1 == "telltale/frame.table")
 rw [e] at h1
 have h2:=Lib.tabIs_of_head (rest:=[]) Bi5 Cb8 Tryz.underlying295 Tryz.underlying241 (by kernel_rfl) (by kernel_rfl) h1
 intro j hj
 have hj':j < A70.length:=hj
 have h3:=h2.cell Bi5 j (by simpa using hj')
 rw [h3]
 simp [List.getD,hj']
namespace cNodeForms
set_option maxRecDepth 100000 in
theorem contract (H : Type) (enc : TypeId × Value -> H) (W : World) (base : Nat) (args : Array Value) (ds gs : List (DataW H)) (before : List MemPlace)
    (hval : ∀ (j : Nat) t v, Tryz.f3.params[j]? = some t -> args[j]? = some v -> Value.okWide Tryz.prog W .any base t v)
    (hW : DataW.Whole enc Tryz.prog Tryz.f3.params.toList Rows.nodeFormsSpec.vars false W args.toList ds gs before) (hk : Rows.uptoSmall H (ds ++ gs) = true) (hL : laidMetH Tryz.prog Rows.nodeFormsRow.laid W) :
    Calls Tryz.prog 3 args W fun e W' => ∃ v, e = .returned v /\ Rows.nodeFormsSpec.post enc Tryz.prog Tryz.f3 false true false false W args v W' := by
  have hW' := hW
  obtain ⟨p, q, hA0, hV, rfl, hfz, hnd⟩ := hW
  have hA : DataW.TrodAll enc Tryz.prog W 0 (fun _ => true) true Tryz.f3.params.toList args.toList ds p := hA0
  rw [Tryz.params3] at hA hval
  obtain ⟨v0, vs0, d0, ds0, p0, q0, hargs, rfl, rfl, h0, r0⟩ := trodAll_cons hA
  obtain ⟨v1, vs1, d1, ds1, p1, q1, rfl, rfl, rfl, h1, r1⟩ := trodAll_cons r0
  obtain ⟨rfl, rfl, rfl⟩ := trodAll_nil r1
  obtain rfl : args = #[v0, v1] := by cases args; simp_all
  obtain ⟨rfl, rfl⟩ := trodVars_none hV
  have hpart := B47 hk
  obtain ⟨cs0, rfl, hs0⟩ := okWide_struct Tryz.underlying38 (hval 0 _ v0 rfl rfl)
  obtain ⟨n0, hn0⟩ := h0
  obtain ⟨_, x0, va, e0, hNI, hNV⟩ := B82 (w := W) H enc n0 _ _ ⟨hn0, hpart d0 (by simp)⟩
  obtain rfl : cs0 = D0 va x0 := Array.toList_inj.1 (by simpa only [Value.cells] using e0)
  obtain ⟨cs1, rfl, hs1⟩ := Aj9 Tryz.underlying39 (hval 1 _ v1 rfl rfl)
  obtain ⟨n1, hn1⟩ := h1
  obtain ⟨_, x1, e1, i1, i2, i3⟩ := Au1 (w := W) H enc n1 _ _ ⟨hn1, hpart d1 (by simp)⟩
  obtain rfl : cs1 = #[.int .i64 x1.1, .int .i64 x1.2.1, .int .i64 x1.2.2] := Array.toList_inj.1 (by simpa only [Value.cells] using e1)
  have hT : H7 W := ⟨B33 (by kernel_rfl) hL, Az4 (by kernel_rfl) hL⟩
  clear hA0
  refine ((Ak7 x0 x1.1 x1.2.1 x1.2.2 hNI i1 i2 i3 An5).law hT (Au.cons (Bz7 hNV) (Au.cons Bk7 Au.nil))).mono fun e W' ⟨he, hb⟩ => ?_
  subst he
  exact ⟨_, rfl, C10 C98 (by kernel_rfl) (by kernel_rfl) Tryz.underlying4 rfl rfl rfl rfl hW' hb⟩
theorem laid_met (os:Os):laidMet Tryz.prog Rows.nodeFormsRow.laid ((Ak4 os).forCall (fun _ _=>0) ⟨#[],#[.agg #[.int .i64 0,.slice none 0 0,.slice none 0 0,.slice none 0 0,.slice none 0 0,.int .i64 0,.slice none 0 0,.slice none 0 0,.int .i64 0,.slice none 0 0,.slice none 0 0,.int .i64 0,.slice none 0 0,.int .i64 0,.slice none 0 0,.bool false],.agg #[.int .i64 0,.int .i64 0,.int .i64 0]],[]⟩).memory :=
  laidMet_of_run' 8 (by kernel_rfl) (by kernel_rfl)
theorem reads (os:Os) {H:Type} (enc:TypeId×Value->H):∃ places,DataW.whole enc Tryz.prog ((Ak4 os).forCall (fun _ _=>0) ⟨#[],#[.agg #[.int .i64 0,.slice none 0 0,.slice none 0 0,.slice none 0 0,.slice none 0 0,.int .i64 0,.slice none 0 0,.slice none 0 0,.int .i64 0,.slice none 0 0,.slice none 0 0,.int .i64 0,.slice none 0 0,.int .i64 0,.slice none 0 0,.bool false],.agg #[.int .i64 0,.int .i64 0,.int .i64 0]],[]⟩).memory Tryz.f3.params.toList Rows.nodeFormsSpec.vars false (#[.agg #[.int .i64 0,.slice none 0 0,.slice none 0 0,.slice none 0 0,.slice none 0 0,.int .i64 0,.slice none 0 0,.slice none 0 0,.int .i64 0,.slice none 0 0,.slice none 0 0,.int .i64 0,.slice none 0 0,.int .i64 0,.slice none 0 0,.bool false],.agg #[.int .i64 0,.int .i64 0,.int .i64 0]]:Array Value).toList 8=some ([.agg [.lit (.int .i64 0),.agg [.nil,.nil,.nil,.nil,.lit (.int .i64 0)],.agg [.nil,.nil,.lit (.int .i64 0)],.nil,.nil,.lit (.int .i64 0),.nil,.agg [.lit (.int .i64 0),.nil],.lit (.bool false)],.agg [.lit (.int .i64 0),.lit (.int .i64 0),.lit (.int .i64 0)]],[],places) :=
  ⟨[],by kernel_rfl⟩
set_option maxRecDepth 100000 in
theorem lifted (os : Os) (started : os.Started) (H : Type) (enc : TypeId × Value -> H) (F : Stop.Interp) :
    ReturnsInHanded {} Tryz.checked os 3 .any ((Rows.OpenSpec.upto Rows.nodeFormsSpec).preRow enc Tryz.prog Tryz.f3 Rows.nodeFormsUptoRow.domain false Rows.nodeFormsUptoRow.laid) (((Rows.OpenSpec.upto Rows.nodeFormsSpec).at F).post enc Tryz.prog Tryz.f3 false true false false) := by
  obtain ⟨places, hx⟩ := reads os enc
  refine returnsInHanded_of_row (C := Tryz.checked) (s := Rows.OpenSpec.upto Rows.nodeFormsSpec) own started (by kernel_rfl) Tryz.func3
    (witness_row_at (enc := enc) (C := Tryz.checked) false (Ak4 os) #[.agg #[.int .i64 0, .slice none 0 0, .slice none 0 0, .slice none 0 0, .slice none 0 0, .int .i64 0, .slice none 0 0, .slice none 0 0, .int .i64 0, .slice none 0 0, .slice none 0 0, .int .i64 0, .slice none 0 0, .int .i64 0, .slice none 0 0, .bool false], .agg #[.int .i64 0, .int .i64 0, .int .i64 0]] rfl (by kernel_rfl) (by kernel_rfl) (by kernel_rfl)
      (OpenSpec.preRow_of_cond 8 hx (by kernel_rfl) (fun k hk => by cases hk; kernel_rfl) (by kernel_rfl) (laid_met os))) ?_
  intro W base args ds gs before hval hW _ hcond _ hL _ _
  exact contract H enc W base args ds gs before hval hW (hcond _ rfl) hL
theorem c1:laidOutB Tryz.pinned.checked.prog=true:=by kernel_rfl
theorem c2:mapsRowed Tryz.pinned.checked.prog=true:=by kernel_rfl
theorem c3:(Rows.nodeFormsUptoRow.inPlace==Tryz.pinned.checked.prog.inPlace 3)=true:=by kernel_rfl
theorem c4:(Rows.nodeFormsUptoRow.unfollowed==Tryz.pinned.checked.prog.unfollowed 3)=true:=by kernel_rfl
theorem c5:(Rows.nodeFormsUptoRow.recurses==Tryz.pinned.checked.prog.recurses 3)=true:=by kernel_rfl
theorem c6:(Rows.nodeFormsUptoRow.named==Tryz.pinned.checked.prog.varsNamed 3)=true:=by kernel_rfl
theorem closed:joinedFacts Tryz.pinned.checked.prog 3 Tryz.f3 (Rows.OpenSpec.upto Rows.nodeFormsSpec).bare Rows.nodeFormsUptoRow=true:=by
  unfold joinedFacts
  rw [c1,c2,c3,c4,c5,c6]
  kernel_rfl
theorem said:Rows.NodeFormsUptoSaid :=
  OpenClaim.holds_of_cond 3 Tryz.f3 rfl rfl rfl rfl rfl rfl rfl ⟨rfl,rfl,rfl,rfl,rfl⟩ rfl rfl rfl rfl rfl (by kernel_rfl) Tryz.func3 closed
    (of_decide_eq_true (by kernel_rfl)) (by unfold Func.isWrapper;first | (rw [if_pos (by decide +kernel)];kernel_rfl) | (rw [if_neg (by decide +kernel)];exact ⟨rfl,rfl⟩))
    (fun os started H enc _ F=>by rw [OpenClaim.pre_eq_preRow];exact lifted os started H enc F)
theorem plain (f : FuncId) (fn : Func) (hf : Tryz.pinned.checked.prog.funcNamed "telltale/telltalelaw18.NodeForms" = some f) (hfn : Tryz.pinned.checked.prog.funcs[f]? = some fn) :
    false = Tryz.pinned.checked.prog.looks [] /\ ∀ (j : Nat) t, fn.params[j]? = some t -> Tryz.pinned.checked.prog.wantsStandIn t = false := by
  obtain rfl : f = 3 := Option.some.inj ((show Tryz.prog.funcNamed "telltale/telltalelaw18.NodeForms" = some 3 by kernel_rfl).symm.trans hf) |>.symm
  obtain rfl : fn = Tryz.f3 := (Option.some.inj (Tryz.func3.symm.trans hfn)).symm
  refine ⟨by kernel_rfl, fun j t ht => ?_⟩
  rw [Tryz.params3] at ht
  have hm := Array.mem_of_getElem? ht
  simp at hm
  rcases hm with rfl | rfl
  · exact (show Tryz.prog.wantsStandIn 38 = false by kernel_rfl)
  · exact (show Tryz.prog.wantsStandIn 39 = false by kernel_rfl)
theorem card:Rows.NodeFormsUptoCardSaid :=
  Claim7.holds_tied_plain_at .later [] _ _ _ _ said (fun _ h=>by cases h) (by as_aux_lemma=>kernel_rfl) (fun _ h=>by cases h) nodeFormsUpto_row_tie rfl ⟨rfl,rfl⟩ (by as_aux_lemma=>kernel_rfl) rfl plain (by as_aux_lemma=>kernel_rfl)
#print axioms card
end cNodeForms
end Go.Proofs.YtblfjaedaijfoaaGreatDoor
