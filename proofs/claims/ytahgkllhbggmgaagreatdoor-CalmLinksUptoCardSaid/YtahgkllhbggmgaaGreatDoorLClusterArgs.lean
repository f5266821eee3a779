/- The argument of a cluster's laws, as it is read and as data. -/
import Derived.Test.YtahgkllhbggmgaaGreatDoorLStreamArgs
import Derived.Test.YtahgkllhbggmgaaGreatDoorLViewEnc
import Derived.OpenShut
import Derived.Test.YtahgkllhbggmgaaGreatDoorLSess
import Derived.Test.YtahgkllhbggmgaaGreatDoorLNodeForm
import Derived.Test.YtahgkllhbggmgaaGreatDoorLDisk
set_option linter.all false
set_option linter.unnecessarySimpa false
set_option linter.unusedSimpArgs false
set_option linter.unusedVariables false
namespace Go.Proofs.YtahgkllhbggmgaaGreatDoor
open Go.ChangeShapes Go.WideShapes Go.ChangeAt Go.RowKit
def Bs2 (w:World) (B:Nat) (cs:List Value) (z:Bp):Prop:=∃ v,cs=[.int .i64 z.span.lo,.int .i64 z.span.hi,v]/\I64 z.span.lo/\I64 z.span.hi/\Bx w B v z.vec
theorem Au4 {w:World} : Dt Tryz.prog w 180 3 (Bs2 w w.heap.size):=by
 intro H enc fuel cs x h
 obtain ⟨hl,n,hf⟩:=Bq Tryz.underlying180 h
 have hk:Tryz.prog.cellsOf 180=3:=by kernel_rfl
 have hs:Tryz.prog.cellsOf 89=2:=by kernel_rfl
 have hv:Tryz.prog.cellsOf 51=1:=by kernel_rfl
 rw [hk] at hl
 refine ⟨hl,?_⟩
 match cs,hl with
 | [v0,v1,v2],_ =>
  obtain ⟨y0,h0⟩:=hf 0 89 0 2 rfl hs
  obtain ⟨y1,h1⟩:=hf 1 51 2 1 rfl hv
  obtain ⟨_,a,e0,i0,i1⟩:=Xn (w:=w) H enc n _ _ h0
  obtain ⟨_,b,_,e1,s1⟩:=G7 (w:=w) H enc n _ _ h1
  simp at e0 e1
  obtain ⟨rfl,rfl⟩:=e0
  subst e1
  exact ⟨⟨a,b⟩,_,rfl,i0,i1,s1⟩
abbrev B53 (w:World) (B:Nat) (v:Value) (l:List Bp):Prop:=Sl (Bs2 w B) 3 w B v l
theorem Ai9 {w:World} : Dt Tryz.prog w 52 1 (fun cs l=>∃ v,cs=[v]/\B53 w w.heap.size v l) :=
 Cz Tryz.underlying52 (by kernel_rfl) (by omega) Au4
abbrev Ac2 (w:World) (B:Nat) (v:Value) (l:List Cr):Prop:=Sl (Bt0 w B) 4 w B v l
theorem A74 {w:World} : Dt Tryz.prog w 54 1 (fun cs l=>∃ v,cs=[v]/\Ac2 w w.heap.size v l) :=
 Cz Tryz.underlying54 (by kernel_rfl) (by omega) Xo
def D88 (w:World) (B:Nat) (cs:List Value) (x:E8):Prop:=∃ v0 v1 v2 v3,cs=[v0,v1,v2,v3,.int .i64 x.room]/\Bx w B v0 x.known/\B53 w B v1 x.zones/\Ng w B v2 x.held/\Ac2 w B v3 x.bodies/\I64 x.room
theorem Au5 {w:World} : Dt Tryz.prog w 56 5 (D88 w w.heap.size):=by
 intro H enc fuel cs x h
 obtain ⟨hl,n,hf⟩:=Bq Tryz.underlying56 h
 have hk:Tryz.prog.cellsOf 56=5:=by kernel_rfl
 have q0:Tryz.prog.cellsOf 51=1:=by kernel_rfl
 have q1:Tryz.prog.cellsOf 52=1:=by kernel_rfl
 have q2:Tryz.prog.cellsOf 53=1:=by kernel_rfl
 have q3:Tryz.prog.cellsOf 54=1:=by kernel_rfl
 have q4:Tryz.prog.cellsOf 3=1:=by kernel_rfl
 rw [hk] at hl
 refine ⟨hl,?_⟩
 match cs,hl with
 | [v0,v1,v2,v3,v4],_ =>
  obtain ⟨y0,h0⟩:=hf 0 51 0 1 rfl q0
  obtain ⟨y1,h1⟩:=hf 1 52 1 1 rfl q1
  obtain ⟨y2,h2⟩:=hf 2 53 2 1 rfl q2
  obtain ⟨y3,h3⟩:=hf 3 54 3 1 rfl q3
  obtain ⟨y4,h4⟩:=hf 4 3 4 1 rfl q4
  obtain ⟨_,a,_,e0,s0⟩:=G7 (w:=w) H enc n _ _ h0
  obtain ⟨_,b,_,e1,s1⟩:=Ai9 (w:=w) H enc n _ _ h1
  obtain ⟨_,c,_,e2,s2⟩:=Sm (w:=w) H enc n _ _ h2
  obtain ⟨_,d,_,e3,s3⟩:=A74 (w:=w) H enc n _ _ h3
  obtain ⟨_,r,e4,i4⟩:=Br (w:=w) Tryz.underlying3 H enc n _ _ h4
  simp at e0 e1 e2 e3 e4
  subst e0 e1 e2 e3 e4
  exact ⟨⟨a,b,c,d,r⟩,_,_,_,_,rfl,s0,s1,s2,s3,i4⟩
theorem Co7 {X:World} {cs:List Value} {x:Bp} (h:Bs2 X X.heap.size cs x):Av X cs (enZ x):=by
 obtain ⟨v0,rfl,h1,h2,h⟩:=h
 exact ⟨.val h1,.val h2,J3 h (Nat.le_refl _),trivial⟩
theorem B56 {X:World} {v:Value} {l:List Bp} (h:B53 X X.heap.size v l):C7 X v (znI l):=C7.of_typed (fun _ _ h=>Co7 h) h (Nat.le_refl _)
theorem Mj {X:World} {v:Value} {l:List Nat} (h:Z0 X X.heap.size v l):C7 X v (byI l):=C7.of_typed (enc:=fun (b:Nat)=>[.val (.int .u8 b)]) (fun cs x h=>by
 obtain ⟨rfl,h1⟩:=h
 refine ⟨.val ?_,trivial⟩
 simp [okV,Lit.wf,IntKind.max,IntKind.min,IntKind.signed,IntKind.bits]
 omega) h (Nat.le_refl _)
theorem D72 {X:World} {cs:List Value} {x:Cr} (h:Bt0 X X.heap.size cs x):Av X cs (enB x):=by
 obtain ⟨v0,rfl,h1,h2,h3,h⟩:=h
 exact ⟨.val h1,.val h2,.val h3,Mj h,trivial⟩
theorem Az5 {X:World} {v:Value} {l:List Cr} (h:Ac2 X X.heap.size v l):C7 X v (boI l):=C7.of_typed (fun _ _ h=>D72 h) h (Nat.le_refl _)
theorem Bg8 {X:World} {v:Value} {l:List Sub} (h:Qm X X.heap.size v l):C7 X v (J2 l):=C7.of_typed (fun _ _ h=>Bu4 h) h (Nat.le_refl _)
theorem Af3 {P:Program} {w:World} {H:Type} {enc:TypeId×Value->H} {t e:TypeId} {fuel n c:Nat} {A:Option Addr} {x:DataW H×List MemPlace} (ht:P.underlying t=some (.slice e)) (h:DataW.trod enc P w 0 (fun _=>true) true fuel t [.slice A n c]=some x/\Rows.uptoBulk x.1<=1048576):n<=1048576:=by
 obtain ⟨h,hz⟩:=h
 rcases Go.Deep.open_slice ht h with ⟨e,_⟩ | ⟨a,len,cap,m,n',D,Pl,e,_,hl,hm,hmm,hx,hi⟩
 ·simp only [List.cons.injEq,Value.slice.injEq] at e
  omega
 ·simp only [List.cons.injEq,Value.slice.injEq] at e
  rw [hx] at hz
  simp only [Rows.uptoBulk] at hz
  have hlen:=Vl ((List.range len).map D)
  rw [List.length_map,List.length_range] at hlen
  omega
def Ap0 (w:World) (B:Nat) (cs:List Value) (x:Hr):Prop:=∃ v,cs=[.int .i64 x.number,v,.int .i64 x.sure]/\I64 x.number/\I64 x.sure/\Z0 w B v x.bytes
theorem Av2 {w:World} : Dt Tryz.prog w 172 3 (Ap0 w w.heap.size):=by
 intro H enc fuel cs x h
 obtain ⟨hl,n,hf⟩:=Bq Tryz.underlying172 h
 rw [show Tryz.prog.cellsOf 172=3 by kernel_rfl] at hl
 refine ⟨hl,?_⟩
 match cs,hl with
 | [v0,v1,v2],_ =>
  obtain ⟨y0,h0⟩:=hf 0 3 0 1 rfl (by kernel_rfl)
  obtain ⟨y1,h1⟩:=hf 1 44 1 1 rfl (by kernel_rfl)
  obtain ⟨y2,h2⟩:=hf 2 3 2 1 rfl (by kernel_rfl)
  obtain ⟨_,a,e0,i0⟩:=Br (w:=w) Tryz.underlying3 H enc n _ _ h0
  obtain ⟨_,b,_,e1,s1⟩:=Li (w:=w) H enc n _ _ h1
  obtain ⟨_,c,e2,i2⟩:=Br (w:=w) Tryz.underlying3 H enc n _ _ h2
  simp at e0 e1 e2
  subst e0 e1 e2
  exact ⟨⟨a,b,c⟩,_,rfl,i0,i2,s1⟩
theorem Aj2 {w:World} : Dt Tryz.prog w 63 1 (fun cs l=>∃ v,cs=[v]/\Sl (Ap0 w w.heap.size) 3 w w.heap.size v l) :=
 Cz Tryz.underlying63 (by kernel_rfl) (by omega) Av2
theorem Av1 {w:World} : Dt Tryz.prog w 62 1 (fun cs l=>∃ v,cs=[v]/\Sl (C16 w w.heap.size) 12 w w.heap.size v l) :=
 Cz Tryz.underlying62 (by kernel_rfl) (by omega) B96
def Da0 (w:World) (B:Nat) (cs:List Value) (x:Jw):Prop:=∃ v,cs=[.int .i64 x.room,v]/\I64 x.room/\Sl (Ap0 w B) 3 w B v x.files
theorem Av3 {w:World} : Dt Tryz.prog w 65 2 (Da0 w w.heap.size):=by
 intro H enc fuel cs x h
 obtain ⟨hl,n,hf⟩:=Bq Tryz.underlying65 h
 rw [show Tryz.prog.cellsOf 65=2 by kernel_rfl] at hl
 refine ⟨hl,?_⟩
 match cs,hl with
 | [v0,v1],_ =>
  obtain ⟨y0,h0⟩:=hf 0 3 0 1 rfl (by kernel_rfl)
  obtain ⟨y1,h1⟩:=hf 1 63 1 1 rfl (by kernel_rfl)
  obtain ⟨_,a,e0,i0⟩:=Br (w:=w) Tryz.underlying3 H enc n _ _ h0
  obtain ⟨_,b,_,e1,s1⟩:=Aj2 (w:=w) H enc n _ _ h1
  simp at e0 e1
  subst e0 e1
  exact ⟨⟨a,b⟩,_,rfl,i0,s1⟩
structure C55 (w:World) (v:Nat->Value) (x:Es):Prop where
 known:Bx w w.heap.size (v 0) x.view.known
 zones:B53 w w.heap.size (v 1) x.view.zones
 held:Ng w w.heap.size (v 2) x.view.held
 bodies:Ac2 w w.heap.size (v 3) x.view.bodies
 base:Bx w w.heap.size (v 4) x.log.base
 notes:Ao9 w w.heap.size (v 5) x.log.notes
 outs:Up w w.heap.size (v 6) x.outs
 subs:Qm w w.heap.size (v 7) x.subs
 queue:Sl (C16 w w.heap.size) 12 w w.heap.size (v 8) x.queue
 files:Sl (Ap0 w w.heap.size) 3 w w.heap.size (v 9) x.disk.files
 small:x.log.notes.length<=1048576
def A13 (v:Nat->Value) (x:Es):Array Value:=#[.int .i64 x.me,v 0,v 1,v 2,v 3,.int .i64 x.view.room,v 4,v 5,.int .i64 x.log.sure,v 6,v 7,.int .i64 x.tries,v 8,.int .i64 x.disk.room,v 9,.bool x.down]
theorem Av0 {w:World} : Dt Tryz.prog w 67 16 (fun cs x=>∃ v,cs=(A13 v x).toList/\K5 x/\C55 w v x):=by
 intro H enc fuel cs x h
 obtain ⟨hl,n,hf⟩:=Bq Tryz.underlying67 h
 rw [show Tryz.prog.cellsOf 67=16 by kernel_rfl] at hl
 refine ⟨hl,?_⟩
 match cs,hl with
 | [v0,v1,v2,v3,v4,v5,v6,v7,v8,v9,v10,v11,v12,v13,v14,v15],_ =>
  obtain ⟨y0,h0⟩:=hf 0 3 0 1 rfl (by kernel_rfl)
  obtain ⟨y1,h1⟩:=hf 1 56 1 5 rfl (by kernel_rfl)
  obtain ⟨y2,h2⟩:=hf 2 59 6 3 rfl (by kernel_rfl)
  obtain ⟨y3,h3⟩:=hf 3 60 9 1 rfl (by kernel_rfl)
  obtain ⟨y4,h4⟩:=hf 4 61 10 1 rfl (by kernel_rfl)
  obtain ⟨y5,h5⟩:=hf 5 3 11 1 rfl (by kernel_rfl)
  obtain ⟨y6,h6⟩:=hf 6 62 12 1 rfl (by kernel_rfl)
  obtain ⟨y7,h7⟩:=hf 7 65 13 2 rfl (by kernel_rfl)
  obtain ⟨y8,h8⟩:=hf 8 4 15 1 rfl (by kernel_rfl)
  obtain ⟨_,a,e0,i0⟩:=Br (w:=w) Tryz.underlying3 H enc n _ _ h0
  obtain ⟨_,b,p0,p1,p2,p3,e1,hK,hZ,hH,hB,iR⟩:=Au5 (w:=w) H enc n _ _ h1
  obtain ⟨_,c,q0,q1,e2,hLB,hLN,iS⟩:=B97 (w:=w) H enc n _ _ h2
  obtain ⟨_,d,_,e3,s3⟩:=Au8 (w:=w) H enc n _ _ h3
  obtain ⟨_,e,_,e4,s4⟩:=Au6 (w:=w) H enc n _ _ h4
  obtain ⟨_,f,e5,i5⟩:=Br (w:=w) Tryz.underlying3 H enc n _ _ h5
  obtain ⟨_,g,_,e6,s6⟩:=Av1 (w:=w) H enc n _ _ h6
  obtain ⟨_,k,r0,e7,i7,s7⟩:=Av3 (w:=w) H enc n _ _ h7
  obtain ⟨_,l,e8⟩:=Kt (w:=w) Tryz.underlying4 H enc n _ _ h8
  simp at e0 e1 e2 e3 e4 e5 e6 e7 e8
  obtain ⟨rfl,rfl,rfl,rfl,rfl⟩:=e1
  obtain ⟨rfl,rfl,rfl⟩:=e2
  obtain ⟨rfl,rfl⟩:=e7
  subst e0 e3 e4 e5 e6 e8
  refine ⟨⟨a,b,c,d,e,f,g,k,l⟩,fun j=>[v1,v2,v3,v4,v6,v7,v9,v10,v12,v14].getD j undef,rfl,⟨i0,iR,iS,i5,i7⟩,hK,hZ,hH,hB,hLB,hLN,s3,s4,s6,s7,?_⟩
  obtain ⟨-,m,hg⟩:=Bq Tryz.underlying59 h2
  obtain ⟨z,hz⟩:=hg 1 57 1 1 rfl (by kernel_rfl)
  obtain ⟨A,cp,rfl,-⟩:=hLN
  exact Af3 Tryz.underlying57 hz
theorem D01 {X:World} {cs:List Value} {x:Msg} (h:C16 X X.heap.size cs x):Av X cs (A31 x):=by
 obtain ⟨vi,vv,vn,vb,rfl,hi,hv⟩:=h
 exact ⟨.val hi.kind,.val hi.from_,.val hi.to_,.val hi.session,.val hi.seq,M7 hv.interest (Nat.le_refl _),J3 hv.vector (Nat.le_refl _),A12 hv.notes,.val hi.object,.val hi.count,.val hi.node,Mj hv.value,trivial⟩
theorem D35 {X:World} {cs:List Value} {x:Hr} (h:Ap0 X X.heap.size cs x):Av X cs (enF x):=by
 obtain ⟨v0,rfl,h1,h2,h⟩:=h
 exact ⟨.val h1,Mj h,.val h2,trivial⟩
def C15 (w:World) (B:Nat) (cs:List Value) (x:Pkt):Prop:=∃ v0 v1,cs=[.int .i64 x.from_,.int .i64 x.to_,v0,v1]/\I64 x.from_/\I64 x.to_/\Z0 w B v0 x.sent/\Z0 w B v1 x.here
theorem B94 {w:World} : Dt Tryz.prog w 74 4 (C15 w w.heap.size):=by
 intro H enc fuel cs x h
 obtain ⟨hl,n,hf⟩:=Bq Tryz.underlying74 h
 rw [show Tryz.prog.cellsOf 74=4 by kernel_rfl] at hl
 refine ⟨hl,?_⟩
 match cs,hl with
 | [v0,v1,v2,v3],_ =>
  obtain ⟨y0,h0⟩:=hf 0 3 0 1 rfl (by kernel_rfl)
  obtain ⟨y1,h1⟩:=hf 1 3 1 1 rfl (by kernel_rfl)
  obtain ⟨y2,h2⟩:=hf 2 44 2 1 rfl (by kernel_rfl)
  obtain ⟨y3,h3⟩:=hf 3 44 3 1 rfl (by kernel_rfl)
  obtain ⟨_,a,e0,i0⟩:=Br (w:=w) Tryz.underlying3 H enc n _ _ h0
  obtain ⟨_,b,e1,i1⟩:=Br (w:=w) Tryz.underlying3 H enc n _ _ h1
  obtain ⟨_,c,_,e2,s2⟩:=Li (w:=w) H enc n _ _ h2
  obtain ⟨_,d,_,e3,s3⟩:=Li (w:=w) H enc n _ _ h3
  simp at e0 e1 e2 e3
  subst e0 e1 e2 e3
  exact ⟨⟨a,b,c,d⟩,_,_,rfl,i0,i1,s2,s3⟩
theorem Au7 {w:World} : Dt Tryz.prog w 23 1 (fun cs l=>∃ v,cs=[v]/\Sl (C15 w w.heap.size) 4 w w.heap.size v l) :=
 Cz Tryz.underlying23 (by kernel_rfl) (by omega) B94
def B54 (w:World) (cs:List Value) (x:Es):Prop:=∃ v,cs=(A13 v x).toList/\K5 x/\C55 w v x
theorem Aj1 {w:World} : Dt Tryz.prog w 22 1 (fun cs l=>∃ v,cs=[v]/\Sl (B54 w) 16 w w.heap.size v l) :=
 Cz Tryz.underlying22 (by kernel_rfl) (by omega) Av0
structure Da1 (w:World) (v0 v1:Value) (x:Clu):Prop where
 nodes:Sl (B54 w) 16 w w.heap.size v0 x.nodes
 net:Sl (C15 w w.heap.size) 4 w w.heap.size v1 x.net
theorem Zg {w:World} : Dt Tryz.prog w 25 2 (fun cs x=>∃ v0 v1,cs=[v0,v1]/\Da1 w v0 v1 x):=by
 intro H enc fuel cs x h
 obtain ⟨hl,n,hf⟩:=Bq Tryz.underlying25 h
 rw [show Tryz.prog.cellsOf 25=2 by kernel_rfl] at hl
 refine ⟨hl,?_⟩
 match cs,hl with
 | [v0,v1],_ =>
  obtain ⟨y0,h0⟩:=hf 0 22 0 1 rfl (by kernel_rfl)
  obtain ⟨y1,h1⟩:=hf 1 23 1 1 rfl (by kernel_rfl)
  obtain ⟨_,a,_,e0,s0⟩:=Aj1 (w:=w) H enc n _ _ h0
  obtain ⟨_,b,_,e1,s1⟩:=Au7 (w:=w) H enc n _ _ h1
  simp at e0 e1
  subst e0 e1
  exact ⟨⟨a,b⟩,_,_,rfl,s0,s1⟩
theorem Cz2 {X:World} {cs:List Value} {x:Pkt} (h:C15 X X.heap.size cs x):Av X cs (Bo5 x):=by
 obtain ⟨v0,v1,rfl,h1,h2,h3,h4⟩:=h
 exact ⟨.val h1,.val h2,Mj h3,Mj h4,trivial⟩
theorem Cb0 {X:World} {cs:List Value} {x:Es} (h:B54 X cs x):Av X cs (Bc7 x):=by
 obtain ⟨v,rfl,⟨iM,iR,iS,iT,iD⟩,h⟩:=h
 exact ⟨.val iM,J3 h.known (Nat.le_refl _),B56 h.zones,Wm h.held (Nat.le_refl _),Az5 h.bodies,.val iR,J3 h.base (Nat.le_refl _),A12 h.notes,.val iS,Bk7 h.outs,Bg8 h.subs,.val iT,C7.of_typed (fun _ _ h=>D01 h) h.queue (Nat.le_refl _),.val iD,C7.of_typed (fun _ _ h=>D35 h) h.files (Nat.le_refl _),.val trivial,trivial⟩
theorem Bz8 {E:Env} {X:World} {v0 v1:Value} {x:Clu} (h:Da1 X v0 v1 x):Au E X (.agg #[v0,v1]) (clA x) :=
 .agg rfl fun j u c a b=>by
  match j,a,b with
  | 0,a,b=>simp at a;simp [clC] at b;subst a b;exact .iv (C7.of_typed (fun _ _ h=>Cb0 h) h.nodes (Nat.le_refl _))
  | 1,a,b=>simp at a;simp [clC] at b;subst a b;exact .iv (C7.of_typed (fun _ _ h=>Cz2 h) h.net (Nat.le_refl _))
  | j+2,a,b=>simp at a
theorem Bl5 {w:World} {B:Nat} {v:Value} {l:List Es} (h:Sl (B54 w) 16 w B v l):∀ x∈l,K5 x:=fun x hx=>by
 obtain ⟨A,c,-,-,-,h3⟩:=h
 obtain ⟨i,hi⟩:=List.mem_iff_getElem?.1 hx
 obtain ⟨b,off,-,-,h4⟩:=h3 (by rintro rfl;cases hx)
 obtain ⟨cs,⟨u,-,hI,-⟩,-⟩:=h4 i x hi
 exact hI
end Go.Proofs.YtahgkllhbggmgaaGreatDoor
