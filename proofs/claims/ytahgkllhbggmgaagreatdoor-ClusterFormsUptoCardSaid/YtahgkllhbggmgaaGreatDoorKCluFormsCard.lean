/- The law ClusterForms: whether any cluster is formed, and what a new one is, is what the reference says. The card (second form: of bulk at most 1048576). -/
import Derived.Test.YtahgkllhbggmgaaGreatDoorKCluForm
import Derived.Test.YtahgkllhbggmgaaGreatDoorKNodeMade
import Derived.Test.YtahgkllhbggmgaaGreatDoorKRefNode2
import Derived.Test.YtahgkllhbggmgaaGreatDoorKDisk
import Derived.Test.YtahgkllhbggmgaaGreatDoorKConTb
import Derived.Test.YtahgkllhbggmgaaGreatDoorKCluFormsCardC
import Derived.Test.YtahgkllhbggmgaaGreatDoorKStreamArgs
import Derived.Test.YtahgkllhbggmgaaGreatDoorKViewEnc
import Derived.OpenShut
import Derived.Test.YtahgkllhbggmgaaGreatDoorKSess
import Derived.Test.YtahgkllhbggmgaaGreatDoorKNodeForm
import Derived.Test.YtahgkllhbggmgaaGreatDoorKCluSpec
set_option linter.all false
set_option linter.unnecessarySimpa false
set_option linter.unusedSimpArgs false
set_option linter.unusedVariables false
namespace Go.Proofs.YtahgkllhbggmgaaGreatDoor
open Go.ChangeShapes Go.WideShapes Go.ChangeAt Go.RowKit
def Bf6 (w:World) (B:Nat) (cs:List Value) (z:Bi):Prop:=∃ v,cs=[.int .i64 z.span.lo,.int .i64 z.span.hi,v]/\I64 z.span.lo/\I64 z.span.hi/\Bq w B v z.vec
theorem Al4 {w:World} : Di Tryz.prog w 180 3 (Bf6 w w.heap.size):=by
 intro H enc fuel cs x h
 obtain ⟨hl,n,hf⟩:=Bb Tryz.underlying180 h
 have hk:Tryz.prog.cellsOf 180=3:=by kernel_rfl
 have hs:Tryz.prog.cellsOf 89=2:=by kernel_rfl
 have hv:Tryz.prog.cellsOf 51=1:=by kernel_rfl
 rw [hk] at hl
 refine ⟨hl,?_⟩
 match cs,hl with
 | [v0,v1,v2],_ =>
  obtain ⟨y0,h0⟩:=hf 0 89 0 2 rfl hs
  obtain ⟨y1,h1⟩:=hf 1 51 2 1 rfl hv
  obtain ⟨_,a,e0,i0,i1⟩:=Vq (w:=w) H enc n _ _ h0
  obtain ⟨_,b,_,e1,s1⟩:=Fp (w:=w) H enc n _ _ h1
  simp at e0 e1
  obtain ⟨rfl,rfl⟩:=e0
  subst e1
  exact ⟨⟨a,b⟩,_,rfl,i0,i1,s1⟩
abbrev Av3 (w:World) (B:Nat) (v:Value) (l:List Bi):Prop:=Sl (Bf6 w B) 3 w B v l
theorem Ab1 {w:World} : Di Tryz.prog w 52 1 (fun cs l=>∃ v,cs=[v]/\Av3 w w.heap.size v l) :=
 Co Tryz.underlying52 (by kernel_rfl) (by omega) Al4
abbrev A55 (w:World) (B:Nat) (v:Value) (l:List Ci):Prop:=Sl (Bg1 w B) 4 w B v l
theorem A10 {w:World} : Di Tryz.prog w 54 1 (fun cs l=>∃ v,cs=[v]/\A55 w w.heap.size v l) :=
 Co Tryz.underlying54 (by kernel_rfl) (by omega) Vr
def Cu7 (w:World) (B:Nat) (cs:List Value) (x:Gb):Prop:=∃ v0 v1 v2 v3,cs=[v0,v1,v2,v3,.int .i64 x.room]/\Bq w B v0 x.known/\Av3 w B v1 x.zones/\Mm w B v2 x.held/\A55 w B v3 x.bodies/\I64 x.room
theorem Al5 {w:World} : Di Tryz.prog w 56 5 (Cu7 w w.heap.size):=by
 intro H enc fuel cs x h
 obtain ⟨hl,n,hf⟩:=Bb Tryz.underlying56 h
 have hk:Tryz.prog.cellsOf 56=5:=by kernel_rfl
 have q0:Tryz.prog.cellsOf 51=1:=by kernel_rfl
 have q1:Tryz.prog.cellsOf 52=1:=by kernel_rfl
 have q2:Tryz.prog.cellsOf 53=1:=by kernel_rfl
 have q3:Tryz.prog.cellsOf 54=1:=by kernel_rfl
 have q4:Tryz.prog.cellsOf 3=1:=by kernel_rfl
 rw [hk] at hl
 refine ⟨hl,?_⟩
 match cs,hl with
 | [v0,v1,v2,v3,v4],_ =>
  obtain ⟨y0,h0⟩:=hf 0 51 0 1 rfl q0
  obtain ⟨y1,h1⟩:=hf 1 52 1 1 rfl q1
  obtain ⟨y2,h2⟩:=hf 2 53 2 1 rfl q2
  obtain ⟨y3,h3⟩:=hf 3 54 3 1 rfl q3
  obtain ⟨y4,h4⟩:=hf 4 3 4 1 rfl q4
  obtain ⟨_,a,_,e0,s0⟩:=Fp (w:=w) H enc n _ _ h0
  obtain ⟨_,b,_,e1,s1⟩:=Ab1 (w:=w) H enc n _ _ h1
  obtain ⟨_,c,_,e2,s2⟩:=Rf (w:=w) H enc n _ _ h2
  obtain ⟨_,d,_,e3,s3⟩:=A10 (w:=w) H enc n _ _ h3
  obtain ⟨_,r,e4,i4⟩:=Ba (w:=w) Tryz.underlying3 H enc n _ _ h4
  simp at e0 e1 e2 e3 e4
  subst e0 e1 e2 e3 e4
  exact ⟨⟨a,b,c,d,r⟩,_,_,_,_,rfl,s0,s1,s2,s3,i4⟩
theorem Ca5 {X:World} {cs:List Value} {x:Bi} (h:Bf6 X X.heap.size cs x):Az X cs (enZ x):=by
 obtain ⟨v0,rfl,h1,h2,h⟩:=h
 exact ⟨.val h1,.val h2,H5 h (Nat.le_refl _),trivial⟩
theorem Av6 {X:World} {v:Value} {l:List Bi} (h:Av3 X X.heap.size v l):C1 X v (znI l):=C1.of_typed (fun _ _ h=>Ca5 h) h (Nat.le_refl _)
theorem Lq {X:World} {v:Value} {l:List Nat} (h:Xc X X.heap.size v l):C1 X v (byI l):=C1.of_typed (enc:=fun (b:Nat)=>[.val (.int .u8 b)]) (fun cs x h=>by
 obtain ⟨rfl,h1⟩:=h
 refine ⟨.val ?_,trivial⟩
 simp [okV,Lit.wf,IntKind.max,IntKind.min,IntKind.signed,IntKind.bits]
 omega) h (Nat.le_refl _)
theorem Ct1 {X:World} {cs:List Value} {x:Ci} (h:Bg1 X X.heap.size cs x):Az X cs (enB x):=by
 obtain ⟨v0,rfl,h1,h2,h3,h⟩:=h
 exact ⟨.val h1,.val h2,.val h3,Lq h,trivial⟩
theorem Aq2 {X:World} {v:Value} {l:List Ci} (h:A55 X X.heap.size v l):C1 X v (boI l):=C1.of_typed (fun _ _ h=>Ct1 h) h (Nat.le_refl _)
theorem B53 {X:World} {v:Value} {l:List Sub} (h:Pj X X.heap.size v l):C1 X v (Hu l):=C1.of_typed (fun _ _ h=>Bh4 h) h (Nat.le_refl _)
theorem A78 {P:Program} {w:World} {H:Type} {enc:TypeId×Value->H} {t e:TypeId} {fuel n c:Nat} {A:Option Addr} {x:DataW H×List MemPlace} (ht:P.underlying t=some (.slice e)) (h:DataW.trod enc P w 0 (fun _=>true) true fuel t [.slice A n c]=some x/\Rows.uptoBulk x.1<=1048576):n<=1048576:=by
 obtain ⟨h,hz⟩:=h
 rcases Go.Deep.open_slice ht h with ⟨e,_⟩ | ⟨a,len,cap,m,n',D,Pl,e,_,hl,hm,hmm,hx,hi⟩
 ·simp only [List.cons.injEq,Value.slice.injEq] at e
  omega
 ·simp only [List.cons.injEq,Value.slice.injEq] at e
  rw [hx] at hz
  simp only [Rows.uptoBulk] at hz
  have hlen:=Tv ((List.range len).map D)
  rw [List.length_map,List.length_range] at hlen
  omega
def Ah2 (w:World) (B:Nat) (cs:List Value) (x:Gu):Prop:=∃ v,cs=[.int .i64 x.number,v,.int .i64 x.sure]/\I64 x.number/\I64 x.sure/\Xc w B v x.bytes
theorem Am3 {w:World} : Di Tryz.prog w 172 3 (Ah2 w w.heap.size):=by
 intro H enc fuel cs x h
 obtain ⟨hl,n,hf⟩:=Bb Tryz.underlying172 h
 rw [show Tryz.prog.cellsOf 172=3 by kernel_rfl] at hl
 refine ⟨hl,?_⟩
 match cs,hl with
 | [v0,v1,v2],_ =>
  obtain ⟨y0,h0⟩:=hf 0 3 0 1 rfl (by kernel_rfl)
  obtain ⟨y1,h1⟩:=hf 1 44 1 1 rfl (by kernel_rfl)
  obtain ⟨y2,h2⟩:=hf 2 3 2 1 rfl (by kernel_rfl)
  obtain ⟨_,a,e0,i0⟩:=Ba (w:=w) Tryz.underlying3 H enc n _ _ h0
  obtain ⟨_,b,_,e1,s1⟩:=Kr (w:=w) H enc n _ _ h1
  obtain ⟨_,c,e2,i2⟩:=Ba (w:=w) Tryz.underlying3 H enc n _ _ h2
  simp at e0 e1 e2
  subst e0 e1 e2
  exact ⟨⟨a,b,c⟩,_,rfl,i0,i2,s1⟩
theorem Ab4 {w:World} : Di Tryz.prog w 63 1 (fun cs l=>∃ v,cs=[v]/\Sl (Ah2 w w.heap.size) 3 w w.heap.size v l) :=
 Co Tryz.underlying63 (by kernel_rfl) (by omega) Am3
theorem Am2 {w:World} : Di Tryz.prog w 62 1 (fun cs l=>∃ v,cs=[v]/\Sl (Bn7 w w.heap.size) 12 w w.heap.size v l) :=
 Co Tryz.underlying62 (by kernel_rfl) (by omega) Az1
def Cv4 (w:World) (B:Nat) (cs:List Value) (x:Jc):Prop:=∃ v,cs=[.int .i64 x.room,v]/\I64 x.room/\Sl (Ah2 w B) 3 w B v x.files
theorem Am4 {w:World} : Di Tryz.prog w 65 2 (Cv4 w w.heap.size):=by
 intro H enc fuel cs x h
 obtain ⟨hl,n,hf⟩:=Bb Tryz.underlying65 h
 rw [show Tryz.prog.cellsOf 65=2 by kernel_rfl] at hl
 refine ⟨hl,?_⟩
 match cs,hl with
 | [v0,v1],_ =>
  obtain ⟨y0,h0⟩:=hf 0 3 0 1 rfl (by kernel_rfl)
  obtain ⟨y1,h1⟩:=hf 1 63 1 1 rfl (by kernel_rfl)
  obtain ⟨_,a,e0,i0⟩:=Ba (w:=w) Tryz.underlying3 H enc n _ _ h0
  obtain ⟨_,b,_,e1,s1⟩:=Ab4 (w:=w) H enc n _ _ h1
  simp at e0 e1
  subst e0 e1
  exact ⟨⟨a,b⟩,_,rfl,i0,s1⟩
structure Br6 (w:World) (v:Nat->Value) (x:En):Prop where
 known:Bq w w.heap.size (v 0) x.view.known
 zones:Av3 w w.heap.size (v 1) x.view.zones
 held:Mm w w.heap.size (v 2) x.view.held
 bodies:A55 w w.heap.size (v 3) x.view.bodies
 base:Bq w w.heap.size (v 4) x.log.base
 notes:Ah1 w w.heap.size (v 5) x.log.notes
 outs:T2 w w.heap.size (v 6) x.outs
 subs:Pj w w.heap.size (v 7) x.subs
 queue:Sl (Bn7 w w.heap.size) 12 w w.heap.size (v 8) x.queue
 files:Sl (Ah2 w w.heap.size) 3 w w.heap.size (v 9) x.disk.files
 small:x.log.notes.length<=1048576
def Ym (v:Nat->Value) (x:En):Array Value:=#[.int .i64 x.me,v 0,v 1,v 2,v 3,.int .i64 x.view.room,v 4,v 5,.int .i64 x.log.sure,v 6,v 7,.int .i64 x.tries,v 8,.int .i64 x.disk.room,v 9,.bool x.down]
theorem Am1 {w:World} : Di Tryz.prog w 67 16 (fun cs x=>∃ v,cs=(Ym v x).toList/\Fv x/\Br6 w v x):=by
 intro H enc fuel cs x h
 obtain ⟨hl,n,hf⟩:=Bb Tryz.underlying67 h
 rw [show Tryz.prog.cellsOf 67=16 by kernel_rfl] at hl
 refine ⟨hl,?_⟩
 match cs,hl with
 | [v0,v1,v2,v3,v4,v5,v6,v7,v8,v9,v10,v11,v12,v13,v14,v15],_ =>
  obtain ⟨y0,h0⟩:=hf 0 3 0 1 rfl (by kernel_rfl)
  obtain ⟨y1,h1⟩:=hf 1 56 1 5 rfl (by kernel_rfl)
  obtain ⟨y2,h2⟩:=hf 2 59 6 3 rfl (by kernel_rfl)
  obtain ⟨y3,h3⟩:=hf 3 60 9 1 rfl (by kernel_rfl)
  obtain ⟨y4,h4⟩:=hf 4 61 10 1 rfl (by kernel_rfl)
  obtain ⟨y5,h5⟩:=hf 5 3 11 1 rfl (by kernel_rfl)
  obtain ⟨y6,h6⟩:=hf 6 62 12 1 rfl (by kernel_rfl)
  obtain ⟨y7,h7⟩:=hf 7 65 13 2 rfl (by kernel_rfl)
  obtain ⟨y8,h8⟩:=hf 8 4 15 1 rfl (by kernel_rfl)
  obtain ⟨_,a,e0,i0⟩:=Ba (w:=w) Tryz.underlying3 H enc n _ _ h0
  obtain ⟨_,b,p0,p1,p2,p3,e1,hK,hZ,hH,hB,iR⟩:=Al5 (w:=w) H enc n _ _ h1
  obtain ⟨_,c,q0,q1,e2,hLB,hLN,iS⟩:=Az2 (w:=w) H enc n _ _ h2
  obtain ⟨_,d,_,e3,s3⟩:=Al9 (w:=w) H enc n _ _ h3
  obtain ⟨_,e,_,e4,s4⟩:=Al6 (w:=w) H enc n _ _ h4
  obtain ⟨_,f,e5,i5⟩:=Ba (w:=w) Tryz.underlying3 H enc n _ _ h5
  obtain ⟨_,g,_,e6,s6⟩:=Am2 (w:=w) H enc n _ _ h6
  obtain ⟨_,k,r0,e7,i7,s7⟩:=Am4 (w:=w) H enc n _ _ h7
  obtain ⟨_,l,e8⟩:=Jy (w:=w) Tryz.underlying4 H enc n _ _ h8
  simp at e0 e1 e2 e3 e4 e5 e6 e7 e8
  obtain ⟨rfl,rfl,rfl,rfl,rfl⟩:=e1
  obtain ⟨rfl,rfl,rfl⟩:=e2
  obtain ⟨rfl,rfl⟩:=e7
  subst e0 e3 e4 e5 e6 e8
  refine ⟨⟨a,b,c,d,e,f,g,k,l⟩,fun j=>[v1,v2,v3,v4,v6,v7,v9,v10,v12,v14].getD j undef,rfl,⟨i0,iR,iS,i5,i7⟩,hK,hZ,hH,hB,hLB,hLN,s3,s4,s6,s7,?_⟩
  obtain ⟨-,m,hg⟩:=Bb Tryz.underlying59 h2
  obtain ⟨z,hz⟩:=hg 1 57 1 1 rfl (by kernel_rfl)
  obtain ⟨A,cp,rfl,-⟩:=hLN
  exact A78 Tryz.underlying57 hz
theorem Cm1 {X:World} {cs:List Value} {x:Msg} (h:Bn7 X X.heap.size cs x):Az X cs (Z4 x):=by
 obtain ⟨vi,vv,vn,vb,rfl,hi,hv⟩:=h
 exact ⟨.val hi.kind,.val hi.from_,.val hi.to_,.val hi.session,.val hi.seq,Nw hv.interest (Nat.le_refl _),H5 hv.vector (Nat.le_refl _),Yl hv.notes,.val hi.object,.val hi.count,.val hi.node,Lq hv.value,trivial⟩
theorem Cp4 {X:World} {cs:List Value} {x:Gu} (h:Ah2 X X.heap.size cs x):Az X cs (enF x):=by
 obtain ⟨v0,rfl,h1,h2,h⟩:=h
 exact ⟨.val h1,Lq h,.val h2,trivial⟩
theorem Aw5 {E:Env} {X:World} {a b c:Int} : At E X (.agg #[.int .i64 a,.int .i64 b,.int .i64 c]) (.agg [.val (.int .i64 a),.val (.int .i64 b),.val (.int .i64 c)]) :=
 .agg rfl fun j v x e1 e2=>by
  match j,e1,e2 with
  | 0,a,b=>simp at a b;subst a b;exact .val
  | 1,a,b=>simp at a b;subst a b;exact .val
  | 2,a,b=>simp at a b;subst a b;exact .val
  | j+3,a,b=>simp at a
def Bn6 (w:World) (B:Nat) (cs:List Value) (x:Pkt):Prop:=∃ v0 v1,cs=[.int .i64 x.from_,.int .i64 x.to_,v0,v1]/\I64 x.from_/\I64 x.to_/\Xc w B v0 x.sent/\Xc w B v1 x.here
theorem Ay9 {w:World} : Di Tryz.prog w 74 4 (Bn6 w w.heap.size):=by
 intro H enc fuel cs x h
 obtain ⟨hl,n,hf⟩:=Bb Tryz.underlying74 h
 rw [show Tryz.prog.cellsOf 74=4 by kernel_rfl] at hl
 refine ⟨hl,?_⟩
 match cs,hl with
 | [v0,v1,v2,v3],_ =>
  obtain ⟨y0,h0⟩:=hf 0 3 0 1 rfl (by kernel_rfl)
  obtain ⟨y1,h1⟩:=hf 1 3 1 1 rfl (by kernel_rfl)
  obtain ⟨y2,h2⟩:=hf 2 44 2 1 rfl (by kernel_rfl)
  obtain ⟨y3,h3⟩:=hf 3 44 3 1 rfl (by kernel_rfl)
  obtain ⟨_,a,e0,i0⟩:=Ba (w:=w) Tryz.underlying3 H enc n _ _ h0
  obtain ⟨_,b,e1,i1⟩:=Ba (w:=w) Tryz.underlying3 H enc n _ _ h1
  obtain ⟨_,c,_,e2,s2⟩:=Kr (w:=w) H enc n _ _ h2
  obtain ⟨_,d,_,e3,s3⟩:=Kr (w:=w) H enc n _ _ h3
  simp at e0 e1 e2 e3
  subst e0 e1 e2 e3
  exact ⟨⟨a,b,c,d⟩,_,_,rfl,i0,i1,s2,s3⟩
theorem Al8 {w:World} : Di Tryz.prog w 23 1 (fun cs l=>∃ v,cs=[v]/\Sl (Bn6 w w.heap.size) 4 w w.heap.size v l) :=
 Co Tryz.underlying23 (by kernel_rfl) (by omega) Ay9
def Av4 (w:World) (cs:List Value) (x:En):Prop:=∃ v,cs=(Ym v x).toList/\Fv x/\Br6 w v x
theorem Ab3 {w:World} : Di Tryz.prog w 22 1 (fun cs l=>∃ v,cs=[v]/\Sl (Av4 w) 16 w w.heap.size v l) :=
 Co Tryz.underlying22 (by kernel_rfl) (by omega) Am1
structure Cv5 (w:World) (v0 v1:Value) (x:Clu):Prop where
 nodes:Sl (Av4 w) 16 w w.heap.size v0 x.nodes
 net:Sl (Bn6 w w.heap.size) 4 w w.heap.size v1 x.net
theorem Px {w:World} : Di Tryz.prog w 25 2 (fun cs x=>∃ v0 v1,cs=[v0,v1]/\Cv5 w v0 v1 x):=by
 intro H enc fuel cs x h
 obtain ⟨hl,n,hf⟩:=Bb Tryz.underlying25 h
 rw [show Tryz.prog.cellsOf 25=2 by kernel_rfl] at hl
 refine ⟨hl,?_⟩
 match cs,hl with
 | [v0,v1],_ =>
  obtain ⟨y0,h0⟩:=hf 0 22 0 1 rfl (by kernel_rfl)
  obtain ⟨y1,h1⟩:=hf 1 23 1 1 rfl (by kernel_rfl)
  obtain ⟨_,a,_,e0,s0⟩:=Ab3 (w:=w) H enc n _ _ h0
  obtain ⟨_,b,_,e1,s1⟩:=Al8 (w:=w) H enc n _ _ h1
  simp at e0 e1
  subst e0 e1
  exact ⟨⟨a,b⟩,_,_,rfl,s0,s1⟩
theorem Cl2 {X:World} {cs:List Value} {x:Pkt} (h:Bn6 X X.heap.size cs x):Az X cs (Bc5 x):=by
 obtain ⟨v0,v1,rfl,h1,h2,h3,h4⟩:=h
 exact ⟨.val h1,.val h2,Lq h3,Lq h4,trivial⟩
theorem Bw8 {X:World} {cs:List Value} {x:En} (h:Av4 X cs x):Az X cs (B16 x):=by
 obtain ⟨v,rfl,⟨iM,iR,iS,iT,iD⟩,h⟩:=h
 exact ⟨.val iM,H5 h.known (Nat.le_refl _),Av6 h.zones,Up h.held (Nat.le_refl _),Aq2 h.bodies,.val iR,H5 h.base (Nat.le_refl _),Yl h.notes,.val iS,B89 h.outs,B53 h.subs,.val iT,C1.of_typed (fun _ _ h=>Cm1 h) h.queue (Nat.le_refl _),.val iD,C1.of_typed (fun _ _ h=>Cp4 h) h.files (Nat.le_refl _),.val trivial,trivial⟩
theorem Au7 {E:Env} {X:World} {v0 v1:Value} {x:Clu} (h:Cv5 X v0 v1 x):At E X (.agg #[v0,v1]) (clA x) :=
 .agg rfl fun j u c a b=>by
  match j,a,b with
  | 0,a,b=>simp at a;simp [clC] at b;subst a b;exact .iv (C1.of_typed (fun _ _ h=>Bw8 h) h.nodes (Nat.le_refl _))
  | 1,a,b=>simp at a;simp [clC] at b;subst a b;exact .iv (C1.of_typed (fun _ _ h=>Cl2 h) h.net (Nat.le_refl _))
  | j+2,a,b=>simp at a
theorem Ac4 {w:World} {B:Nat} {v:Value} {l:List En} (h:Sl (Av4 w) 16 w B v l):∀ x∈l,Fv x:=fun x hx=>by
 obtain ⟨A,c,-,-,-,h3⟩:=h
 obtain ⟨i,hi⟩:=List.mem_iff_getElem?.1 hx
 obtain ⟨b,off,-,-,h4⟩:=h3 (by rintro rfl;cases hx)
 obtain ⟨cs,⟨u,-,hI,-⟩,-⟩:=h4 i x hi
 exact hI
theorem Al7 {w:World} : Di Tryz.prog w 27 3 (fun cs (x:Int×Int×Int)=>cs=[.int .i64 x.1,.int .i64 x.2.1,.int .i64 x.2.2]/\I64 x.1/\I64 x.2.1/\I64 x.2.2):=by
 intro H enc fuel cs x h
 obtain ⟨hl,n,hf⟩:=Bb Tryz.underlying27 h
 rw [show Tryz.prog.cellsOf 27=3 by kernel_rfl] at hl
 refine ⟨hl,?_⟩
 match cs,hl with
 | [v0,v1,v2],_ =>
  obtain ⟨y0,h0⟩:=hf 0 3 0 1 rfl (by kernel_rfl)
  obtain ⟨y1,h1⟩:=hf 1 3 1 1 rfl (by kernel_rfl)
  obtain ⟨y2,h2⟩:=hf 2 3 2 1 rfl (by kernel_rfl)
  obtain ⟨_,a,e0,i0⟩:=Ba (w:=w) Tryz.underlying3 H enc n _ _ h0
  obtain ⟨_,b,e1,i1⟩:=Ba (w:=w) Tryz.underlying3 H enc n _ _ h1
  obtain ⟨_,c,e2,i2⟩:=Ba (w:=w) Tryz.underlying3 H enc n _ _ h2
  simp at e0 e1 e2
  subst e0 e1 e2
  exact ⟨(a,b,c),rfl,i0,i1,i2⟩
theorem Ax0 {E:Env} {X:World} {s:Ad} : At E X (.agg #[.int .i64 s.count,.int .i64 s.node]) (.agg [.val (.int .i64 s.count),.val (.int .i64 s.node)]) :=
 .agg rfl fun j v x e1 e2=>by
  match j,e1,e2 with
  | 0,a,b=>simp at a b;subst a b;exact .val
  | 1,a,b=>simp at a b;subst a b;exact .val
  | j+2,a,b=>simp at a
end Go.Proofs.YtahgkllhbggmgaaGreatDoor
namespace Go.Proofs.YtahgkllhbggmgaaGreatDoor
open Go.ChangeShapes Go.WideShapes Go.ChangeAt Go.RowKit
def Ma (room bodies:Int) (k:Nat):List En:=(List.range k).map fun i:Nat=>(K1 i room bodies).1
def U2 (nodes room bodies:Int):Clu×Int:=if 1<=nodes/\nodes<=64 then (if (K1 0 room bodies).2=0 then (⟨Ma room bodies nodes.toNat,[]⟩,0) else (⟨[],[]⟩,(K1 0 room bodies).2)) else (⟨[],[]⟩,1)
theorem Ba2 {i room bodies:Int} (h:0<=i/\i < 64):(K1 i room bodies).2=(K1 0 room bodies).2:=by
 unfold K1
 split<;>split<;>simp_all
theorem A17 {me room bodies:Int} (iM:I64 me) (iR:I64 room) (iB:I64 bodies):Fv (K1 me room bodies).1:=by
 unfold K1
 split
 ·exact ⟨iM,iB,rfl,rfl,iR⟩
 ·exact ⟨rfl,rfl,rfl,rfl,rfl⟩
theorem Tm (room bodies:Int) (k:Nat):Ma room bodies (k+1)=Ma room bodies k++[(K1 k room bodies).1]:=by
 unfold Ma
 rw [List.range_succ,List.map_append]
 rfl
theorem W5 (room bodies:Int) (k:Nat):(Ma room bodies k).length=k:=by simp [Ma]
attribute [local irreducible] AW AWY Bd As vop B4 Ap Aw qop Bc Bs Ai Ag Ay A7 Av
attribute [local go_sem] Ue A07 A37 An4 X2 X1 J9 Gm Ae Af
theorem Kx {c:Clu} {e:Int} {x:AV} (hx:Em x (.iv (ndI c.nodes))) (hn:c.net=[]):Em (.tup [.agg [x,.val (.slice none 0 0)],.val (.int .i64 e)]) (.tup [clA c,.val (.int .i64 e)]):=by
 refine Lz rfl fun p hp=>?_
 simp only [List.zip_cons_cons,List.zip_nil_right,List.mem_cons,List.not_mem_nil,or_false] at hp
 rcases hp with rfl | rfl
 ·rw [X2,X1,hn]
  refine L0 rfl fun p hp=>?_
  simp only [List.zip_cons_cons,List.zip_nil_right,List.mem_cons,List.not_mem_nil,or_false] at hp
  rcases hp with rfl | rfl
  ·exact hx
  ·exact Bx 4
 ·exact Em.rfl_ _
set_option maxRecDepth 100000 in
set_option maxHeartbeats 1600000 in
theorem B21 (n r b:Int) (i1:I64 n) (i2:I64 r) (i3:I64 b):A7 Tryz.prog A8 8 [.agg [.val (.int .i64 n),.val (.int .i64 r),.val (.int .i64 b)]] (.tup [clA (U2 n r b).1,.val (.int .i64 (U2 n r b).2)]) []:=by
 refine A7.ofS (n:=43) (rs:=[.cell 2 25,.tmp 3]) Tryz.func8 rfl (by kernel_rfl) Tryz.ntmps8 (by kernel_rfl) (by simp) (fun _ _=>A8.later) ?_
 intro hok V w0
 obtain ⟨R,hR⟩ : ∃ R,U2 n r b=R:=⟨_,rfl⟩
 rw [hR]
 unfold U2 at hR
 refine g ?_
 refine AW.seq ?_
 refine AW.reg rfl fun KK hKK=>?_
 refine g ?_
 repeat' (refine hKK _ (g ?_);clear hKK KK)
 refine AW.freeze 200 _ rfl ⟨i1,i2,i3,trivial⟩ ?_
 simp only [go_sem,reduceIte,Nat.reduceEqDiff]
 refine g ?_
 repeat' (first | refine st_ rfl (g ?_) | refine Aj (fun h=>g ?_) (fun h=>g ?_) | (refine B7 rfl rfl (fun h e=>?_) (fun h e=>?_)<;>simp only [e]<;>clear e<;>refine g ?_))
 ·rw [if_neg (by omega)] at hR
  subst hR
  exact Kx (Bx 16) rfl
 ·rw [if_neg (by omega)] at hR
  subst hR
  exact Kx (Bx 16) rfl
 obtain ⟨N,rfl⟩ : ∃ N:Nat,n=(N:Int):=⟨n.toNat,by omega⟩
 rw [if_pos (by omega),Int.toNat_natCast] at hR
 refine AW.adoptC 500 0 50000 67 16 rfl rfl rfl ?_
 refine AW.loop (fun m:{m:Nat // m<=N/\(m=0\/(K1 0 r b).2=0)}=>⟨[(1,.ip [.val (.int .i64 (N:Nat)),.val (.int .i64 r),.val (.int .i64 b)]),(2,.bp 300 0),(4,.bp 500 0),(18,.val (.int .i64 (N:Nat))),(19,.val (.int .i64 (m.1:Nat)))],[.row 50000 67 16 ((Ma r b m.1).map B16),.box 500 [.own 50000,.val (.slice none 0 0)],.box 300 [.val (.slice none 0 0),.val (.slice none 0 0)]]⟩) (fun m=>N - m.1) ⟨0,Nat.zero_le _,.inl rfl⟩ id ⟨⟨rfl,rfl,rfl,rfl,rfl,trivial⟩,⟨rfl,rfl,rfl,trivial⟩,by simp [D4,BA.id]⟩ fun ⟨m,hm,hz⟩=>?_
 simp only
 have hml:=W5 r b m
 repeat (refine AW.seq ?_)
 refine AW.reg rfl fun KK hKK=>?_
 refine g ?_
 repeat' (refine hKK _ (g ?_);clear hKK KK)
 repeat (refine AW.seq ?_)
 refine st_ rfl ?_
 refine g ?_
 refine Aj (fun h=>?_) (fun h=>?_)
 ·have hlt:m < N:=by omega
  have he:(K1 m r b).2=(K1 0 r b).2:=Ba2 (by omega)
  have iM:I64 (m:Int):=I64.of (by omega) (by omega)
  obtain ⟨jM,jR,jS,jT,jD⟩:=A17 (me:=m) iM i2 i3
  refine st_ rfl (g ?_)
  refine g ?_
  repeat' (first | refine st_ rfl (g ?_) | refine Aj (fun h=>g ?_) (fun h=>g ?_) | refine Aa (B00 m r b iM i2 i3) rfl (g ?_))
  ·rw [if_neg (by rw [<-he];exact h)] at hR
   rw [he]
   subst hR
   exact Kx (Bx 16) rfl
  ·refine bs1 (by omega) rfl rfl rfl ⟨jM,trivial,trivial,trivial,trivial,jR,trivial,trivial,jS,trivial,trivial,jT,trivial,jD,trivial,trivial,trivial⟩ ?_
   refine g ?_
   refine X9 rfl (by kernel_rfl) (by omega) (by kernel_rfl) rfl (by rw [List.length_map,hml];simp;omega) ?_
   refine g ?_
   repeat' refine st_ rfl (g ?_)
   refine ⟨⟨m+1,hlt,.inr (by rw [<-he];exact Decidable.not_not.1 h)⟩,fun b=>if b=50000 then 4000 else b,⟨⟨rfl,rfl,rfl,rfl,rfl,trivial⟩,⟨?_,rfl,rfl,trivial⟩,by simp [D4,BA.id]⟩,by show N - (m+1) < N - m;omega⟩
   rw [Tm,List.map_append]
   rfl
 ·refine AW.exit ?_
  simp only [reduceIte]
  refine AW.freeze 50000 _ rfl trivial ?_
  simp only [go_sem,reduceIte,Nat.reduceEqDiff]
  refine g ?_
  repeat' refine st_ rfl (g ?_)
  obtain rfl:m=N:=by omega
  rw [if_pos (hz.resolve_left (by omega))] at hR
  subst hR
  exact Kx (Em.rfl_ _) rfl
set_option maxRecDepth 100000 in
set_option maxHeartbeats 1600000 in
theorem Ak9 (n r b:Int) (i1:I64 n) (i2:I64 r) (i3:I64 b):A7 Tryz.prog A8 9 [.agg [.val (.int .i64 n),.val (.int .i64 r),.val (.int .i64 b)]] (.tup [clA (U2 n r b).1,.val (.int .i64 (U2 n r b).2)]) []:=by
 refine A7.ofS (n:=44) (rs:=[.cell 2 25,.tmp 3]) Tryz.func9 rfl (by kernel_rfl) Tryz.ntmps9 (by kernel_rfl) (by simp) (fun _ _=>A8.later) ?_
 intro hok V w0
 obtain ⟨R,hR⟩ : ∃ R,U2 n r b=R:=⟨_,rfl⟩
 rw [hR]
 unfold U2 at hR
 refine g ?_
 refine AW.seq ?_
 refine AW.reg rfl fun KK hKK=>?_
 refine g ?_
 repeat' (refine hKK _ (g ?_);clear hKK KK)
 refine AW.freeze 200 _ rfl ⟨i1,i2,i3,trivial⟩ ?_
 simp only [go_sem,reduceIte,Nat.reduceEqDiff]
 refine g ?_
 repeat' (first | refine st_ rfl (g ?_) | refine Aj (fun h=>g ?_) (fun h=>g ?_) | (refine B7 rfl rfl (fun h e=>?_) (fun h e=>?_)<;>simp only [e]<;>clear e<;>refine g ?_))
 ·rw [if_neg (by omega)] at hR
  subst hR
  exact Kx (Bx 16) rfl
 ·rw [if_neg (by omega)] at hR
  subst hR
  exact Kx (Bx 16) rfl
 obtain ⟨N,rfl⟩ : ∃ N:Nat,n=(N:Int):=⟨n.toNat,by omega⟩
 rw [if_pos (by omega),Int.toNat_natCast] at hR
 refine AW.adoptC 500 0 50000 67 16 rfl rfl rfl ?_
 refine AW.loop (fun m:{m:Nat // m<=N/\(m=0\/(K1 0 r b).2=0)}=>⟨[(1,.ip [.val (.int .i64 (N:Nat)),.val (.int .i64 r),.val (.int .i64 b)]),(2,.bp 300 0),(4,.bp 500 0),(5,.val (.int .i64 (m.1:Nat)))],[.row 50000 67 16 ((Ma r b m.1).map B16),.box 500 [.own 50000,.val (.slice none 0 0)],.box 300 [.val (.slice none 0 0),.val (.slice none 0 0)]]⟩) (fun m=>N - m.1) ⟨0,Nat.zero_le _,.inl rfl⟩ id ⟨⟨rfl,rfl,rfl,rfl,trivial⟩,⟨rfl,rfl,rfl,trivial⟩,by simp [D4,BA.id]⟩ fun ⟨m,hm,hz⟩=>?_
 simp only
 have hml:=W5 r b m
 repeat (refine AW.seq ?_)
 refine AW.reg rfl fun KK hKK=>?_
 refine g ?_
 repeat' (refine hKK _ (g ?_);clear hKK KK)
 repeat (refine AW.seq ?_)
 refine st_ rfl ?_
 refine g ?_
 refine Aj (fun h=>?_) (fun h=>?_)
 ·have hlt:m < N:=by omega
  have he:(K1 m r b).2=(K1 0 r b).2:=Ba2 (by omega)
  have iM:I64 (m:Int):=I64.of (by omega) (by omega)
  obtain ⟨jM,jR,jS,jT,jD⟩:=A17 (me:=m) iM i2 i3
  refine st_ rfl (g ?_)
  refine g ?_
  repeat' (first | refine st_ rfl (g ?_) | refine Aj (fun h=>g ?_) (fun h=>g ?_) | refine Aa (Ak0 m r b) rfl (g ?_))
  ·rw [if_neg (by rw [<-he];exact h)] at hR
   rw [he]
   subst hR
   exact Kx (Bx 16) rfl
  ·refine bs1 (by omega) rfl rfl rfl ⟨jM,trivial,trivial,trivial,trivial,jR,trivial,trivial,jS,trivial,trivial,jT,trivial,jD,trivial,trivial,trivial⟩ ?_
   refine g ?_
   refine X9 rfl (by kernel_rfl) (by omega) (by kernel_rfl) rfl (by rw [List.length_map,hml];simp;omega) ?_
   refine g ?_
   repeat' refine st_ rfl (g ?_)
   refine ⟨⟨m+1,hlt,.inr (by rw [<-he];exact Decidable.not_not.1 h)⟩,fun b=>if b=50000 then 4200 else b,⟨⟨rfl,rfl,rfl,rfl,trivial⟩,⟨?_,rfl,rfl,trivial⟩,by simp [D4,BA.id]⟩,by show N - (m+1) < N - m;omega⟩
   rw [Tm,List.map_append]
   rfl
 ·refine AW.exit ?_
  simp only [reduceIte]
  refine AW.freeze 50000 _ rfl trivial ?_
  simp only [go_sem,reduceIte,Nat.reduceEqDiff]
  refine g ?_
  repeat' refine st_ rfl (g ?_)
  obtain rfl:m=N:=by omega
  rw [if_pos (hz.resolve_left (by omega))] at hR
  subst hR
  exact Kx (Em.rfl_ _) rfl
set_option maxRecDepth 100000 in
theorem Zw:A7 Tryz.prog A8 32 [.iv (pkI []),.iv (pkI [])] (.val (.bool true)) []:=by
 refine A7.of (n:=55) (rs:=[.tmp 4]) Tryz.func32 rfl (by kernel_rfl) Tryz.ntmps32 (by kernel_rfl) (by simp) (fun _ _=>A8.later) ?_
 intro hok V w0
 refine g ?_
 repeat' refine st_ rfl (g ?_)
 refine AW.once ?_
 refine g ?_
 repeat' (first | refine st_ rfl (g ?_) | exact trivial)
set_option maxRecDepth 100000 in
theorem A89 (c:Clu) (hI:∀ x∈c.nodes,Fv x):A7 Tryz.prog A8 31 [clA c,clA c] (.val (.bool true)) []:=by
 refine A7.of (n:=32) (rs:=[.tmp 4]) Tryz.func31 rfl (by kernel_rfl) Tryz.ntmps31 (by kernel_rfl) (by simp) (fun _ _=>A8.later) ?_
 intro hok V w0
 have hlen:c.nodes.length<=1073741824:=by simpa [ndI] using hok.1.1.1
 refine g ?_
 refine AW.seq ?_
 refine AW.reg rfl fun KK hKK=>?_
 refine g ?_
 repeat' (refine hKK _ (g ?_);clear hKK KK)
 refine AW.freeze 300 _ rfl ⟨trivial,trivial,trivial⟩ ?_
 simp only [go_sem,reduceIte,Nat.reduceEqDiff]
 refine AW.freeze 400 _ rfl ⟨trivial,trivial,trivial⟩ ?_
 simp only [go_sem,reduceIte,Nat.reduceEqDiff]
 refine g ?_
 repeat' refine st_ rfl (g ?_)
 refine AW.loop (fun m:{m:Nat // m<=c.nodes.length}=>⟨[(2,.ip [ndI c.nodes,pkI c.net]),(3,.ip [ndI c.nodes,pkI c.net]),(5,.val (.int .i64 (m.1:Nat)))],[]⟩) (fun m=>c.nodes.length - m.1) ⟨0,Nat.zero_le _⟩ id ⟨⟨rfl,rfl,rfl,trivial⟩,trivial,List.nodup_nil⟩ fun ⟨m,hm⟩=>?_
 simp only
 repeat (refine AW.seq ?_)
 refine AW.reg rfl fun KK hKK=>?_
 refine g ?_
 repeat' (refine hKK _ (g ?_);clear hKK KK)
 repeat (refine AW.seq ?_)
 refine st_ rfl ?_
 refine g ?_
 refine Aj (fun h=>?_) (fun h=>?_)
 ·have hlt:m < c.nodes.length:=by omega
  have hs:=Zx c.nodes[m] (hI _ (List.getElem_mem hlt))
  refine st_ rfl (g ?_)
  refine AW.seq ?_
  refine AW.block ?_
  repeat (refine AW.seq ?_)
  refine AW.drawn (ds:=[20,21,22,23,24,25,26,27,28,29,30,31]) (fin:=[]) (bs:=[0,0,0,0,0,0,0,0,0,0,0,0]) [⟨[],[],[],[],0⟩,⟨[(20,0)],[],[],[],0⟩,⟨[],[],[],[],0⟩,⟨[(21,1),(22,2)],[],[],[],0⟩,⟨[(23,3)],[],[],[],0⟩,⟨[],[],[],[],0⟩,⟨[(25,5)],[],[],[],0⟩,⟨[],[],[],[],0⟩,⟨[(26,6),(27,7)],[],[],[],0⟩,⟨[(28,8)],[],[],[],0⟩,⟨[(24,4),(29,9)],[],[],[],0⟩,⟨[(30,10)],[],[],[],0⟩] (by kernel_rfl) rfl (by kernel_rfl) rfl rfl rfl fun KD hKD=>?_
  refine g ?_
  repeat' (first | refine st_ rfl (g ?_) | (refine hKD _ _ ⟨rfl,g ?_⟩;clear hKD KD) | refine ix_ (by omega) (g ?_) | refine Aa (hs) rfl (g ?_))
  exact ⟨⟨m+1,hlt⟩,id,⟨⟨rfl,rfl,rfl,trivial⟩,trivial,List.nodup_nil⟩,by show c.nodes.length - (m+1) < c.nodes.length - m;omega⟩
 ·refine AW.exit ?_
  simp only [reduceIte]
  refine g ?_
  repeat' (first | refine st_ rfl (g ?_) | exact trivial)
theorem A99 (c:Clu) (hn:c.net=[]) (hI:∀ x∈c.nodes,Fv x):A7 Tryz.prog A8 12 [clA c,clA c] (.val (.bool true)) []:=by
 have h1:=A89 c hI
 have h2:=Zw
 rw [<-hn] at h2
 refine A7.of (n:=15) (rs:=[.tmp 4]) Tryz.func12 rfl (by kernel_rfl) Tryz.ntmps12 (by kernel_rfl) (by simp) (fun _ _=>A8.later) ?_
 intro hok V w0
 refine g ?_
 repeat' (first | refine st_ rfl (g ?_) | exact trivial | refine Aa (h1) rfl (g ?_) | refine Aa (h2) rfl (g ?_))
end Go.Proofs.YtahgkllhbggmgaaGreatDoor
namespace Go.Proofs.YtahgkllhbggmgaaGreatDoor
open Go.ChangeShapes Go.WideShapes Go.ChangeAt Go.RowKit
theorem Bj7 {n r b:Int} (i2:I64 r) (i3:I64 b):(U2 n r b).1.net=[]/\∀ x∈(U2 n r b).1.nodes,Fv x:=by
 unfold U2
 split
 ·split
  ·refine ⟨rfl,fun x hx=>?_⟩
   simp only [Ma,List.mem_map,List.mem_range] at hx
   obtain ⟨i,hi,rfl⟩:=hx
   exact A17 (I64.of (by omega) (by omega)) i2 i3
  ·exact ⟨rfl,fun x hx=>by cases hx⟩
 ·exact ⟨rfl,fun x hx=>by cases hx⟩
attribute [local irreducible] AW AWY Bd As vop B4 Ap Aw qop Bc Bs Ai Ag Ay A7 Av
attribute [local go_sem] X2 X1 Ae Af
set_option maxRecDepth 100000 in
set_option maxHeartbeats 3200000 in
theorem Ad4 (c:Clu) (n r b:Int) (hI:∀ x∈c.nodes,Fv x) (i1:I64 n) (i2:I64 r) (i3:I64 b) (hal:A7 Tryz.prog Kf 7 [] (.val (.bool true)) []):A7 Tryz.prog Kf 3 [clA c,.agg [.val (.int .i64 n),.val (.int .i64 r),.val (.int .i64 b)]] (.val (.bool true)) []:=by
 obtain ⟨k1,k2⟩:=Bj7 (n:=n) i2 i3
 have h1:=(B21 n r b i1 i2 i3).nd
 have h2:=(Ak9 n r b i1 i2 i3).nd
 have h3:=(X3 c hI).nd
 have h4:=(Tg c hI).nd
 have h5:=(A99 (U2 n r b).1 k1 k2).nd
 refine A7.of (n:=36) (rs:=[.tmp 4]) Tryz.func3 rfl (by kernel_rfl) Tryz.ntmps3 (by kernel_rfl) (by simp) (fun _ _=>Kf.later) ?_
 intro hok V w0
 refine g ?_
 refine AW.seq ?_
 refine AW.reg rfl fun KK hKK=>?_
 refine g ?_
 repeat' (refine hKK _ (g ?_);clear hKK KK)
 refine AW.freeze 300 _ rfl ⟨trivial,trivial,trivial⟩ ?_
 simp only [go_sem,reduceIte,Nat.reduceEqDiff]
 refine AW.freeze 400 _ rfl ⟨i1,i2,i3,trivial⟩ ?_
 simp only [go_sem,reduceIte,Nat.reduceEqDiff]
 refine g ?_
 repeat' (first | refine st_ rfl (g ?_) | refine Aa (hal) rfl (g ?_) | refine Aa (h1) rfl (g ?_) | refine Aa (h2) rfl (g ?_))
 refine AW.freeze 600 _ rfl ⟨trivial,trivial,trivial⟩ ?_
 simp only [go_sem,reduceIte,Nat.reduceEqDiff]
 refine AW.freeze 800 _ rfl ⟨trivial,trivial,trivial⟩ ?_
 simp only [go_sem,reduceIte,Nat.reduceEqDiff]
 refine AW.drawn (ds:=[21,22,23,24,25,26,27,28,29,30,31,32,33,34,35,4]) (fin:=[]) (bs:=[0,0,0,0,0,0,0,0,0,0,0,0,0,0,0,0]) [⟨[],[],[],[],0⟩,⟨[(21,0)],[],[],[],0⟩,⟨[],[],[],[],0⟩,⟨[(23,2)],[],[],[],0⟩,⟨[(22,1),(24,3)],[],[],[],0⟩,⟨[(25,4)],[],[],[],0⟩,⟨[],[],[],[],0⟩,⟨[],[],[],[],0⟩,⟨[(27,6),(28,7)],[],[],[],0⟩,⟨[(26,5),(29,8)],[],[],[],0⟩,⟨[(30,9)],[],[],[],0⟩,⟨[],[],[],[],0⟩,⟨[],[],[],[],0⟩,⟨[(32,11),(33,12)],[],[],[],0⟩,⟨[(31,10),(34,13)],[],[],[],0⟩,⟨[(35,14)],[],[],[],0⟩] (by kernel_rfl) rfl (by kernel_rfl) rfl rfl rfl fun KD hKD=>?_
 refine g ?_
 repeat' (first | refine Aa (h3) rfl (g ?_) | refine Aa (h4) rfl (g ?_))
 refine ⟨_,fun u=>X5 _ _ u,Bt ?_⟩
 rw [decide_eq_true rfl]
 refine g ?_
 repeat' (first | refine st_ rfl (g ?_) | (refine hKD _ _ ⟨rfl,g ?_⟩;clear hKD KD) | refine Aa (h5) rfl (g ?_))
 exact decide_eq_true trivial
end Go.Proofs.YtahgkllhbggmgaaGreatDoor
namespace Go.Proofs.YtahgkllhbggmgaaGreatDoor
open Go.ChangeShapes Go.WideShapes Go.ChangeAt Go.RowKit
theorem Ag8:As1 (Vb Tryz.prog By7 spG 1000000 (.call 7 []) (h0C Tryz.prog.globals.size B51))=true:=by kernel_rfl
theorem A49:A7 Tryz.prog Kf 7 [] (.val (.bool true)) [] :=
 Af2 (by kernel_rfl) Bq9 B64 Tryz.func7 rfl (by decide) Ag8 Ar4
namespace cClusterForms
set_option maxRecDepth 100000 in
theorem contract (H : Type) (enc : TypeId × Value -> H) (W : World) (base : Nat) (args : Array Value) (ds gs : List (DataW H)) (before : List MemPlace)
    (hval : ∀ (j : Nat) t v, Tryz.f3.params[j]? = some t -> args[j]? = some v -> Value.okWide Tryz.prog W .any base t v)
    (hW : DataW.Whole enc Tryz.prog Tryz.f3.params.toList Rows.clusterFormsSpec.vars false W args.toList ds gs before) (hk : Rows.uptoSmall H (ds ++ gs) = true) (hL : laidMetH Tryz.prog Rows.clusterFormsRow.laid W) :
    Calls Tryz.prog 3 args W fun e W' => ∃ v, e = .returned v /\ Rows.clusterFormsSpec.post enc Tryz.prog Tryz.f3 false true false false W args v W' := by
  have hW' := hW
  obtain ⟨p, q, hA0, hV, rfl, hfz, hnd⟩ := hW
  have hA : DataW.TrodAll enc Tryz.prog W 0 (fun _ => true) true Tryz.f3.params.toList args.toList ds p := hA0
  rw [Tryz.params3] at hA hval
  obtain ⟨v0, vs0, d0, ds0, p0, q0, hargs, rfl, rfl, h0, r0⟩ := trodAll_cons hA
  obtain ⟨v1, vs1, d1, ds1, p1, q1, rfl, rfl, rfl, h1, r1⟩ := trodAll_cons r0
  obtain ⟨rfl, rfl, rfl⟩ := trodAll_nil r1
  obtain rfl : args = #[v0, v1] := by cases args; simp_all
  obtain ⟨rfl, rfl⟩ := trodVars_none hV
  have hpart := V3 hk
  obtain ⟨cs0, rfl, hs0⟩ := okWide_struct Tryz.underlying25 (hval 0 _ v0 rfl rfl)
  obtain ⟨n0, hn0⟩ := h0
  obtain ⟨_, x0, va, vb, e0, hCV⟩ := Px (w := W) H enc n0 _ _ ⟨hn0, hpart d0 (by simp)⟩
  obtain rfl : cs0 = #[va, vb] := Array.toList_inj.1 (by simpa only [Value.cells] using e0)
  obtain ⟨cs1, rfl, hs1⟩ := okWide_struct Tryz.underlying27 (hval 1 _ v1 rfl rfl)
  obtain ⟨n1, hn1⟩ := h1
  obtain ⟨_, x1, e1, i1, i2, i3⟩ := Al7 (w := W) H enc n1 _ _ ⟨hn1, hpart d1 (by simp)⟩
  obtain rfl : cs1 = #[.int .i64 x1.1, .int .i64 x1.2.1, .int .i64 x1.2.2] := Array.toList_inj.1 (by simpa only [Value.cells] using e1)
  have hT : Kf W := ⟨Uv (by kernel_rfl) hL, Tr (by kernel_rfl) hL⟩
  clear hA0
  refine ((Ad4 x0 x1.1 x1.2.1 x1.2.2 (Ac4 hCV.nodes) i1 i2 i3 A49).law hT (Ak.cons (Au7 hCV) (Ak.cons Aw5 Ak.nil))).mono fun e W' ⟨he, hb⟩ => ?_
  subst he
  exact ⟨_, rfl, Ad3 At3 (by kernel_rfl) (by kernel_rfl) Tryz.underlying4 rfl rfl rfl rfl hW' hb⟩
theorem laid_met (os:Os):laidMet Tryz.prog Rows.clusterFormsRow.laid ((P7 os).forCall (fun _ _=>0) ⟨#[],#[.agg #[.slice none 0 0,.slice none 0 0],.agg #[.int .i64 0,.int .i64 0,.int .i64 0]],[]⟩).memory :=
  laidMet_of_run' 8 (by kernel_rfl) (by kernel_rfl)
theorem reads (os:Os) {H:Type} (enc:TypeId×Value->H):∃ places,DataW.whole enc Tryz.prog ((P7 os).forCall (fun _ _=>0) ⟨#[],#[.agg #[.slice none 0 0,.slice none 0 0],.agg #[.int .i64 0,.int .i64 0,.int .i64 0]],[]⟩).memory Tryz.f3.params.toList Rows.clusterFormsSpec.vars false (#[.agg #[.slice none 0 0,.slice none 0 0],.agg #[.int .i64 0,.int .i64 0,.int .i64 0]]:Array Value).toList 8=some ([.agg [.nil,.nil],.agg [.lit (.int .i64 0),.lit (.int .i64 0),.lit (.int .i64 0)]],[],places) :=
  ⟨[],by kernel_rfl⟩
set_option maxRecDepth 100000 in
theorem lifted (os : Os) (started : os.Started) (H : Type) (enc : TypeId × Value -> H) (F : Stop.Interp) :
    ReturnsInHanded {} Tryz.checked os 3 .any ((Rows.OpenSpec.upto Rows.clusterFormsSpec).preRow enc Tryz.prog Tryz.f3 Rows.clusterFormsUptoRow.domain false Rows.clusterFormsUptoRow.laid) (((Rows.OpenSpec.upto Rows.clusterFormsSpec).at F).post enc Tryz.prog Tryz.f3 false true false false) := by
  obtain ⟨places, hx⟩ := reads os enc
  refine returnsInHanded_of_row (C := Tryz.checked) (s := Rows.OpenSpec.upto Rows.clusterFormsSpec) own started (by kernel_rfl) Tryz.func3
    (witness_row_at (enc := enc) (C := Tryz.checked) false (P7 os) #[.agg #[.slice none 0 0, .slice none 0 0], .agg #[.int .i64 0, .int .i64 0, .int .i64 0]] rfl (by kernel_rfl) (by kernel_rfl) (by kernel_rfl)
      (OpenSpec.preRow_of_cond 8 hx (by kernel_rfl) (fun k hk => by cases hk; kernel_rfl) (by kernel_rfl) (laid_met os))) ?_
  intro W base args ds gs before hval hW _ hcond _ hL _ _
  exact contract H enc W base args ds gs before hval hW (hcond _ rfl) hL
theorem said:Rows.ClusterFormsUptoSaid :=
  OpenClaim.holds_of_cond 3 Tryz.f3 rfl rfl rfl rfl rfl rfl rfl ⟨rfl,rfl,rfl,rfl,rfl⟩ rfl rfl rfl rfl rfl (by kernel_rfl) Tryz.func3 closed
    (of_decide_eq_true (by kernel_rfl)) (by unfold Func.isWrapper;first | (rw [if_pos (by decide +kernel)];kernel_rfl) | (rw [if_neg (by decide +kernel)];exact ⟨rfl,rfl⟩))
    (fun os started H enc _ F=>by rw [OpenClaim.pre_eq_preRow];exact lifted os started H enc F)
theorem card:Rows.ClusterFormsUptoCardSaid :=
  Claim7.holds_tied_plain_at .later [] _ _ _ _ said (fun _ h=>by cases h) (by as_aux_lemma=>kernel_rfl) (fun _ h=>by cases h) clusterFormsUpto_row_tie rfl ⟨rfl,rfl⟩ (by as_aux_lemma=>kernel_rfl) rfl plain gb
#print axioms card
end cClusterForms
end Go.Proofs.YtahgkllhbggmgaaGreatDoor
