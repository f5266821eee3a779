/- Contracts of slices.Clone, one for each element type. -/
import Derived.Test.YtahgkllhbggmgaaGreatDoorLNoteWalk
import Derived.Test.YtahgkllhbggmgaaGreatDoorLMarks
set_option linter.all false
set_option linter.unnecessarySimpa false
set_option linter.unusedSimpArgs false
set_option linter.unusedVariables false
namespace Go.Proofs.YtahgkllhbggmgaaGreatDoor
open Go.ChangeShapes Go.WideShapes Go.ChangeAt Go.RowKit
def C57 (cs:List Value) (b:Nat):Prop:=cs=[.int .u8 b]/\b < 256
theorem Av4 {w:World} : Dt Tryz.prog w 5 1 C57:=by
 intro H enc fuel cs x h
 obtain ⟨n,rfl,_,hw⟩:=DataW.trod_int Tryz.underlying5 h.1
 have h0:0<=n/\n < 256:=by
  simp [Lit.wf,IntKind.max,IntKind.min,IntKind.signed,IntKind.bits] at hw
  omega
 refine ⟨rfl,n.toNat,?_,by omega⟩
 rw [show ((n.toNat:Nat):Int)=n by omega]
abbrev Z0:=Sl C57 1
theorem Li {w:World} : Dt Tryz.prog w 44 1 (fun cs l=>∃ v,cs=[v]/\Z0 w w.heap.size v l) :=
 Cz Tryz.underlying44 (by kernel_rfl) (by omega) Av4
structure Cr where
 object:Int
 stamp:Ad
 value:List Nat
 deriving DecidableEq
def Bt0 (w:World) (B:Nat) (cs:List Value) (x:Cr):Prop :=
 ∃ v,cs=[.int .i64 x.object,.int .i64 x.stamp.count,.int .i64 x.stamp.node,v]/\I64 x.object/\I64 x.stamp.count/\I64 x.stamp.node/\Z0 w B v x.value
theorem Xo {w:World} : Dt Tryz.prog w 79 4 (Bt0 w w.heap.size):=by
 intro H enc fuel cs x h
 obtain ⟨hl,n,hf⟩:=Bq Tryz.underlying79 h
 have hk:Tryz.prog.cellsOf 79=4:=by kernel_rfl
 have hs:Tryz.prog.cellsOf 38=2:=by kernel_rfl
 have hi:Tryz.prog.cellsOf 3=1:=by kernel_rfl
 have hb:Tryz.prog.cellsOf 44=1:=by kernel_rfl
 rw [hk] at hl
 refine ⟨hl,?_⟩
 match cs,hl with
 | [v0,v1,v2,v3],_ =>
  obtain ⟨y0,h0⟩:=hf 0 3 0 1 rfl hi
  obtain ⟨y1,h1⟩:=hf 1 38 1 2 rfl hs
  obtain ⟨y2,h2⟩:=hf 2 44 3 1 rfl hb
  obtain ⟨_,a,e0,i0⟩:=Br (w:=w) Tryz.underlying3 H enc n _ _ h0
  obtain ⟨_,s,e1,i1,i2⟩:=P8 (w:=w) H enc n _ _ h1
  obtain ⟨_,b,v,e2,hv⟩:=Li (w:=w) H enc n _ _ h2
  simp at e0 e1 e2
  obtain ⟨rfl,rfl⟩:=e1
  subst e0 e2
  exact ⟨⟨a,s,b⟩,_,rfl,i0,i1,i2,hv⟩
structure Sub where
 from_:Int
 interest:List Ah
 session:Int
 seq:Int
 live:Bool
 heard:Bool
 idle:Bool
 deriving DecidableEq
def Az9 (w:World) (B:Nat) (cs:List Value) (x:Sub):Prop :=
 ∃ v,cs=[.int .i64 x.from_,v,.int .i64 x.session,.int .i64 x.seq,.bool x.live,.bool x.heard,.bool x.idle]/\I64 x.from_/\I64 x.session/\I64 x.seq/\F6 w B v x.interest
theorem B93 {w:World} : Dt Tryz.prog w 92 7 (Az9 w w.heap.size):=by
 intro H enc fuel cs x h
 obtain ⟨hl,n,hf⟩:=Bq Tryz.underlying92 h
 have hk:Tryz.prog.cellsOf 92=7:=by kernel_rfl
 have hs:Tryz.prog.cellsOf 40=1:=by kernel_rfl
 have hi:Tryz.prog.cellsOf 3=1:=by kernel_rfl
 have hb:Tryz.prog.cellsOf 4=1:=by kernel_rfl
 rw [hk] at hl
 refine ⟨hl,?_⟩
 match cs,hl with
 | [v0,v1,v2,v3,v4,v5,v6],_ =>
  obtain ⟨y0,h0⟩:=hf 0 3 0 1 rfl hi
  obtain ⟨y1,h1⟩:=hf 1 40 1 1 rfl hs
  obtain ⟨y2,h2⟩:=hf 2 3 2 1 rfl hi
  obtain ⟨y3,h3⟩:=hf 3 3 3 1 rfl hi
  obtain ⟨y4,h4⟩:=hf 4 4 4 1 rfl hb
  obtain ⟨y5,h5⟩:=hf 5 4 5 1 rfl hb
  obtain ⟨y6,h6⟩:=hf 6 4 6 1 rfl hb
  obtain ⟨_,a,e0,i0⟩:=Br (w:=w) Tryz.underlying3 H enc n _ _ h0
  obtain ⟨_,l,v,e1,hv⟩:=Jm (w:=w) H enc n _ _ h1
  obtain ⟨_,b,e2,i2⟩:=Br (w:=w) Tryz.underlying3 H enc n _ _ h2
  obtain ⟨_,c,e3,i3⟩:=Br (w:=w) Tryz.underlying3 H enc n _ _ h3
  obtain ⟨_,d,e4⟩:=Kt (w:=w) Tryz.underlying4 H enc n _ _ h4
  obtain ⟨_,f,e5⟩:=Kt (w:=w) Tryz.underlying4 H enc n _ _ h5
  obtain ⟨_,g,e6⟩:=Kt (w:=w) Tryz.underlying4 H enc n _ _ h6
  simp at e0 e1 e2 e3 e4 e5 e6
  subst e0 e1 e2 e3 e4 e5 e6
  exact ⟨⟨a,l,b,c,d,f,g⟩,_,rfl,i0,i2,i3,hv⟩
abbrev Qm (w:World) (B:Nat):=Sl (Az9 w B) 7 w B
theorem Qm.next {w w':World} {v:Value} {l:List Sub} (h:Qm w w.heap.size v l) (hb:Below w.heap.size w w'):Qm w' w'.heap.size v l :=
 h.keep (fun _ _ ⟨v,e,h1,h2,h3,h4⟩=>⟨v,e,h1,h2,h3,h4.next hb⟩) hb.size fun _ hp=>hb.cell hp
theorem Au6 {w:World} : Dt Tryz.prog w 61 1 (fun cs l=>∃ v,cs=[v]/\Qm w w.heap.size v l) :=
 Cz Tryz.underlying61 (by kernel_rfl) (by omega) B93
structure Out where
 to_:Int
 session:Int
 interest:List Ah
 at_:Int
 seq:Int
 deriving DecidableEq
def Ab9 (w:World) (B:Nat) (cs:List Value) (x:Out):Prop :=
 ∃ v,cs=[.int .i64 x.to_,.int .i64 x.session,v,.int .i64 x.at_,.int .i64 x.seq]/\I64 x.to_/\I64 x.session/\I64 x.at_/\I64 x.seq/\F6 w B v x.interest
theorem B95 {w:World} : Dt Tryz.prog w 116 5 (Ab9 w w.heap.size):=by
 intro H enc fuel cs x h
 obtain ⟨hl,n,hf⟩:=Bq Tryz.underlying116 h
 have hk:Tryz.prog.cellsOf 116=5:=by kernel_rfl
 have hs:Tryz.prog.cellsOf 40=1:=by kernel_rfl
 have hi:Tryz.prog.cellsOf 3=1:=by kernel_rfl
 rw [hk] at hl
 refine ⟨hl,?_⟩
 match cs,hl with
 | [v0,v1,v2,v3,v4],_ =>
  obtain ⟨y0,h0⟩:=hf 0 3 0 1 rfl hi
  obtain ⟨y1,h1⟩:=hf 1 3 1 1 rfl hi
  obtain ⟨y2,h2⟩:=hf 2 40 2 1 rfl hs
  obtain ⟨y3,h3⟩:=hf 3 3 3 1 rfl hi
  obtain ⟨y4,h4⟩:=hf 4 3 4 1 rfl hi
  obtain ⟨_,a,e0,i0⟩:=Br (w:=w) Tryz.underlying3 H enc n _ _ h0
  obtain ⟨_,b,e1,i1⟩:=Br (w:=w) Tryz.underlying3 H enc n _ _ h1
  obtain ⟨_,l,v,e2,hv⟩:=Jm (w:=w) H enc n _ _ h2
  obtain ⟨_,c,e3,i3⟩:=Br (w:=w) Tryz.underlying3 H enc n _ _ h3
  obtain ⟨_,d,e4,i4⟩:=Br (w:=w) Tryz.underlying3 H enc n _ _ h4
  simp at e0 e1 e2 e3 e4
  subst e0 e1 e2 e3 e4
  exact ⟨⟨a,b,l,c,d⟩,_,rfl,i0,i1,i3,i4,hv⟩
abbrev Up (w:World) (B:Nat):=Sl (Ab9 w B) 5 w B
theorem Up.next {w w':World} {v:Value} {l:List Out} (h:Up w w.heap.size v l) (hb:Below w.heap.size w w'):Up w' w'.heap.size v l :=
 h.keep (fun _ _ ⟨v,e,h1,h2,h3,h4,h5⟩=>⟨v,e,h1,h2,h3,h4,h5.next hb⟩) hb.size fun _ hp=>hb.cell hp
theorem Au8 {w:World} : Dt Tryz.prog w 60 1 (fun cs l=>∃ v,cs=[v]/\Up w w.heap.size v l) :=
 Cz Tryz.underlying60 (by kernel_rfl) (by omega) B95
structure Msg where
 kind:Int
 from_:Int
 to_:Int
 session:Int
 seq:Int
 interest:List Ah
 vector:List Ad
 notes:List Bz
 body:Cr
 deriving DecidableEq
structure Dy8 (w:World) (B:Nat) (vi vv vn vb:Value) (x:Msg):Prop where
 interest:F6 w B vi x.interest
 vector:Bx w B vv x.vector
 notes:Ao9 w B vn x.notes
 value:Z0 w B vb x.body.value
def Bm1 (vi vv vn vb:Value) (x:Msg):Array Value :=
 #[.int .i64 x.kind,.int .i64 x.from_,.int .i64 x.to_,.int .i64 x.session,.int .i64 x.seq,vi,vv,vn,.int .i64 x.body.object,.int .i64 x.body.stamp.count,.int .i64 x.body.stamp.node,vb]
structure C17 (x:Msg):Prop where
 kind:I64 x.kind
 from_:I64 x.from_
 to_:I64 x.to_
 session:I64 x.session
 seq:I64 x.seq
 object:I64 x.body.object
 count:I64 x.body.stamp.count
 node:I64 x.body.stamp.node
def C16 (w:World) (B:Nat) (cs:List Value) (x:Msg):Prop:=∃ vi vv vn vb,cs=(Bm1 vi vv vn vb x).toList/\C17 x/\Dy8 w B vi vv vn vb x
theorem B96 {w:World} : Dt Tryz.prog w 81 12 (C16 w w.heap.size):=by
 intro H enc fuel cs x h
 obtain ⟨hl,n,hf⟩:=Bq Tryz.underlying81 h
 have hk:Tryz.prog.cellsOf 81=12:=by kernel_rfl
 have hi:Tryz.prog.cellsOf 3=1:=by kernel_rfl
 have hs:Tryz.prog.cellsOf 40=1:=by kernel_rfl
 have hv:Tryz.prog.cellsOf 51=1:=by kernel_rfl
 have hn:Tryz.prog.cellsOf 57=1:=by kernel_rfl
 have hb:Tryz.prog.cellsOf 79=4:=by kernel_rfl
 rw [hk] at hl
 refine ⟨hl,?_⟩
 match cs,hl with
 | [v0,v1,v2,v3,v4,v5,v6,v7,v8,v9,v10,v11],_ =>
  obtain ⟨y0,h0⟩:=hf 0 3 0 1 rfl hi
  obtain ⟨y1,h1⟩:=hf 1 3 1 1 rfl hi
  obtain ⟨y2,h2⟩:=hf 2 3 2 1 rfl hi
  obtain ⟨y3,h3⟩:=hf 3 3 3 1 rfl hi
  obtain ⟨y4,h4⟩:=hf 4 3 4 1 rfl hi
  obtain ⟨y5,h5⟩:=hf 5 40 5 1 rfl hs
  obtain ⟨y6,h6⟩:=hf 6 51 6 1 rfl hv
  obtain ⟨y7,h7⟩:=hf 7 57 7 1 rfl hn
  obtain ⟨y8,h8⟩:=hf 8 79 8 4 rfl hb
  obtain ⟨_,a0,e0,i0⟩:=Br (w:=w) Tryz.underlying3 H enc n _ _ h0
  obtain ⟨_,a1,e1,i1⟩:=Br (w:=w) Tryz.underlying3 H enc n _ _ h1
  obtain ⟨_,a2,e2,i2⟩:=Br (w:=w) Tryz.underlying3 H enc n _ _ h2
  obtain ⟨_,a3,e3,i3⟩:=Br (w:=w) Tryz.underlying3 H enc n _ _ h3
  obtain ⟨_,a4,e4,i4⟩:=Br (w:=w) Tryz.underlying3 H enc n _ _ h4
  obtain ⟨_,a5,_,e5,s5⟩:=Jm (w:=w) H enc n _ _ h5
  obtain ⟨_,a6,_,e6,s6⟩:=G7 (w:=w) H enc n _ _ h6
  obtain ⟨_,a7,_,e7,s7⟩:=V5 (w:=w) H enc n _ _ h7
  obtain ⟨_,a8,_,e8,j0,j1,j2,s8⟩:=Xo (w:=w) H enc n _ _ h8
  simp at e0 e1 e2 e3 e4 e5 e6 e7 e8
  obtain ⟨rfl,rfl,rfl,rfl⟩:=e8
  subst e0 e1 e2 e3 e4 e5 e6 e7
  exact ⟨⟨a0,a1,a2,a3,a4,a5,a6,a7,a8⟩,_,_,_,_,rfl,⟨i0,i1,i2,i3,i4,j0,j1,j2⟩,s5,s6,s7,s8⟩
theorem Bk9:∀ cs x,Gc cs x->∀ u∈cs,u.oneCell'=true:=by
 rintro cs x ⟨rfl,_⟩ u hu;simp at hu;rcases hu with rfl | rfl<;>rfl
theorem Ba0:∀ cs x,Fs cs x->∀ u∈cs,u.oneCell'=true:=by
 rintro cs x ⟨rfl,_⟩ u hu;simp at hu;rcases hu with rfl | rfl<;>rfl
theorem Sl.one {α:Type} {R:List Value->α->Prop} {k:Nat} {w:World} {B:Nat} {v:Value} {l:List α} (h:Sl R k w B v l):v.oneCell'=true:=by
 obtain ⟨A,c,rfl,_⟩:=h;rfl
theorem Bw3:∀ w cs x,Ab9 w w.heap.size cs x->∀ u∈cs,u.oneCell'=true:=by
 rintro w cs x ⟨v,rfl,_,_,_,_,hv⟩ u hu;simp at hu;rcases hu with rfl | rfl | rfl | rfl | rfl<;>first | rfl | exact hv.one
theorem Cc5:Cg2 (fun w=>Ab9 w w.heap.size):=fun _ _ _ _ he ⟨v,e,h1,h2,h3,h4,hv⟩=>⟨v,e,h1,h2,h3,h4,hv.ext (fun _ _ h=>h) he⟩
theorem A73 {w:World} {B:Nat} {v:Value} {l:List Out} (h:Up w B v l) {m:Nat} {x:Out} (hx:l[m]? = some x) :
  ∃ b off c vi,v=.slice (some ⟨b,off,none⟩) l.length c/\b < B/\w.cell? ⟨b,off+m*5,none⟩=some (.int .i64 x.to_)/\w.cell? ⟨b,off+m*5+1,none⟩=some (.int .i64 x.session) /\
   w.cell? ⟨b,off+m*5+2,none⟩=some vi/\w.cell? ⟨b,off+m*5+3,none⟩=some (.int .i64 x.at_)/\w.cell? ⟨b,off+m*5+4,none⟩=some (.int .i64 x.seq)/\F6 w B vi x.interest/\I64 x.to_/\I64 x.session/\I64 x.at_/\I64 x.seq:=by
 obtain ⟨A,c,rfl,_,_,h3⟩:=h
 obtain ⟨b,off,rfl,hb,h4⟩:=h3 (by rintro rfl;simp at hx)
 obtain ⟨cs,⟨vi,rfl,i1,i2,i3,i4,hv⟩,_,h5⟩:=h4 m x hx
 exact ⟨b,off,c,vi,rfl,hb,h5 0 _ rfl,h5 1 _ rfl,h5 2 _ rfl,h5 3 _ rfl,h5 4 _ rfl,hv,i1,i2,i3,i4⟩
theorem Cc4:Cg2 (fun w=>Az9 w w.heap.size):=fun _ _ _ _ he ⟨v,e,h1,h2,h3,hv⟩=>⟨v,e,h1,h2,h3,hv.ext (fun _ _ h=>h) he⟩
theorem P5 {α:Type} {R:List Value->α->Prop} {k:Nat} (w:World) (e:TypeId):Ai R k (w.alloc (.cells #[] e)) w.heap.size e (.slice (some ⟨w.heap.size,0,none⟩) 0 0) [] :=
 ⟨[],⟨by simp,.inr ⟨_,0,#[],rfl,Nat.le_refl _,heap_alloc_new w _,Nat.le_refl _,Nat.zero_le _,by simp,by simp⟩⟩,rfl,Nat.zero_le _⟩
theorem Al7:(Tryz.prog.info? 89).map (fun i=>(i.zero.map (·.cells.size),i.size,i.bytes))=some (some 2,2,16):=by kernel_rfl
theorem Az2 (l:List Ah) (v:Value) (w:World) (h:F6 w w.heap.size v l) :
  Calls Tryz.prog 205 #[v] w fun e w'=>(∃ v',e=.returned v'/\Ai Gc 2 w' w.heap.size 89 v' l)/\Below w.heap.size w w':=by
 have hle:=h.len_le
 obtain ⟨i0,z0,hi,hz0,hzs,hz1,hz2⟩:=W7 Al7
 obtain ⟨A,c,rfl,-,-,hne⟩:=id h
 have he:=fun (w:World) (a:Option Addr) (n c:Nat)=>Lib.run_eql_slice_nil (P:=Tryz.prog) w 40 89 a n c 0 0 Tryz.underlying40
 cases A with
 | none =>
  obtain rfl:l=[]:=by
   rcases l with _ | ⟨y,l⟩
   ·rfl
   ·obtain ⟨b,off,h1,_⟩:=hne (by simp)
    cases h1
  clear hne h
  go_enter Tryz.func205,Tryz.ntmps205
  go_wp2_with fail
  go_ret
  exact ⟨⟨_,rfl,Ai.nil_ _ _ _⟩,Below.refl _ _⟩
 | some A =>
  have HH:=Lib.hid h
  clear hne h
  go_enter Tryz.func205,Tryz.ntmps205
  go_wp2_with (at_builtin;refine G5 _ (Bk9) rfl (.tmp 5) (.tmp 6) 40 rfl w.heap.size 89 i0 _ 16 Tryz.underlying40 hi hz0 hz1 hz2 hzs (by omega) _ [] rfl (P5 (R:=Gc) (k:=2) w 89) w.heap.size _ l rfl (HH.out.keep (fun _ _ h=>h) (Nat.le_refl _) (fun p hp=>World.cell?_alloc_lt _ _ _ hp)) (by simp only [List.length_nil];omega) (by omega) (by simp) ?_;intro v1 w1 hown hgr hat)
  simp only [List.nil_append] at hown
  have hb1:Below w.heap.size w w1:=(Ap (Below.refl _ _)).grown hgr (by simp) (fun k hk=>Nat.le_of_eq (Option.some.inj hk))
  have H1:=Lib.hid hown
  clear hown hgr hat hi hz0 hz1 hz2 hzs
  go_wp2_with fail
  go_ret
  exact ⟨⟨_,rfl,H1.out⟩,hb1⟩
theorem Aw8:(Tryz.prog.info? 116).map (fun i=>(i.zero.map (·.cells.size),i.size,i.bytes))=some (some 5,5,56):=by kernel_rfl
theorem Bd5 (l:List Out) (v:Value) (V:World) (w:World) (hV:Ext V w) (h:Up V V.heap.size v l) :
  Calls Tryz.prog 319 #[v] w fun e w'=>(∃ v',e=.returned v'/\Ai (Ab9 V V.heap.size) 5 w' w.heap.size 116 v' l)/\Below w.heap.size w w':=by
 have hle:=h.len_le
 obtain ⟨i0,z0,hi,hz0,hzs,hz1,hz2⟩:=W7 Aw8
 obtain ⟨A,c,rfl,-,-,hne⟩:=id h
 have he:=fun (w:World) (a:Option Addr) (n c:Nat)=>Lib.run_eql_slice_nil (P:=Tryz.prog) w 60 116 a n c 0 0 Tryz.underlying60
 cases A with
 | none =>
  obtain rfl:l=[]:=by
   rcases l with _ | ⟨y,l⟩
   ·rfl
   ·obtain ⟨b,off,h1,_⟩:=hne (by simp)
    cases h1
  clear hne h
  go_enter Tryz.func319,Tryz.ntmps319
  go_wp2_with fail
  go_ret
  exact ⟨⟨_,rfl,Ai.nil_ _ _ _⟩,Below.refl _ _⟩
 | some A =>
  have HH:=Lib.hid (Sl.ext h (fun _ _ h=>h) hV)
  clear hne h
  go_enter Tryz.func319,Tryz.ntmps319
  go_wp2_with (at_builtin;refine G5 _ (fun cs x h=>Bw3 _ cs x h) rfl (.tmp 5) (.tmp 6) 60 rfl w.heap.size 116 i0 _ 56 Tryz.underlying60 hi hz0 hz1 hz2 hzs (by omega) _ [] rfl (P5 (R:=(Ab9 V V.heap.size)) (k:=5) w 116) w.heap.size _ l rfl (HH.out.keep (fun _ _ h=>h) (Nat.le_refl _) (fun p hp=>World.cell?_alloc_lt _ _ _ hp)) (by simp only [List.length_nil];omega) (by omega) (by simp) ?_;intro v1 w1 hown hgr hat)
  simp only [List.nil_append] at hown
  have hb1:Below w.heap.size w w1:=(Ap (Below.refl _ _)).grown hgr (by simp) (fun k hk=>Nat.le_of_eq (Option.some.inj hk))
  have H1:=Lib.hid hown
  clear hown hgr hat hi hz0 hz1 hz2 hzs
  go_wp2_with fail
  go_ret
  exact ⟨⟨_,rfl,H1.out⟩,hb1⟩
theorem A93:(Tryz.prog.info? 38).map (fun i=>(i.zero.map (·.cells.size),i.size,i.bytes))=some (some 2,2,16):=by kernel_rfl
theorem Ao0 (l:List Ad) (v:Value) (w:World) (h:Bx w w.heap.size v l) :
  Calls Tryz.prog 195 #[v] w fun e w'=>(∃ v',e=.returned v'/\Ai Fs 2 w' w.heap.size 38 v' l)/\Below w.heap.size w w':=by
 have hle:=h.len_le
 obtain ⟨i0,z0,hi,hz0,hzs,hz1,hz2⟩:=W7 A93
 obtain ⟨A,c,rfl,-,-,hne⟩:=id h
 have he:=fun (w:World) (a:Option Addr) (n c:Nat)=>Lib.run_eql_slice_nil (P:=Tryz.prog) w 51 38 a n c 0 0 Tryz.underlying51
 cases A with
 | none =>
  obtain rfl:l=[]:=by
   rcases l with _ | ⟨y,l⟩
   ·rfl
   ·obtain ⟨b,off,h1,_⟩:=hne (by simp)
    cases h1
  clear hne h
  go_enter Tryz.func195,Tryz.ntmps195
  go_wp2_with fail
  go_ret
  exact ⟨⟨_,rfl,Ai.nil_ _ _ _⟩,Below.refl _ _⟩
 | some A =>
  have HH:=Lib.hid h
  clear hne h
  go_enter Tryz.func195,Tryz.ntmps195
  go_wp2_with (at_builtin;refine G5 _ (Ba0) rfl (.tmp 5) (.tmp 6) 51 rfl w.heap.size 38 i0 _ 16 Tryz.underlying51 hi hz0 hz1 hz2 hzs (by omega) _ [] rfl (P5 (R:=Fs) (k:=2) w 38) w.heap.size _ l rfl (HH.out.keep (fun _ _ h=>h) (Nat.le_refl _) (fun p hp=>World.cell?_alloc_lt _ _ _ hp)) (by simp only [List.length_nil];omega) (by omega) (by simp) ?_;intro v1 w1 hown hgr hat)
  simp only [List.nil_append] at hown
  have hb1:Below w.heap.size w w1:=(Ap (Below.refl _ _)).grown hgr (by simp) (fun k hk=>Nat.le_of_eq (Option.some.inj hk))
  have H1:=Lib.hid hown
  clear hown hgr hat hi hz0 hz1 hz2 hzs
  go_wp2_with fail
  go_ret
  exact ⟨⟨_,rfl,H1.out⟩,hb1⟩
end Go.Proofs.YtahgkllhbggmgaaGreatDoor
