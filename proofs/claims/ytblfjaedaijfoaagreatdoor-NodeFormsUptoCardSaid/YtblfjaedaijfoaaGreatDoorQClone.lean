/- Contracts of slices.Clone, one for each element type. -/
import Derived.Test.YtblfjaedaijfoaaGreatDoorQNoteWalk
import Derived.Test.YtblfjaedaijfoaaGreatDoorQMarks
set_option linter.all false
set_option linter.unnecessarySimpa false
set_option linter.unusedSimpArgs false
set_option linter.unusedVariables false
namespace Go.Proofs.YtblfjaedaijfoaaGreatDoor
open Go.ChangeShapes Go.WideShapes Go.ChangeAt Go.RowKit
def Bj2 (cs:List Value) (b:Nat):Prop:=cs=[.int .u8 b]/\b < 256
theorem B86 {w:World} : F7 Tryz.prog w 5 1 Bj2:=by
 intro H enc fuel cs x h
 obtain ⟨n,rfl,_,hw⟩:=DataW.trod_int Tryz.underlying5 h.1
 have h0:0<=n/\n < 256:=by
  simp [Lit.wf,IntKind.max,IntKind.min,IntKind.signed,IntKind.bits] at hw
  omega
 refine ⟨rfl,n.toNat,?_,by omega⟩
 rw [show ((n.toNat:Nat):Int)=n by omega]
abbrev W8:=Sl Bj2 1
theorem Y2 {w:World} : F7 Tryz.prog w 47 1 (fun cs l=>∃ v,cs=[v]/\W8 w w.heap.size v l) :=
 Ea Tryz.underlying47 (by kernel_rfl) (by omega) B86
structure C1 where
 object:Int
 stamp:Ab
 value:List Nat
 deriving DecidableEq
def C59 (w:World) (B:Nat) (cs:List Value) (x:C1):Prop :=
 ∃ v,cs=[.int .i64 x.object,.int .i64 x.stamp.count,.int .i64 x.stamp.node,v]/\I64 x.object/\I64 x.stamp.count/\I64 x.stamp.node/\W8 w B v x.value
theorem A20 {w:World} : F7 Tryz.prog w 79 4 (C59 w w.heap.size):=by
 intro H enc fuel cs x h
 obtain ⟨hl,n,hf⟩:=Ce Tryz.underlying79 h
 have hk:Tryz.prog.cellsOf 79=4:=by kernel_rfl
 have hs:Tryz.prog.cellsOf 53=2:=by kernel_rfl
 have hi:Tryz.prog.cellsOf 3=1:=by kernel_rfl
 have hb:Tryz.prog.cellsOf 47=1:=by kernel_rfl
 rw [hk] at hl
 refine ⟨hl,?_⟩
 match cs,hl with
 | [v0,v1,v2,v3],_ =>
  obtain ⟨y0,h0⟩:=hf 0 3 0 1 rfl hi
  obtain ⟨y1,h1⟩:=hf 1 53 1 2 rfl hs
  obtain ⟨y2,h2⟩:=hf 2 47 3 1 rfl hb
  obtain ⟨_,a,e0,i0⟩:=C3 (w:=w) Tryz.underlying3 H enc n _ _ h0
  obtain ⟨_,s,e1,i1,i2⟩:=Qz (w:=w) H enc n _ _ h1
  obtain ⟨_,b,v,e2,hv⟩:=Y2 (w:=w) H enc n _ _ h2
  simp at e0 e1 e2
  obtain ⟨rfl,rfl⟩:=e1
  subst e0 e2
  exact ⟨⟨a,s,b⟩,_,rfl,i0,i1,i2,hv⟩
structure Sub where
 from_:Int
 interest:List Ao
 session:Int
 seq:Int
 live:Bool
 heard:Bool
 idle:Bool
 deriving DecidableEq
def Bd9 (w:World) (B:Nat) (cs:List Value) (x:Sub):Prop :=
 ∃ v,cs=[.int .i64 x.from_,v,.int .i64 x.session,.int .i64 x.seq,.bool x.live,.bool x.heard,.bool x.idle]/\I64 x.from_/\I64 x.session/\I64 x.seq/\Dz w B v x.interest
theorem Bn4 {w:World} : F7 Tryz.prog w 118 7 (Bd9 w w.heap.size):=by
 intro H enc fuel cs x h
 obtain ⟨hl,n,hf⟩:=Ce Tryz.underlying118 h
 have hk:Tryz.prog.cellsOf 118=7:=by kernel_rfl
 have hs:Tryz.prog.cellsOf 48=1:=by kernel_rfl
 have hi:Tryz.prog.cellsOf 3=1:=by kernel_rfl
 have hb:Tryz.prog.cellsOf 4=1:=by kernel_rfl
 rw [hk] at hl
 refine ⟨hl,?_⟩
 match cs,hl with
 | [v0,v1,v2,v3,v4,v5,v6],_ =>
  obtain ⟨y0,h0⟩:=hf 0 3 0 1 rfl hi
  obtain ⟨y1,h1⟩:=hf 1 48 1 1 rfl hs
  obtain ⟨y2,h2⟩:=hf 2 3 2 1 rfl hi
  obtain ⟨y3,h3⟩:=hf 3 3 3 1 rfl hi
  obtain ⟨y4,h4⟩:=hf 4 4 4 1 rfl hb
  obtain ⟨y5,h5⟩:=hf 5 4 5 1 rfl hb
  obtain ⟨y6,h6⟩:=hf 6 4 6 1 rfl hb
  obtain ⟨_,a,e0,i0⟩:=C3 (w:=w) Tryz.underlying3 H enc n _ _ h0
  obtain ⟨_,l,v,e1,hv⟩:=N1 (w:=w) H enc n _ _ h1
  obtain ⟨_,b,e2,i2⟩:=C3 (w:=w) Tryz.underlying3 H enc n _ _ h2
  obtain ⟨_,c,e3,i3⟩:=C3 (w:=w) Tryz.underlying3 H enc n _ _ h3
  obtain ⟨_,d,e4⟩:=Mk (w:=w) Tryz.underlying4 H enc n _ _ h4
  obtain ⟨_,f,e5⟩:=Mk (w:=w) Tryz.underlying4 H enc n _ _ h5
  obtain ⟨_,g,e6⟩:=Mk (w:=w) Tryz.underlying4 H enc n _ _ h6
  simp at e0 e1 e2 e3 e4 e5 e6
  subst e0 e1 e2 e3 e4 e5 e6
  exact ⟨⟨a,l,b,c,d,f,g⟩,_,rfl,i0,i2,i3,hv⟩
abbrev Sm (w:World) (B:Nat):=Sl (Bd9 w B) 7 w B
theorem Sm.next {w w':World} {v:Value} {l:List Sub} (h:Sm w w.heap.size v l) (hb:Below w.heap.size w w'):Sm w' w'.heap.size v l :=
 h.keep (fun _ _ ⟨v,e,h1,h2,h3,h4⟩=>⟨v,e,h1,h2,h3,h4.next hb⟩) hb.size fun _ hp=>hb.cell hp
theorem B79 {w:World} : F7 Tryz.prog w 32 1 (fun cs l=>∃ v,cs=[v]/\Sm w w.heap.size v l) :=
 Ea Tryz.underlying32 (by kernel_rfl) (by omega) Bn4
structure Out where
 to_:Int
 session:Int
 interest:List Ao
 at_:Int
 seq:Int
 deriving DecidableEq
def An7 (w:World) (B:Nat) (cs:List Value) (x:Out):Prop :=
 ∃ v,cs=[.int .i64 x.to_,.int .i64 x.session,v,.int .i64 x.at_,.int .i64 x.seq]/\I64 x.to_/\I64 x.session/\I64 x.at_/\I64 x.seq/\Dz w B v x.interest
theorem Bn5 {w:World} : F7 Tryz.prog w 77 5 (An7 w w.heap.size):=by
 intro H enc fuel cs x h
 obtain ⟨hl,n,hf⟩:=Ce Tryz.underlying77 h
 have hk:Tryz.prog.cellsOf 77=5:=by kernel_rfl
 have hs:Tryz.prog.cellsOf 48=1:=by kernel_rfl
 have hi:Tryz.prog.cellsOf 3=1:=by kernel_rfl
 rw [hk] at hl
 refine ⟨hl,?_⟩
 match cs,hl with
 | [v0,v1,v2,v3,v4],_ =>
  obtain ⟨y0,h0⟩:=hf 0 3 0 1 rfl hi
  obtain ⟨y1,h1⟩:=hf 1 3 1 1 rfl hi
  obtain ⟨y2,h2⟩:=hf 2 48 2 1 rfl hs
  obtain ⟨y3,h3⟩:=hf 3 3 3 1 rfl hi
  obtain ⟨y4,h4⟩:=hf 4 3 4 1 rfl hi
  obtain ⟨_,a,e0,i0⟩:=C3 (w:=w) Tryz.underlying3 H enc n _ _ h0
  obtain ⟨_,b,e1,i1⟩:=C3 (w:=w) Tryz.underlying3 H enc n _ _ h1
  obtain ⟨_,l,v,e2,hv⟩:=N1 (w:=w) H enc n _ _ h2
  obtain ⟨_,c,e3,i3⟩:=C3 (w:=w) Tryz.underlying3 H enc n _ _ h3
  obtain ⟨_,d,e4,i4⟩:=C3 (w:=w) Tryz.underlying3 H enc n _ _ h4
  simp at e0 e1 e2 e3 e4
  subst e0 e1 e2 e3 e4
  exact ⟨⟨a,b,l,c,d⟩,_,rfl,i0,i1,i3,i4,hv⟩
abbrev Xi (w:World) (B:Nat):=Sl (An7 w B) 5 w B
theorem Xi.next {w w':World} {v:Value} {l:List Out} (h:Xi w w.heap.size v l) (hb:Below w.heap.size w w'):Xi w' w'.heap.size v l :=
 h.keep (fun _ _ ⟨v,e,h1,h2,h3,h4,h5⟩=>⟨v,e,h1,h2,h3,h4,h5.next hb⟩) hb.size fun _ hp=>hb.cell hp
theorem B80 {w:World} : F7 Tryz.prog w 31 1 (fun cs l=>∃ v,cs=[v]/\Xi w w.heap.size v l) :=
 Ea Tryz.underlying31 (by kernel_rfl) (by omega) Bn5
structure Msg where
 kind:Int
 from_:Int
 to_:Int
 session:Int
 seq:Int
 interest:List Ao
 vector:List Ab
 notes:List Bc
 body:C1
 deriving DecidableEq
structure A90 (w:World) (B:Nat) (vi vv vn vb:Value) (x:Msg):Prop where
 interest:Dz w B vi x.interest
 vector:C8 w B vv x.vector
 notes:Tg w B vn x.notes
 value:W8 w B vb x.body.value
theorem A90.next {w w':World} {v0 v1 v2 v3:Value} {x:Msg} (h:A90 w w.heap.size v0 v1 v2 v3 x) (hb:Below w.heap.size w w'):A90 w' w'.heap.size v0 v1 v2 v3 x :=
 ⟨h.interest.next hb,h.vector.next hb,h.notes.next hb,h.value.next hb⟩
def R8 (vi vv vn vb:Value) (x:Msg):Array Value :=
 #[.int .i64 x.kind,.int .i64 x.from_,.int .i64 x.to_,.int .i64 x.session,.int .i64 x.seq,vi,vv,vn,.int .i64 x.body.object,.int .i64 x.body.stamp.count,.int .i64 x.body.stamp.node,vb]
structure An8 (x:Msg):Prop where
 kind:I64 x.kind
 from_:I64 x.from_
 to_:I64 x.to_
 session:I64 x.session
 seq:I64 x.seq
 object:I64 x.body.object
 count:I64 x.body.stamp.count
 node:I64 x.body.stamp.node
def Cc8 (w:World) (B:Nat) (cs:List Value) (x:Msg):Prop:=∃ vi vv vn vb,cs=(R8 vi vv vn vb x).toList/\An8 x/\A90 w B vi vv vn vb x
theorem Bn6 {w:World} : F7 Tryz.prog w 81 12 (Cc8 w w.heap.size):=by
 intro H enc fuel cs x h
 obtain ⟨hl,n,hf⟩:=Ce Tryz.underlying81 h
 have hk:Tryz.prog.cellsOf 81=12:=by kernel_rfl
 have hi:Tryz.prog.cellsOf 3=1:=by kernel_rfl
 have hs:Tryz.prog.cellsOf 48=1:=by kernel_rfl
 have hv:Tryz.prog.cellsOf 22=1:=by kernel_rfl
 have hn:Tryz.prog.cellsOf 28=1:=by kernel_rfl
 have hb:Tryz.prog.cellsOf 79=4:=by kernel_rfl
 rw [hk] at hl
 refine ⟨hl,?_⟩
 match cs,hl with
 | [v0,v1,v2,v3,v4,v5,v6,v7,v8,v9,v10,v11],_ =>
  obtain ⟨y0,h0⟩:=hf 0 3 0 1 rfl hi
  obtain ⟨y1,h1⟩:=hf 1 3 1 1 rfl hi
  obtain ⟨y2,h2⟩:=hf 2 3 2 1 rfl hi
  obtain ⟨y3,h3⟩:=hf 3 3 3 1 rfl hi
  obtain ⟨y4,h4⟩:=hf 4 3 4 1 rfl hi
  obtain ⟨y5,h5⟩:=hf 5 48 5 1 rfl hs
  obtain ⟨y6,h6⟩:=hf 6 22 6 1 rfl hv
  obtain ⟨y7,h7⟩:=hf 7 28 7 1 rfl hn
  obtain ⟨y8,h8⟩:=hf 8 79 8 4 rfl hb
  obtain ⟨_,a0,e0,i0⟩:=C3 (w:=w) Tryz.underlying3 H enc n _ _ h0
  obtain ⟨_,a1,e1,i1⟩:=C3 (w:=w) Tryz.underlying3 H enc n _ _ h1
  obtain ⟨_,a2,e2,i2⟩:=C3 (w:=w) Tryz.underlying3 H enc n _ _ h2
  obtain ⟨_,a3,e3,i3⟩:=C3 (w:=w) Tryz.underlying3 H enc n _ _ h3
  obtain ⟨_,a4,e4,i4⟩:=C3 (w:=w) Tryz.underlying3 H enc n _ _ h4
  obtain ⟨_,a5,_,e5,s5⟩:=N1 (w:=w) H enc n _ _ h5
  obtain ⟨_,a6,_,e6,s6⟩:=J1 (w:=w) H enc n _ _ h6
  obtain ⟨_,a7,_,e7,s7⟩:=Y1 (w:=w) H enc n _ _ h7
  obtain ⟨_,a8,_,e8,j0,j1,j2,s8⟩:=A20 (w:=w) H enc n _ _ h8
  simp at e0 e1 e2 e3 e4 e5 e6 e7 e8
  obtain ⟨rfl,rfl,rfl,rfl⟩:=e8
  subst e0 e1 e2 e3 e4 e5 e6 e7
  exact ⟨⟨a0,a1,a2,a3,a4,a5,a6,a7,a8⟩,_,_,_,_,rfl,⟨i0,i1,i2,i3,i4,j0,j1,j2⟩,s5,s6,s7,s8⟩
theorem By8:∀ cs x,Ei cs x->∀ u∈cs,u.oneCell'=true:=by
 rintro cs x ⟨rfl,_⟩ u hu;simp at hu;rcases hu with rfl | rfl<;>rfl
theorem Bn9:∀ cs x,G7 cs x->∀ u∈cs,u.oneCell'=true:=by
 rintro cs x ⟨rfl,_⟩ u hu;simp at hu;rcases hu with rfl | rfl<;>rfl
theorem Bn8:∀ cs x,Ud cs x->∀ u∈cs,u.oneCell'=true:=by
 rintro cs x ⟨rfl,_⟩ u hu;simp at hu;rcases hu with rfl | rfl | rfl | rfl<;>rfl
theorem Sl.one {α:Type} {R:List Value->α->Prop} {k:Nat} {w:World} {B:Nat} {v:Value} {l:List α} (h:Sl R k w B v l):v.oneCell'=true:=by
 obtain ⟨A,c,rfl,_⟩:=h;rfl
theorem C85:∀ w cs x,An7 w w.heap.size cs x->∀ u∈cs,u.oneCell'=true:=by
 rintro w cs x ⟨v,rfl,_,_,_,_,hv⟩ u hu;simp at hu;rcases hu with rfl | rfl | rfl | rfl | rfl<;>first | rfl | exact hv.one
theorem Ck3:Cm4 (fun w=>An7 w w.heap.size):=fun _ _ _ _ he ⟨v,e,h1,h2,h3,h4,hv⟩=>⟨v,e,h1,h2,h3,h4,hv.ext (fun _ _ h=>h) he⟩
theorem Aj7 {w:World} {B:Nat} {v:Value} {l:List Out} (h:Xi w B v l) {m:Nat} {x:Out} (hx:l[m]? = some x) :
  ∃ b off c vi,v=.slice (some ⟨b,off,none⟩) l.length c/\b < B/\w.cell? ⟨b,off+m*5,none⟩=some (.int .i64 x.to_)/\w.cell? ⟨b,off+m*5+1,none⟩=some (.int .i64 x.session) /\
   w.cell? ⟨b,off+m*5+2,none⟩=some vi/\w.cell? ⟨b,off+m*5+3,none⟩=some (.int .i64 x.at_)/\w.cell? ⟨b,off+m*5+4,none⟩=some (.int .i64 x.seq)/\Dz w B vi x.interest/\I64 x.to_/\I64 x.session/\I64 x.at_/\I64 x.seq:=by
 obtain ⟨A,c,rfl,_,_,h3⟩:=h
 obtain ⟨b,off,rfl,hb,h4⟩:=h3 (by rintro rfl;simp at hx)
 obtain ⟨cs,⟨vi,rfl,i1,i2,i3,i4,hv⟩,_,h5⟩:=h4 m x hx
 exact ⟨b,off,c,vi,rfl,hb,h5 0 _ rfl,h5 1 _ rfl,h5 2 _ rfl,h5 3 _ rfl,h5 4 _ rfl,hv,i1,i2,i3,i4⟩
theorem Ck2:Cm4 (fun w=>Bd9 w w.heap.size):=fun _ _ _ _ he ⟨v,e,h1,h2,h3,hv⟩=>⟨v,e,h1,h2,h3,hv.ext (fun _ _ h=>h) he⟩
theorem Eu {α:Type} {R:List Value->α->Prop} {k:Nat} (w:World) (e:TypeId):Ah R k (w.alloc (.cells #[] e)) w.heap.size e (.slice (some ⟨w.heap.size,0,none⟩) 0 0) [] :=
 ⟨[],⟨by simp,.inr ⟨_,0,#[],rfl,Nat.le_refl _,heap_alloc_new w _,Nat.le_refl _,Nat.zero_le _,by simp,by simp⟩⟩,rfl,Nat.zero_le _⟩
theorem Aw9:(Tryz.prog.info? 121).map (fun i=>(i.zero.map (·.cells.size),i.size,i.bytes))=some (some 2,2,16):=by kernel_rfl
theorem Bd3 (l:List Ao) (v:Value) (w:World) (h:Dz w w.heap.size v l) :
  Calls Tryz.prog 77 #[v] w fun e w'=>(∃ v',e=.returned v'/\Ah Ei 2 w' w.heap.size 121 v' l)/\Below w.heap.size w w':=by
 have hle:=h.len_le
 obtain ⟨i0,z0,hi,hz0,hzs,hz1,hz2⟩:=H5 Aw9
 obtain ⟨A,c,rfl,-,-,hne⟩:=id h
 have he:=fun (w:World) (a:Option Addr) (n c:Nat)=>Lib.run_eql_slice_nil (P:=Tryz.prog) w 48 121 a n c 0 0 Tryz.underlying48
 cases A with
 | none =>
  obtain rfl:l=[]:=by
   rcases l with _ | ⟨y,l⟩
   ·rfl
   ·obtain ⟨b,off,h1,_⟩:=hne (by simp)
    cases h1
  clear hne h
  go_enter Tryz.func77,Tryz.ntmps77
  go_wp2_with fail
  go_ret
  exact ⟨⟨_,rfl,Ah.nil_ _ _ _⟩,Below.refl _ _⟩
 | some A =>
  have HH:=Lib.hid h
  clear hne h
  go_enter Tryz.func77,Tryz.ntmps77
  go_wp2_with (at_builtin;refine Cb _ (By8) rfl (.tmp 5) (.tmp 6) 48 rfl w.heap.size 121 i0 _ 16 Tryz.underlying48 hi hz0 hz1 hz2 hzs (by omega) _ [] rfl (Eu (R:=Ei) (k:=2) w 121) w.heap.size _ l rfl (HH.out.keep (fun _ _ h=>h) (Nat.le_refl _) (fun p hp=>World.cell?_alloc_lt _ _ _ hp)) (by simp only [List.length_nil];omega) (by omega) (by simp) ?_;intro v1 w1 hown hgr hat)
  simp only [List.nil_append] at hown
  have hb1:Below w.heap.size w w1:=(Ai (Below.refl _ _)).grown hgr (by simp) (fun k hk=>Nat.le_of_eq (Option.some.inj hk))
  have H1:=Lib.hid hown
  clear hown hgr hat hi hz0 hz1 hz2 hzs
  go_wp2_with fail
  go_ret
  exact ⟨⟨_,rfl,H1.out⟩,hb1⟩
theorem Ba9:(Tryz.prog.info? 77).map (fun i=>(i.zero.map (·.cells.size),i.size,i.bytes))=some (some 5,5,56):=by kernel_rfl
theorem Bs2 (l:List Out) (v:Value) (V:World) (w:World) (hV:Ext V w) (h:Xi V V.heap.size v l) :
  Calls Tryz.prog 151 #[v] w fun e w'=>(∃ v',e=.returned v'/\Ah (An7 V V.heap.size) 5 w' w.heap.size 77 v' l)/\Below w.heap.size w w':=by
 have hle:=h.len_le
 obtain ⟨i0,z0,hi,hz0,hzs,hz1,hz2⟩:=H5 Ba9
 obtain ⟨A,c,rfl,-,-,hne⟩:=id h
 have he:=fun (w:World) (a:Option Addr) (n c:Nat)=>Lib.run_eql_slice_nil (P:=Tryz.prog) w 31 77 a n c 0 0 Tryz.underlying31
 cases A with
 | none =>
  obtain rfl:l=[]:=by
   rcases l with _ | ⟨y,l⟩
   ·rfl
   ·obtain ⟨b,off,h1,_⟩:=hne (by simp)
    cases h1
  clear hne h
  go_enter Tryz.func151,Tryz.ntmps151
  go_wp2_with fail
  go_ret
  exact ⟨⟨_,rfl,Ah.nil_ _ _ _⟩,Below.refl _ _⟩
 | some A =>
  have HH:=Lib.hid (Sl.ext h (fun _ _ h=>h) hV)
  clear hne h
  go_enter Tryz.func151,Tryz.ntmps151
  go_wp2_with (at_builtin;refine Cb _ (fun cs x h=>C85 _ cs x h) rfl (.tmp 5) (.tmp 6) 31 rfl w.heap.size 77 i0 _ 56 Tryz.underlying31 hi hz0 hz1 hz2 hzs (by omega) _ [] rfl (Eu (R:=(An7 V V.heap.size)) (k:=5) w 77) w.heap.size _ l rfl (HH.out.keep (fun _ _ h=>h) (Nat.le_refl _) (fun p hp=>World.cell?_alloc_lt _ _ _ hp)) (by simp only [List.length_nil];omega) (by omega) (by simp) ?_;intro v1 w1 hown hgr hat)
  simp only [List.nil_append] at hown
  have hb1:Below w.heap.size w w1:=(Ai (Below.refl _ _)).grown hgr (by simp) (fun k hk=>Nat.le_of_eq (Option.some.inj hk))
  have H1:=Lib.hid hown
  clear hown hgr hat hi hz0 hz1 hz2 hzs
  go_wp2_with fail
  go_ret
  exact ⟨⟨_,rfl,H1.out⟩,hb1⟩
theorem Al2:(Tryz.prog.info? 102).map (fun i=>(i.zero.map (·.cells.size),i.size,i.bytes))=some (some 4,4,32):=by kernel_rfl
theorem B03 (l:List Ap) (v:Value) (w:World) (h:Mu w w.heap.size v l) :
  Calls Tryz.prog 215 #[v] w fun e w'=>(∃ v',e=.returned v'/\Ah Ud 4 w' w.heap.size 102 v' l)/\Below w.heap.size w w':=by
 have hle:=h.len_le
 obtain ⟨i0,z0,hi,hz0,hzs,hz1,hz2⟩:=H5 Al2
 obtain ⟨A,c,rfl,-,-,hne⟩:=id h
 have he:=fun (w:World) (a:Option Addr) (n c:Nat)=>Lib.run_eql_slice_nil (P:=Tryz.prog) w 24 102 a n c 0 0 Tryz.underlying24
 cases A with
 | none =>
  obtain rfl:l=[]:=by
   rcases l with _ | ⟨y,l⟩
   ·rfl
   ·obtain ⟨b,off,h1,_⟩:=hne (by simp)
    cases h1
  clear hne h
  go_enter Tryz.func215,Tryz.ntmps215
  go_wp2_with fail
  go_ret
  exact ⟨⟨_,rfl,Ah.nil_ _ _ _⟩,Below.refl _ _⟩
 | some A =>
  have HH:=Lib.hid h
  clear hne h
  go_enter Tryz.func215,Tryz.ntmps215
  go_wp2_with (at_builtin;refine Cb _ (Bn8) rfl (.tmp 5) (.tmp 6) 24 rfl w.heap.size 102 i0 _ 32 Tryz.underlying24 hi hz0 hz1 hz2 hzs (by omega) _ [] rfl (Eu (R:=Ud) (k:=4) w 102) w.heap.size _ l rfl (HH.out.keep (fun _ _ h=>h) (Nat.le_refl _) (fun p hp=>World.cell?_alloc_lt _ _ _ hp)) (by simp only [List.length_nil];omega) (by omega) (by simp) ?_;intro v1 w1 hown hgr hat)
  simp only [List.nil_append] at hown
  have hb1:Below w.heap.size w w1:=(Ai (Below.refl _ _)).grown hgr (by simp) (fun k hk=>Nat.le_of_eq (Option.some.inj hk))
  have H1:=Lib.hid hown
  clear hown hgr hat hi hz0 hz1 hz2 hzs
  go_wp2_with fail
  go_ret
  exact ⟨⟨_,rfl,H1.out⟩,hb1⟩
theorem Al3:(Tryz.prog.info? 53).map (fun i=>(i.zero.map (·.cells.size),i.size,i.bytes))=some (some 2,2,16):=by kernel_rfl
theorem B07 (l:List Ab) (v:Value) (w:World) (h:C8 w w.heap.size v l) :
  Calls Tryz.prog 149 #[v] w fun e w'=>(∃ v',e=.returned v'/\Ah G7 2 w' w.heap.size 53 v' l)/\Below w.heap.size w w':=by
 have hle:=h.len_le
 obtain ⟨i0,z0,hi,hz0,hzs,hz1,hz2⟩:=H5 Al3
 obtain ⟨A,c,rfl,-,-,hne⟩:=id h
 have he:=fun (w:World) (a:Option Addr) (n c:Nat)=>Lib.run_eql_slice_nil (P:=Tryz.prog) w 22 53 a n c 0 0 Tryz.underlying22
 cases A with
 | none =>
  obtain rfl:l=[]:=by
   rcases l with _ | ⟨y,l⟩
   ·rfl
   ·obtain ⟨b,off,h1,_⟩:=hne (by simp)
    cases h1
  clear hne h
  go_enter Tryz.func149,Tryz.ntmps149
  go_wp2_with fail
  go_ret
  exact ⟨⟨_,rfl,Ah.nil_ _ _ _⟩,Below.refl _ _⟩
 | some A =>
  have HH:=Lib.hid h
  clear hne h
  go_enter Tryz.func149,Tryz.ntmps149
  go_wp2_with (at_builtin;refine Cb _ (Bn9) rfl (.tmp 5) (.tmp 6) 22 rfl w.heap.size 53 i0 _ 16 Tryz.underlying22 hi hz0 hz1 hz2 hzs (by omega) _ [] rfl (Eu (R:=G7) (k:=2) w 53) w.heap.size _ l rfl (HH.out.keep (fun _ _ h=>h) (Nat.le_refl _) (fun p hp=>World.cell?_alloc_lt _ _ _ hp)) (by simp only [List.length_nil];omega) (by omega) (by simp) ?_;intro v1 w1 hown hgr hat)
  simp only [List.nil_append] at hown
  have hb1:Below w.heap.size w w1:=(Ai (Below.refl _ _)).grown hgr (by simp) (fun k hk=>Nat.le_of_eq (Option.some.inj hk))
  have H1:=Lib.hid hown
  clear hown hgr hat hi hz0 hz1 hz2 hzs
  go_wp2_with fail
  go_ret
  exact ⟨⟨_,rfl,H1.out⟩,hb1⟩
end Go.Proofs.YtblfjaedaijfoaaGreatDoor
