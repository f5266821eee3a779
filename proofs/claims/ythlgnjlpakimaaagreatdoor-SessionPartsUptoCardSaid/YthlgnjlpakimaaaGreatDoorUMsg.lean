/- Bodies, messages and subscriptions: how they are read. -/
import Derived.Test.YthlgnjlpakimaaaGreatDoorUCovers
import Derived.Test.YthlgnjlpakimaaaGreatDoorUSpanIn
set_option linter.all false
set_option linter.unnecessarySimpa false
set_option linter.unusedSimpArgs false
set_option linter.unusedVariables false
namespace Go.Proofs.YthlgnjlpakimaaaGreatDoor
open Go.ChangeShapes Go.WideShapes Go.ChangeAt Go.RowKit
structure Aq where
 stamp:Ab
 object:Int
 gone:Bool
 deriving DecidableEq
def Sh (cs:List Value) (x:Aq):Prop:=cs=[.int .i64 x.stamp.count,.int .i64 x.stamp.node,.int .i64 x.object,.bool x.gone]/\I64 x.stamp.count/\I64 x.stamp.node/\I64 x.object
theorem Ag8 {w:World} : Ge Tryz.prog w 49 4 Sh:=by
 intro H enc fuel cs x h
 obtain ⟨hl,n,hf⟩:=Dm Tryz.underlying49 h
 have hk:Tryz.prog.cellsOf 49=4:=by kernel_rfl
 have hs:Tryz.prog.cellsOf 42=2:=by kernel_rfl
 have hi:Tryz.prog.cellsOf 3=1:=by kernel_rfl
 have hb:Tryz.prog.cellsOf 4=1:=by kernel_rfl
 rw [hk] at hl
 refine ⟨hl,?_⟩
 match cs,hl with
 | [v0,v1,v2,v3],_ =>
  obtain ⟨y0,h0⟩:=hf 0 42 0 2 rfl hs
  obtain ⟨y1,h1⟩:=hf 1 3 2 1 rfl hi
  obtain ⟨y2,h2⟩:=hf 2 4 3 1 rfl hb
  obtain ⟨_,a,e0,i1,i2⟩:=Q4 (w:=w) H enc n _ _ h0
  obtain ⟨_,b,e1,i3⟩:=Ek (w:=w) Tryz.underlying3 H enc n _ _ h1
  obtain ⟨_,g,e2⟩:=Aq3 (w:=w) Tryz.underlying4 H enc n _ _ h2
  simp at e0 e1 e2
  obtain ⟨rfl,rfl⟩:=e0
  subst e1 e2
  exact ⟨⟨a,b,g⟩,rfl,i1,i2,i3⟩
abbrev M1:=Sl Sh 4
theorem Tg {w:World} : Ge Tryz.prog w 27 1 (fun cs l=>∃ v,cs=[v]/\M1 w w.heap.size v l) :=
 F7 Tryz.underlying27 (by kernel_rfl) (by omega) Ag8
theorem Mv {w:World} {B:Nat} {v:Value} {l:List Aq} (h:M1 w B v l) {m:Nat} {x:Aq} (hx:l[m]? = some x) :
  ∃ b off c,v=.slice (some ⟨b,off,none⟩) l.length c/\b < B/\w.cell? ⟨b,off+m*4,none⟩=some (.int .i64 x.stamp.count)/\w.cell? ⟨b,off+m*4+1,none⟩=some (.int .i64 x.stamp.node) /\
   w.cell? ⟨b,off+m*4+2,none⟩=some (.int .i64 x.object)/\w.cell? ⟨b,off+m*4+3,none⟩=some (.bool x.gone)/\I64 x.object:=by
 obtain ⟨A,c,rfl,_,_,h3⟩:=h
 obtain ⟨b,off,rfl,hb,h4⟩:=h3 (by rintro rfl;simp at hx)
 obtain ⟨cs,⟨rfl,i1,i2,i3⟩,_,h5⟩:=h4 m x hx
 exact ⟨b,off,c,rfl,hb,h5 0 _ rfl,h5 1 _ rfl,h5 2 _ rfl,h5 3 _ rfl,i3⟩
structure B7 where
 start:List Ab
 end_ : List Ab
 blur:List Ad
 writes:List Aq
 deriving DecidableEq
structure Pm (w:World) (B:Nat) (v0 v1 v2 v3:Value) (x:B7):Prop where
 start:C0 w B v0 x.start
 end_ : C0 w B v1 x.end_
 blur:Co w B v2 x.blur
 writes:M1 w B v3 x.writes
theorem Pm.next {w w':World} {v0 v1 v2 v3:Value} {x:B7} (h:Pm w w.heap.size v0 v1 v2 v3 x) (hb:Below w.heap.size w w'):Pm w' w'.heap.size v0 v1 v2 v3 x :=
 ⟨h.start.next hb,h.end_.next hb,h.blur.next hb,h.writes.next hb⟩
def Be7 (w:World) (B:Nat) (cs:List Value) (x:B7):Prop:=∃ v0 v1 v2 v3,cs=[v0,v1,v2,v3]/\Pm w B v0 v1 v2 v3 x
theorem Aq1 {w:World} : Ge Tryz.prog w 37 4 (Be7 w w.heap.size):=by
 intro H enc fuel cs x h
 obtain ⟨hl,n,hf⟩:=Dm Tryz.underlying37 h
 have hk:Tryz.prog.cellsOf 37=4:=by kernel_rfl
 have hs:Tryz.prog.cellsOf 25=1:=by kernel_rfl
 have hi:Tryz.prog.cellsOf 35=1:=by kernel_rfl
 have hb:Tryz.prog.cellsOf 27=1:=by kernel_rfl
 rw [hk] at hl
 refine ⟨hl,?_⟩
 match cs,hl with
 | [v0,v1,v2,v3],_ =>
  obtain ⟨y0,h0⟩:=hf 0 25 0 1 rfl hs
  obtain ⟨y1,h1⟩:=hf 1 25 1 1 rfl hs
  obtain ⟨y2,h2⟩:=hf 2 35 2 1 rfl hi
  obtain ⟨y3,h3⟩:=hf 3 27 3 1 rfl hb
  obtain ⟨_,a,_,e0,s0⟩:=Je (w:=w) H enc n _ _ h0
  obtain ⟨_,b,_,e1,s1⟩:=Je (w:=w) H enc n _ _ h1
  obtain ⟨_,c,_,e2,s2⟩:=Q5 (w:=w) H enc n _ _ h2
  obtain ⟨_,d,_,e3,s3⟩:=Tg (w:=w) H enc n _ _ h3
  simp at e0 e1 e2 e3
  subst e0 e1 e2 e3
  exact ⟨⟨a,b,c,d⟩,_,_,_,_,rfl,s0,s1,s2,s3⟩
abbrev U1 (w:World) (B:Nat):=Sl (Be7 w B) 4 w B
theorem U1.next {w w':World} {v:Value} {l:List B7} (h:U1 w w.heap.size v l) (hb:Below w.heap.size w w'):U1 w' w'.heap.size v l :=
 h.keep (fun _ _ ⟨v0,v1,v2,v3,e,hn⟩=>⟨v0,v1,v2,v3,e,hn.next hb⟩) hb.size fun _ hp=>hb.cell hp
theorem Ag9 {w:World} : Ge Tryz.prog w 60 1 (fun cs l=>∃ v,cs=[v]/\U1 w w.heap.size v l) :=
 F7 Tryz.underlying60 (by kernel_rfl) (by omega) Aq1
theorem Bb2 {w:World} {B:Nat} {v:Value} {l:List B7} (h:U1 w B v l) {m:Nat} {x:B7} (hx:l[m]? = some x) :
  ∃ b off c v0 v1 v2 v3,v=.slice (some ⟨b,off,none⟩) l.length c/\b < B/\w.cell? ⟨b,off+m*4,none⟩=some v0/\w.cell? ⟨b,off+m*4+1,none⟩=some v1 /\
   w.cell? ⟨b,off+m*4+2,none⟩=some v2/\w.cell? ⟨b,off+m*4+3,none⟩=some v3/\Pm w B v0 v1 v2 v3 x:=by
 obtain ⟨A,c,rfl,_,_,h3⟩:=h
 obtain ⟨b,off,rfl,hb,h4⟩:=h3 (by rintro rfl;simp at hx)
 obtain ⟨cs,⟨v0,v1,v2,v3,rfl,hn⟩,_,h5⟩:=h4 m x hx
 exact ⟨b,off,c,v0,v1,v2,v3,rfl,hb,h5 0 _ rfl,h5 1 _ rfl,h5 2 _ rfl,h5 3 _ rfl,hn⟩
def Dt (x:B7):Int->List Aq->Bool
 | _,[]=>true
 | e,y :: l=>(decide (e < y.object/\0<=y.object/\y.object<=255)&&!Bv x.blur y.object&&Fs x.end_ y.stamp)&&Dt x y.object l
def Al (x:B7):Bool:=Av x.start&&Av x.end_&&Ba x.end_ x.start&&Ci x.blur&&Dt x (-1) x.writes
def Bm7 (cs:List Value) (b:Nat):Prop:=cs=[.int .u8 b]/\b < 256
theorem Aq2 {w:World} : Ge Tryz.prog w 5 1 Bm7:=by
 intro H enc fuel cs x h
 obtain ⟨n,rfl,_,hw⟩:=DataW.trod_int Tryz.underlying5 h.1
 have h0:0<=n/\n < 256:=by
  simp [Lit.wf,IntKind.max,IntKind.min,IntKind.signed,IntKind.bits] at hw
  omega
 refine ⟨rfl,n.toNat,?_,by omega⟩
 rw [show ((n.toNat:Nat):Int)=n by omega]
abbrev Ax5:=Sl Bm7 1
theorem Ah0 {w:World} : Ge Tryz.prog w 38 1 (fun cs l=>∃ v,cs=[v]/\Ax5 w w.heap.size v l) :=
 F7 Tryz.underlying38 (by kernel_rfl) (by omega) Aq2
structure Dc where
 object:Int
 stamp:Ab
 value:List Nat
 deriving DecidableEq
def Bf0 (w:World) (B:Nat) (cs:List Value) (x:Dc):Prop :=
 ∃ v,cs=[.int .i64 x.object,.int .i64 x.stamp.count,.int .i64 x.stamp.node,v]/\I64 x.object/\I64 x.stamp.count/\I64 x.stamp.node/\Ax5 w B v x.value
theorem Aq4 {w:World} : Ge Tryz.prog w 44 4 (Bf0 w w.heap.size):=by
 intro H enc fuel cs x h
 obtain ⟨hl,n,hf⟩:=Dm Tryz.underlying44 h
 have hk:Tryz.prog.cellsOf 44=4:=by kernel_rfl
 have hs:Tryz.prog.cellsOf 42=2:=by kernel_rfl
 have hi:Tryz.prog.cellsOf 3=1:=by kernel_rfl
 have hb:Tryz.prog.cellsOf 38=1:=by kernel_rfl
 rw [hk] at hl
 refine ⟨hl,?_⟩
 match cs,hl with
 | [v0,v1,v2,v3],_ =>
  obtain ⟨y0,h0⟩:=hf 0 3 0 1 rfl hi
  obtain ⟨y1,h1⟩:=hf 1 42 1 2 rfl hs
  obtain ⟨y2,h2⟩:=hf 2 38 3 1 rfl hb
  obtain ⟨_,a,e0,i0⟩:=Ek (w:=w) Tryz.underlying3 H enc n _ _ h0
  obtain ⟨_,s,e1,i1,i2⟩:=Q4 (w:=w) H enc n _ _ h1
  obtain ⟨_,b,v,e2,hv⟩:=Ah0 (w:=w) H enc n _ _ h2
  simp at e0 e1 e2
  obtain ⟨rfl,rfl⟩:=e1
  subst e0 e2
  exact ⟨⟨a,s,b⟩,_,rfl,i0,i1,i2,hv⟩
structure Sub where
 from_:Int
 interest:List Ad
 session:Int
 seq:Int
 live:Bool
 heard:Bool
 idle:Bool
 deriving DecidableEq
def Aa8 (w:World) (B:Nat) (cs:List Value) (x:Sub):Prop :=
 ∃ v,cs=[.int .i64 x.from_,v,.int .i64 x.session,.int .i64 x.seq,.bool x.live,.bool x.heard,.bool x.idle]/\I64 x.from_/\I64 x.session/\I64 x.seq/\Co w B v x.interest
abbrev M4 (w:World) (B:Nat):=Sl (Aa8 w B) 7 w B
theorem M4.next {w w':World} {v:Value} {l:List Sub} (h:M4 w w.heap.size v l) (hb:Below w.heap.size w w'):M4 w' w'.heap.size v l :=
 h.keep (fun _ _ ⟨v,e,h1,h2,h3,h4⟩=>⟨v,e,h1,h2,h3,h4.next hb⟩) hb.size fun _ hp=>hb.cell hp
structure Out where
 to_:Int
 session:Int
 interest:List Ad
 at_:Int
 seq:Int
 deriving DecidableEq
def Ab0 (w:World) (B:Nat) (cs:List Value) (x:Out):Prop :=
 ∃ v,cs=[.int .i64 x.to_,.int .i64 x.session,v,.int .i64 x.at_,.int .i64 x.seq]/\I64 x.to_/\I64 x.session/\I64 x.at_/\I64 x.seq/\Co w B v x.interest
theorem B16 {w:World} : Ge Tryz.prog w 94 5 (Ab0 w w.heap.size):=by
 intro H enc fuel cs x h
 obtain ⟨hl,n,hf⟩:=Dm Tryz.underlying94 h
 have hk:Tryz.prog.cellsOf 94=5:=by kernel_rfl
 have hs:Tryz.prog.cellsOf 35=1:=by kernel_rfl
 have hi:Tryz.prog.cellsOf 3=1:=by kernel_rfl
 rw [hk] at hl
 refine ⟨hl,?_⟩
 match cs,hl with
 | [v0,v1,v2,v3,v4],_ =>
  obtain ⟨y0,h0⟩:=hf 0 3 0 1 rfl hi
  obtain ⟨y1,h1⟩:=hf 1 3 1 1 rfl hi
  obtain ⟨y2,h2⟩:=hf 2 35 2 1 rfl hs
  obtain ⟨y3,h3⟩:=hf 3 3 3 1 rfl hi
  obtain ⟨y4,h4⟩:=hf 4 3 4 1 rfl hi
  obtain ⟨_,a,e0,i0⟩:=Ek (w:=w) Tryz.underlying3 H enc n _ _ h0
  obtain ⟨_,b,e1,i1⟩:=Ek (w:=w) Tryz.underlying3 H enc n _ _ h1
  obtain ⟨_,l,v,e2,hv⟩:=Q5 (w:=w) H enc n _ _ h2
  obtain ⟨_,c,e3,i3⟩:=Ek (w:=w) Tryz.underlying3 H enc n _ _ h3
  obtain ⟨_,d,e4,i4⟩:=Ek (w:=w) Tryz.underlying3 H enc n _ _ h4
  simp at e0 e1 e2 e3 e4
  subst e0 e1 e2 e3 e4
  exact ⟨⟨a,b,l,c,d⟩,_,rfl,i0,i1,i3,i4,hv⟩
abbrev Wl (w:World) (B:Nat):=Sl (Ab0 w B) 5 w B
theorem Wl.next {w w':World} {v:Value} {l:List Out} (h:Wl w w.heap.size v l) (hb:Below w.heap.size w w'):Wl w' w'.heap.size v l :=
 h.keep (fun _ _ ⟨v,e,h1,h2,h3,h4,h5⟩=>⟨v,e,h1,h2,h3,h4,h5.next hb⟩) hb.size fun _ hp=>hb.cell hp
theorem Aq0 {w:World} : Ge Tryz.prog w 80 1 (fun cs l=>∃ v,cs=[v]/\Wl w w.heap.size v l) :=
 F7 Tryz.underlying80 (by kernel_rfl) (by omega) B16
structure Msg where
 kind:Int
 from_:Int
 to_:Int
 session:Int
 seq:Int
 interest:List Ad
 vector:List Ab
 notes:List B7
 body:Dc
 deriving DecidableEq
structure Zn (w:World) (B:Nat) (vi vv vn vb:Value) (x:Msg):Prop where
 interest:Co w B vi x.interest
 vector:C0 w B vv x.vector
 notes:U1 w B vn x.notes
 value:Ax5 w B vb x.body.value
theorem Zn.next {w w':World} {v0 v1 v2 v3:Value} {x:Msg} (h:Zn w w.heap.size v0 v1 v2 v3 x) (hb:Below w.heap.size w w'):Zn w' w'.heap.size v0 v1 v2 v3 x :=
 ⟨h.interest.next hb,h.vector.next hb,h.notes.next hb,h.value.next hb⟩
def Tj (vi vv vn vb:Value) (x:Msg):Array Value :=
 #[.int .i64 x.kind,.int .i64 x.from_,.int .i64 x.to_,.int .i64 x.session,.int .i64 x.seq,vi,vv,vn,.int .i64 x.body.object,.int .i64 x.body.stamp.count,.int .i64 x.body.stamp.node,vb]
structure B65 (x:Msg):Prop where
 kind:I64 x.kind
 from_:I64 x.from_
 to_:I64 x.to_
 session:I64 x.session
 seq:I64 x.seq
 object:I64 x.body.object
def D37 (w:World) (B:Nat) (cs:List Value) (x:Msg):Prop:=∃ vi vv vn vb,cs=(Tj vi vv vn vb x).toList/\B65 x/\Zn w B vi vv vn vb x
end Go.Proofs.YthlgnjlpakimaaaGreatDoor
