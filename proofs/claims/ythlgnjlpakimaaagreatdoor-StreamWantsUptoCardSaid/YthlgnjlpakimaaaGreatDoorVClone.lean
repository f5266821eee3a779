/- Contracts of slices.Clone, one for each element type. -/
import Derived.Test.YthlgnjlpakimaaaGreatDoorVCovers
import Derived.Test.YthlgnjlpakimaaaGreatDoorVSpanIn
import Derived.Test.YthlgnjlpakimaaaGreatDoorVMarks
set_option linter.all false
set_option linter.unnecessarySimpa false
set_option linter.unusedSimpArgs false
set_option linter.unusedVariables false
namespace Go.Proofs.YthlgnjlpakimaaaGreatDoor
open Go.ChangeShapes Go.WideShapes Go.ChangeAt Go.RowKit
structure Ai where
 stamp:Aa
 object:Int
 gone:Bool
 deriving DecidableEq
def Ut (cs:List Value) (x:Ai):Prop:=cs=[.int .i64 x.stamp.count,.int .i64 x.stamp.node,.int .i64 x.object,.bool x.gone]/\I64 x.stamp.count/\I64 x.stamp.node/\I64 x.object
theorem An0 {w:World} : Jb Tryz.prog w 49 4 Ut:=by
 intro H enc fuel cs x h
 obtain ⟨hl,n,hf⟩:=Ed Tryz.underlying49 h
 have hk:Tryz.prog.cellsOf 49=4:=by kernel_rfl
 have hs:Tryz.prog.cellsOf 42=2:=by kernel_rfl
 have hi:Tryz.prog.cellsOf 3=1:=by kernel_rfl
 have hb:Tryz.prog.cellsOf 4=1:=by kernel_rfl
 rw [hk] at hl
 refine ⟨hl,?_⟩
 match cs,hl with
 | [v0,v1,v2,v3],_ =>
  obtain ⟨y0,h0⟩:=hf 0 42 0 2 rfl hs
  obtain ⟨y1,h1⟩:=hf 1 3 2 1 rfl hi
  obtain ⟨y2,h2⟩:=hf 2 4 3 1 rfl hb
  obtain ⟨_,a,e0,i1,i2⟩:=Ry (w:=w) H enc n _ _ h0
  obtain ⟨_,b,e1,i3⟩:=Gm (w:=w) Tryz.underlying3 H enc n _ _ h1
  obtain ⟨_,g,e2⟩:=Ax8 (w:=w) Tryz.underlying4 H enc n _ _ h2
  simp at e0 e1 e2
  obtain ⟨rfl,rfl⟩:=e0
  subst e1 e2
  exact ⟨⟨a,b,g⟩,rfl,i1,i2,i3⟩
abbrev N1:=Sl Ut 4
theorem Vq {w:World} : Jb Tryz.prog w 27 1 (fun cs l=>∃ v,cs=[v]/\N1 w w.heap.size v l) :=
 H7 Tryz.underlying27 (by kernel_rfl) (by omega) An0
theorem Nz {w:World} {B:Nat} {v:Value} {l:List Ai} (h:N1 w B v l) {m:Nat} {x:Ai} (hx:l[m]? = some x) :
  ∃ b off c,v=.slice (some ⟨b,off,none⟩) l.length c/\b < B/\w.cell? ⟨b,off+m*4,none⟩=some (.int .i64 x.stamp.count)/\w.cell? ⟨b,off+m*4+1,none⟩=some (.int .i64 x.stamp.node) /\
   w.cell? ⟨b,off+m*4+2,none⟩=some (.int .i64 x.object)/\w.cell? ⟨b,off+m*4+3,none⟩=some (.bool x.gone)/\I64 x.object:=by
 obtain ⟨A,c,rfl,_,_,h3⟩:=h
 obtain ⟨b,off,rfl,hb,h4⟩:=h3 (by rintro rfl;simp at hx)
 obtain ⟨cs,⟨rfl,i1,i2,i3⟩,_,h5⟩:=h4 m x hx
 exact ⟨b,off,c,rfl,hb,h5 0 _ rfl,h5 1 _ rfl,h5 2 _ rfl,h5 3 _ rfl,i3⟩
structure Aq where
 start:List Aa
 end_ : List Aa
 blur:List Ad
 writes:List Ai
 deriving DecidableEq
structure Sj (w:World) (B:Nat) (v0 v1 v2 v3:Value) (x:Aq):Prop where
 start:Cc w B v0 x.start
 end_ : Cc w B v1 x.end_
 blur:E5 w B v2 x.blur
 writes:N1 w B v3 x.writes
theorem Sj.next {w w':World} {v0 v1 v2 v3:Value} {x:Aq} (h:Sj w w.heap.size v0 v1 v2 v3 x) (hb:Below w.heap.size w w'):Sj w' w'.heap.size v0 v1 v2 v3 x :=
 ⟨h.start.next hb,h.end_.next hb,h.blur.next hb,h.writes.next hb⟩
def Bn6 (w:World) (B:Nat) (cs:List Value) (x:Aq):Prop:=∃ v0 v1 v2 v3,cs=[v0,v1,v2,v3]/\Sj w B v0 v1 v2 v3 x
theorem Ax6 {w:World} : Jb Tryz.prog w 37 4 (Bn6 w w.heap.size):=by
 intro H enc fuel cs x h
 obtain ⟨hl,n,hf⟩:=Ed Tryz.underlying37 h
 have hk:Tryz.prog.cellsOf 37=4:=by kernel_rfl
 have hs:Tryz.prog.cellsOf 25=1:=by kernel_rfl
 have hi:Tryz.prog.cellsOf 35=1:=by kernel_rfl
 have hb:Tryz.prog.cellsOf 27=1:=by kernel_rfl
 rw [hk] at hl
 refine ⟨hl,?_⟩
 match cs,hl with
 | [v0,v1,v2,v3],_ =>
  obtain ⟨y0,h0⟩:=hf 0 25 0 1 rfl hs
  obtain ⟨y1,h1⟩:=hf 1 25 1 1 rfl hs
  obtain ⟨y2,h2⟩:=hf 2 35 2 1 rfl hi
  obtain ⟨y3,h3⟩:=hf 3 27 3 1 rfl hb
  obtain ⟨_,a,_,e0,s0⟩:=K9 (w:=w) H enc n _ _ h0
  obtain ⟨_,b,_,e1,s1⟩:=K9 (w:=w) H enc n _ _ h1
  obtain ⟨_,c,_,e2,s2⟩:=Yg (w:=w) H enc n _ _ h2
  obtain ⟨_,d,_,e3,s3⟩:=Vq (w:=w) H enc n _ _ h3
  simp at e0 e1 e2 e3
  subst e0 e1 e2 e3
  exact ⟨⟨a,b,c,d⟩,_,_,_,_,rfl,s0,s1,s2,s3⟩
abbrev At2 (w:World) (B:Nat):=Sl (Bn6 w B) 4 w B
theorem An1 {w:World} : Jb Tryz.prog w 60 1 (fun cs l=>∃ v,cs=[v]/\At2 w w.heap.size v l) :=
 H7 Tryz.underlying60 (by kernel_rfl) (by omega) Ax6
def Eo (x:Aq):Int->List Ai->Bool
 | _,[]=>true
 | e,y :: l=>(decide (e < y.object/\0<=y.object/\y.object<=255)&&!By x.blur y.object&&Dv x.end_ y.stamp)&&Eo x y.object l
def Ag (x:Aq):Bool:=Ak x.start&&Ak x.end_&&At x.end_ x.start&&E9 x.blur&&Eo x (-1) x.writes
def Bv1 (cs:List Value) (b:Nat):Prop:=cs=[.int .u8 b]/\b < 256
theorem Ax7 {w:World} : Jb Tryz.prog w 5 1 Bv1:=by
 intro H enc fuel cs x h
 obtain ⟨n,rfl,_,hw⟩:=DataW.trod_int Tryz.underlying5 h.1
 have h0:0<=n/\n < 256:=by
  simp [Lit.wf,IntKind.max,IntKind.min,IntKind.signed,IntKind.bits] at hw
  omega
 refine ⟨rfl,n.toNat,?_,by omega⟩
 rw [show ((n.toNat:Nat):Int)=n by omega]
abbrev B56:=Sl Bv1 1
theorem An2 {w:World} : Jb Tryz.prog w 38 1 (fun cs l=>∃ v,cs=[v]/\B56 w w.heap.size v l) :=
 H7 Tryz.underlying38 (by kernel_rfl) (by omega) Ax7
structure Ct where
 object:Int
 stamp:Aa
 value:List Nat
 deriving DecidableEq
def Bn9 (w:World) (B:Nat) (cs:List Value) (x:Ct):Prop :=
 ∃ v,cs=[.int .i64 x.object,.int .i64 x.stamp.count,.int .i64 x.stamp.node,v]/\I64 x.object/\I64 x.stamp.count/\I64 x.stamp.node/\B56 w B v x.value
theorem Ax9 {w:World} : Jb Tryz.prog w 44 4 (Bn9 w w.heap.size):=by
 intro H enc fuel cs x h
 obtain ⟨hl,n,hf⟩:=Ed Tryz.underlying44 h
 have hk:Tryz.prog.cellsOf 44=4:=by kernel_rfl
 have hs:Tryz.prog.cellsOf 42=2:=by kernel_rfl
 have hi:Tryz.prog.cellsOf 3=1:=by kernel_rfl
 have hb:Tryz.prog.cellsOf 38=1:=by kernel_rfl
 rw [hk] at hl
 refine ⟨hl,?_⟩
 match cs,hl with
 | [v0,v1,v2,v3],_ =>
  obtain ⟨y0,h0⟩:=hf 0 3 0 1 rfl hi
  obtain ⟨y1,h1⟩:=hf 1 42 1 2 rfl hs
  obtain ⟨y2,h2⟩:=hf 2 38 3 1 rfl hb
  obtain ⟨_,a,e0,i0⟩:=Gm (w:=w) Tryz.underlying3 H enc n _ _ h0
  obtain ⟨_,s,e1,i1,i2⟩:=Ry (w:=w) H enc n _ _ h1
  obtain ⟨_,b,v,e2,hv⟩:=An2 (w:=w) H enc n _ _ h2
  simp at e0 e1 e2
  obtain ⟨rfl,rfl⟩:=e1
  subst e0 e2
  exact ⟨⟨a,s,b⟩,_,rfl,i0,i1,i2,hv⟩
structure Sub where
 from_:Int
 interest:List Ad
 session:Int
 seq:Int
 live:Bool
 heard:Bool
 idle:Bool
 deriving DecidableEq
def D66 (w:World) (B:Nat) (cs:List Value) (x:Sub):Prop :=
 ∃ v,cs=[.int .i64 x.from_,v,.int .i64 x.session,.int .i64 x.seq,.bool x.live,.bool x.heard,.bool x.idle]/\I64 x.from_/\I64 x.session/\I64 x.seq/\E5 w B v x.interest
abbrev Bs6 (w:World) (B:Nat):=Sl (D66 w B) 7 w B
structure Out where
 to_:Int
 session:Int
 interest:List Ad
 at_:Int
 seq:Int
 deriving DecidableEq
def D68 (w:World) (B:Nat) (cs:List Value) (x:Out):Prop :=
 ∃ v,cs=[.int .i64 x.to_,.int .i64 x.session,v,.int .i64 x.at_,.int .i64 x.seq]/\I64 x.to_/\I64 x.session/\I64 x.at_/\I64 x.seq/\E5 w B v x.interest
abbrev Da9 (w:World) (B:Nat):=Sl (D68 w B) 5 w B
structure Msg where
 kind:Int
 from_:Int
 to_:Int
 session:Int
 seq:Int
 interest:List Ad
 vector:List Aa
 notes:List Aq
 body:Ct
 deriving DecidableEq
structure D70 (w:World) (B:Nat) (vi vv vn vb:Value) (x:Msg):Prop where
 interest:E5 w B vi x.interest
 vector:Cc w B vv x.vector
 notes:At2 w B vn x.notes
 value:B56 w B vb x.body.value
def Bj5 (vi vv vn vb:Value) (x:Msg):Array Value :=
 #[.int .i64 x.kind,.int .i64 x.from_,.int .i64 x.to_,.int .i64 x.session,.int .i64 x.seq,vi,vv,vn,.int .i64 x.body.object,.int .i64 x.body.stamp.count,.int .i64 x.body.stamp.node,vb]
structure D71 (x:Msg):Prop where
 kind:I64 x.kind
 from_:I64 x.from_
 to_:I64 x.to_
 session:I64 x.session
 seq:I64 x.seq
 object:I64 x.body.object
def Db0 (w:World) (B:Nat) (cs:List Value) (x:Msg):Prop:=∃ vi vv vn vb,cs=(Bj5 vi vv vn vb x).toList/\D71 x/\D70 w B vi vv vn vb x
theorem Bi6:∀ cs x,Em cs x->∀ u∈cs,u.oneCell'=true:=by
 rintro cs x ⟨rfl,_⟩ u hu;simp at hu;rcases hu with rfl | rfl<;>rfl
theorem B98:∀ cs x,G2 cs x->∀ u∈cs,u.oneCell'=true:=by
 rintro cs x ⟨rfl,_⟩ u hu;simp at hu;rcases hu with rfl | rfl<;>rfl
theorem B97:∀ cs x,Ut cs x->∀ u∈cs,u.oneCell'=true:=by
 rintro cs x ⟨rfl,_⟩ u hu;simp at hu;rcases hu with rfl | rfl | rfl | rfl<;>rfl
theorem Nf {α:Type} {R:List Value->α->Prop} {k:Nat} (w:World) (e:TypeId):Af R k (w.alloc (.cells #[] e)) w.heap.size e (.slice (some ⟨w.heap.size,0,none⟩) 0 0) [] :=
 ⟨[],⟨by simp,.inr ⟨_,0,#[],rfl,Nat.le_refl _,heap_alloc_new w _,Nat.le_refl _,Nat.zero_le _,by simp,by simp⟩⟩,rfl,Nat.zero_le _⟩
theorem Ap1:(Tryz.prog.info? 66).map (fun i=>(i.zero.map (·.cells.size),i.size,i.bytes))=some (some 2,2,16):=by kernel_rfl
theorem B11 (l:List Ad) (v:Value) (w:World) (h:E5 w w.heap.size v l) :
  Calls Tryz.prog 166 #[v] w fun e w'=>(∃ v',e=.returned v'/\Af Em 2 w' w.heap.size 66 v' l)/\Below w.heap.size w w':=by
 have hle:=h.len_le
 obtain ⟨i0,z0,hi,hz0,hzs,hz1,hz2⟩:=M0 Ap1
 obtain ⟨A,c,rfl,-,-,hne⟩:=id h
 have he:=fun (w:World) (a:Option Addr) (n c:Nat)=>Lib.run_eql_slice_nil (P:=Tryz.prog) w 35 66 a n c 0 0 Tryz.underlying35
 cases A with
 | none =>
  obtain rfl:l=[]:=by
   rcases l with _ | ⟨y,l⟩
   ·rfl
   ·obtain ⟨b,off,h1,_⟩:=hne (by simp)
    cases h1
  clear hne h
  go_enter Tryz.func166,Tryz.ntmps166
  go_wp2_with fail
  go_ret
  exact ⟨⟨_,rfl,Af.nil_ _ _ _⟩,Below.refl _ _⟩
 | some A =>
  have HH:=Lib.hid h
  clear hne h
  go_enter Tryz.func166,Tryz.ntmps166
  go_wp2_with (at_builtin;refine E8 _ (Bi6) rfl (.tmp 5) (.tmp 6) 35 rfl w.heap.size 66 i0 _ 16 Tryz.underlying35 hi hz0 hz1 hz2 hzs (by omega) _ [] rfl (Nf (R:=Em) (k:=2) w 66) w.heap.size _ l rfl (HH.out.keep (fun _ _ h=>h) (Nat.le_refl _) (fun p hp=>World.cell?_alloc_lt _ _ _ hp)) (by simp only [List.length_nil];omega) (by omega) (by simp) ?_;intro v1 w1 hown hgr hat)
  simp only [List.nil_append] at hown
  have hb1:Below w.heap.size w w1:=(Ax (Below.refl _ _)).grown hgr (by simp) (fun k hk=>Nat.le_of_eq (Option.some.inj hk))
  have H1:=Lib.hid hown
  clear hown hgr hat hi hz0 hz1 hz2 hzs
  go_wp2_with fail
  go_ret
  exact ⟨⟨_,rfl,H1.out⟩,hb1⟩
theorem Qw:(Tryz.prog.info? 49).map (fun i=>(i.zero.map (·.cells.size),i.size,i.bytes))=some (some 4,4,32):=by kernel_rfl
theorem Ar9 (l:List Ai) (v:Value) (w:World) (h:N1 w w.heap.size v l) :
  Calls Tryz.prog 48 #[v] w fun e w'=>(∃ v',e=.returned v'/\Af Ut 4 w' w.heap.size 49 v' l)/\Below w.heap.size w w':=by
 have hle:=h.len_le
 obtain ⟨i0,z0,hi,hz0,hzs,hz1,hz2⟩:=M0 Qw
 obtain ⟨A,c,rfl,-,-,hne⟩:=id h
 have he:=fun (w:World) (a:Option Addr) (n c:Nat)=>Lib.run_eql_slice_nil (P:=Tryz.prog) w 27 49 a n c 0 0 Tryz.underlying27
 cases A with
 | none =>
  obtain rfl:l=[]:=by
   rcases l with _ | ⟨y,l⟩
   ·rfl
   ·obtain ⟨b,off,h1,_⟩:=hne (by simp)
    cases h1
  clear hne h
  go_enter Tryz.func48,Tryz.ntmps48
  go_wp2_with fail
  go_ret
  exact ⟨⟨_,rfl,Af.nil_ _ _ _⟩,Below.refl _ _⟩
 | some A =>
  have HH:=Lib.hid h
  clear hne h
  go_enter Tryz.func48,Tryz.ntmps48
  go_wp2_with (at_builtin;refine E8 _ (B97) rfl (.tmp 5) (.tmp 6) 27 rfl w.heap.size 49 i0 _ 32 Tryz.underlying27 hi hz0 hz1 hz2 hzs (by omega) _ [] rfl (Nf (R:=Ut) (k:=4) w 49) w.heap.size _ l rfl (HH.out.keep (fun _ _ h=>h) (Nat.le_refl _) (fun p hp=>World.cell?_alloc_lt _ _ _ hp)) (by simp only [List.length_nil];omega) (by omega) (by simp) ?_;intro v1 w1 hown hgr hat)
  simp only [List.nil_append] at hown
  have hb1:Below w.heap.size w w1:=(Ax (Below.refl _ _)).grown hgr (by simp) (fun k hk=>Nat.le_of_eq (Option.some.inj hk))
  have H1:=Lib.hid hown
  clear hown hgr hat hi hz0 hz1 hz2 hzs
  go_wp2_with fail
  go_ret
  exact ⟨⟨_,rfl,H1.out⟩,hb1⟩
theorem Af8:(Tryz.prog.info? 42).map (fun i=>(i.zero.map (·.cells.size),i.size,i.bytes))=some (some 2,2,16):=by kernel_rfl
theorem As1 (l:List Aa) (v:Value) (w:World) (h:Cc w w.heap.size v l) :
  Calls Tryz.prog 66 #[v] w fun e w'=>(∃ v',e=.returned v'/\Af G2 2 w' w.heap.size 42 v' l)/\Below w.heap.size w w':=by
 have hle:=h.len_le
 obtain ⟨i0,z0,hi,hz0,hzs,hz1,hz2⟩:=M0 Af8
 obtain ⟨A,c,rfl,-,-,hne⟩:=id h
 have he:=fun (w:World) (a:Option Addr) (n c:Nat)=>Lib.run_eql_slice_nil (P:=Tryz.prog) w 25 42 a n c 0 0 Tryz.underlying25
 cases A with
 | none =>
  obtain rfl:l=[]:=by
   rcases l with _ | ⟨y,l⟩
   ·rfl
   ·obtain ⟨b,off,h1,_⟩:=hne (by simp)
    cases h1
  clear hne h
  go_enter Tryz.func66,Tryz.ntmps66
  go_wp2_with fail
  go_ret
  exact ⟨⟨_,rfl,Af.nil_ _ _ _⟩,Below.refl _ _⟩
 | some A =>
  have HH:=Lib.hid h
  clear hne h
  go_enter Tryz.func66,Tryz.ntmps66
  go_wp2_with (at_builtin;refine E8 _ (B98) rfl (.tmp 5) (.tmp 6) 25 rfl w.heap.size 42 i0 _ 16 Tryz.underlying25 hi hz0 hz1 hz2 hzs (by omega) _ [] rfl (Nf (R:=G2) (k:=2) w 42) w.heap.size _ l rfl (HH.out.keep (fun _ _ h=>h) (Nat.le_refl _) (fun p hp=>World.cell?_alloc_lt _ _ _ hp)) (by simp only [List.length_nil];omega) (by omega) (by simp) ?_;intro v1 w1 hown hgr hat)
  simp only [List.nil_append] at hown
  have hb1:Below w.heap.size w w1:=(Ax (Below.refl _ _)).grown hgr (by simp) (fun k hk=>Nat.le_of_eq (Option.some.inj hk))
  have H1:=Lib.hid hown
  clear hown hgr hat hi hz0 hz1 hz2 hzs
  go_wp2_with fail
  go_ret
  exact ⟨⟨_,rfl,H1.out⟩,hb1⟩
end Go.Proofs.YthlgnjlpakimaaaGreatDoor
