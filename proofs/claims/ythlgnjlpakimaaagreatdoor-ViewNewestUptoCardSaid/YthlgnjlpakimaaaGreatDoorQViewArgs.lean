/- The arguments of a view's laws, as they are read and as data. -/
import Derived.Test.YthlgnjlpakimaaaGreatDoorQLogAll
import Derived.Test.YthlgnjlpakimaaaGreatDoorQViewEnc
import Derived.OpenShut
set_option linter.all false
set_option linter.unnecessarySimpa false
set_option linter.unusedSimpArgs false
set_option linter.unusedVariables false
namespace Go.Proofs.YthlgnjlpakimaaaGreatDoor
open Go.ChangeShapes Go.WideShapes Go.ChangeAt Go.RowKit
def Cg6 (w:World) (B:Nat) (cs:List Value) (z:Av):Prop:=∃ v,cs=[.int .i64 z.span.lo,.int .i64 z.span.hi,v]/\I64 z.span.lo/\I64 z.span.hi/\Co w B v z.vec
theorem Bl4 {w:World} : Hv Tryz.prog w 122 3 (Cg6 w w.heap.size):=by
 intro H enc fuel cs x h
 obtain ⟨hl,n,hf⟩:=Dj Tryz.underlying122 h
 have hk:Tryz.prog.cellsOf 122=3:=by kernel_rfl
 have hs:Tryz.prog.cellsOf 66=2:=by kernel_rfl
 have hv:Tryz.prog.cellsOf 25=1:=by kernel_rfl
 rw [hk] at hl
 refine ⟨hl,?_⟩
 match cs,hl with
 | [v0,v1,v2],_ =>
  obtain ⟨y0,h0⟩:=hf 0 66 0 2 rfl hs
  obtain ⟨y1,h1⟩:=hf 1 25 2 1 rfl hv
  obtain ⟨_,a,e0,i0,i1⟩:=Ah5 (w:=w) H enc n _ _ h0
  obtain ⟨_,b,_,e1,s1⟩:=M9 (w:=w) H enc n _ _ h1
  simp at e0 e1
  obtain ⟨rfl,rfl⟩:=e0
  subst e1
  exact ⟨⟨a,b⟩,_,rfl,i0,i1,s1⟩
abbrev Bt7 (w:World) (B:Nat) (v:Value) (l:List Av):Prop:=Sl (Cg6 w B) 3 w B v l
theorem B89 {w:World} : Hv Tryz.prog w 26 1 (fun cs l=>∃ v,cs=[v]/\Bt7 w w.heap.size v l) :=
 Gj Tryz.underlying26 (by kernel_rfl) (by omega) Bl4
abbrev B19 (w:World) (B:Nat) (v:Value) (l:List Cg):Prop:=Sl (Bt9 w B) 4 w B v l
theorem Ax9 {w:World} : Hv Tryz.prog w 28 1 (fun cs l=>∃ v,cs=[v]/\B19 w w.heap.size v l) :=
 Gj Tryz.underlying28 (by kernel_rfl) (by omega) Ah7
def Dj0 (w:World) (B:Nat) (cs:List Value) (x:B8):Prop:=∃ v0 v1 v2 v3,cs=[v0,v1,v2,v3,.int .i64 x.room]/\Co w B v0 x.known/\Bt7 w B v1 x.zones/\Qu w B v2 x.held/\B19 w B v3 x.bodies/\I64 x.room
theorem Tj {w:World} : Hv Tryz.prog w 30 5 (Dj0 w w.heap.size):=by
 intro H enc fuel cs x h
 obtain ⟨hl,n,hf⟩:=Dj Tryz.underlying30 h
 have hk:Tryz.prog.cellsOf 30=5:=by kernel_rfl
 have q0:Tryz.prog.cellsOf 25=1:=by kernel_rfl
 have q1:Tryz.prog.cellsOf 26=1:=by kernel_rfl
 have q2:Tryz.prog.cellsOf 27=1:=by kernel_rfl
 have q3:Tryz.prog.cellsOf 28=1:=by kernel_rfl
 have q4:Tryz.prog.cellsOf 3=1:=by kernel_rfl
 rw [hk] at hl
 refine ⟨hl,?_⟩
 match cs,hl with
 | [v0,v1,v2,v3,v4],_ =>
  obtain ⟨y0,h0⟩:=hf 0 25 0 1 rfl q0
  obtain ⟨y1,h1⟩:=hf 1 26 1 1 rfl q1
  obtain ⟨y2,h2⟩:=hf 2 27 2 1 rfl q2
  obtain ⟨y3,h3⟩:=hf 3 28 3 1 rfl q3
  obtain ⟨y4,h4⟩:=hf 4 3 4 1 rfl q4
  obtain ⟨_,a,_,e0,s0⟩:=M9 (w:=w) H enc n _ _ h0
  obtain ⟨_,b,_,e1,s1⟩:=B89 (w:=w) H enc n _ _ h1
  obtain ⟨_,c,_,e2,s2⟩:=Zo (w:=w) H enc n _ _ h2
  obtain ⟨_,d,_,e3,s3⟩:=Ax9 (w:=w) H enc n _ _ h3
  obtain ⟨_,r,e4,i4⟩:=Dw (w:=w) Tryz.underlying3 H enc n _ _ h4
  simp at e0 e1 e2 e3 e4
  subst e0 e1 e2 e3 e4
  exact ⟨⟨a,b,c,d,r⟩,_,_,_,_,rfl,s0,s1,s2,s3,i4⟩
theorem D23 {X:World} {cs:List Value} {x:Av} (h:Cg6 X X.heap.size cs x):Ba X cs (enZ x):=by
 obtain ⟨v0,rfl,h1,h2,h⟩:=h
 exact ⟨.val h1,.val h2,Li h (Nat.le_refl _),trivial⟩
theorem Bu0 {X:World} {v:Value} {l:List Av} (h:Bt7 X X.heap.size v l):Da X v (znI l):=Da.of_typed (fun _ _ h=>D23 h) h (Nat.le_refl _)
theorem Au5 {X:World} {v:Value} {l:List Nat} (h:Bg2 X X.heap.size v l):Da X v (byI l):=Da.of_typed (enc:=fun (b:Nat)=>[.val (.int .u8 b)]) (fun cs x h=>by
 obtain ⟨rfl,h1⟩:=h
 refine ⟨.val ?_,trivial⟩
 simp [okV,Lit.wf,IntKind.max,IntKind.min,IntKind.signed,IntKind.bits]
 omega) h (Nat.le_refl _)
theorem Cp0 {X:World} {cs:List Value} {x:Cg} (h:Bt9 X X.heap.size cs x):Ba X cs (enB x):=by
 obtain ⟨v0,rfl,h1,h2,h3,h⟩:=h
 exact ⟨.val h1,.val h2,.val h3,Au5 h,trivial⟩
theorem Bq0 {X:World} {v:Value} {l:List Cg} (h:B19 X X.heap.size v l):Da X v (boI l):=Da.of_typed (fun _ _ h=>Cp0 h) h (Nat.le_refl _)
theorem Yv {E:Env} {X:World} {v0 v1 v2 v3:Value} {x:B8} (h0:Co X X.heap.size v0 x.known) (h1:Bt7 X X.heap.size v1 x.zones) (h2:Qu X X.heap.size v2 x.held) (h3:B19 X X.heap.size v3 x.bodies):Bp E X (.agg #[v0,v1,v2,v3,.int .i64 x.room]) (vwA x) :=
 .agg rfl fun j v c a b=>by
  match j,a,b with
  | 0,a,b=>simp at a b;subst a b;exact .iv (Li h0 (Nat.le_refl _))
  | 1,a,b=>simp at a b;subst a b;exact .iv (Bu0 h1)
  | 2,a,b=>simp at a b;subst a b;exact .iv (Xk h2 (Nat.le_refl _))
  | 3,a,b=>simp at a b;subst a b;exact .iv (Bq0 h3)
  | 4,a,b=>simp at a b;subst a b;exact .val
  | j+5,a,b=>simp at a
end Go.Proofs.YthlgnjlpakimaaaGreatDoor
