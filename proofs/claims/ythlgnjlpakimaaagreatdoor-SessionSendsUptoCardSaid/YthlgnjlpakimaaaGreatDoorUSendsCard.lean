/- The law SessionSends: what is sent, session by session, is what the reference says, in messages that are formed, or it is refused. The card (second form: of bulk at most 1048576). -/
import Derived.Test.YthlgnjlpakimaaaGreatDoorUGoes
import Derived.Test.YthlgnjlpakimaaaGreatDoorUViewEnc
import Derived.OpenShut
import Derived.Test.YthlgnjlpakimaaaGreatDoorUSendsLaw
import Derived.Test.YthlgnjlpakimaaaGreatDoorUTzLaid
set_option linter.all false
set_option linter.unnecessarySimpa false
set_option linter.unusedSimpArgs false
set_option linter.unusedVariables false
namespace Go.Proofs.YthlgnjlpakimaaaGreatDoor
open Go.ChangeShapes Go.WideShapes Go.ChangeAt Go.RowKit
def Be6 (w:World) (B:Nat) (cs:List Value) (z:B8):Prop:=∃ v,cs=[.int .i64 z.span.lo,.int .i64 z.span.hi,v]/\I64 z.span.lo/\I64 z.span.hi/\C0 w B v z.vec
theorem Ap8 {w:World} : Ge Tryz.prog w 122 3 (Be6 w w.heap.size):=by
 intro H enc fuel cs x h
 obtain ⟨hl,n,hf⟩:=Dm Tryz.underlying122 h
 have hk:Tryz.prog.cellsOf 122=3:=by kernel_rfl
 have hs:Tryz.prog.cellsOf 66=2:=by kernel_rfl
 have hv:Tryz.prog.cellsOf 25=1:=by kernel_rfl
 rw [hk] at hl
 refine ⟨hl,?_⟩
 match cs,hl with
 | [v0,v1,v2],_ =>
  obtain ⟨y0,h0⟩:=hf 0 66 0 2 rfl hs
  obtain ⟨y1,h1⟩:=hf 1 25 2 1 rfl hv
  obtain ⟨_,a,e0,i0,i1⟩:=Xz (w:=w) H enc n _ _ h0
  obtain ⟨_,b,_,e1,s1⟩:=Je (w:=w) H enc n _ _ h1
  simp at e0 e1
  obtain ⟨rfl,rfl⟩:=e0
  subst e1
  exact ⟨⟨a,b⟩,_,rfl,i0,i1,s1⟩
abbrev Ax4 (w:World) (B:Nat) (v:Value) (l:List B8):Prop:=Sl (Be6 w B) 3 w B v l
theorem Ag7 {w:World} : Ge Tryz.prog w 26 1 (fun cs l=>∃ v,cs=[v]/\Ax4 w w.heap.size v l) :=
 F7 Tryz.underlying26 (by kernel_rfl) (by omega) Ap8
abbrev Ab1 (w:World) (B:Nat) (v:Value) (l:List Dc):Prop:=Sl (Bf0 w B) 4 w B v l
theorem A73 {w:World} : Ge Tryz.prog w 28 1 (fun cs l=>∃ v,cs=[v]/\Ab1 w w.heap.size v l) :=
 F7 Tryz.underlying28 (by kernel_rfl) (by omega) Aq4
def Cf2 (w:World) (B:Nat) (cs:List Value) (x:Bz):Prop:=∃ v0 v1 v2 v3,cs=[v0,v1,v2,v3,.int .i64 x.room]/\C0 w B v0 x.known/\Ax4 w B v1 x.zones/\M1 w B v2 x.held/\Ab1 w B v3 x.bodies/\I64 x.room
theorem Ap9 {w:World} : Ge Tryz.prog w 30 5 (Cf2 w w.heap.size):=by
 intro H enc fuel cs x h
 obtain ⟨hl,n,hf⟩:=Dm Tryz.underlying30 h
 have hk:Tryz.prog.cellsOf 30=5:=by kernel_rfl
 have q0:Tryz.prog.cellsOf 25=1:=by kernel_rfl
 have q1:Tryz.prog.cellsOf 26=1:=by kernel_rfl
 have q2:Tryz.prog.cellsOf 27=1:=by kernel_rfl
 have q3:Tryz.prog.cellsOf 28=1:=by kernel_rfl
 have q4:Tryz.prog.cellsOf 3=1:=by kernel_rfl
 rw [hk] at hl
 refine ⟨hl,?_⟩
 match cs,hl with
 | [v0,v1,v2,v3,v4],_ =>
  obtain ⟨y0,h0⟩:=hf 0 25 0 1 rfl q0
  obtain ⟨y1,h1⟩:=hf 1 26 1 1 rfl q1
  obtain ⟨y2,h2⟩:=hf 2 27 2 1 rfl q2
  obtain ⟨y3,h3⟩:=hf 3 28 3 1 rfl q3
  obtain ⟨y4,h4⟩:=hf 4 3 4 1 rfl q4
  obtain ⟨_,a,_,e0,s0⟩:=Je (w:=w) H enc n _ _ h0
  obtain ⟨_,b,_,e1,s1⟩:=Ag7 (w:=w) H enc n _ _ h1
  obtain ⟨_,c,_,e2,s2⟩:=Tg (w:=w) H enc n _ _ h2
  obtain ⟨_,d,_,e3,s3⟩:=A73 (w:=w) H enc n _ _ h3
  obtain ⟨_,r,e4,i4⟩:=Ek (w:=w) Tryz.underlying3 H enc n _ _ h4
  simp at e0 e1 e2 e3 e4
  subst e0 e1 e2 e3 e4
  exact ⟨⟨a,b,c,d,r⟩,_,_,_,_,rfl,s0,s1,s2,s3,i4⟩
theorem Bz8 {X:World} {cs:List Value} {x:B8} (h:Be6 X X.heap.size cs x):Bl X cs (enZ x):=by
 obtain ⟨v0,rfl,h1,h2,h⟩:=h
 exact ⟨.val h1,.val h2,Lm h (Nat.le_refl _),trivial⟩
theorem Ax6 {X:World} {v:Value} {l:List B8} (h:Ax4 X X.heap.size v l):Cs X v (znI l):=Cs.of_typed (fun _ _ h=>Bz8 h) h (Nat.le_refl _)
theorem B60 {X:World} {v:Value} {l:List Nat} (h:Ax5 X X.heap.size v l):Cs X v (byI l):=Cs.of_typed (enc:=fun (b:Nat)=>[.val (.int .u8 b)]) (fun cs x h=>by
 obtain ⟨rfl,h1⟩:=h
 refine ⟨.val ?_,trivial⟩
 simp [okV,Lit.wf,IntKind.max,IntKind.min,IntKind.signed,IntKind.bits]
 omega) h (Nat.le_refl _)
theorem Ce1 {X:World} {cs:List Value} {x:Dc} (h:Bf0 X X.heap.size cs x):Bl X cs (enB x):=by
 obtain ⟨v0,rfl,h1,h2,h3,h⟩:=h
 exact ⟨.val h1,.val h2,.val h3,B60 h,trivial⟩
theorem At9 {X:World} {v:Value} {l:List Dc} (h:Ab1 X X.heap.size v l):Cs X v (boI l):=Cs.of_typed (fun _ _ h=>Ce1 h) h (Nat.le_refl _)
theorem B72 {E:Env} {X:World} {v0 v1 v2 v3:Value} {x:Bz} (h0:C0 X X.heap.size v0 x.known) (h1:Ax4 X X.heap.size v1 x.zones) (h2:M1 X X.heap.size v2 x.held) (h3:Ab1 X X.heap.size v3 x.bodies):Bb E X (.agg #[v0,v1,v2,v3,.int .i64 x.room]) (vwA x) :=
 .agg rfl fun j v c a b=>by
  match j,a,b with
  | 0,a,b=>simp at a b;subst a b;exact .iv (Lm h0 (Nat.le_refl _))
  | 1,a,b=>simp at a b;subst a b;exact .iv (Ax6 h1)
  | 2,a,b=>simp at a b;subst a b;exact .iv (X6 h2 (Nat.le_refl _))
  | 3,a,b=>simp at a b;subst a b;exact .iv (At9 h3)
  | 4,a,b=>simp at a b;subst a b;exact .val
  | j+5,a,b=>simp at a
namespace cSessionSends
set_option maxRecDepth 100000 in
theorem contract (H : Type) (enc : TypeId × Value -> H) (W : World) (base : Nat) (args : Array Value) (ds gs : List (DataW H)) (before : List MemPlace)
    (hval : ∀ (j : Nat) t v, Tryz.f7.params[j]? = some t -> args[j]? = some v -> Value.okWide Tryz.prog W .any base t v)
    (hW : DataW.Whole enc Tryz.prog Tryz.f7.params.toList Rows.sessionSendsSpec.vars false W args.toList ds gs before) (hk : Rows.uptoSmall H (ds ++ gs) = true) (hL : laidMetH Tryz.prog Rows.sessionSendsRow.laid W) :
    Calls Tryz.prog 7 args W fun e W' => ∃ v, e = .returned v /\ Rows.sessionSendsSpec.post enc Tryz.prog Tryz.f7 false true false false W args v W' := by
  have hW' := hW
  obtain ⟨p, q, hA0, hV, rfl, hfz, hnd⟩ := hW
  have hA : DataW.TrodAll enc Tryz.prog W 0 (fun _ => true) true Tryz.f7.params.toList args.toList ds p := hA0
  rw [Tryz.params7] at hA hval
  obtain ⟨v0, vs0, d0, ds0, p0, q0, hargs, rfl, rfl, h0, r0⟩ := trodAll_cons hA
  obtain ⟨v1, vs1, d1, ds1, p1, q1, rfl, rfl, rfl, h1, r1⟩ := trodAll_cons r0
  obtain ⟨v2, vs2, d2, ds2, p2, q2, rfl, rfl, rfl, h2, r2⟩ := trodAll_cons r1
  obtain ⟨rfl, rfl, rfl⟩ := trodAll_nil r2
  obtain rfl : args = #[v0, v1, v2] := by cases args; simp_all
  obtain ⟨rfl, rfl⟩ := trodVars_none hV
  have hpart := Xj hk
  obtain ⟨_, _, _, rfl⟩ := okWide_slice Tryz.underlying80 (hval 0 _ v0 rfl rfl)
  obtain ⟨n0, hn0⟩ := h0
  obtain ⟨_, l0, u0, hv0, hl0⟩ := Aq0 (w := W) H enc n0 _ _ ⟨hn0, hpart d0 (by simp)⟩
  simp only [Value.cells, List.cons.injEq, and_true] at hv0
  subst hv0
  obtain ⟨cs1, rfl, hs1⟩ := okWide_struct Tryz.underlying62 (hval 1 _ v1 rfl rfl)
  obtain ⟨n1, hn1⟩ := h1
  obtain ⟨_, x1, ua, ub, e1, hLB, hLN, iS⟩ := A25 (w := W) H enc n1 _ _ ⟨hn1, hpart d1 (by simp)⟩
  obtain rfl : cs1 = #[ua, ub, .int .i64 x1.sure] := Array.toList_inj.1 (by simpa only [Value.cells] using e1)
  obtain ⟨cs2, rfl, hs2⟩ := okWide_struct Tryz.underlying30 (hval 2 _ v2 rfl rfl)
  obtain ⟨n2, hn2⟩ := h2
  obtain ⟨_, x2, va, vb, vc, vd, e2, hK, hZ, hH, hB, iR⟩ := Ap9 (w := W) H enc n2 _ _ ⟨hn2, hpart d2 (by simp)⟩
  obtain rfl : cs2 = #[va, vb, vc, vd, .int .i64 x2.room] := Array.toList_inj.1 (by simpa only [Value.cells] using e2)
  have hT : A8 W := Xa (by kernel_rfl) hL
  clear hA0
  refine ((Bc1 l0 x1 x2 iS iR).law hT (At.cons (.iv (Ba5 hl0)) (At.cons (Aw3 hLB hLN) (At.cons (B72 hK hZ hH hB) At.nil)))).mono fun e W' ⟨he, hb⟩ => ?_
  subst he
  exact ⟨_, rfl, Ai6 Aw5 (by kernel_rfl) (by kernel_rfl) Tryz.underlying4 rfl rfl rfl rfl hW' hb⟩
theorem laid_met (os:Os):laidMet Tryz.prog Rows.sessionSendsRow.laid ((Qs os).forCall (fun _ _=>0) ⟨#[],#[.slice none 0 0,.agg #[.slice none 0 0,.slice none 0 0,.int .i64 0],.agg #[.slice none 0 0,.slice none 0 0,.slice none 0 0,.slice none 0 0,.int .i64 0]],[]⟩).memory :=
  laidMet_of_run' 8 (by kernel_rfl) (by kernel_rfl)
theorem reads (os:Os) {H:Type} (enc:TypeId×Value->H):∃ places,DataW.whole enc Tryz.prog ((Qs os).forCall (fun _ _=>0) ⟨#[],#[.slice none 0 0,.agg #[.slice none 0 0,.slice none 0 0,.int .i64 0],.agg #[.slice none 0 0,.slice none 0 0,.slice none 0 0,.slice none 0 0,.int .i64 0]],[]⟩).memory Tryz.f7.params.toList Rows.sessionSendsSpec.vars false (#[.slice none 0 0,.agg #[.slice none 0 0,.slice none 0 0,.int .i64 0],.agg #[.slice none 0 0,.slice none 0 0,.slice none 0 0,.slice none 0 0,.int .i64 0]]:Array Value).toList 8=some ([.nil,.agg [.nil,.nil,.lit (.int .i64 0)],.agg [.nil,.nil,.nil,.nil,.lit (.int .i64 0)]],[],places) :=
  ⟨[],by kernel_rfl⟩
set_option maxRecDepth 100000 in
theorem lifted (os : Os) (started : os.Started) (H : Type) (enc : TypeId × Value -> H) (F : Stop.Interp) :
    ReturnsInHanded {} Tryz.checked os 7 .any ((Rows.OpenSpec.upto Rows.sessionSendsSpec).preRow enc Tryz.prog Tryz.f7 Rows.sessionSendsUptoRow.domain false Rows.sessionSendsUptoRow.laid) (((Rows.OpenSpec.upto Rows.sessionSendsSpec).at F).post enc Tryz.prog Tryz.f7 false true false false) := by
  obtain ⟨places, hx⟩ := reads os enc
  refine returnsInHanded_of_row (C := Tryz.checked) (s := Rows.OpenSpec.upto Rows.sessionSendsSpec) own started (by kernel_rfl) Tryz.func7
    (witness_row_at (enc := enc) (C := Tryz.checked) false (Qs os) #[.slice none 0 0, .agg #[.slice none 0 0, .slice none 0 0, .int .i64 0], .agg #[.slice none 0 0, .slice none 0 0, .slice none 0 0, .slice none 0 0, .int .i64 0]] rfl (by kernel_rfl) (by kernel_rfl) (by kernel_rfl)
      (OpenSpec.preRow_of_cond 8 hx (by kernel_rfl) (fun k hk => by cases hk; kernel_rfl) (by kernel_rfl) (laid_met os))) ?_
  intro W base args ds gs before hval hW _ hcond _ hL _ _
  exact contract H enc W base args ds gs before hval hW (hcond _ rfl) hL
theorem c1:laidOutB Tryz.pinned.checked.prog=true:=by kernel_rfl
theorem c2:mapsRowed Tryz.pinned.checked.prog=true:=by kernel_rfl
theorem c3:(Rows.sessionSendsUptoRow.inPlace==Tryz.pinned.checked.prog.inPlace 7)=true:=by kernel_rfl
theorem c4:(Rows.sessionSendsUptoRow.unfollowed==Tryz.pinned.checked.prog.unfollowed 7)=true:=by kernel_rfl
theorem c5:(Rows.sessionSendsUptoRow.recurses==Tryz.pinned.checked.prog.recurses 7)=true:=by kernel_rfl
theorem c6:(Rows.sessionSendsUptoRow.named==Tryz.pinned.checked.prog.varsNamed 7)=true:=by kernel_rfl
theorem closed:joinedFacts Tryz.pinned.checked.prog 7 Tryz.f7 (Rows.OpenSpec.upto Rows.sessionSendsSpec).bare Rows.sessionSendsUptoRow=true:=by
  unfold joinedFacts
  rw [c1,c2,c3,c4,c5,c6]
  kernel_rfl
theorem said:Rows.SessionSendsUptoSaid :=
  OpenClaim.holds_of_cond 7 Tryz.f7 rfl rfl rfl rfl rfl rfl rfl ⟨rfl,rfl,rfl,rfl,rfl⟩ rfl rfl rfl rfl rfl (by kernel_rfl) Tryz.func7 closed
    (of_decide_eq_true (by kernel_rfl)) (by unfold Func.isWrapper;first | (rw [if_pos (by decide +kernel)];kernel_rfl) | (rw [if_neg (by decide +kernel)];exact ⟨rfl,rfl⟩))
    (fun os started H enc _ F=>by rw [OpenClaim.pre_eq_preRow];exact lifted os started H enc F)
theorem plain (f : FuncId) (fn : Func) (hf : Tryz.pinned.checked.prog.funcNamed "telltale/telltalelaw17.SessionSends" = some f) (hfn : Tryz.pinned.checked.prog.funcs[f]? = some fn) :
    false = Tryz.pinned.checked.prog.looks [] /\ ∀ (j : Nat) t, fn.params[j]? = some t -> Tryz.pinned.checked.prog.wantsStandIn t = false := by
  obtain rfl : f = 7 := Option.some.inj ((show Tryz.prog.funcNamed "telltale/telltalelaw17.SessionSends" = some 7 by kernel_rfl).symm.trans hf) |>.symm
  obtain rfl : fn = Tryz.f7 := (Option.some.inj (Tryz.func7.symm.trans hfn)).symm
  refine ⟨by kernel_rfl, fun j t ht => ?_⟩
  rw [Tryz.params7] at ht
  have hm := Array.mem_of_getElem? ht
  simp at hm
  rcases hm with rfl | rfl | rfl
  · exact (show Tryz.prog.wantsStandIn 80 = false by kernel_rfl)
  · exact (show Tryz.prog.wantsStandIn 62 = false by kernel_rfl)
  · exact (show Tryz.prog.wantsStandIn 30 = false by kernel_rfl)
theorem card:Rows.SessionSendsUptoCardSaid :=
  Claim7.holds_tied_plain_at .later [] _ _ _ _ said (fun _ h=>by cases h) (by as_aux_lemma=>kernel_rfl) (fun _ h=>by cases h) sessionSendsUpto_row_tie rfl ⟨rfl,rfl⟩ (by as_aux_lemma=>kernel_rfl) rfl plain (by as_aux_lemma=>kernel_rfl)
#print axioms card
end cSessionSends
end Go.Proofs.YthlgnjlpakimaaaGreatDoor
