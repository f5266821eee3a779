/- The law ViewTwice: a sum changes nothing of its own view, and a note that is taken twice is taken once. The card (second form: of bulk at most 1048576). -/
import Derived.Test.YthlgnjlpakimaaaGreatDoorQSummed
import Derived.Test.YthlgnjlpakimaaaGreatDoorQRefCopy13
import Derived.Test.YthlgnjlpakimaaaGreatDoorQTouch
import Derived.Test.YthlgnjlpakimaaaGreatDoorQAlive13
import Derived.Test.YthlgnjlpakimaaaGreatDoorQViewArgs
import Derived.Test.YthlgnjlpakimaaaGreatDoorQVecLaw
set_option linter.all false
set_option linter.unnecessarySimpa false
set_option linter.unusedSimpArgs false
set_option linter.unusedVariables false
namespace Go.Proofs.YthlgnjlpakimaaaGreatDoor
open Go.ChangeShapes Go.WideShapes Go.ChangeAt Go.RowKit
attribute [local irreducible] AW AWY Cd Bk vop C5 Bl Bz qop Cj Cv B4 Aw C4 A7 Bq
attribute [local go_sem] Ce Ei Ao As
theorem C67 {v:B8} {n:At} (h:(Bd v n).2≠0):(Bd v n).1=Ql:=by
 unfold Bd at h ⊢
 split
 ·rename_i hv
  rw [if_pos hv] at h
  split
  ·rename_i h0
   rw [if_pos h0] at h
   simp at h
  ·rfl
 ·rfl
theorem Dc5:Cm (.agg [.val (.slice none 0 0),.val (.slice none 0 0),.val (.slice none 0 0),.val (.slice none 0 0),.val (.int .i64 0)]) (vwA Ql):=by
 refine Mn rfl fun p hp=>?_
 simp only [List.zip_cons_cons,List.zip_nil_right,List.mem_cons,List.not_mem_nil,or_false] at hp
 rcases hp with rfl | rfl | rfl | rfl | rfl
 ·exact Bf 2
 ·exact Bf 3
 ·exact Bf 4
 ·exact Bf 4
 ·exact Cm.rfl_ _
set_option maxRecDepth 100000 in
set_option maxHeartbeats 3200000 in
theorem Cc1 (v:B8) (n:At) (it:List Ad) (iR:I64 v.room):A7 Tryz.prog A8 5 [vwA v,Ev n,.iv (spI it)] (.val (.bool true)) []:=by
 refine A7.of (n:=57) (rs:=[.tmp 6]) Tryz.func5 rfl (by kernel_rfl) Tryz.ntmps5 (by kernel_rfl) (by simp) (fun _ _=>A8.later) ?_
 intro hok V w0
 have hs:=A75 v v it iR iR
 have ht:=Gl v n iR
 have hrm:=Gw v n iR
 have hno:=C67 (v:=v) (n:=n)
 have hid:=Bh4 (v:=v) (n:=n)
 have htt:=Gl (Bd v n).1 n hrm
 generalize Bd v n=T at ht hrm hno hid htt
 obtain ⟨y,e⟩:=T
 simp only at ht hrm hno hid htt
 refine g ?_
 refine AW.seq ?_
 refine AW.reg rfl fun KK hKK=>?_
 refine g ?_
 repeat' (refine hKK _ (g ?_);clear hKK KK)
 refine AW.freeze 400 _ rfl ⟨trivial,trivial,trivial,trivial,iR,trivial⟩ ?_
 simp only [go_sem,reduceIte,Nat.reduceEqDiff]
 refine AW.freeze 500 _ rfl ⟨trivial,trivial,trivial,trivial,trivial⟩ ?_
 simp only [go_sem,reduceIte,Nat.reduceEqDiff]
 refine g ?_
 repeat' (first | refine st_ rfl (g ?_) | exact trivial | refine C3 (fun h=>g ?_) (fun h=>g ?_) | refine A9 (U4) rfl (g ?_) | refine A9 (Qf v iR) rfl (g ?_))
 have hF:Af v=true:=by simpa using h
 rw [Bh6 hF] at hs
 simp only at hs
 refine g ?_
 repeat' (first | refine st_ rfl (g ?_) | refine Az (fun h=>g ?_) (fun h=>g ?_) | refine A9 (hs) rfl (g ?_) | refine A9 (Tc v iR) rfl (g ?_) | refine A9 (ht) rfl (g ?_))
 ·obtain rfl:y=Ql:=hno h
  refine Yl (Tc Ql rfl) (Sbs.cons_ (Sbs.of_ Dc5 (Sbs.rfl_ _))) rfl (g ?_)
  refine g ?_
  repeat' (first | refine st_ rfl (g ?_) | exact trivial)
 ·obtain rfl:e=0:=by simpa using h
  rw [hid rfl] at htt
  simp only at htt
  refine g ?_
  repeat' (first | refine st_ rfl (g ?_) | exact trivial | refine A9 (htt) rfl (g ?_) | refine A9 (Tc y hrm) rfl (g ?_))
end Go.Proofs.YthlgnjlpakimaaaGreatDoor
namespace Go.Proofs.YthlgnjlpakimaaaGreatDoor
open Go.ChangeShapes Go.WideShapes Go.ChangeAt Go.RowKit
namespace cViewTwice
set_option maxRecDepth 100000 in
theorem contract (H : Type) (enc : TypeId × Value -> H) (W : World) (base : Nat) (args : Array Value) (ds gs : List (DataW H)) (before : List MemPlace)
    (hval : ∀ (j : Nat) t v, Tryz.f5.params[j]? = some t -> args[j]? = some v -> Value.okWide Tryz.prog W .any base t v)
    (hW : DataW.Whole enc Tryz.prog Tryz.f5.params.toList Rows.viewTwiceSpec.vars false W args.toList ds gs before) (hk : Rows.uptoSmall H (ds ++ gs) = true) (hL : laidMetH Tryz.prog Rows.viewTwiceRow.laid W) :
    Calls Tryz.prog 5 args W fun e W' => ∃ v, e = .returned v /\ Rows.viewTwiceSpec.post enc Tryz.prog Tryz.f5 false true false false W args v W' := by
  have hW' := hW
  obtain ⟨p, q, hA0, hV, rfl, hfz, hnd⟩ := hW
  have hA : DataW.TrodAll enc Tryz.prog W 0 (fun _ => true) true Tryz.f5.params.toList args.toList ds p := hA0
  rw [Tryz.params5] at hA hval
  obtain ⟨v0, vs0, d0, ds0, p0, q0, hargs, rfl, rfl, h0, r0⟩ := trodAll_cons hA
  obtain ⟨v1, vs1, d1, ds1, p1, q1, rfl, rfl, rfl, h1, r1⟩ := trodAll_cons r0
  obtain ⟨v2, vs2, d2, ds2, p2, q2, rfl, rfl, rfl, h2, r2⟩ := trodAll_cons r1
  obtain ⟨rfl, rfl, rfl⟩ := trodAll_nil r2
  obtain rfl : args = #[v0, v1, v2] := by cases args; simp_all
  obtain ⟨rfl, rfl⟩ := trodVars_none hV
  have hpart := Lj hk
  obtain ⟨cs0, rfl, hs0⟩ := okWide_struct Tryz.underlying30 (hval 0 _ v0 rfl rfl)
  obtain ⟨n0, hn0⟩ := h0
  obtain ⟨_, x0, va, vb, vc, vd, e0, hK, hZ, hH, hB, iR⟩ := Tj (w := W) H enc n0 _ _ ⟨hn0, hpart d0 (by simp)⟩
  obtain rfl : cs0 = #[va, vb, vc, vd, .int .i64 x0.room] := Array.toList_inj.1 (by simpa only [Value.cells] using e0)
  obtain ⟨cs1, rfl, hs1⟩ := okWide_struct Tryz.underlying37 (hval 1 _ v1 rfl rfl)
  obtain ⟨n1, hn1⟩ := h1
  obtain ⟨_, x1, na, nb, nc, nd, e1, hNt⟩ := Y8 (w := W) H enc n1 _ _ ⟨hn1, hpart d1 (by simp)⟩
  obtain rfl : cs1 = #[na, nb, nc, nd] := Array.toList_inj.1 (by simpa only [Value.cells] using e1)
  obtain ⟨_, _, _, rfl⟩ := okWide_slice Tryz.underlying35 (hval 2 _ v2 rfl rfl)
  obtain ⟨n2, hn2⟩ := h2
  obtain ⟨_, l2, u2, hv2, hl2⟩ := Lt (w := W) H enc n2 _ _ ⟨hn2, hpart d2 (by simp)⟩
  simp only [Value.cells, List.cons.injEq, and_true] at hv2
  subst hv2
  have hT : A8 W := Lf (by kernel_rfl) hL
  clear hA0
  refine ((Cc1 x0 x1 l2 iR).law hT (Au.cons (Yv hK hZ hH hB) (Au.cons (Cb1 hNt) (Au.cons (.iv (Mx hl2 (Nat.le_refl _))) Au.nil)))).mono fun e W' ⟨he, hb⟩ => ?_
  subst he
  exact ⟨_, rfl, Qo Tp (by kernel_rfl) (by kernel_rfl) Tryz.underlying4 rfl rfl rfl rfl hW' hb⟩
theorem laid_met (os:Os):laidMet Tryz.prog Rows.viewTwiceRow.laid ((F4 os).forCall (fun _ _=>0) ⟨#[],#[.agg #[.slice none 0 0,.slice none 0 0,.slice none 0 0,.slice none 0 0,.int .i64 0],.agg #[.slice none 0 0,.slice none 0 0,.slice none 0 0,.slice none 0 0],.slice none 0 0],[]⟩).memory :=
  laidMet_of_run' 8 (by kernel_rfl) (by kernel_rfl)
theorem reads (os:Os) {H:Type} (enc:TypeId×Value->H):∃ places,DataW.whole enc Tryz.prog ((F4 os).forCall (fun _ _=>0) ⟨#[],#[.agg #[.slice none 0 0,.slice none 0 0,.slice none 0 0,.slice none 0 0,.int .i64 0],.agg #[.slice none 0 0,.slice none 0 0,.slice none 0 0,.slice none 0 0],.slice none 0 0],[]⟩).memory Tryz.f5.params.toList Rows.viewTwiceSpec.vars false (#[.agg #[.slice none 0 0,.slice none 0 0,.slice none 0 0,.slice none 0 0,.int .i64 0],.agg #[.slice none 0 0,.slice none 0 0,.slice none 0 0,.slice none 0 0],.slice none 0 0]:Array Value).toList 8=some ([.agg [.nil,.nil,.nil,.nil,.lit (.int .i64 0)],.agg [.nil,.nil,.nil,.nil],.nil],[],places) :=
  ⟨[],by kernel_rfl⟩
set_option maxRecDepth 100000 in
theorem lifted (os : Os) (started : os.Started) (H : Type) (enc : TypeId × Value -> H) (F : Stop.Interp) :
    ReturnsInHanded {} Tryz.checked os 5 .any ((Rows.OpenSpec.upto Rows.viewTwiceSpec).preRow enc Tryz.prog Tryz.f5 Rows.viewTwiceUptoRow.domain false Rows.viewTwiceUptoRow.laid) (((Rows.OpenSpec.upto Rows.viewTwiceSpec).at F).post enc Tryz.prog Tryz.f5 false true false false) := by
  obtain ⟨places, hx⟩ := reads os enc
  refine returnsInHanded_of_row (C := Tryz.checked) (s := Rows.OpenSpec.upto Rows.viewTwiceSpec) own started (by kernel_rfl) Tryz.func5
    (witness_row_at (enc := enc) (C := Tryz.checked) false (F4 os) #[.agg #[.slice none 0 0, .slice none 0 0, .slice none 0 0, .slice none 0 0, .int .i64 0], .agg #[.slice none 0 0, .slice none 0 0, .slice none 0 0, .slice none 0 0], .slice none 0 0] rfl (by kernel_rfl) (by kernel_rfl) (by kernel_rfl)
      (OpenSpec.preRow_of_cond 8 hx (by kernel_rfl) (fun k hk => by cases hk; kernel_rfl) (by kernel_rfl) (laid_met os))) ?_
  intro W base args ds gs before hval hW _ hcond _ hL _ _
  exact contract H enc W base args ds gs before hval hW (hcond _ rfl) hL
theorem c1:laidOutB Tryz.pinned.checked.prog=true:=by kernel_rfl
theorem c2:mapsRowed Tryz.pinned.checked.prog=true:=by kernel_rfl
theorem c3:(Rows.viewTwiceUptoRow.inPlace==Tryz.pinned.checked.prog.inPlace 5)=true:=by kernel_rfl
theorem c4:(Rows.viewTwiceUptoRow.unfollowed==Tryz.pinned.checked.prog.unfollowed 5)=true:=by kernel_rfl
theorem c5:(Rows.viewTwiceUptoRow.recurses==Tryz.pinned.checked.prog.recurses 5)=true:=by kernel_rfl
theorem c6:(Rows.viewTwiceUptoRow.named==Tryz.pinned.checked.prog.varsNamed 5)=true:=by kernel_rfl
theorem closed:joinedFacts Tryz.pinned.checked.prog 5 Tryz.f5 (Rows.OpenSpec.upto Rows.viewTwiceSpec).bare Rows.viewTwiceUptoRow=true:=by
  unfold joinedFacts
  rw [c1,c2,c3,c4,c5,c6]
  kernel_rfl
theorem said:Rows.ViewTwiceUptoSaid :=
  OpenClaim.holds_of_cond 5 Tryz.f5 rfl rfl rfl rfl rfl rfl rfl ⟨rfl,rfl,rfl,rfl,rfl⟩ rfl rfl rfl rfl rfl (by kernel_rfl) Tryz.func5 closed
    (of_decide_eq_true (by kernel_rfl)) (by unfold Func.isWrapper;first | (rw [if_pos (by decide +kernel)];kernel_rfl) | (rw [if_neg (by decide +kernel)];exact ⟨rfl,rfl⟩))
    (fun os started H enc _ F=>by rw [OpenClaim.pre_eq_preRow];exact lifted os started H enc F)
theorem plain (f : FuncId) (fn : Func) (hf : Tryz.pinned.checked.prog.funcNamed "telltale/telltalelaw13.ViewTwice" = some f) (hfn : Tryz.pinned.checked.prog.funcs[f]? = some fn) :
    false = Tryz.pinned.checked.prog.looks [] /\ ∀ (j : Nat) t, fn.params[j]? = some t -> Tryz.pinned.checked.prog.wantsStandIn t = false := by
  obtain rfl : f = 5 := Option.some.inj ((show Tryz.prog.funcNamed "telltale/telltalelaw13.ViewTwice" = some 5 by kernel_rfl).symm.trans hf) |>.symm
  obtain rfl : fn = Tryz.f5 := (Option.some.inj (Tryz.func5.symm.trans hfn)).symm
  refine ⟨by kernel_rfl, fun j t ht => ?_⟩
  rw [Tryz.params5] at ht
  have hm := Array.mem_of_getElem? ht
  simp at hm
  rcases hm with rfl | rfl | rfl
  · exact (show Tryz.prog.wantsStandIn 30 = false by kernel_rfl)
  · exact (show Tryz.prog.wantsStandIn 37 = false by kernel_rfl)
  · exact (show Tryz.prog.wantsStandIn 35 = false by kernel_rfl)
theorem card:Rows.ViewTwiceUptoCardSaid :=
  Claim7.holds_tied_plain_at .later [] _ _ _ _ said (fun _ h=>by cases h) (by as_aux_lemma=>kernel_rfl) (fun _ h=>by cases h) viewTwiceUpto_row_tie rfl ⟨rfl,rfl⟩ (by as_aux_lemma=>kernel_rfl) rfl plain (by as_aux_lemma=>kernel_rfl)
#print axioms card
end cViewTwice
end Go.Proofs.YthlgnjlpakimaaaGreatDoor
