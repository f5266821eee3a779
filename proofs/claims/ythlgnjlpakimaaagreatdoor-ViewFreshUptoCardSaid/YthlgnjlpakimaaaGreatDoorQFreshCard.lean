/- The law ViewFresh: who knows nothing and takes a sum reads the interest as the view that it is of, but for bodies, and nothing else. The card (second form: of bulk at most 1048576). -/
import Derived.Test.YthlgnjlpakimaaaGreatDoorQSummed
import Derived.Test.YthlgnjlpakimaaaGreatDoorQReadIn
import Derived.Test.YthlgnjlpakimaaaGreatDoorQTouch
import Derived.Test.YthlgnjlpakimaaaGreatDoorQRefMrg
import Derived.Test.YthlgnjlpakimaaaGreatDoorQAlive13
import Derived.Test.YthlgnjlpakimaaaGreatDoorQViewArgs
import Derived.Test.YthlgnjlpakimaaaGreatDoorQVecLaw
set_option linter.all false
set_option linter.unnecessarySimpa false
set_option linter.unusedSimpArgs false
set_option linter.unusedVariables false
namespace Go.Proofs.YthlgnjlpakimaaaGreatDoor
open Go.ChangeShapes Go.WideShapes Go.ChangeAt Go.RowKit
attribute [local irreducible] AW AWY Cd Bk vop C5 Bl Bz qop Cj Cv B4 Aw C4 A7 Bq
attribute [local go_sem] Jn Ei Ao As
theorem C00:Bm3 0=(Mj,0):=rfl
set_option maxRecDepth 100000 in
set_option maxHeartbeats 3200000 in
theorem Cc3 (v:B8) (it:List Ad) (o:Int) (iR:I64 v.room) (iO:I64 o):A7 Tryz.prog A8 6 [vwA v,.iv (spI it),.val (.int .i64 o)] (.val (.bool true)) []:=by
 refine A7.of (n:=112) (rs:=[.tmp 6]) Tryz.func6 rfl (by kernel_rfl) Tryz.ntmps6 (by kernel_rfl) (by simp) (fun _ _=>A8.later) ?_
 intro hok V w0
 have hI:∀ x∈v.held,I64 x.stamp.count/\I64 x.stamp.node/\I64 x.object:=fun x hx=>by
  obtain ⟨-,o1,o2,o3,-⟩:=D7 (by simpa [wrI] using hok.1.2.2.1.2) (enW x) (List.mem_map_of_mem hx)
  exact ⟨o1,o2,o3⟩
 have hn:=Ai3 0 rfl
 rw [C00] at hn
 have hs:=A75 Mj v it rfl iR
 have hrm:=B40 (v:=v) (it:=it) (x:=Mj) rfl
 refine g ?_
 refine AW.seq ?_
 refine AW.reg rfl fun KK hKK=>?_
 refine g ?_
 repeat' (refine hKK _ (g ?_);clear hKK KK)
 refine AW.freeze 400 _ rfl ⟨trivial,trivial,trivial,trivial,iR,trivial⟩ ?_
 simp only [go_sem,reduceIte,Nat.reduceEqDiff]
 refine g ?_
 repeat' (first | refine st_ rfl (g ?_) | exact trivial | refine C3 (fun h=>g ?_) (fun h=>g ?_) | refine A9 (U4) rfl (g ?_) | refine A9 (Qf v iR) rfl (g ?_))
 have hF:Af v=true:=by simpa using h
 have hv:=Ja.1 hF
 obtain ⟨f1,f2⟩:=C23 hF it
 have hb:=Az3 hv f2 o
 have hw:=Az2 hv f2 o
 have hr:=Mu v o iR iO
 have hr2:=Mu (Kg Mj v it).1 o hrm iO
 have hk:=f2.known
 generalize Kg Mj v it=T at hs hrm f1 hb hw hr2 hk
 obtain ⟨X,ok⟩:=T
 simp only at hs hrm f1 hb hw hr2 hk
 subst f1
 obtain ⟨w1,w2,w3⟩:=Ci9 (o:=o) hI
 generalize De v o=Q at hr hw w1 w2 w3
 obtain ⟨b,w,q⟩:=Q
 generalize De X o=Q' at hr2 hb hw
 obtain ⟨b2,u,q2⟩:=Q'
 simp only at hr hr2 hb hw w1 w2 w3
 simp only [Mj] at hn hs
 refine g ?_
 repeat' (first | refine st_ rfl (g ?_) | refine A9 (hn) rfl (g ?_) | refine A9 (hs) rfl (g ?_))
 refine AW.freeze 800 _ rfl ⟨trivial,trivial,trivial,trivial,hrm,trivial⟩ ?_
 simp only [go_sem,reduceIte,Nat.reduceEqDiff]
 refine AW.drawn (ds:=[32,33,34,35,36,37,38,39,40,41,42,43,44,45,46]) (fin:=[]) (bs:=[0,0,0,0,0,0,0,0,0,0,0,0,0,0,0]) [⟨[],[],[],[],0⟩,⟨[(32,0)],[],[],[],0⟩,⟨[(33,1)],[],[],[],0⟩,⟨[],[],[],[],0⟩,⟨[(35,3)],[],[],[],0⟩,⟨[(34,2),(36,4)],[],[],[],0⟩,⟨[(37,5)],[],[],[],0⟩,⟨[],[],[],[],0⟩,⟨[(39,7)],[],[],[],0⟩,⟨[],[],[],[],0⟩,⟨[(41,9)],[],[],[],0⟩,⟨[(42,10)],[],[],[],0⟩,⟨[(40,8),(43,11)],[],[],[],0⟩,⟨[(44,12)],[],[],[],0⟩,⟨[(38,6),(45,13)],[],[],[],0⟩] (by kernel_rfl) rfl (by kernel_rfl) rfl rfl rfl fun KD hKD=>?_
 refine g ?_
 refine Yl (C83 v.known []) (Sbs.cons_ (Sbs.of_ (Bf 2) (Sbs.rfl_ _))) rfl (g ?_)
 rw [Ya hv.known (N5 _),hk]
 refine g ?_
 repeat' (first | refine st_ rfl (g ?_) | (refine hKD _ _ ⟨rfl,g ?_⟩;clear hKD KD) | refine A9 (Hg _ _) rfl (g ?_))
 refine g ?_
 repeat' (first | refine st_ rfl (g ?_) | refine A9 (hr) rfl (g ?_) | refine A9 (hr2) rfl (g ?_))
 cases hsp:By it o with
 | false =>
  have hsh:=Ag2 it o
  rw [hsp] at hsh
  rcases hb hsp with rfl | rfl | ⟨rfl,hk0⟩
  ·refine g ?_
   repeat' (first | refine st_ rfl (g ?_) | exact trivial | refine A9 (hsh) rfl (g ?_))
  ·refine g ?_
   repeat' (first | refine st_ rfl (g ?_) | exact trivial | refine A9 (hsh) rfl (g ?_))
  ·refine g ?_
   repeat' (first | refine st_ rfl (g ?_) | refine A9 (hsh) rfl (g ?_))
   unfold stI
   refine g ?_
   repeat' refine st_ rfl (g ?_)
   rw [hk0]
   rfl
 | true =>
  have hsh:=Ag2 it o
  rw [hsp] at hsh
  obtain ⟨rfl,hq⟩:=hw hsp
  obtain ⟨⟨wc,wn⟩,wo,wg⟩:=w
  simp only at hq hr hr2
  rcases hq with ⟨rfl,rfl,rfl⟩ | ⟨hq,rfl⟩
  ·refine g ?_
   repeat' (first | refine st_ rfl (g ?_) | refine A9 (hsh) rfl (g ?_))
   refine ⟨_,fun z=>Ad2 _ _ _ _ _ _ z,?_⟩
   refine g ?_
   repeat' (first | refine st_ rfl (g ?_) | refine Ag (g ?_) | exact trivial)
  ·refine g ?_
   repeat' (first | refine st_ rfl (g ?_) | refine C3 (fun h=>g ?_) (fun h=>g ?_) | (refine Ci rfl rfl (fun h e=>?_) (fun h e=>?_)<;>simp only [e]<;>clear e<;>refine g ?_) | refine A9 (hsh) rfl (g ?_))
   ·exact absurd ⟨‹q=0›,by simpa using ‹(!wg)=true›⟩ hq
   ·exact absurd ⟨‹q=0›,by simpa using ‹(!wg)=true›⟩ hq
   ·exact absurd ⟨‹q=0›,by simpa using ‹(!wg)=true›⟩ hq
   ·refine ⟨_,fun z=>Ad2 _ _ _ _ _ _ z,?_⟩
    refine g ?_
    repeat' (first | refine st_ rfl (g ?_) | refine Ag (g ?_))
    exact decide_eq_true trivial
   ·refine ⟨_,fun z=>Ad2 _ _ _ _ _ _ z,?_⟩
    refine g ?_
    repeat' (first | refine st_ rfl (g ?_) | refine Ag (g ?_))
    exact decide_eq_true trivial
end Go.Proofs.YthlgnjlpakimaaaGreatDoor
namespace Go.Proofs.YthlgnjlpakimaaaGreatDoor
open Go.ChangeShapes Go.WideShapes Go.ChangeAt Go.RowKit
namespace cViewFresh
set_option maxRecDepth 100000 in
theorem contract (H : Type) (enc : TypeId × Value -> H) (W : World) (base : Nat) (args : Array Value) (ds gs : List (DataW H)) (before : List MemPlace)
    (hval : ∀ (j : Nat) t v, Tryz.f6.params[j]? = some t -> args[j]? = some v -> Value.okWide Tryz.prog W .any base t v)
    (hW : DataW.Whole enc Tryz.prog Tryz.f6.params.toList Rows.viewFreshSpec.vars false W args.toList ds gs before) (hk : Rows.uptoSmall H (ds ++ gs) = true) (hL : laidMetH Tryz.prog Rows.viewFreshRow.laid W) :
    Calls Tryz.prog 6 args W fun e W' => ∃ v, e = .returned v /\ Rows.viewFreshSpec.post enc Tryz.prog Tryz.f6 false true false false W args v W' := by
  have hW' := hW
  obtain ⟨p, q, hA0, hV, rfl, hfz, hnd⟩ := hW
  have hA : DataW.TrodAll enc Tryz.prog W 0 (fun _ => true) true Tryz.f6.params.toList args.toList ds p := hA0
  rw [Tryz.params6] at hA hval
  obtain ⟨v0, vs0, d0, ds0, p0, q0, hargs, rfl, rfl, h0, r0⟩ := trodAll_cons hA
  obtain ⟨v1, vs1, d1, ds1, p1, q1, rfl, rfl, rfl, h1, r1⟩ := trodAll_cons r0
  obtain ⟨v2, vs2, d2, ds2, p2, q2, rfl, rfl, rfl, h2, r2⟩ := trodAll_cons r1
  obtain ⟨rfl, rfl, rfl⟩ := trodAll_nil r2
  obtain rfl : args = #[v0, v1, v2] := by cases args; simp_all
  obtain ⟨rfl, rfl⟩ := trodVars_none hV
  have hpart := Lj hk
  obtain ⟨cs0, rfl, hs0⟩ := okWide_struct Tryz.underlying30 (hval 0 _ v0 rfl rfl)
  obtain ⟨n0, hn0⟩ := h0
  obtain ⟨_, x0, va, vb, vc, vd, e0, hK, hZ, hH, hB, iR⟩ := Tj (w := W) H enc n0 _ _ ⟨hn0, hpart d0 (by simp)⟩
  obtain rfl : cs0 = #[va, vb, vc, vd, .int .i64 x0.room] := Array.toList_inj.1 (by simpa only [Value.cells] using e0)
  obtain ⟨_, _, _, rfl⟩ := okWide_slice Tryz.underlying35 (hval 1 _ v1 rfl rfl)
  obtain ⟨n1, hn1⟩ := h1
  obtain ⟨_, l1, u1, hv1, hl1⟩ := Lt (w := W) H enc n1 _ _ ⟨hn1, hpart d1 (by simp)⟩
  simp only [Value.cells, List.cons.injEq, and_true] at hv1
  subst hv1
  obtain ⟨a2, rfl, rfl, rfl, w2⟩ := open_int Tryz.underlying3 (hval 2 _ v2 rfl rfl) h2
  have hT : A8 W := Lf (by kernel_rfl) hL
  clear hA0
  refine ((Cc3 x0 l1 a2 iR w2).law hT (Au.cons (Yv hK hZ hH hB) (Au.cons (.iv (Mx hl1 (Nat.le_refl _))) (Au.cons .val Au.nil)))).mono fun e W' ⟨he, hb⟩ => ?_
  subst he
  exact ⟨_, rfl, Qo Tp (by kernel_rfl) (by kernel_rfl) Tryz.underlying4 rfl rfl rfl rfl hW' hb⟩
theorem laid_met (os:Os):laidMet Tryz.prog Rows.viewFreshRow.laid ((F4 os).forCall (fun _ _=>0) ⟨#[],#[.agg #[.slice none 0 0,.slice none 0 0,.slice none 0 0,.slice none 0 0,.int .i64 0],.slice none 0 0,.int .i64 0],[]⟩).memory :=
  laidMet_of_run' 8 (by kernel_rfl) (by kernel_rfl)
theorem reads (os:Os) {H:Type} (enc:TypeId×Value->H):∃ places,DataW.whole enc Tryz.prog ((F4 os).forCall (fun _ _=>0) ⟨#[],#[.agg #[.slice none 0 0,.slice none 0 0,.slice none 0 0,.slice none 0 0,.int .i64 0],.slice none 0 0,.int .i64 0],[]⟩).memory Tryz.f6.params.toList Rows.viewFreshSpec.vars false (#[.agg #[.slice none 0 0,.slice none 0 0,.slice none 0 0,.slice none 0 0,.int .i64 0],.slice none 0 0,.int .i64 0]:Array Value).toList 8=some ([.agg [.nil,.nil,.nil,.nil,.lit (.int .i64 0)],.nil,.lit (.int .i64 0)],[],places) :=
  ⟨[],by kernel_rfl⟩
set_option maxRecDepth 100000 in
theorem lifted (os : Os) (started : os.Started) (H : Type) (enc : TypeId × Value -> H) (F : Stop.Interp) :
    ReturnsInHanded {} Tryz.checked os 6 .any ((Rows.OpenSpec.upto Rows.viewFreshSpec).preRow enc Tryz.prog Tryz.f6 Rows.viewFreshUptoRow.domain false Rows.viewFreshUptoRow.laid) (((Rows.OpenSpec.upto Rows.viewFreshSpec).at F).post enc Tryz.prog Tryz.f6 false true false false) := by
  obtain ⟨places, hx⟩ := reads os enc
  refine returnsInHanded_of_row (C := Tryz.checked) (s := Rows.OpenSpec.upto Rows.viewFreshSpec) own started (by kernel_rfl) Tryz.func6
    (witness_row_at (enc := enc) (C := Tryz.checked) false (F4 os) #[.agg #[.slice none 0 0, .slice none 0 0, .slice none 0 0, .slice none 0 0, .int .i64 0], .slice none 0 0, .int .i64 0] rfl (by kernel_rfl) (by kernel_rfl) (by kernel_rfl)
      (OpenSpec.preRow_of_cond 8 hx (by kernel_rfl) (fun k hk => by cases hk; kernel_rfl) (by kernel_rfl) (laid_met os))) ?_
  intro W base args ds gs before hval hW _ hcond _ hL _ _
  exact contract H enc W base args ds gs before hval hW (hcond _ rfl) hL
theorem c1:laidOutB Tryz.pinned.checked.prog=true:=by kernel_rfl
theorem c2:mapsRowed Tryz.pinned.checked.prog=true:=by kernel_rfl
theorem c3:(Rows.viewFreshUptoRow.inPlace==Tryz.pinned.checked.prog.inPlace 6)=true:=by kernel_rfl
theorem c4:(Rows.viewFreshUptoRow.unfollowed==Tryz.pinned.checked.prog.unfollowed 6)=true:=by kernel_rfl
theorem c5:(Rows.viewFreshUptoRow.recurses==Tryz.pinned.checked.prog.recurses 6)=true:=by kernel_rfl
theorem c6:(Rows.viewFreshUptoRow.named==Tryz.pinned.checked.prog.varsNamed 6)=true:=by kernel_rfl
theorem closed:joinedFacts Tryz.pinned.checked.prog 6 Tryz.f6 (Rows.OpenSpec.upto Rows.viewFreshSpec).bare Rows.viewFreshUptoRow=true:=by
  unfold joinedFacts
  rw [c1,c2,c3,c4,c5,c6]
  kernel_rfl
theorem said:Rows.ViewFreshUptoSaid :=
  OpenClaim.holds_of_cond 6 Tryz.f6 rfl rfl rfl rfl rfl rfl rfl ⟨rfl,rfl,rfl,rfl,rfl⟩ rfl rfl rfl rfl rfl (by kernel_rfl) Tryz.func6 closed
    (of_decide_eq_true (by kernel_rfl)) (by unfold Func.isWrapper;first | (rw [if_pos (by decide +kernel)];kernel_rfl) | (rw [if_neg (by decide +kernel)];exact ⟨rfl,rfl⟩))
    (fun os started H enc _ F=>by rw [OpenClaim.pre_eq_preRow];exact lifted os started H enc F)
theorem plain (f : FuncId) (fn : Func) (hf : Tryz.pinned.checked.prog.funcNamed "telltale/telltalelaw13.ViewFresh" = some f) (hfn : Tryz.pinned.checked.prog.funcs[f]? = some fn) :
    false = Tryz.pinned.checked.prog.looks [] /\ ∀ (j : Nat) t, fn.params[j]? = some t -> Tryz.pinned.checked.prog.wantsStandIn t = false := by
  obtain rfl : f = 6 := Option.some.inj ((show Tryz.prog.funcNamed "telltale/telltalelaw13.ViewFresh" = some 6 by kernel_rfl).symm.trans hf) |>.symm
  obtain rfl : fn = Tryz.f6 := (Option.some.inj (Tryz.func6.symm.trans hfn)).symm
  refine ⟨by kernel_rfl, fun j t ht => ?_⟩
  rw [Tryz.params6] at ht
  have hm := Array.mem_of_getElem? ht
  simp at hm
  rcases hm with rfl | rfl | rfl
  · exact (show Tryz.prog.wantsStandIn 30 = false by kernel_rfl)
  · exact (show Tryz.prog.wantsStandIn 35 = false by kernel_rfl)
  · exact (show Tryz.prog.wantsStandIn 3 = false by kernel_rfl)
theorem card:Rows.ViewFreshUptoCardSaid :=
  Claim7.holds_tied_plain_at .later [] _ _ _ _ said (fun _ h=>by cases h) (by as_aux_lemma=>kernel_rfl) (fun _ h=>by cases h) viewFreshUpto_row_tie rfl ⟨rfl,rfl⟩ (by as_aux_lemma=>kernel_rfl) rfl plain (by as_aux_lemma=>kernel_rfl)
#print axioms card
end cViewFresh
end Go.Proofs.YthlgnjlpakimaaaGreatDoor
