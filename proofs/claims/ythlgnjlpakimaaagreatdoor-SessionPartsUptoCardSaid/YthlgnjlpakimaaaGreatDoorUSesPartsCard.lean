/- The law SessionParts: what is sent in messages comes to the end, batch behind batch, as stream.Batch says. The card (second form: of bulk at most 1048576). -/
import Derived.Test.YthlgnjlpakimaaaGreatDoorUStreamSpec
import Derived.Test.YthlgnjlpakimaaaGreatDoorUSendsLaw
import Derived.Test.YthlgnjlpakimaaaGreatDoorUGoes
import Derived.Test.YthlgnjlpakimaaaGreatDoorUTzLaid
set_option linter.all false
set_option linter.unnecessarySimpa false
set_option linter.unusedSimpArgs false
set_option linter.unusedVariables false
namespace Go.Proofs.YthlgnjlpakimaaaGreatDoor
theorem B12 {g:Log} (hg:B4 g=true) {a:Nat} (ha:(a:Int) < g.sure) (it:List Ad):∃ (O:List B7) (b:Nat),K3 g a it 8=(O,((b:Nat):Int),0)/\a < b/\(b:Int)<=g.sure/\O.length<=b - a/\O.length<=8:=by
 have hg':=hg
 simp only [B4,Bool.and_eq_true,Ra,decide_eq_true_eq] at hg'
 have hask:Aa4 g a 8=true:=by
  simp only [Aa4,Bool.and_eq_true,decide_eq_true_eq]
  exact ⟨⟨⟨hg,by omega⟩,by omega⟩,by omega⟩
 obtain ⟨L,hL⟩ : ∃ L,(Dq g it).drop a=L:=⟨_,rfl⟩
 have hl:L.length=g.sure.toNat - a:=by
  rw [<-hL]
  unfold Dq
  rw [List.length_drop,List.length_map,List.length_take]
  omega
 obtain ⟨k,h1,h2,h3,h4,h5,h6⟩:=L6 (it:=it) (most:=8) L [] a
 have hk:0 < k:=by
  refine Nat.pos_of_ne_zero fun e=>?_
  subst e
  have hz:∃ x,L[0]? = some x:=⟨L[0]'(by omega),List.getElem?_eq_getElem (by omega)⟩
  obtain ⟨x,hx⟩:=hz
  have:=h3 x hx
  simp [Pj,Ll] at this
 refine ⟨Pj it [] (L.take k),a+k,?_,by omega,by omega,by simp only [List.length_nil] at h6;omega,by have:=h4 (by simp);omega⟩
 unfold K3
 rw [if_pos hask]
 unfold Qo
 rw [Int.toNat_natCast,hL,h2]
end Go.Proofs.YthlgnjlpakimaaaGreatDoor
namespace Go.Proofs.YthlgnjlpakimaaaGreatDoor
open Go.ChangeShapes Go.WideShapes Go.ChangeAt Go.RowKit
attribute [local irreducible] AW AWY Bw Bc vop Bj Az Bi qop By Ce Ar Ap Bo A7 Bd
attribute [local go_sem] Tu A77 Yo Ap6 Gy Eh Gl Jh Ai An
theorem B93 {G:Log} (hG:B4 G=true) (hs:G.sure<=60) {it:List Ad} (hw:Ph it=true) {a i:Nat} (ha:(a:Int) < G.sure) (hi:i < 60):∃ (O:List B7) (b:Nat),K3 G a it 8=(O,((b:Nat):Int),0)/\a < b/\(b:Int)<=G.sure/\O.length<=b - a/\O.length<=8 /\
  Jb [⟨5,9,it,a,i⟩] 2 G ⟨[],[],[],[],0⟩=([⟨5,9,it,(b:Nat),((i+1:Nat):Int)⟩],[⟨3,2,5,9,i,[],[],O,⟨0,⟨0,0⟩,[]⟩⟩],0):=by
 obtain ⟨O,b,h1,h2,h3,h4,h5⟩:=B12 hG ha it
 refine ⟨O,b,h1,h2,h3,h4,h5,?_⟩
 have hv:Ao ⟨[],[],[],[],0⟩=true:=by decide
 have hc:Er G ⟨[],[],[],[],0⟩ a it 8=(O,((b:Nat):Int),0):=by
  unfold Er
  rw [if_pos ⟨hG,hv⟩,if_neg (by omega),h1]
 have ho:Di G.sure [⟨5,9,it,a,i⟩]=true:=by
  simp only [Di,Ez,Dk,M2,hw,Bool.and_eq_true,decide_eq_true_eq,and_true,true_and]
  omega
 unfold Jb
 rw [if_pos (by rw [hG,hv,ho];rfl)]
 simp only [List.map_cons,List.map_nil,Ma,Ew,hc]
 have:Fk (i:Nat)=((i+1:Nat):Int):=by unfold Fk;omega
 rw [this]
structure Bs7 (it:List Ad) (n k:Nat) where
 i:Nat
 a:Nat
 got:List B7
 hi:i<=60
 ha:a<=n
 hia:k+i<=a
 hgot:got.length<=a - k
theorem gB {A B:Prop} (hb:B) (h:A=B:=by (conv=>lhs;simp (maxSteps:=5000000) -implicitDefEqProofs (disch:=first | with_unfolding_all exact Eq.trans rfl rfl | omega) only [go_sem,seval]);try rfl):A:=h.mpr hb
set_option maxRecDepth 100000 in
set_option maxHeartbeats 6400000 in
theorem Ai7 (l:Log) (it:List Ad) (at0:Int) (iS:I64 l.sure) (a0:0<=at0) (a1:at0<=255):A7 Tryz.prog A8 8 [Qb l,.iv (spI it),.val (.int .u8 at0)] (.val (.bool true)) []:=by
 refine A7.of (n:=174) (rs:=[.tmp 6]) Tryz.func8 rfl (by kernel_rfl) Tryz.ntmps8 (by kernel_rfl) (by simp) (fun _ _=>A8.later) ?_
 intro hok V w0
 have hfo:=Vp [⟨0,0,it,0,0⟩] 0
 refine g ?_
 refine AW.seq ?_
 refine AW.reg rfl fun KK hKK=>?_
 refine g ?_
 repeat' (refine hKK _ (g ?_);clear hKK KK)
 refine g ?_
 repeat' (first | refine st_ rfl (g ?_) | exact trivial | (refine Cz rfl rfl (fun h e=>?_) (fun h e=>?_)<;>simp only [e]<;>clear e<;>refine g ?_) | (refine Eu rfl rfl (fun h=>?_) (fun h=>?_)<;>simp only [h]<;>refine g ?_) | refine Aa (U0) rfl (g ?_) | refine Aa (K9 l iS) rfl (g ?_))
 refine bd1 (by omega) rfl rfl rfl ⟨rfl,rfl,trivial,rfl,rfl,trivial⟩ ?_
 refine g ?_
 repeat' (first | refine st_ rfl (g ?_) | exact trivial | refine Cl (fun h=>g ?_) (fun h=>g ?_) | refine Aa (hfo) rfl (g ?_))
 have hF:B4 l=true:=by simpa using ‹(!B4 l)=false›
 have hW:Di 0 [⟨0,0,it,0,0⟩]=true:=by simpa using ‹(!Di 0 [⟨0,0,it,0,0⟩])=false›
 have h60:l.notes.length<=60:=by omega
 refine ⟨.int .i64 (at0 % ((l.notes.length:Nat)+1)),fun w=>by rw [if_neg (by omega),Int.tmod_eq_emod_of_nonneg a0];rfl,?_⟩
 obtain ⟨G,hG⟩ : ∃ G:Log,G=⟨l.base,l.notes,(l.notes.length:Nat)⟩:=⟨_,rfl⟩
 have hGF:B4 G=true:=by
  subst hG
  simp only [B4,Bool.and_eq_true,Ra,decide_eq_true_eq] at hF ⊢
  exact ⟨⟨hF.1.1,by omega,Int.le_refl _⟩,hF.2⟩
 obtain ⟨k,hk⟩ : ∃ k:Nat,at0 % ((l.notes.length:Nat)+1)=k:=⟨(at0 % ((l.notes.length:Nat)+1)).toNat,(Int.toNat_of_nonneg (Int.emod_nonneg _ (by omega))).symm⟩
 have hks:k<=l.notes.length:=by have:=Int.emod_lt_of_pos at0 (show 0 < ((l.notes.length:Nat):Int)+1 by omega);omega
 rw [hk]
 refine g ?_
 repeat' (first | refine st_ rfl (g ?_) | refine Aj (g ?_))
 refine bd1 (by omega) rfl rfl rfl ⟨rfl,rfl,trivial,I64.of (by omega) (by omega),rfl,trivial⟩ ?_
 refine g ?_
 repeat' refine st_ rfl (g ?_)
 refine AW.freeze 400 _ rfl ⟨trivial,trivial,I64.of (by omega) (by omega),trivial⟩ ?_
 simp only [go_sem,reduceIte,Nat.reduceEqDiff]
 refine AW.adopt 9 9900 37 4 rfl rfl ?_
 refine AW.loop (fun y:Bs7 it l.notes.length k=>⟨[(1,.iv (spI it)),(3,.ip [stI l.base,.sl 4 (l.notes.map enN),.val (.int .i64 (l.notes.length:Nat))]),(7,.val (.int .i64 (k:Nat))),(8,.iv (ouI [⟨5,9,it,(y.a:Nat),(y.i:Nat)⟩])),(9,.own 9900),(10,.val (.int .i64 (y.i:Nat)))],[.row 9900 37 4 (y.got.map enN)]⟩) (fun y=>60 - y.i) ⟨0,k,[],Nat.zero_le _,hks,Nat.le_refl _,Nat.zero_le _⟩ id ⟨⟨rfl,rfl,rfl,rfl,rfl,rfl,trivial⟩,⟨rfl,trivial⟩,by simp [Ay,BA.id]⟩ fun ⟨i,a,got,hi,ha,hia,hgot⟩=>?_
 simp only
 repeat (refine AW.seq ?_)
 refine AW.drawn (ds:=[49,50,51,52,53,54,55,56,57,58,59]) (fin:=[0]) (bs:=[1,1,1,1,1,1,1,1,1,1,1]) [⟨[],[],[],[],0⟩,⟨[(49,0)],[],[],[],0⟩,⟨[(50,1)],[],[],[],0⟩,⟨[],[],[],[],0⟩,⟨[(52,3)],[],[0],[],0⟩,⟨[(53,4)],[],[],[],0⟩,⟨[(54,5)],[],[0],[],0⟩,⟨[],[],[],[],0⟩,⟨[(56,7)],[],[0],[],0⟩,⟨[(55,6),(57,8)],[],[],[],0⟩,⟨[(51,2),(58,9)],[],[],[],0⟩] (by kernel_rfl) rfl (by kernel_rfl) rfl rfl rfl fun KD hKD=>?_
 refine g ?_
 repeat' (first | refine st_ rfl (g ?_) | refine Bk (fun h=>g ?_) (fun h=>g ?_) | (refine hKD _ _ ⟨rfl,g ?_⟩;clear hKD KD) | (refine L8 rfl rfl (fun h e=>?_) (fun h e=>?_)<;>simp only [e]<;>clear e<;>refine g ?_))
 ·have hGs:G.sure=(l.notes.length:Nat):=by rw [hG]
  have hw:Ph it=true:=by
   have:=(Jd hW ⟨0,0,it,0,0⟩ (by simp)).2.1
   exact this
  obtain ⟨O,b,s1,s2,s3,s4,s5,s6⟩:=B93 hGF (by omega) hw (a:=a) (i:=i) (by omega) (by omega)
  have hs:=Ue [⟨5,9,it,a,i⟩] 2 G ⟨[],[],[],[],0⟩ rfl (by rw [hGs];exact I64.of (by omega) (by omega)) rfl
  rw [s6] at hs
  have hb:=Vt G a it 8 (by rw [hGs];exact I64.of (by omega) (by omega)) (I64.of (by omega) (by omega)) rfl
  unfold Sg at hb
  rw [s1] at hb
  rw [hGs] at s3
  subst hG
  simp only at hs hb
  refine At7 hs (Sbs.cons_ (Sbs.cons_ (Sbs.cons_ (Sbs.of_ (Aa7 rfl fun p hp=>?_) (Sbs.rfl_ _))))) rfl (g ?_)
  ·simp only [List.zip_cons_cons,List.zip_nil_right,List.mem_cons,List.not_mem_nil,or_false] at hp
   rcases hp with rfl | rfl | rfl | rfl | rfl
   ·exact D6 _
   ·exact D6 _
   ·exact D6 _
   ·exact D6 _
   ·exact Dz.rfl_ _
  refine g ?_
  repeat' refine st_ rfl (g ?_)
  refine gB ?_
  refine g ?_
  repeat' (first | refine st_ rfl (g ?_) | refine Bk (fun h=>g ?_) (fun h=>g ?_) | (refine Cz rfl rfl (fun h e=>?_) (fun h e=>?_)<;>simp only [e]<;>clear e<;>refine g ?_))
  ·exfalso;omega
  ·exfalso;omega
  ·refine AW.drawn (ds:=[122,123,124,125,126,127,128,121,129,130,131,14,15,16]) (fin:=[0]) (bs:=[1,1,1,1,1,1,1,1,1,1,1,1,1,1]) [⟨[],[],[0],[],0⟩,⟨[],[],[],[],0⟩,⟨[(123,1)],[],[0],[],0⟩,⟨[(124,2)],[],[],[],0⟩,⟨[(125,3)],[],[0],[],0⟩,⟨[],[],[],[],0⟩,⟨[(122,0),(126,4),(127,5)],[],[0],[],0⟩,⟨[(128,6)],[],[],[],0⟩,⟨[(121,7)],[],[],[],0⟩,⟨[(121,7)],[],[],[],0⟩,⟨[(121,7)],[],[],[],0⟩,⟨[(129,8)],[],[],[],0⟩,⟨[(130,9)],[],[],[],0⟩,⟨[(131,10)],[],[],[],0⟩] (by kernel_rfl) rfl (by kernel_rfl) rfl rfl rfl fun KD hKD=>?_
   refine g ?_
   repeat' (first | refine st_ rfl (g ?_) | (refine hKD _ _ ⟨rfl,g ?_⟩;clear hKD KD) | refine Aa (hb) rfl (g ?_))
   simp only [not_true_eq_false,decide_false]
   refine g ?_
   repeat' (first | refine st_ rfl (g ?_) | refine Aa (A19 O) rfl (g ?_))
   refine C6 rfl (by kernel_rfl) (by omega) (by kernel_rfl) rfl (by simp;omega) ?_
   refine g ?_
   repeat' refine st_ rfl (g ?_)
   refine ⟨⟨i+1,b,got++O,by omega,by omega,by omega,by simp;omega⟩,fun q=>if q=9900 then 15700 else q,⟨⟨rfl,rfl,rfl,rfl,rfl,rfl,trivial⟩,⟨?_,trivial⟩,by simp [Ay,BA.id]⟩,by show 60 - (i+1) < 60 - i;omega⟩
   rw [List.map_append]
   rfl
 ·refine AW.drawn (ds:=[158,159,160,161,162,163,164,165,166,167,168,169,170,171,172,173,6]) (fin:=[0]) (bs:=[1,1,1,1,1,1,1,1,1,1,1,1,1,1,1,1,1]) [⟨[],[],[],[],0⟩,⟨[(158,0)],[],[0],[],0⟩,⟨[(159,1)],[],[],[],0⟩,⟨[(160,2)],[],[0],[],0⟩,⟨[],[],[],[],0⟩,⟨[(162,4)],[],[0],[],0⟩,⟨[(161,3),(163,5)],[],[],[],0⟩,⟨[(164,6)],[],[],[],0⟩,⟨[],[],[],[],0⟩,⟨[(166,8)],[],[0],[],0⟩,⟨[],[],[],[],0⟩,⟨[(168,10)],[],[0],[],0⟩,⟨[],[],[],[],0⟩,⟨[(169,11),(170,12)],[],[],[],0⟩,⟨[(167,9),(171,13)],[],[],[],0⟩,⟨[(165,7),(172,14)],[],[],[],0⟩,⟨[(173,15)],[],[],[],0⟩] (by kernel_rfl) rfl (by kernel_rfl) rfl rfl rfl fun KD hKD=>?_
  refine g ?_
  repeat' (first | refine st_ rfl (g ?_) | (refine hKD _ _ ⟨rfl,g ?_⟩;clear hKD KD) | (refine L8 rfl rfl (fun h e=>?_) (fun h e=>?_)<;>simp only [e]<;>clear e<;>refine g ?_))
  ·exact decide_eq_true (by omega)
  ·exfalso;omega
 ·refine AW.drawn (ds:=[158,159,160,161,162,163,164,165,166,167,168,169,170,171,172,173,6]) (fin:=[0]) (bs:=[1,1,1,1,1,1,1,1,1,1,1,1,1,1,1,1,1]) [⟨[],[],[],[],0⟩,⟨[(158,0)],[],[0],[],0⟩,⟨[(159,1)],[],[],[],0⟩,⟨[(160,2)],[],[0],[],0⟩,⟨[],[],[],[],0⟩,⟨[(162,4)],[],[0],[],0⟩,⟨[(161,3),(163,5)],[],[],[],0⟩,⟨[(164,6)],[],[],[],0⟩,⟨[],[],[],[],0⟩,⟨[(166,8)],[],[0],[],0⟩,⟨[],[],[],[],0⟩,⟨[(168,10)],[],[0],[],0⟩,⟨[],[],[],[],0⟩,⟨[(169,11),(170,12)],[],[],[],0⟩,⟨[(167,9),(171,13)],[],[],[],0⟩,⟨[(165,7),(172,14)],[],[],[],0⟩,⟨[(173,15)],[],[],[],0⟩] (by kernel_rfl) rfl (by kernel_rfl) rfl rfl rfl fun KD hKD=>?_
  refine g ?_
  repeat' (first | refine st_ rfl (g ?_) | (refine hKD _ _ ⟨rfl,g ?_⟩;clear hKD KD) | (refine L8 rfl rfl (fun h e=>?_) (fun h e=>?_)<;>simp only [e]<;>clear e<;>refine g ?_))
  ·exact decide_eq_true (by omega)
  ·exfalso;omega
end Go.Proofs.YthlgnjlpakimaaaGreatDoor
namespace Go.Proofs.YthlgnjlpakimaaaGreatDoor
open Go.ChangeShapes Go.WideShapes Go.ChangeAt Go.RowKit
namespace cSessionParts
set_option maxRecDepth 100000 in
theorem contract (H : Type) (enc : TypeId × Value -> H) (W : World) (base : Nat) (args : Array Value) (ds gs : List (DataW H)) (before : List MemPlace)
    (hval : ∀ (j : Nat) t v, Tryz.f8.params[j]? = some t -> args[j]? = some v -> Value.okWide Tryz.prog W .any base t v)
    (hW : DataW.Whole enc Tryz.prog Tryz.f8.params.toList Rows.sessionPartsSpec.vars false W args.toList ds gs before) (hk : Rows.uptoSmall H (ds ++ gs) = true) (hL : laidMetH Tryz.prog Rows.sessionPartsRow.laid W) :
    Calls Tryz.prog 8 args W fun e W' => ∃ v, e = .returned v /\ Rows.sessionPartsSpec.post enc Tryz.prog Tryz.f8 false true false false W args v W' := by
  have hW' := hW
  obtain ⟨p, q, hA0, hV, rfl, hfz, hnd⟩ := hW
  have hA : DataW.TrodAll enc Tryz.prog W 0 (fun _ => true) true Tryz.f8.params.toList args.toList ds p := hA0
  rw [Tryz.params8] at hA hval
  obtain ⟨v0, vs0, d0, ds0, p0, q0, hargs, rfl, rfl, h0, r0⟩ := trodAll_cons hA
  obtain ⟨v1, vs1, d1, ds1, p1, q1, rfl, rfl, rfl, h1, r1⟩ := trodAll_cons r0
  obtain ⟨v2, vs2, d2, ds2, p2, q2, rfl, rfl, rfl, h2, r2⟩ := trodAll_cons r1
  obtain ⟨rfl, rfl, rfl⟩ := trodAll_nil r2
  obtain rfl : args = #[v0, v1, v2] := by cases args; simp_all
  obtain ⟨rfl, rfl⟩ := trodVars_none hV
  have hpart := Xj hk
  obtain ⟨cs0, rfl, hs0⟩ := okWide_struct Tryz.underlying62 (hval 0 _ v0 rfl rfl)
  obtain ⟨n0, hn0⟩ := h0
  obtain ⟨_, x0, va, vb, e0, hB, hN, iS⟩ := A25 (w := W) H enc n0 _ _ ⟨hn0, hpart d0 (by simp)⟩
  obtain rfl : cs0 = #[va, vb, .int .i64 x0.sure] := Array.toList_inj.1 (by simpa only [Value.cells] using e0)
  obtain ⟨_, _, _, rfl⟩ := okWide_slice Tryz.underlying35 (hval 1 _ v1 rfl rfl)
  obtain ⟨n1, hn1⟩ := h1
  obtain ⟨_, l1, u1, hv1, hl1⟩ := Q5 (w := W) H enc n1 _ _ ⟨hn1, hpart d1 (by simp)⟩
  simp only [Value.cells, List.cons.injEq, and_true] at hv1
  subst hv1
  obtain ⟨a2, rfl, rfl, rfl, w2⟩ := open_int Tryz.underlying5 (hval 2 _ v2 rfl rfl) h2
  have hT : A8 W := Xa (by kernel_rfl) hL
  clear hA0
  refine ((Ai7 x0 l1 a2 iS (by simp [Lit.wf, IntKind.max, IntKind.min, IntKind.signed, IntKind.bits] at w2; omega) (by simp [Lit.wf, IntKind.max, IntKind.min, IntKind.signed, IntKind.bits] at w2; omega)).law hT (At.cons (Aw3 hB hN) (At.cons (.iv (U9 hl1 (Nat.le_refl _))) (At.cons .val At.nil)))).mono fun e W' ⟨he, hb⟩ => ?_
  subst he
  exact ⟨_, rfl, Ai6 Aw5 (by kernel_rfl) (by kernel_rfl) Tryz.underlying4 rfl rfl rfl rfl hW' hb⟩
theorem laid_met (os:Os):laidMet Tryz.prog Rows.sessionPartsRow.laid ((Qs os).forCall (fun _ _=>0) ⟨#[],#[.agg #[.slice none 0 0,.slice none 0 0,.int .i64 0],.slice none 0 0,.int .u8 0],[]⟩).memory :=
  laidMet_of_run' 8 (by kernel_rfl) (by kernel_rfl)
theorem reads (os:Os) {H:Type} (enc:TypeId×Value->H):∃ places,DataW.whole enc Tryz.prog ((Qs os).forCall (fun _ _=>0) ⟨#[],#[.agg #[.slice none 0 0,.slice none 0 0,.int .i64 0],.slice none 0 0,.int .u8 0],[]⟩).memory Tryz.f8.params.toList Rows.sessionPartsSpec.vars false (#[.agg #[.slice none 0 0,.slice none 0 0,.int .i64 0],.slice none 0 0,.int .u8 0]:Array Value).toList 8=some ([.agg [.nil,.nil,.lit (.int .i64 0)],.nil,.lit (.int .u8 0)],[],places) :=
  ⟨[],by kernel_rfl⟩
set_option maxRecDepth 100000 in
theorem lifted (os : Os) (started : os.Started) (H : Type) (enc : TypeId × Value -> H) (F : Stop.Interp) :
    ReturnsInHanded {} Tryz.checked os 8 .any ((Rows.OpenSpec.upto Rows.sessionPartsSpec).preRow enc Tryz.prog Tryz.f8 Rows.sessionPartsUptoRow.domain false Rows.sessionPartsUptoRow.laid) (((Rows.OpenSpec.upto Rows.sessionPartsSpec).at F).post enc Tryz.prog Tryz.f8 false true false false) := by
  obtain ⟨places, hx⟩ := reads os enc
  refine returnsInHanded_of_row (C := Tryz.checked) (s := Rows.OpenSpec.upto Rows.sessionPartsSpec) own started (by kernel_rfl) Tryz.func8
    (witness_row_at (enc := enc) (C := Tryz.checked) false (Qs os) #[.agg #[.slice none 0 0, .slice none 0 0, .int .i64 0], .slice none 0 0, .int .u8 0] rfl (by kernel_rfl) (by kernel_rfl) (by kernel_rfl)
      (OpenSpec.preRow_of_cond 8 hx (by kernel_rfl) (fun k hk => by cases hk; kernel_rfl) (by kernel_rfl) (laid_met os))) ?_
  intro W base args ds gs before hval hW _ hcond _ hL _ _
  exact contract H enc W base args ds gs before hval hW (hcond _ rfl) hL
theorem c1:laidOutB Tryz.pinned.checked.prog=true:=by kernel_rfl
theorem c2:mapsRowed Tryz.pinned.checked.prog=true:=by kernel_rfl
theorem c3:(Rows.sessionPartsUptoRow.inPlace==Tryz.pinned.checked.prog.inPlace 8)=true:=by kernel_rfl
theorem c4:(Rows.sessionPartsUptoRow.unfollowed==Tryz.pinned.checked.prog.unfollowed 8)=true:=by kernel_rfl
theorem c5:(Rows.sessionPartsUptoRow.recurses==Tryz.pinned.checked.prog.recurses 8)=true:=by kernel_rfl
theorem c6:(Rows.sessionPartsUptoRow.named==Tryz.pinned.checked.prog.varsNamed 8)=true:=by kernel_rfl
theorem closed:joinedFacts Tryz.pinned.checked.prog 8 Tryz.f8 (Rows.OpenSpec.upto Rows.sessionPartsSpec).bare Rows.sessionPartsUptoRow=true:=by
  unfold joinedFacts
  rw [c1,c2,c3,c4,c5,c6]
  kernel_rfl
theorem said:Rows.SessionPartsUptoSaid :=
  OpenClaim.holds_of_cond 8 Tryz.f8 rfl rfl rfl rfl rfl rfl rfl ⟨rfl,rfl,rfl,rfl,rfl⟩ rfl rfl rfl rfl rfl (by kernel_rfl) Tryz.func8 closed
    (of_decide_eq_true (by kernel_rfl)) (by unfold Func.isWrapper;first | (rw [if_pos (by decide +kernel)];kernel_rfl) | (rw [if_neg (by decide +kernel)];exact ⟨rfl,rfl⟩))
    (fun os started H enc _ F=>by rw [OpenClaim.pre_eq_preRow];exact lifted os started H enc F)
theorem plain (f : FuncId) (fn : Func) (hf : Tryz.pinned.checked.prog.funcNamed "telltale/telltalelaw17.SessionParts" = some f) (hfn : Tryz.pinned.checked.prog.funcs[f]? = some fn) :
    false = Tryz.pinned.checked.prog.looks [] /\ ∀ (j : Nat) t, fn.params[j]? = some t -> Tryz.pinned.checked.prog.wantsStandIn t = false := by
  obtain rfl : f = 8 := Option.some.inj ((show Tryz.prog.funcNamed "telltale/telltalelaw17.SessionParts" = some 8 by kernel_rfl).symm.trans hf) |>.symm
  obtain rfl : fn = Tryz.f8 := (Option.some.inj (Tryz.func8.symm.trans hfn)).symm
  refine ⟨by kernel_rfl, fun j t ht => ?_⟩
  rw [Tryz.params8] at ht
  have hm := Array.mem_of_getElem? ht
  simp at hm
  rcases hm with rfl | rfl | rfl
  · exact (show Tryz.prog.wantsStandIn 62 = false by kernel_rfl)
  · exact (show Tryz.prog.wantsStandIn 35 = false by kernel_rfl)
  · exact (show Tryz.prog.wantsStandIn 5 = false by kernel_rfl)
theorem card:Rows.SessionPartsUptoCardSaid :=
  Claim7.holds_tied_plain_at .later [] _ _ _ _ said (fun _ h=>by cases h) (by as_aux_lemma=>kernel_rfl) (fun _ h=>by cases h) sessionPartsUpto_row_tie rfl ⟨rfl,rfl⟩ (by as_aux_lemma=>kernel_rfl) rfl plain (by as_aux_lemma=>kernel_rfl)
#print axioms card
end cSessionParts
end Go.Proofs.YthlgnjlpakimaaaGreatDoor
