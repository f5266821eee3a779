/- The program's walk over a vector's nodes ('each', 'All'): its contract as a range function's. -/
import Derived.Test.YtahgkllhbggmgaaGreatDoorLVecLaw
import Derived.RangeFuncNested
import Derived.RangeFuncBound
import Derived.RangeFuncCalls
import Derived.RangeFuncLeaves
import Derived.Shelf.Abstract
import Derived.Shelf.RegionOpen
import Derived.OwnWalkIn
import Derived.TacticsInMore
import Derived.LoopNIn
import Derived.LoopIn
set_option linter.all false
set_option linter.unnecessarySimpa false
set_option linter.unusedSimpArgs false
set_option linter.unusedVariables false
namespace Go.Proofs.YtahgkllhbggmgaaGreatDoor
open Go.ChangeShapes Go.WideShapes Go.ChangeAt Go.RowKit Go.Shelf
attribute [local go_sem] Oper.semAt_some
def Cp (M k:Nat):List Nat:=(List.range k).filter M.testBit
theorem K8 (M k:Nat):Cp M (k+1)=if M.testBit k then Cp M k++[k] else Cp M k:=by
 simp only [Cp,List.range_succ,List.filter_append,List.filter_cons,List.filter_nil]
 split<;>simp
theorem So {M k n : Nat} (hkn : k <= n) (h : ∀ i, k <= i -> i < n -> M.testBit i = false) : Cp M n = Cp M k := by
  induction n with
  | zero => obtain rfl : k = 0 := by omega
            rfl
  | succ n ih =>
    rcases Nat.lt_or_ge n k with c | c
    · obtain rfl : k = n + 1 := by omega
      rfl
    · rw [K8, h n c (by omega), if_neg (by simp)]
      exact ih c fun i h1 h2 => h i h1 (by omega)
theorem Xt {M k n : Nat} (h : k <= n) : Cp M k <+: Cp M n := by
  induction n with
  | zero => obtain rfl : k = 0 := by omega
            exact List.prefix_rfl
  | succ n ih =>
    rcases Nat.lt_or_ge n k with c | c
    · obtain rfl : k = n + 1 := by omega
      exact List.prefix_rfl
    · rw [K8]
      split
      · exact (ih c).trans (List.prefix_append _ _)
      · exact ih c
theorem Xu (M k:Nat):(Cp M k).length<=k:=by
 have:=List.length_filter_le M.testBit (List.range k)
 simpa [Cp] using this
theorem V9 {M k n:Nat} : n∈Cp M k↔n < k/\M.testBit n=true:=by simp [Cp]
theorem Bx3 {R:Nat} (h0:R≠0) (hR:R < 18446744073709551616):Lib.ctz 64 R < 64/\R.testBit (Lib.ctz 64 R)=true/\∀ i,i < Lib.ctz 64 R->R.testBit i=false:=by
 obtain ⟨m,hm,hk⟩:=Lib.ctzFrom_spec 64 R (by omega) hR
 have e:Lib.ctz 64 R=Lib.ctzFrom 64 R:=by rw [Lib.ctz,if_neg h0]
 rw [e]
 generalize Lib.ctzFrom 64 R=k at *
 refine ⟨hk,?_,fun i hi=>?_⟩
 ·rw [hm,Nat.mul_comm,Nat.testBit_mul_two_pow]
  simp [Nat.testBit_zero]
 ·rw [hm,Nat.mul_comm,Nat.testBit_mul_two_pow]
  simp;omega
theorem Bp0 {R:Nat} (h0:R≠0) (hR:R < 18446744073709551616) (i:Nat):(R &&& (R - 1)).testBit i=(R.testBit i&&!decide (i=Lib.ctz 64 R)):=by
 obtain ⟨m,hm,hk⟩:=Lib.ctzFrom_spec 64 R (by omega) hR
 have e:Lib.ctz 64 R=Lib.ctzFrom 64 R:=by rw [Lib.ctz,if_neg h0]
 rw [e]
 generalize Lib.ctzFrom 64 R=k at *
 have e1:R=(2*m+1)*2 ^ k:=by rw [hm,Nat.mul_comm]
 have e2:R - 1=2 ^ k*(2*m)+(2 ^ k - 1):=by
  rw [e1,Nat.add_mul,Nat.one_mul,Nat.mul_comm (2*m)]
  have:0 < 2 ^ k:=Nat.two_pow_pos k
  omega
 have hlt:2 ^ k - 1 < 2 ^ k:=by have:0 < 2 ^ k:=Nat.two_pow_pos k;omega
 rw [Nat.testBit_and]
 cases hb:R.testBit i with
 | false=>simp
 | true =>
  rw [Bool.true_and,Bool.true_and,e2,Nat.testBit_two_pow_mul_add _ hlt]
  rw [e1,Nat.testBit_mul_two_pow] at hb
  simp only [Bool.and_eq_true,decide_eq_true_eq] at hb
  rw [if_neg (by omega)]
  obtain ⟨h1,h2⟩:=hb
  by_cases hi:i=k
  ·subst hi;simp [Nat.testBit_zero]
  ·obtain ⟨d,hd⟩ : ∃ d,i - k=d+1:=⟨i - k - 1,by omega⟩
   rw [hd,Nat.testBit_succ] at h2 ⊢
   rw [show (2*m+1) / 2=m by omega] at h2
   rw [show 2*m / 2=m by omega,h2,decide_eq_false hi]
   rfl
def Bo (Bn C:Nat) (W W':World):Prop:=∀ g,g=Bn\/g=C\/g=1->W'.heap[g]? = W.heap[g]?
theorem Bo.t {Bn C:Nat} {A B D:World} (h:Bo Bn C A B) (k:Bo Bn C B D):Bo Bn C A D:=fun g hg=>(k g hg).trans (h g hg)
theorem Bo.of_below {Bn C:Nat} {W W':World} (h:Below W.heap.size W W') (h1:Bn < W.heap.size) (h2:C < W.heap.size) (h3:1 < W.heap.size):Bo Bn C W W':=by
 rintro g (rfl | rfl | rfl)
 ·exact h.block _ h1
 ·exact h.block _ h2
 ·exact h.block _ h3
theorem Bo.refl (Bn C:Nat) (W:World):Bo Bn C W W:=fun _ _=>rfl
theorem Bo.put {Bn C:Nat} {w W:World} {l:Nat} {o':Obj} (h1:Bn < w.heap.size) (h2:C < w.heap.size) (_h3:1 < w.heap.size) (hl:w.heap.size<=l):Bo Bn C W (W.putObj l o'):=by
 rintro g (rfl | rfl | rfl)<;>exact World.putObj_heap_other (by omega)
theorem Bo.far {Bn C:Nat} {W:World} {p:Addr} {v:Value} (h1:p.block≠Bn) (h2:p.block≠C) (h3:p.block≠1):Bo Bn C W (W.setCell p v):=by
 rintro g (rfl | rfl | rfl)
 ·exact Below.heap_setCell W p v _ (Ne.symm h1)
 ·exact Below.heap_setCell W p v _ (Ne.symm h2)
 ·exact Below.heap_setCell W p v _ (Ne.symm h3)
theorem A8.lt {w:World} (h:A8 w):1 < w.heap.size:=World.block_lt_of_cell? _ _ (h 0 (by decide))
theorem Blk.own {W W':World} {g:Nat} {t:TypeId} {cs:Array Value} {row:Option Nat} (h:Blk W g t cs) (hg:W.grownBy W' row) (hr:∀ r,row=some r->∃ o:Obj,W.heap[r]? = some o/\o.isCells=false):Blk W' g t cs:=by
 refine h.grown hg ?_
 intro e
 obtain ⟨o,ho,hc⟩:=hr g e.symm
 rw [h.raw] at ho
 injection ho with ho
 subst ho
 cases hc
def Jg (f:Nat->Int) (n:Fin 64):Array Value:=#[.int .i64 (n.1:Nat),.int .i64 (f n.1)]
structure Jv (Bn C:Nat) (f:Nat->Int) (M:Nat) (W:World):Prop where
 box:Blk W Bn 464 #[.pointer (some ⟨C,0,none⟩)]
 cnt:Blk W C 396 (E7 f M)
 tab:A8 W
theorem Jv.keep {Bn C:Nat} {f:Nat->Int} {M:Nat} {W W':World} (h:Jv Bn C f M W) (k:Bo Bn C W W'):Jv Bn C f M W':=by
 refine ⟨(k _ (Or.inl rfl)).trans h.box,(k _ (Or.inr (Or.inl rfl))).trans h.cnt,fun j hj=>?_⟩
 have:=h.tab j hj
 have hk:=k 1 (Or.inr (Or.inr rfl))
 unfold World.cell? at this ⊢
 simp only at this ⊢
 rw [hk]
 exact this
theorem Jv.next {Bn C:Nat} {f:Nat->Int} {M:Nat} {W W':World} (h:Jv Bn C f M W) (hb:Below W.heap.size W W'):Jv Bn C f M W':=⟨h.box.next hb,h.cnt.next hb,h.tab.next hb⟩
structure Kb (Bn C:Nat) (f:Nat->Int) (M:Nat) (W:World):Prop where
 box:∃ t,Blk W Bn t #[.pointer (some ⟨C,0,none⟩)]
 cnt:∃ t,Blk W C t (E7 f M)
 tab:A8 W
theorem Kb.b0 {Bn C:Nat} {f:Nat->Int} {M:Nat} {W:World} (h:Kb Bn C f M W):W.cell? ⟨Bn,0,none⟩=some (.pointer (some ⟨C,0,none⟩)):=by
 obtain ⟨t,h⟩:=h.box
 exact h.cell 0
theorem Kb.at_ {Bn C:Nat} {f:Nat->Int} {M:Nat} {W:World} (h:Kb Bn C f M W) {n:Nat} (hn:n < 64):W.cell? ⟨C,n,none⟩=some (.int .i64 (f n)):=by
 obtain ⟨t,h⟩:=h.cnt
 exact (h.cell n).trans (T5 hn)
theorem Kb.c64 {Bn C:Nat} {f:Nat->Int} {M:Nat} {W:World} (h:Kb Bn C f M W):W.cell? ⟨C,64,none⟩=some (.int .u64 (M:Int)):=by
 obtain ⟨t,h⟩:=h.cnt
 exact (h.cell 64).trans Ym
set_option maxRecDepth 100000 in
set_option maxHeartbeats 1000000 in
theorem Ay6 (n:Nat) (hn:1<=n) (l Bn C:Nat) (M:Nat) (hM:M < 18446744073709551616) (J Jx:List (Fin 64)->World->Prop) (hL:∀ pre W,J pre W->∃ f,Kb Bn C f M W)
  (hY:∀ pre x W f,J pre W->Kb Bn C f M W->pre.length < 64->YieldAt Fence.wide (n - 1) Tryz.prog l (Jg f x) W fun e W' =>
   (e=.returned (.bool true)/\J (pre++[x]) W')\/(e=.returned (.bool false)/\Jx (pre++[x]) W'))
  (W:World) (h0:J [] W) :
  CallsIn Fence.wide n Tryz.prog 470 #[.func (.yield l) #[] #[],.pointer (some ⟨Bn,0,none⟩)] W fun e W'=>(∃ v,e=.returned v) /\
   ((∃ ys:List (Fin 64),ys.map (·.1)=Cp M 64/\J ys W')\/(∃ pre:List (Fin 64),pre.map (·.1) <+: Cp M 64/\Jx pre W')):=by
 obtain ⟨f0,hE⟩:=hL [] W h0
 have HL:=Lib.hid hL
 have HY:=Lib.hid hY
 clear hY hL
 have b0:=hE.b0
 have c0:=hE.c64
 clear hE
 refine callsIn_of_wp Tryz.func470 rfl trivial ?_ rfl
 simp only [Tryz.ntmps470,List.size_toArray,List.length_cons,List.length_nil,Nat.reduceAdd,Nat.reduceSub,Array.replicate_succ,Array.replicate_zero,List.push_toArray,List.append_toArray,List.nil_append,List.cons_append]
 gi_wp2
 gi_loopw [3] (fun p wr=>∃ (k R:Nat),k<=64/\p=.int .u64 R/\R < 18446744073709551616/\(∀ i,i < 64->R.testBit i=(M.testBit i&&decide (k<=i)))/\∃ pre:List (Fin 64),pre.map (·.1)=Cp M k/\J pre wr) (fun p wr=>(intOf p).toNat)
 case atStart =>
  exact ⟨0,M,by omega,rfl,hM,fun i _=>by simp,[],rfl,h0⟩
 case round =>
  obtain ⟨k,R,hk,rfl,hR,hbit,pre,hpm,hJ⟩:=hrel
  obtain ⟨f,hEr⟩:=HL.out pre wr hJ
  have Hpm:=Lib.hid hpm
  clear hpm
  have Hbit:=Lib.hid hbit
  clear hbit b0 c0
  by_cases hz:R=0
  ·subst hz
   have HJ:=Lib.hid hJ
   clear hJ
   gi_wp2
   go_end0
   refine ⟨⟨_,rfl⟩,.inl ⟨pre,?_,HJ.out⟩⟩
   rw [So hk fun i h1 h2=>by have:=Hbit.out i h2;rw [Nat.zero_testBit,decide_eq_true h1,Bool.and_true] at this;exact this.symm]
   exact Hpm.out
  ·obtain ⟨hx,hxb,hxl⟩:=Bx3 hz hR
   have hdl:=Bp0 hz hR
   have hxc:Lib.ctz 64 R=Lib.ctz 64 R:=rfl
   generalize hq:Lib.ctz 64 R=x at *
   have Hxl:=Lib.hid hxl
   have Hdl:=Lib.hid hdl
   have Hq:=Lib.hid hq
   have Hxb:=Lib.hid hxb
   have hkx:k<=x:=by
    have:=Hbit.out x hx
    rw [hxb] at this
    simp only [Bool.true_eq,Bool.and_eq_true,decide_eq_true_eq] at this
    exact this.2
   clear hxl hdl hq hxc hxb
   have HE2:=Lib.hid hEr
   have d0:=hEr.b0
   have d1:=hEr.at_ hx
   have HT:=Lib.hid hEr.tab
   clear hEr
   have hzi:((R:Int)==0)=false:=by simp;omega
   have HJ:=Lib.hid hJ
   clear hJ
   have hz2:¬ (R:Int)=0:=by omega
   gi_wp2
   refine ⟨trivial,?_⟩
   refine (callsIn_wide.2 (Bg4 R hR _ HT.out)).mono ?_
   rw [Hq.out]
   rintro e w' ⟨rfl,rfl⟩
   obtain ⟨fn,tmps,assign,body,hy,hRd⟩:=HY.out pre ⟨x,hx⟩ wr f HJ.out HE2.out (by have:=Xu M k;rw [<-Hpm.out,List.length_map] at this;omega)
   dsimp only [Jg] at hy
   have hxi:(x:Int) < 64:=by omega
   gi_wp2
   refine hRd.mono ?_
   have hpre:(pre++[(⟨x,hx⟩ : Fin 64)]).map (·.1)=Cp M (x+1):=by
    rw [List.map_append,Hpm.out]
    show Cp M k++[x]=_
    have hb:M.testBit x=true:=by
     have:=Hbit.out x hx
     rw [Hxb.out] at this
     simp only [Bool.true_eq,Bool.and_eq_true] at this
     exact this.1
    rw [K8,hb,if_pos rfl,So hkx fun i h1 h2=>by
     have:=Hbit.out i (by omega)
     rw [Hxl.out i h2,decide_eq_true h1,Bool.and_true] at this
     exact this.symm]
   have Hpre:=Lib.hid hpre
   clear hpre
   rintro e W3 (⟨rfl,hJ3⟩ | ⟨rfl,hJx3⟩)
   ·have e1:bits .and .u64 (R:Int) ((R:Int) - 1)=((R &&& (R - 1):Nat):Int):=by
     rw [show (R:Int) - 1=((R - 1:Nat):Int) by omega]
     exact u64_and_nat _ _ hR (by omega)
    have e2:IntKind.u64.wrap ((R:Int) - 1)=(R:Int) - 1:=by rw [IntKind.wrap_u64];omega
    have hlt:R &&& (R - 1) < R:=Nat.lt_of_le_of_lt Nat.and_le_right (by omega)
    have HJ3:=Lib.hid hJ3
    clear hJ3 d0 d1
    gi_wp2
    refine ⟨⟨x+1,R &&& (R - 1),by omega,rfl,by omega,fun i hi=>?_,_,Hpre.out,HJ3.out⟩,by simp [intOf];omega⟩
    rw [Hdl.out]
    rcases Nat.lt_or_ge i x with c | c
    ·rw [Hxl.out i c,decide_eq_false (p:=x+1<=i) (by omega)]
     simp
    ·rw [Hbit.out i hi,decide_eq_true (p:=k<=i) (by omega),Bool.and_true]
     congr 1
     by_cases hix:i=x
     ·subst hix;simp
     ·rw [decide_eq_false (p:=i=x) hix,decide_eq_true (p:=x+1<=i) (by omega)]
      rfl
   ·gi_wp2
    refine bodyPost_ret (results_none rfl _ _ _) rfl ?_
    exact ⟨⟨_,rfl⟩,.inr ⟨_,Hpre.out ▸ Xt (by omega),hJx3⟩⟩
theorem Ay5 {Bn C:Nat} {f g:Nat->Int} {M:Nat} {W:World} (h1:Kb Bn C f M W) (h2:Jv Bn C g M W) (x:Fin 64):Jg f x=Jg g x:=by
 have e1:=h1.at_ x.2
 have e2:=(h2.cnt.cell x).trans (T5 x.2)
 rw [e1] at e2
 have e3:=Option.some.inj e2
 unfold Jg
 rw [e3]
theorem Bo6 (n:Nat) (hn:1<=n) (l Bn C:Nat) (f:Nat->Int) (M:Nat) (hM:M < 18446744073709551616) (J Jx:List (Fin 64)->World->Prop)
  (hY:∀ pre x W,J pre W->pre.length < 64->YieldAt Fence.wide (n - 1) Tryz.prog l (Jg f x) W fun e W' =>
   (e=.returned (.bool true)/\J (pre++[x]) W'/\Bo Bn C W W')\/(e=.returned (.bool false)/\Jx (pre++[x]) W'))
  (W:World) (hE:Jv Bn C f M W) (h0:J [] W) :
  CallsIn Fence.wide n Tryz.prog 470 #[.func (.yield l) #[] #[],.pointer (some ⟨Bn,0,none⟩)] W fun e W'=>(∃ v,e=.returned v) /\
   ((∃ ys:List (Fin 64),ys.map (·.1)=Cp M 64/\J ys W')\/(∃ pre:List (Fin 64),pre.map (·.1) <+: Cp M 64/\Jx pre W')) :=
 (Ay6 n hn l Bn C M hM (fun pre W=>J pre W/\Jv Bn C f M W) Jx (fun _ _ h=>⟨f,⟨_,h.2.box⟩,⟨_,h.2.cnt⟩,h.2.tab⟩) (fun pre x W g ⟨hj,he⟩ hg hlt=>by
  rw [Ay5 hg he x]
  obtain ⟨fn,tmps,assign,body,hy,hr⟩:=hY pre x W hj hlt
  exact ⟨fn,tmps,assign,body,hy,hr.mono fun e W' h=>h.elim (fun ⟨h1,h2,h3⟩=>.inl ⟨h1,h2,he.keep h3⟩) .inr⟩) W ⟨h0,hE⟩).mono fun e W' ⟨h1,h2⟩=>⟨h1,h2.elim (fun ⟨ys,h3,h4,_⟩=>.inl ⟨ys,h3,h4⟩) .inr⟩
theorem Rv (n:Nat) (hn:1<=n) (Bn C:Nat) (f:Nat->Int) (M:Nat) (hM:M < 18446744073709551616) (w:World) (h:Jv Bn C f M w) :
  SeqStopsK Fence.wide n Tryz.prog 470 #[.pointer (some ⟨Bn,0,none⟩)] (Jg f) (Bo Bn C) (fun ys=>ys.map (·.1)=Cp M 64) (fun pre=>pre.map (·.1) <+: Cp M 64) 64 w:=fun l J Jx W hW _ _ hY h0 =>
 Bo6 n hn l Bn C f M hM J Jx hY W (h.next hW) h0
end Go.Proofs.YtahgkllhbggmgaaGreatDoor
