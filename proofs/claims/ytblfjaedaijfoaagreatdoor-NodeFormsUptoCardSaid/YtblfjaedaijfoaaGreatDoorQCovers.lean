/- Contracts of the program's walk over a vector, and of its test whether one vector covers another. -/
import Derived.Test.YtblfjaedaijfoaaGreatDoorQVecLaw
import Derived.RangeFuncNested
import Derived.RangeFuncBound
import Derived.RangeFuncCalls
import Derived.RangeFuncLeaves
import Derived.Shelf.Abstract
import Derived.Shelf.RegionOpen
import Derived.OwnWalkIn
import Derived.TacticsInMore
import Derived.LoopNIn
import Derived.LoopIn
set_option linter.all false
set_option linter.unnecessarySimpa false
set_option linter.unusedSimpArgs false
set_option linter.unusedVariables false
namespace Go.Proofs.YtblfjaedaijfoaaGreatDoor
open Go.ChangeShapes Go.WideShapes Go.ChangeAt Go.RowKit Go.Shelf
attribute [local go_sem] Oper.semAt_some
def Ch (M k:Nat):List Nat:=(List.range k).filter M.testBit
theorem Kf (M k:Nat):Ch M (k+1)=if M.testBit k then Ch M k++[k] else Ch M k:=by
 simp only [Ch,List.range_succ,List.filter_append,List.filter_cons,List.filter_nil]
 split<;>simp
theorem Lx {M k n : Nat} (hkn : k <= n) (h : ∀ i, k <= i -> i < n -> M.testBit i = false) : Ch M n = Ch M k := by
  induction n with
  | zero => obtain rfl : k = 0 := by omega
            rfl
  | succ n ih =>
    rcases Nat.lt_or_ge n k with c | c
    · obtain rfl : k = n + 1 := by omega
      rfl
    · rw [Kf, h n c (by omega), if_neg (by simp)]
      exact ih c fun i h1 h2 => h i h1 (by omega)
theorem R4 {M k n : Nat} (h : k <= n) : Ch M k <+: Ch M n := by
  induction n with
  | zero => obtain rfl : k = 0 := by omega
            exact List.prefix_rfl
  | succ n ih =>
    rcases Nat.lt_or_ge n k with c | c
    · obtain rfl : k = n + 1 := by omega
      exact List.prefix_rfl
    · rw [Kf]
      split
      · exact (ih c).trans (List.prefix_append _ _)
      · exact ih c
theorem A26 (M k:Nat):(Ch M k).length<=k:=by
 have:=List.length_filter_le M.testBit (List.range k)
 simpa [Ch] using this
theorem N2 {M k n:Nat} : n∈Ch M k↔n < k/\M.testBit n=true:=by simp [Ch]
theorem Bg7 {R:Nat} (h0:R≠0) (hR:R < 18446744073709551616):Lib.ctz 64 R < 64/\R.testBit (Lib.ctz 64 R)=true/\∀ i,i < Lib.ctz 64 R->R.testBit i=false:=by
 obtain ⟨m,hm,hk⟩:=Lib.ctzFrom_spec 64 R (by omega) hR
 have e:Lib.ctz 64 R=Lib.ctzFrom 64 R:=by rw [Lib.ctz,if_neg h0]
 rw [e]
 generalize Lib.ctzFrom 64 R=k at *
 refine ⟨hk,?_,fun i hi=>?_⟩
 ·rw [hm,Nat.mul_comm,Nat.testBit_mul_two_pow]
  simp [Nat.testBit_zero]
 ·rw [hm,Nat.mul_comm,Nat.testBit_mul_two_pow]
  simp;omega
theorem Ay6 {R:Nat} (h0:R≠0) (hR:R < 18446744073709551616) (i:Nat):(R &&& (R - 1)).testBit i=(R.testBit i&&!decide (i=Lib.ctz 64 R)):=by
 obtain ⟨m,hm,hk⟩:=Lib.ctzFrom_spec 64 R (by omega) hR
 have e:Lib.ctz 64 R=Lib.ctzFrom 64 R:=by rw [Lib.ctz,if_neg h0]
 rw [e]
 generalize Lib.ctzFrom 64 R=k at *
 have e1:R=(2*m+1)*2 ^ k:=by rw [hm,Nat.mul_comm]
 have e2:R - 1=2 ^ k*(2*m)+(2 ^ k - 1):=by
  rw [e1,Nat.add_mul,Nat.one_mul,Nat.mul_comm (2*m)]
  have:0 < 2 ^ k:=Nat.two_pow_pos k
  omega
 have hlt:2 ^ k - 1 < 2 ^ k:=by have:0 < 2 ^ k:=Nat.two_pow_pos k;omega
 rw [Nat.testBit_and]
 cases hb:R.testBit i with
 | false=>simp
 | true =>
  rw [Bool.true_and,Bool.true_and,e2,Nat.testBit_two_pow_mul_add _ hlt]
  rw [e1,Nat.testBit_mul_two_pow] at hb
  simp only [Bool.and_eq_true,decide_eq_true_eq] at hb
  rw [if_neg (by omega)]
  obtain ⟨h1,h2⟩:=hb
  by_cases hi:i=k
  ·subst hi;simp [Nat.testBit_zero]
  ·obtain ⟨d,hd⟩ : ∃ d,i - k=d+1:=⟨i - k - 1,by omega⟩
   rw [hd,Nat.testBit_succ] at h2 ⊢
   rw [show (2*m+1) / 2=m by omega] at h2
   rw [show 2*m / 2=m by omega,h2,decide_eq_false hi]
   rfl
def C0 (Bn C:Nat) (W W':World):Prop:=∀ g,g=Bn\/g=C\/g=1->W'.heap[g]? = W.heap[g]?
theorem C0.t {Bn C:Nat} {A B D:World} (h:C0 Bn C A B) (k:C0 Bn C B D):C0 Bn C A D:=fun g hg=>(k g hg).trans (h g hg)
theorem C0.of_below {Bn C:Nat} {W W':World} (h:Below W.heap.size W W') (h1:Bn < W.heap.size) (h2:C < W.heap.size) (h3:1 < W.heap.size):C0 Bn C W W':=by
 rintro g (rfl | rfl | rfl)
 ·exact h.block _ h1
 ·exact h.block _ h2
 ·exact h.block _ h3
theorem C0.refl (Bn C:Nat) (W:World):C0 Bn C W W:=fun _ _=>rfl
theorem C0.put {Bn C:Nat} {w W:World} {l:Nat} {o':Obj} (h1:Bn < w.heap.size) (h2:C < w.heap.size) (_h3:1 < w.heap.size) (hl:w.heap.size<=l):C0 Bn C W (W.putObj l o'):=by
 rintro g (rfl | rfl | rfl)<;>exact World.putObj_heap_other (by omega)
theorem C0.far {Bn C:Nat} {W:World} {p:Addr} {v:Value} (h1:p.block≠Bn) (h2:p.block≠C) (h3:p.block≠1):C0 Bn C W (W.setCell p v):=by
 rintro g (rfl | rfl | rfl)
 ·exact Below.heap_setCell W p v _ (Ne.symm h1)
 ·exact Below.heap_setCell W p v _ (Ne.symm h2)
 ·exact Below.heap_setCell W p v _ (Ne.symm h3)
theorem A8.lt {w:World} (h:A8 w):1 < w.heap.size:=World.block_lt_of_cell? _ _ (h 0 (by decide))
theorem Blk.own {W W':World} {g:Nat} {t:TypeId} {cs:Array Value} {row:Option Nat} (h:Blk W g t cs) (hg:W.grownBy W' row) (hr:∀ r,row=some r->∃ o:Obj,W.heap[r]? = some o/\o.isCells=false):Blk W' g t cs:=by
 refine h.grown hg ?_
 intro e
 obtain ⟨o,ho,hc⟩:=hr g e.symm
 rw [h.raw] at ho
 injection ho with ho
 subst ho
 cases hc
def L8 (f:Nat->Int) (n:Fin 64):Array Value:=#[.int .i64 (n.1:Nat),.int .i64 (f n.1)]
structure Lp (Bn C:Nat) (f:Nat->Int) (M:Nat) (W:World):Prop where
 box:Blk W Bn 313 #[.pointer (some ⟨C,0,none⟩)]
 cnt:Blk W C 275 (Ey f M)
 tab:A8 W
theorem Lp.keep {Bn C:Nat} {f:Nat->Int} {M:Nat} {W W':World} (h:Lp Bn C f M W) (k:C0 Bn C W W'):Lp Bn C f M W':=by
 refine ⟨(k _ (Or.inl rfl)).trans h.box,(k _ (Or.inr (Or.inl rfl))).trans h.cnt,fun j hj=>?_⟩
 have:=h.tab j hj
 have hk:=k 1 (Or.inr (Or.inr rfl))
 unfold World.cell? at this ⊢
 simp only at this ⊢
 rw [hk]
 exact this
theorem Lp.next {Bn C:Nat} {f:Nat->Int} {M:Nat} {W W':World} (h:Lp Bn C f M W) (hb:Below W.heap.size W W'):Lp Bn C f M W':=⟨h.box.next hb,h.cnt.next hb,h.tab.next hb⟩
structure M2 (Bn C:Nat) (f:Nat->Int) (M:Nat) (W:World):Prop where
 box:∃ t,Blk W Bn t #[.pointer (some ⟨C,0,none⟩)]
 cnt:∃ t,Blk W C t (Ey f M)
 tab:A8 W
theorem M2.b0 {Bn C:Nat} {f:Nat->Int} {M:Nat} {W:World} (h:M2 Bn C f M W):W.cell? ⟨Bn,0,none⟩=some (.pointer (some ⟨C,0,none⟩)):=by
 obtain ⟨t,h⟩:=h.box
 exact h.cell 0
theorem M2.at_ {Bn C:Nat} {f:Nat->Int} {M:Nat} {W:World} (h:M2 Bn C f M W) {n:Nat} (hn:n < 64):W.cell? ⟨C,n,none⟩=some (.int .i64 (f n)):=by
 obtain ⟨t,h⟩:=h.cnt
 exact (h.cell n).trans (Q9 hn)
theorem M2.c64 {Bn C:Nat} {f:Nat->Int} {M:Nat} {W:World} (h:M2 Bn C f M W):W.cell? ⟨C,64,none⟩=some (.int .u64 (M:Int)):=by
 obtain ⟨t,h⟩:=h.cnt
 exact (h.cell 64).trans Rq
set_option maxRecDepth 100000 in
set_option maxHeartbeats 1000000 in
theorem Bc5 (n:Nat) (hn:1<=n) (l Bn C:Nat) (M:Nat) (hM:M < 18446744073709551616) (J Jx:List (Fin 64)->World->Prop) (hL:∀ pre W,J pre W->∃ f,M2 Bn C f M W)
  (hY:∀ pre x W f,J pre W->M2 Bn C f M W->pre.length < 64->YieldAt Fence.wide (n - 1) Tryz.prog l (L8 f x) W fun e W' =>
   (e=.returned (.bool true)/\J (pre++[x]) W')\/(e=.returned (.bool false)/\Jx (pre++[x]) W'))
  (W:World) (h0:J [] W) :
  CallsIn Fence.wide n Tryz.prog 315 #[.func (.yield l) #[] #[],.pointer (some ⟨Bn,0,none⟩)] W fun e W'=>(∃ v,e=.returned v) /\
   ((∃ ys:List (Fin 64),ys.map (·.1)=Ch M 64/\J ys W')\/(∃ pre:List (Fin 64),pre.map (·.1) <+: Ch M 64/\Jx pre W')):=by
 obtain ⟨f0,hE⟩:=hL [] W h0
 have HL:=Lib.hid hL
 have HY:=Lib.hid hY
 clear hY hL
 have b0:=hE.b0
 have c0:=hE.c64
 clear hE
 refine callsIn_of_wp Tryz.func315 rfl trivial ?_ rfl
 simp only [Tryz.ntmps315,List.size_toArray,List.length_cons,List.length_nil,Nat.reduceAdd,Nat.reduceSub,Array.replicate_succ,Array.replicate_zero,List.push_toArray,List.append_toArray,List.nil_append,List.cons_append]
 gi_wp2
 gi_loopw [3] (fun p wr=>∃ (k R:Nat),k<=64/\p=.int .u64 R/\R < 18446744073709551616/\(∀ i,i < 64->R.testBit i=(M.testBit i&&decide (k<=i)))/\∃ pre:List (Fin 64),pre.map (·.1)=Ch M k/\J pre wr) (fun p wr=>(intOf p).toNat)
 case atStart =>
  exact ⟨0,M,by omega,rfl,hM,fun i _=>by simp,[],rfl,h0⟩
 case round =>
  obtain ⟨k,R,hk,rfl,hR,hbit,pre,hpm,hJ⟩:=hrel
  obtain ⟨f,hEr⟩:=HL.out pre wr hJ
  have Hpm:=Lib.hid hpm
  clear hpm
  have Hbit:=Lib.hid hbit
  clear hbit b0 c0
  by_cases hz:R=0
  ·subst hz
   have HJ:=Lib.hid hJ
   clear hJ
   gi_wp2
   go_end0
   refine ⟨⟨_,rfl⟩,.inl ⟨pre,?_,HJ.out⟩⟩
   rw [Lx hk fun i h1 h2=>by have:=Hbit.out i h2;rw [Nat.zero_testBit,decide_eq_true h1,Bool.and_true] at this;exact this.symm]
   exact Hpm.out
  ·obtain ⟨hx,hxb,hxl⟩:=Bg7 hz hR
   have hdl:=Ay6 hz hR
   have hxc:Lib.ctz 64 R=Lib.ctz 64 R:=rfl
   generalize hq:Lib.ctz 64 R=x at *
   have Hxl:=Lib.hid hxl
   have Hdl:=Lib.hid hdl
   have Hq:=Lib.hid hq
   have Hxb:=Lib.hid hxb
   have hkx:k<=x:=by
    have:=Hbit.out x hx
    rw [hxb] at this
    simp only [Bool.true_eq,Bool.and_eq_true,decide_eq_true_eq] at this
    exact this.2
   clear hxl hdl hq hxc hxb
   have HE2:=Lib.hid hEr
   have d0:=hEr.b0
   have d1:=hEr.at_ hx
   have HT:=Lib.hid hEr.tab
   clear hEr
   have hzi:((R:Int)==0)=false:=by simp;omega
   have HJ:=Lib.hid hJ
   clear hJ
   have hz2:¬ (R:Int)=0:=by omega
   gi_wp2
   refine ⟨trivial,?_⟩
   refine (callsIn_wide.2 (Ap3 R hR _ HT.out)).mono ?_
   rw [Hq.out]
   rintro e w' ⟨rfl,rfl⟩
   obtain ⟨fn,tmps,assign,body,hy,hRd⟩:=HY.out pre ⟨x,hx⟩ wr f HJ.out HE2.out (by have:=A26 M k;rw [<-Hpm.out,List.length_map] at this;omega)
   dsimp only [L8] at hy
   have hxi:(x:Int) < 64:=by omega
   gi_wp2
   refine hRd.mono ?_
   have hpre:(pre++[(⟨x,hx⟩ : Fin 64)]).map (·.1)=Ch M (x+1):=by
    rw [List.map_append,Hpm.out]
    show Ch M k++[x]=_
    have hb:M.testBit x=true:=by
     have:=Hbit.out x hx
     rw [Hxb.out] at this
     simp only [Bool.true_eq,Bool.and_eq_true] at this
     exact this.1
    rw [Kf,hb,if_pos rfl,Lx hkx fun i h1 h2=>by
     have:=Hbit.out i (by omega)
     rw [Hxl.out i h2,decide_eq_true h1,Bool.and_true] at this
     exact this.symm]
   have Hpre:=Lib.hid hpre
   clear hpre
   rintro e W3 (⟨rfl,hJ3⟩ | ⟨rfl,hJx3⟩)
   ·have e1:bits .and .u64 (R:Int) ((R:Int) - 1)=((R &&& (R - 1):Nat):Int):=by
     rw [show (R:Int) - 1=((R - 1:Nat):Int) by omega]
     exact u64_and_nat _ _ hR (by omega)
    have e2:IntKind.u64.wrap ((R:Int) - 1)=(R:Int) - 1:=by rw [IntKind.wrap_u64];omega
    have hlt:R &&& (R - 1) < R:=Nat.lt_of_le_of_lt Nat.and_le_right (by omega)
    have HJ3:=Lib.hid hJ3
    clear hJ3 d0 d1
    gi_wp2
    refine ⟨⟨x+1,R &&& (R - 1),by omega,rfl,by omega,fun i hi=>?_,_,Hpre.out,HJ3.out⟩,by simp [intOf];omega⟩
    rw [Hdl.out]
    rcases Nat.lt_or_ge i x with c | c
    ·rw [Hxl.out i c,decide_eq_false (p:=x+1<=i) (by omega)]
     simp
    ·rw [Hbit.out i hi,decide_eq_true (p:=k<=i) (by omega),Bool.and_true]
     congr 1
     by_cases hix:i=x
     ·subst hix;simp
     ·rw [decide_eq_false (p:=i=x) hix,decide_eq_true (p:=x+1<=i) (by omega)]
      rfl
   ·gi_wp2
    refine bodyPost_ret (results_none rfl _ _ _) rfl ?_
    exact ⟨⟨_,rfl⟩,.inr ⟨_,Hpre.out ▸ R4 (by omega),hJx3⟩⟩
theorem Bc4 {Bn C:Nat} {f g:Nat->Int} {M:Nat} {W:World} (h1:M2 Bn C f M W) (h2:Lp Bn C g M W) (x:Fin 64):L8 f x=L8 g x:=by
 have e1:=h1.at_ x.2
 have e2:=(h2.cnt.cell x).trans (Q9 x.2)
 rw [e1] at e2
 have e3:=Option.some.inj e2
 unfold L8
 rw [e3]
theorem C34 (n:Nat) (hn:1<=n) (l Bn C:Nat) (f:Nat->Int) (M:Nat) (hM:M < 18446744073709551616) (J Jx:List (Fin 64)->World->Prop)
  (hY:∀ pre x W,J pre W->pre.length < 64->YieldAt Fence.wide (n - 1) Tryz.prog l (L8 f x) W fun e W' =>
   (e=.returned (.bool true)/\J (pre++[x]) W'/\C0 Bn C W W')\/(e=.returned (.bool false)/\Jx (pre++[x]) W'))
  (W:World) (hE:Lp Bn C f M W) (h0:J [] W) :
  CallsIn Fence.wide n Tryz.prog 315 #[.func (.yield l) #[] #[],.pointer (some ⟨Bn,0,none⟩)] W fun e W'=>(∃ v,e=.returned v) /\
   ((∃ ys:List (Fin 64),ys.map (·.1)=Ch M 64/\J ys W')\/(∃ pre:List (Fin 64),pre.map (·.1) <+: Ch M 64/\Jx pre W')) :=
 (Bc5 n hn l Bn C M hM (fun pre W=>J pre W/\Lp Bn C f M W) Jx (fun _ _ h=>⟨f,⟨_,h.2.box⟩,⟨_,h.2.cnt⟩,h.2.tab⟩) (fun pre x W g ⟨hj,he⟩ hg hlt=>by
  rw [Bc4 hg he x]
  obtain ⟨fn,tmps,assign,body,hy,hr⟩:=hY pre x W hj hlt
  exact ⟨fn,tmps,assign,body,hy,hr.mono fun e W' h=>h.elim (fun ⟨h1,h2,h3⟩=>.inl ⟨h1,h2,he.keep h3⟩) .inr⟩) W ⟨h0,hE⟩).mono fun e W' ⟨h1,h2⟩=>⟨h1,h2.elim (fun ⟨ys,h3,h4,_⟩=>.inl ⟨ys,h3,h4⟩) .inr⟩
theorem U7 (n:Nat) (hn:1<=n) (Bn C:Nat) (f:Nat->Int) (M:Nat) (hM:M < 18446744073709551616) (w:World) (h:Lp Bn C f M w) :
  SeqStopsK Fence.wide n Tryz.prog 315 #[.pointer (some ⟨Bn,0,none⟩)] (L8 f) (C0 Bn C) (fun ys=>ys.map (·.1)=Ch M 64) (fun pre=>pre.map (·.1) <+: Ch M 64) 64 w:=fun l J Jx W hW _ _ hY h0 =>
 C34 n hn l Bn C f M hM J Jx hY W (h.next hW) h0
end Go.Proofs.YtblfjaedaijfoaaGreatDoor
namespace Go.Proofs.YtblfjaedaijfoaaGreatDoor
open Go.ChangeShapes Go.WideShapes Go.ChangeAt Go.RowKit Go.Shelf
attribute [local go_sem] Oper.semAt_some
def A50 (Bn:Nat):Value:=.func (.func 315) #[] #[.pointer (some ⟨Bn,0,none⟩)]
theorem A55 (C:Nat) (w:World) :
  Calls Tryz.prog 274 #[.pointer (some ⟨C,0,none⟩)] w fun e w'=>e=.returned (A50 w.heap.size)/\w.alloc (.cells #[.pointer (some ⟨C,0,none⟩)] 313)=w':=by
 go_enter Tryz.func274,Tryz.ntmps274
 go_wp2
 go_ret
 exact ⟨rfl,rfl⟩
def Cc9 (l:List Ab) (w:World) (e:Ending) (w':World):Prop :=
 ∃ Bn C,e=.returned (A50 Bn)/\Lp Bn C (fun n=>Aa l n) (D3 l) w'/\w.heap.size<=Bn/\w.heap.size<=C/\Below w.heap.size w w'
set_option maxRecDepth 100000 in
theorem A92 (l:List Ab) (v:Value) (w:World) (h:C8 w w.heap.size v l) (hT:A8 w) :
  Calls Tryz.prog 211 #[v] w (Cc9 l w):=by
 obtain ⟨A,c,rfl,_⟩:=id h
 have HT:=Lib.hid hT
 clear hT
 go_enter Tryz.func211,Tryz.ntmps211
 go_wp2_with fail
 refine (Tn l _ _ h).mono ?_
 rintro e w1 ⟨rfl,hb1⟩
 have hs:=hb1.size
 have Hb1:=Lib.hid hb1
 clear hb1 h
 go_wp2_with (refine wpList_store_row rfl 275 (.tmp 3) (.tmp 5) rfl w1.heap.size _ rfl rfl 275 _ (Blk.new w1 275 _).raw (Rc _ _) (Pb _ _).symm (A57 _ _) ?_)
 refine (A55 _ _).mono ?_
 rintro e w2 ⟨rfl,rfl⟩
 go_wp2
 go_ret
 have hC:Blk ((w1.alloc (.cells (Ey (fun _=>0) 0) 275)).setRow w1.heap.size (Ey (fun n=>Aa l n) (D3 l))) w1.heap.size 275 (Ey (fun n=>Aa l n) (D3 l)):=(Blk.new _ _ _).setRow
 rw [Se] at hC
 have hk:=Na (g:=w1.heap.size) (cs:=Ey (fun n=>Aa l n) (D3 l)) (Ai (o:=.cells (Ey (fun _=>0) 0) 275) Hb1.out) hs
 rw [Se] at hk
 exact ⟨_,_,rfl,⟨Blk.new_at (by simp),hC.alloc,HT.out.next (Ai hk)⟩,by omega,hs,Ai hk⟩
theorem Tj {F:Fence} {nF:Nat} {P:Program} {ops:Array Oper} {rest:List Oper} {o:Oper} {a:Act} {w:World} {Q:Exit->Act->World->Prop} (hgd:o.guard=none) (ty:TypeId) (x y:Operand) (ho:o.op=.store ty x y)
  (g:Nat) (cells:Array Value) (hx:a.eval x=.pointer (some ⟨g,0,none⟩)) (hy:a.eval y=.agg cells)
  (t:TypeId) (old:Array Value) (hg:w.heap[g]? = some (.cells old t (0,0))) (hi:(P.info? ty).map (·.size)=some cells.size)
  (hold:old.size=cells.size) (h1:cells.all (·.oneCell')=true)
  (h:wpListIn F nF P ops Q rest (a.put o.dst undef) (w.setRow g cells)):wpListIn F nF P ops Q (o :: rest) a w:=by
 refine wpListIn_plain hgd fun K hK=>?_
 unfold Oper.wpIn
 refine ⟨by simp [Oper.about,ho],?_⟩
 rw [Oper.semAt_plain F _ _ (by rw [ho];intro c hc';cases hc')]
 simp only [execOp,ho,hx,hy,Instr.storeAt,Instr.sureAddr,Sem.run_bind,Sem.run_pure,Result.andThen_ok,run_storeVar_row w g t ty old cells hg hi hold h1]
 exact hK _ _ h
set_option maxRecDepth 100000 in
set_option maxHeartbeats 2000000 in
theorem Pm (l m:List Ab) (v u:Value) (w:World) (h:C8 w w.heap.size v l) (h':C8 w w.heap.size u m) (hT:A8 w) :
  Calls Tryz.prog 194 #[v,u] w fun e w'=>e=.returned (.bool (Aw l m))/\Below w.heap.size w w':=by
 obtain ⟨A,c,rfl,_⟩:=id h
 obtain ⟨A',c',rfl,_⟩:=id h'
 have HT:=Lib.hid hT
 clear hT
 refine (callsIn_wide (n:=5)).1 ?_
 refine callsIn_of_wp_marks Tryz.func194 rfl trivial ?_ rfl
 simp only [Tryz.ntmps194,List.size_toArray,List.length_cons,List.length_nil,Nat.reduceAdd,Nat.reduceSub,Array.replicate_succ,Array.replicate_zero,List.push_toArray,List.append_toArray,List.nil_append,List.cons_append]
 gi_wp2
 refine ⟨trivial,?_⟩
 have B0:=Blk.new w 4 #[.bool false]
 refine (callsIn_wide.2 (Tn l _ _ (h.next (Ai (Below.refl _ _))))).mono ?_
 rintro e w1 ⟨rfl,hb1⟩
 replace B0:=B0.next hb1
 have k1:=Av (Ai (Below.refl _ _)) hb1
 have Hs:=Lib.hid (h'.next k1)
 have HT1:=Lib.hid (HT.out.next k1)
 clear h h' hb1 HT
 have hC:Blk ((w1.alloc (.cells (Ey (fun _=>0) 0) 275)).setRow w1.heap.size (Ey (fun n=>Aa l n) (D3 l))) w1.heap.size 275 (Ey (fun n=>Aa l n) (D3 l)):=(Blk.new _ _ _).setRow
 have hk:=Na (g:=w1.heap.size) (cs:=Ey (fun n=>Aa l n) (D3 l)) (Ai (o:=.cells (Ey (fun _=>0) 0) 275) (Below.refl _ w1)) (Nat.le_refl _)
 rw [Se] at hC hk
 have HC:=Lib.hid hC
 have Hk:=Lib.hid hk
 have Hk1:=Lib.hid k1
 have HB:=Lib.hid B0
 clear hC hk k1 B0
 gi_wp2_with (refine Tj rfl 275 (.tmp 5) (.tmp 9) rfl w1.heap.size _ rfl rfl 275 _ (Blk.new w1 275 _).raw (Rc _ _) (Pb _ _).symm (A57 _ _) ?_)
 refine ⟨trivial,?_⟩
 refine (callsIn_wide.2 (A92 m _ _ (Hs.out.next Hk.out) (HT1.out.next Hk.out))).mono ?_
 rintro e w2 ⟨Bn,D,rfl,hE,hBn,hD,hb2⟩
 have B2:Blk w2 w.heap.size 4 #[.bool false]:=(HB.out.next Hk.out).next hb2
 have C2:=HC.out.next hb2
 have k2:Below w.heap.size w w2:=Av (Av Hk1.out Hk.out) hb2
 have l1:=hE.box.lt
 have l2:=hE.cnt.lt
 have l3:=hE.tab.lt
 have l4:=B2.lt
 have hM:=M6 m
 have HE:=Lib.hid hE
 have HK2:=Lib.hid k2
 have hg1:=Hk1.out.size
 clear hb2 HB HC Hk Hk1 hE Hs HT1 hBn hD
 generalize w1.heap.size=g1 at *
 have HB2:=Lib.hid B2
 have HC2:=Lib.hid C2
 clear B2 C2 k2
 gi_wp2
 refine wpIn_rangeFunc_ownF rfl (by omega) (gf:=315) (lb:=#[.pointer (some ⟨Bn,0,none⟩)]) rfl trivial (enters_of Tryz.func315 (by kernel_rfl) rfl)
  (U7 _ (by omega) Bn D (fun n=>Aa m n) (D3 m) hM w2 HE.out) (fun h k=>C0.t h k) (fun W l o o' hl _ _ _=>C0.put l1 l2 l3 hl) (Below.refl _ _) (fun _=>rfl)
  (fun pre W=>(Blk W w.heap.size 4 #[.bool false]/\Blk W g1 275 (Ey (fun n=>Aa l n) (D3 l))/\∀ i∈pre,Aa m (i.1:Nat)<=Aa l (i.1:Nat))/\Below w.heap.size w W)
  (fun c pre W=>(c=.ret/\Blk W w.heap.size 4 #[.bool false]/\∃ i∈pre,Aa l (i.1:Nat) < Aa m (i.1:Nat))/\Below w.heap.size w W)
  (OwnFrom.and (Own.from (fun s A B row hs hg hr=>⟨hs.1.own hg hr,hs.2.1.own hg hr,hs.2.2⟩) _) (ownFrom_below (Nat.le_refl _) HK2.out.size))
  (fun c=>OwnFrom.and (Own.from (fun s A B row hs hg hr=>⟨hs.1,hs.2.1.own hg hr,hs.2.2⟩) _) (ownFrom_below (Nat.le_refl _) HK2.out.size))
  ⟨⟨HB2.out,HC2.out,by simp⟩,HK2.out⟩
  (fun x=>{ tmps:=#[.slice A l.length c,.slice A' m.length c',undef,undef,.pointer (some ⟨w.heap.size,0,none⟩),.pointer (some ⟨g1,0,none⟩),.int .i64 (x.1:Nat),.int .i64 (Aa m (x.1:Nat)),.slice A l.length c,.agg (Ey (fun n=>Aa l n) (D3 l)),.slice A' m.length c',A50 Bn,.int .i64 (x.1:Nat),.int .i64 (Aa m (x.1:Nat)),undef,undef,undef,undef,undef,undef],defers:=[] }) ?assign ?body ?done ?stop
 case assign =>
  intro r x W K hK
  dsimp only [L8]
  gi_wp2
  exact hK
 case body =>
  rintro r pre ⟨x,hx⟩ W ⟨⟨hB,hC,hall⟩,hb⟩ _
  dsimp only
  have c0:=(hC.cell x).trans (Q9 hx)
  have f0:=hB.frozen 0
  have d0:=hB.cell 0
  simp only [List.getElem?_toArray,List.getElem?_cons_zero] at c0 d0
  have Hall:=Lib.hid hall
  have HBB:=Lib.hid hB
  have HCC:=Lib.hid hC
  have Hb:=Lib.hid hb
  clear hall hB hC hb
  have hxi:(x:Int) < 64:=by omega
  generalize hp:Aa l x=p at c0
  generalize hq:Aa m x=q
  have HP:=Lib.hid hp
  have HQ:=Lib.hid hq
  clear hp hq
  gi_wp2
  ·refine ⟨KeepsOthers.setCell _ _ _,⟨rfl,?_,⟨x,hx⟩,by simp,?_⟩,A62 Hb.out (Nat.le_refl _)⟩
   ·exact HBB.out.set_ 0 _
   ·show Aa l x < Aa m x
    rw [HP.out,HQ.out]
    assumption
  ·refine ⟨KeepsOthers.refl _,C0.refl _ _ _,⟨HBB.out,HCC.out,fun i hi=>?_⟩,Hb.out⟩
   rcases List.mem_append.1 hi with hi | hi
   ·exact Hall.out i hi
   ·obtain rfl:i=⟨x,hx⟩:=by simpa using hi
    show Aa m x<=Aa l x
    rw [HP.out,HQ.out]
    assumption
 case done =>
  rintro E ys W hD hys ⟨⟨hB,_,hall⟩,hb⟩ hK
  have Hres:Hid (Aw l m=true):=by
   rw [Aw,decide_eq_true_eq]
   intro n hn
   by_cases hz:Aa m n=0
   ·rw [hz]
    by_cases h0:Aa l n=0
    ·omega
    ·have:=Rp h0;omega
   ·have hmem:n∈Ch (D3 m) 64:=N2.2 ⟨hn,by rw [Mm hn];simpa using hz⟩
    rw [<-hys] at hmem
    obtain ⟨i,hi,rfl⟩:=List.mem_map.1 hmem
    exact hall i hi
  have f0:=hB.frozen 0
  have d0:=hB.cell 0
  simp only [List.getElem?_toArray,List.getElem?_cons_zero] at d0
  have HBB:=Lib.hid hB
  have Hb:=Lib.hid hb
  have Hys:=Lib.hid hys
  have HK:=Lib.hid hK
  clear hall hB hb hys hK
  gi_wp2
  have hK':=(KeepsOthers.setCell W ⟨w.heap.size,0,none⟩ (.bool true)).same E _ HK.out rfl
  refine ⟨by simp,.inl ⟨_,_,rfl,run_takeDeferred hK',?_⟩⟩
  have hc5:=cell_kept (World.cell?_setCell_same' W ⟨w.heap.size,0,none⟩ (.bool true) (by rw [d0];rfl)) (grownBy_putObj' _ E (.deferred none)) (fun r e=>by cases e;exact ⟨_,hK',rfl⟩)
  refine ⟨.bool true,?_,by rw [Hres.out],(Hb.out.setCell (p:=⟨w.heap.size,0,none⟩) (Nat.le_refl _) _).trans (belowK_b (w:=w) (Nat.le_refl _) _ E _ _ (by have:=HK2.out.size;omega) hK' rfl rfl)⟩
  simp [results,Tryz.f194,go_sem,hc5]
 case stop =>
  rintro E d pre W hD _ ⟨⟨rfl,hB,i,_,hi⟩,hb⟩ hK
  have Hres:Hid (Aw l m=false):=by
   rw [Aw,decide_eq_false_iff_not]
   intro h
   have:=h i.1 i.2
   omega
  have d0:=hB.cell 0
  simp only [List.getElem?_toArray,List.getElem?_cons_zero] at d0
  have Hb:=Lib.hid hb
  have HK:=Lib.hid hK
  clear hB hb hK hi
  gi_wp2
  refine ⟨by simp,.inl ⟨_,_,rfl,run_takeDeferred HK.out,?_⟩⟩
  have hc5:=cell_kept d0 (grownBy_putObj' _ E (.deferred none)) (fun r e=>by cases e;exact ⟨_,HK.out,rfl⟩)
  refine ⟨.bool false,?_,by rw [Hres.out],Hb.out.trans (belowK_b (w:=w) (Nat.le_refl _) W E _ _ (by have:=HK2.out.size;omega) HK.out rfl rfl)⟩
  simp [results,Tryz.f194,go_sem,hc5]
end Go.Proofs.YtblfjaedaijfoaaGreatDoor
