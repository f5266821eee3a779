/- Contracts of the program's walk over a vector, and of its test whether one vector covers another. -/
import Derived.Test.YthlgnjlpakimaaaGreatDoorQVecLaw
import Derived.RangeFuncNested
import Derived.RangeFuncBound
import Derived.RangeFuncCalls
import Derived.RangeFuncLeaves
import Derived.Shelf.Abstract
import Derived.Shelf.RegionOpen
import Derived.OwnWalkIn
import Derived.TacticsInMore
import Derived.LoopNIn
import Derived.LoopIn
set_option linter.all false
set_option linter.unnecessarySimpa false
set_option linter.unusedSimpArgs false
set_option linter.unusedVariables false
namespace Go.Proofs.YthlgnjlpakimaaaGreatDoor
open Go.ChangeShapes Go.WideShapes Go.ChangeAt Go.RowKit Go.Shelf
attribute [local go_sem] Oper.semAt_some
def Cy (M k:Nat):List Nat:=(List.range k).filter M.testBit
theorem Mb (M k:Nat):Cy M (k+1)=if M.testBit k then Cy M k++[k] else Cy M k:=by
 simp only [Cy,List.range_succ,List.filter_append,List.filter_cons,List.filter_nil]
 split<;>simp
theorem Pq {M k n : Nat} (hkn : k <= n) (h : ∀ i, k <= i -> i < n -> M.testBit i = false) : Cy M n = Cy M k := by
  induction n with
  | zero => obtain rfl : k = 0 := by omega
            rfl
  | succ n ih =>
    rcases Nat.lt_or_ge n k with c | c
    · obtain rfl : k = n + 1 := by omega
      rfl
    · rw [Mb, h n c (by omega), if_neg (by simp)]
      exact ih c fun i h1 h2 => h i h1 (by omega)
theorem V8 {M k n : Nat} (h : k <= n) : Cy M k <+: Cy M n := by
  induction n with
  | zero => obtain rfl : k = 0 := by omega
            exact List.prefix_rfl
  | succ n ih =>
    rcases Nat.lt_or_ge n k with c | c
    · obtain rfl : k = n + 1 := by omega
      exact List.prefix_rfl
    · rw [Mb]
      split
      · exact (ih c).trans (List.prefix_append _ _)
      · exact ih c
theorem Ai1 (M k:Nat):(Cy M k).length<=k:=by
 have:=List.length_filter_le M.testBit (List.range k)
 simpa [Cy] using this
theorem R9 {M k n:Nat} : n∈Cy M k↔n < k/\M.testBit n=true:=by simp [Cy]
theorem Bs3 {R:Nat} (h0:R≠0) (hR:R < 18446744073709551616):Lib.ctz 64 R < 64/\R.testBit (Lib.ctz 64 R)=true/\∀ i,i < Lib.ctz 64 R->R.testBit i=false:=by
 obtain ⟨m,hm,hk⟩:=Lib.ctzFrom_spec 64 R (by omega) hR
 have e:Lib.ctz 64 R=Lib.ctzFrom 64 R:=by rw [Lib.ctz,if_neg h0]
 rw [e]
 generalize Lib.ctzFrom 64 R=k at *
 refine ⟨hk,?_,fun i hi=>?_⟩
 ·rw [hm,Nat.mul_comm,Nat.testBit_mul_two_pow]
  simp [Nat.testBit_zero]
 ·rw [hm,Nat.mul_comm,Nat.testBit_mul_two_pow]
  simp;omega
theorem Bd2 {R:Nat} (h0:R≠0) (hR:R < 18446744073709551616) (i:Nat):(R &&& (R - 1)).testBit i=(R.testBit i&&!decide (i=Lib.ctz 64 R)):=by
 obtain ⟨m,hm,hk⟩:=Lib.ctzFrom_spec 64 R (by omega) hR
 have e:Lib.ctz 64 R=Lib.ctzFrom 64 R:=by rw [Lib.ctz,if_neg h0]
 rw [e]
 generalize Lib.ctzFrom 64 R=k at *
 have e1:R=(2*m+1)*2 ^ k:=by rw [hm,Nat.mul_comm]
 have e2:R - 1=2 ^ k*(2*m)+(2 ^ k - 1):=by
  rw [e1,Nat.add_mul,Nat.one_mul,Nat.mul_comm (2*m)]
  have:0 < 2 ^ k:=Nat.two_pow_pos k
  omega
 have hlt:2 ^ k - 1 < 2 ^ k:=by have:0 < 2 ^ k:=Nat.two_pow_pos k;omega
 rw [Nat.testBit_and]
 cases hb:R.testBit i with
 | false=>simp
 | true =>
  rw [Bool.true_and,Bool.true_and,e2,Nat.testBit_two_pow_mul_add _ hlt]
  rw [e1,Nat.testBit_mul_two_pow] at hb
  simp only [Bool.and_eq_true,decide_eq_true_eq] at hb
  rw [if_neg (by omega)]
  obtain ⟨h1,h2⟩:=hb
  by_cases hi:i=k
  ·subst hi;simp [Nat.testBit_zero]
  ·obtain ⟨d,hd⟩ : ∃ d,i - k=d+1:=⟨i - k - 1,by omega⟩
   rw [hd,Nat.testBit_succ] at h2 ⊢
   rw [show (2*m+1) / 2=m by omega] at h2
   rw [show 2*m / 2=m by omega,h2,decide_eq_false hi]
   rfl
def Ck (Bn C:Nat) (W W':World):Prop:=∀ g,g=Bn\/g=C\/g=0->W'.heap[g]? = W.heap[g]?
theorem Ck.t {Bn C:Nat} {A B D:World} (h:Ck Bn C A B) (k:Ck Bn C B D):Ck Bn C A D:=fun g hg=>(k g hg).trans (h g hg)
theorem Ck.of_below {Bn C:Nat} {W W':World} (h:Below W.heap.size W W') (h1:Bn < W.heap.size) (h2:C < W.heap.size) (h3:0 < W.heap.size):Ck Bn C W W':=by
 rintro g (rfl | rfl | rfl)
 ·exact h.block _ h1
 ·exact h.block _ h2
 ·exact h.block _ h3
theorem Ck.refl (Bn C:Nat) (W:World):Ck Bn C W W:=fun _ _=>rfl
theorem Ck.put {Bn C:Nat} {w W:World} {l:Nat} {o':Obj} (h1:Bn < w.heap.size) (h2:C < w.heap.size) (_h3:0 < w.heap.size) (hl:w.heap.size<=l):Ck Bn C W (W.putObj l o'):=by
 rintro g (rfl | rfl | rfl)<;>exact World.putObj_heap_other (by omega)
theorem Ck.far {Bn C:Nat} {W:World} {p:Addr} {v:Value} (h1:p.block≠Bn) (h2:p.block≠C) (h3:p.block≠0):Ck Bn C W (W.setCell p v):=by
 rintro g (rfl | rfl | rfl)
 ·exact Below.heap_setCell W p v _ (Ne.symm h1)
 ·exact Below.heap_setCell W p v _ (Ne.symm h2)
 ·exact Below.heap_setCell W p v _ (Ne.symm h3)
theorem A8.lt {w:World} (h:A8 w):0 < w.heap.size:=World.block_lt_of_cell? _ _ (h 0 (by decide))
theorem Blk.own {W W':World} {g:Nat} {t:TypeId} {cs:Array Value} {row:Option Nat} (h:Blk W g t cs) (hg:W.grownBy W' row) (hr:∀ r,row=some r->∃ o:Obj,W.heap[r]? = some o/\o.isCells=false):Blk W' g t cs:=by
 refine h.grown hg ?_
 intro e
 obtain ⟨o,ho,hc⟩:=hr g e.symm
 rw [h.raw] at ho
 injection ho with ho
 subst ho
 cases hc
def Ni (f:Nat->Int) (n:Fin 64):Array Value:=#[.int .i64 (n.1:Nat),.int .i64 (f n.1)]
structure Pc (Bn C:Nat) (f:Nat->Int) (M:Nat) (W:World):Prop where
 box:Blk W Bn 246 #[.pointer (some ⟨C,0,none⟩)]
 cnt:Blk W C 225 (Fx f M)
 tab:A8 W
theorem Pc.keep {Bn C:Nat} {f:Nat->Int} {M:Nat} {W W':World} (h:Pc Bn C f M W) (k:Ck Bn C W W'):Pc Bn C f M W':=by
 refine ⟨(k _ (Or.inl rfl)).trans h.box,(k _ (Or.inr (Or.inl rfl))).trans h.cnt,fun j hj=>?_⟩
 have:=h.tab j hj
 have hk:=k 0 (Or.inr (Or.inr rfl))
 unfold World.cell? at this ⊢
 simp only at this ⊢
 rw [hk]
 exact this
theorem Pc.next {Bn C:Nat} {f:Nat->Int} {M:Nat} {W W':World} (h:Pc Bn C f M W) (hb:Below W.heap.size W W'):Pc Bn C f M W':=⟨h.box.next hb,h.cnt.next hb,h.tab.next hb⟩
structure Py (Bn C:Nat) (f:Nat->Int) (M:Nat) (W:World):Prop where
 box:∃ t,Blk W Bn t #[.pointer (some ⟨C,0,none⟩)]
 cnt:∃ t,Blk W C t (Fx f M)
 tab:A8 W
theorem Py.b0 {Bn C:Nat} {f:Nat->Int} {M:Nat} {W:World} (h:Py Bn C f M W):W.cell? ⟨Bn,0,none⟩=some (.pointer (some ⟨C,0,none⟩)):=by
 obtain ⟨t,h⟩:=h.box
 exact h.cell 0
theorem Py.at_ {Bn C:Nat} {f:Nat->Int} {M:Nat} {W:World} (h:Py Bn C f M W) {n:Nat} (hn:n < 64):W.cell? ⟨C,n,none⟩=some (.int .i64 (f n)):=by
 obtain ⟨t,h⟩:=h.cnt
 exact (h.cell n).trans (Tx hn)
theorem Py.c64 {Bn C:Nat} {f:Nat->Int} {M:Nat} {W:World} (h:Py Bn C f M W):W.cell? ⟨C,64,none⟩=some (.int .u64 (M:Int)):=by
 obtain ⟨t,h⟩:=h.cnt
 exact (h.cell 64).trans Vn
set_option maxRecDepth 100000 in
set_option maxHeartbeats 1000000 in
theorem Bp2 (n:Nat) (hn:1<=n) (l Bn C:Nat) (M:Nat) (hM:M < 18446744073709551616) (J Jx:List (Fin 64)->World->Prop) (hL:∀ pre W,J pre W->∃ f,Py Bn C f M W)
  (hY:∀ pre x W f,J pre W->Py Bn C f M W->pre.length < 64->YieldAt Fence.wide (n - 1) Tryz.prog l (Ni f x) W fun e W' =>
   (e=.returned (.bool true)/\J (pre++[x]) W')\/(e=.returned (.bool false)/\Jx (pre++[x]) W'))
  (W:World) (h0:J [] W) :
  CallsIn Fence.wide n Tryz.prog 221 #[.func (.yield l) #[] #[],.pointer (some ⟨Bn,0,none⟩)] W fun e W'=>(∃ v,e=.returned v) /\
   ((∃ ys:List (Fin 64),ys.map (·.1)=Cy M 64/\J ys W')\/(∃ pre:List (Fin 64),pre.map (·.1) <+: Cy M 64/\Jx pre W')):=by
 obtain ⟨f0,hE⟩:=hL [] W h0
 have HL:=Lib.hid hL
 have HY:=Lib.hid hY
 clear hY hL
 have b0:=hE.b0
 have c0:=hE.c64
 clear hE
 refine callsIn_of_wp Tryz.func221 rfl trivial ?_ rfl
 simp only [Tryz.ntmps221,List.size_toArray,List.length_cons,List.length_nil,Nat.reduceAdd,Nat.reduceSub,Array.replicate_succ,Array.replicate_zero,List.push_toArray,List.append_toArray,List.nil_append,List.cons_append]
 gi_wp2
 gi_loopw [3] (fun p wr=>∃ (k R:Nat),k<=64/\p=.int .u64 R/\R < 18446744073709551616/\(∀ i,i < 64->R.testBit i=(M.testBit i&&decide (k<=i)))/\∃ pre:List (Fin 64),pre.map (·.1)=Cy M k/\J pre wr) (fun p wr=>(intOf p).toNat)
 case atStart =>
  exact ⟨0,M,by omega,rfl,hM,fun i _=>by simp,[],rfl,h0⟩
 case round =>
  obtain ⟨k,R,hk,rfl,hR,hbit,pre,hpm,hJ⟩:=hrel
  obtain ⟨f,hEr⟩:=HL.out pre wr hJ
  have Hpm:=Lib.hid hpm
  clear hpm
  have Hbit:=Lib.hid hbit
  clear hbit b0 c0
  by_cases hz:R=0
  ·subst hz
   have HJ:=Lib.hid hJ
   clear hJ
   gi_wp2
   go_end0
   refine ⟨⟨_,rfl⟩,.inl ⟨pre,?_,HJ.out⟩⟩
   rw [Pq hk fun i h1 h2=>by have:=Hbit.out i h2;rw [Nat.zero_testBit,decide_eq_true h1,Bool.and_true] at this;exact this.symm]
   exact Hpm.out
  ·obtain ⟨hx,hxb,hxl⟩:=Bs3 hz hR
   have hdl:=Bd2 hz hR
   have hxc:Lib.ctz 64 R=Lib.ctz 64 R:=rfl
   generalize hq:Lib.ctz 64 R=x at *
   have Hxl:=Lib.hid hxl
   have Hdl:=Lib.hid hdl
   have Hq:=Lib.hid hq
   have Hxb:=Lib.hid hxb
   have hkx:k<=x:=by
    have:=Hbit.out x hx
    rw [hxb] at this
    simp only [Bool.true_eq,Bool.and_eq_true,decide_eq_true_eq] at this
    exact this.2
   clear hxl hdl hq hxc hxb
   have HE2:=Lib.hid hEr
   have d0:=hEr.b0
   have d1:=hEr.at_ hx
   have HT:=Lib.hid hEr.tab
   clear hEr
   have hzi:((R:Int)==0)=false:=by simp;omega
   have HJ:=Lib.hid hJ
   clear hJ
   have hz2:¬ (R:Int)=0:=by omega
   gi_wp2
   refine ⟨trivial,?_⟩
   refine (callsIn_wide.2 (B34 R hR _ HT.out)).mono ?_
   rw [Hq.out]
   rintro e w' ⟨rfl,rfl⟩
   obtain ⟨fn,tmps,assign,body,hy,hRd⟩:=HY.out pre ⟨x,hx⟩ wr f HJ.out HE2.out (by have:=Ai1 M k;rw [<-Hpm.out,List.length_map] at this;omega)
   dsimp only [Ni] at hy
   have hxi:(x:Int) < 64:=by omega
   gi_wp2
   refine hRd.mono ?_
   have hpre:(pre++[(⟨x,hx⟩ : Fin 64)]).map (·.1)=Cy M (x+1):=by
    rw [List.map_append,Hpm.out]
    show Cy M k++[x]=_
    have hb:M.testBit x=true:=by
     have:=Hbit.out x hx
     rw [Hxb.out] at this
     simp only [Bool.true_eq,Bool.and_eq_true] at this
     exact this.1
    rw [Mb,hb,if_pos rfl,Pq hkx fun i h1 h2=>by
     have:=Hbit.out i (by omega)
     rw [Hxl.out i h2,decide_eq_true h1,Bool.and_true] at this
     exact this.symm]
   have Hpre:=Lib.hid hpre
   clear hpre
   rintro e W3 (⟨rfl,hJ3⟩ | ⟨rfl,hJx3⟩)
   ·have e1:bits .and .u64 (R:Int) ((R:Int) - 1)=((R &&& (R - 1):Nat):Int):=by
     rw [show (R:Int) - 1=((R - 1:Nat):Int) by omega]
     exact u64_and_nat _ _ hR (by omega)
    have e2:IntKind.u64.wrap ((R:Int) - 1)=(R:Int) - 1:=by rw [IntKind.wrap_u64];omega
    have hlt:R &&& (R - 1) < R:=Nat.lt_of_le_of_lt Nat.and_le_right (by omega)
    have HJ3:=Lib.hid hJ3
    clear hJ3 d0 d1
    gi_wp2
    refine ⟨⟨x+1,R &&& (R - 1),by omega,rfl,by omega,fun i hi=>?_,_,Hpre.out,HJ3.out⟩,by simp [intOf];omega⟩
    rw [Hdl.out]
    rcases Nat.lt_or_ge i x with c | c
    ·rw [Hxl.out i c,decide_eq_false (p:=x+1<=i) (by omega)]
     simp
    ·rw [Hbit.out i hi,decide_eq_true (p:=k<=i) (by omega),Bool.and_true]
     congr 1
     by_cases hix:i=x
     ·subst hix;simp
     ·rw [decide_eq_false (p:=i=x) hix,decide_eq_true (p:=x+1<=i) (by omega)]
      rfl
   ·gi_wp2
    refine bodyPost_ret (results_none rfl _ _ _) rfl ?_
    exact ⟨⟨_,rfl⟩,.inr ⟨_,Hpre.out ▸ V8 (by omega),hJx3⟩⟩
theorem Bp1 {Bn C:Nat} {f g:Nat->Int} {M:Nat} {W:World} (h1:Py Bn C f M W) (h2:Pc Bn C g M W) (x:Fin 64):Ni f x=Ni g x:=by
 have e1:=h1.at_ x.2
 have e2:=(h2.cnt.cell x).trans (Tx x.2)
 rw [e1] at e2
 have e3:=Option.some.inj e2
 unfold Ni
 rw [e3]
theorem Ce5 (n:Nat) (hn:1<=n) (l Bn C:Nat) (f:Nat->Int) (M:Nat) (hM:M < 18446744073709551616) (J Jx:List (Fin 64)->World->Prop)
  (hY:∀ pre x W,J pre W->pre.length < 64->YieldAt Fence.wide (n - 1) Tryz.prog l (Ni f x) W fun e W' =>
   (e=.returned (.bool true)/\J (pre++[x]) W'/\Ck Bn C W W')\/(e=.returned (.bool false)/\Jx (pre++[x]) W'))
  (W:World) (hE:Pc Bn C f M W) (h0:J [] W) :
  CallsIn Fence.wide n Tryz.prog 221 #[.func (.yield l) #[] #[],.pointer (some ⟨Bn,0,none⟩)] W fun e W'=>(∃ v,e=.returned v) /\
   ((∃ ys:List (Fin 64),ys.map (·.1)=Cy M 64/\J ys W')\/(∃ pre:List (Fin 64),pre.map (·.1) <+: Cy M 64/\Jx pre W')) :=
 (Bp2 n hn l Bn C M hM (fun pre W=>J pre W/\Pc Bn C f M W) Jx (fun _ _ h=>⟨f,⟨_,h.2.box⟩,⟨_,h.2.cnt⟩,h.2.tab⟩) (fun pre x W g ⟨hj,he⟩ hg hlt=>by
  rw [Bp1 hg he x]
  obtain ⟨fn,tmps,assign,body,hy,hr⟩:=hY pre x W hj hlt
  exact ⟨fn,tmps,assign,body,hy,hr.mono fun e W' h=>h.elim (fun ⟨h1,h2,h3⟩=>.inl ⟨h1,h2,he.keep h3⟩) .inr⟩) W ⟨h0,hE⟩).mono fun e W' ⟨h1,h2⟩=>⟨h1,h2.elim (fun ⟨ys,h3,h4,_⟩=>.inl ⟨ys,h3,h4⟩) .inr⟩
theorem Yg (n:Nat) (hn:1<=n) (Bn C:Nat) (f:Nat->Int) (M:Nat) (hM:M < 18446744073709551616) (w:World) (h:Pc Bn C f M w) :
  SeqStopsK Fence.wide n Tryz.prog 221 #[.pointer (some ⟨Bn,0,none⟩)] (Ni f) (Ck Bn C) (fun ys=>ys.map (·.1)=Cy M 64) (fun pre=>pre.map (·.1) <+: Cy M 64) 64 w:=fun l J Jx W hW _ _ hY h0 =>
 Ce5 n hn l Bn C f M hM J Jx hY W (h.next hW) h0
end Go.Proofs.YthlgnjlpakimaaaGreatDoor
namespace Go.Proofs.YthlgnjlpakimaaaGreatDoor
open Go.ChangeShapes Go.WideShapes Go.ChangeAt Go.RowKit Go.Shelf
attribute [local go_sem] Oper.semAt_some
def Ak3 (Bn:Nat):Value:=.func (.func 221) #[] #[.pointer (some ⟨Bn,0,none⟩)]
theorem Ak7 (C:Nat) (w:World) :
  Calls Tryz.prog 198 #[.pointer (some ⟨C,0,none⟩)] w fun e w'=>e=.returned (Ak3 w.heap.size)/\w.alloc (.cells #[.pointer (some ⟨C,0,none⟩)] 246)=w':=by
 go_enter Tryz.func198,Tryz.ntmps198
 go_wp2
 go_ret
 exact ⟨rfl,rfl⟩
def Cm5 (l:List Ab) (w:World) (e:Ending) (w':World):Prop :=
 ∃ Bn C,e=.returned (Ak3 Bn)/\Pc Bn C (fun n=>Aa l n) (D9 l) w'/\w.heap.size<=Bn/\w.heap.size<=C/\Below w.heap.size w w'
set_option maxRecDepth 100000 in
theorem Ao7 (l:List Ab) (v:Value) (w:World) (h:Co w w.heap.size v l) (hT:A8 w) :
  Calls Tryz.prog 139 #[v] w (Cm5 l w):=by
 obtain ⟨A,c,rfl,_⟩:=id h
 have HT:=Lib.hid hT
 clear hT
 go_enter Tryz.func139,Tryz.ntmps139
 go_wp2_with fail
 refine (Xp l _ _ h).mono ?_
 rintro e w1 ⟨rfl,hb1⟩
 have hs:=hb1.size
 have Hb1:=Lib.hid hb1
 clear hb1 h
 go_wp2_with (refine wpList_store_row rfl 225 (.tmp 3) (.tmp 5) rfl w1.heap.size _ rfl rfl 225 _ (Blk.new w1 225 _).raw (Vd _ _) (Sk _ _).symm (Ak9 _ _) ?_)
 refine (Ak7 _ _).mono ?_
 rintro e w2 ⟨rfl,rfl⟩
 go_wp2
 go_ret
 have hC:Blk ((w1.alloc (.cells (Fx (fun _=>0) 0) 225)).setRow w1.heap.size (Fx (fun n=>Aa l n) (D9 l))) w1.heap.size 225 (Fx (fun n=>Aa l n) (D9 l)):=(Blk.new _ _ _).setRow
 rw [Wk] at hC
 have hk:=Pw (g:=w1.heap.size) (cs:=Fx (fun n=>Aa l n) (D9 l)) (Aj (o:=.cells (Fx (fun _=>0) 0) 225) Hb1.out) hs
 rw [Wk] at hk
 exact ⟨_,_,rfl,⟨Blk.new_at (by simp),hC.alloc,HT.out.next (Aj hk)⟩,by omega,hs,Aj hk⟩
theorem Xl {F:Fence} {nF:Nat} {P:Program} {ops:Array Oper} {rest:List Oper} {o:Oper} {a:Act} {w:World} {Q:Exit->Act->World->Prop} (hgd:o.guard=none) (ty:TypeId) (x y:Operand) (ho:o.op=.store ty x y)
  (g:Nat) (cells:Array Value) (hx:a.eval x=.pointer (some ⟨g,0,none⟩)) (hy:a.eval y=.agg cells)
  (t:TypeId) (old:Array Value) (hg:w.heap[g]? = some (.cells old t (0,0))) (hi:(P.info? ty).map (·.size)=some cells.size)
  (hold:old.size=cells.size) (h1:cells.all (·.oneCell')=true)
  (h:wpListIn F nF P ops Q rest (a.put o.dst undef) (w.setRow g cells)):wpListIn F nF P ops Q (o :: rest) a w:=by
 refine wpListIn_plain hgd fun K hK=>?_
 unfold Oper.wpIn
 refine ⟨by simp [Oper.about,ho],?_⟩
 rw [Oper.semAt_plain F _ _ (by rw [ho];intro c hc';cases hc')]
 simp only [execOp,ho,hx,hy,Instr.storeAt,Instr.sureAddr,Sem.run_bind,Sem.run_pure,Result.andThen_ok,run_storeVar_row w g t ty old cells hg hi hold h1]
 exact hK _ _ h
set_option maxRecDepth 100000 in
set_option maxHeartbeats 2000000 in
theorem Sz (l m:List Ab) (v u:Value) (w:World) (h:Co w w.heap.size v l) (h':Co w w.heap.size u m) (hT:A8 w) :
  Calls Tryz.prog 121 #[v,u] w fun e w'=>e=.returned (.bool (Ay l m))/\Below w.heap.size w w':=by
 obtain ⟨A,c,rfl,_⟩:=id h
 obtain ⟨A',c',rfl,_⟩:=id h'
 have HT:=Lib.hid hT
 clear hT
 refine (callsIn_wide (n:=5)).1 ?_
 refine callsIn_of_wp_marks Tryz.func121 rfl trivial ?_ rfl
 simp only [Tryz.ntmps121,List.size_toArray,List.length_cons,List.length_nil,Nat.reduceAdd,Nat.reduceSub,Array.replicate_succ,Array.replicate_zero,List.push_toArray,List.append_toArray,List.nil_append,List.cons_append]
 gi_wp2
 refine ⟨trivial,?_⟩
 have B0:=Blk.new w 4 #[.bool false]
 refine (callsIn_wide.2 (Xp l _ _ (h.next (Aj (Below.refl _ _))))).mono ?_
 rintro e w1 ⟨rfl,hb1⟩
 replace B0:=B0.next hb1
 have k1:=B9 (Aj (Below.refl _ _)) hb1
 have Hs:=Lib.hid (h'.next k1)
 have HT1:=Lib.hid (HT.out.next k1)
 clear h h' hb1 HT
 have hC:Blk ((w1.alloc (.cells (Fx (fun _=>0) 0) 225)).setRow w1.heap.size (Fx (fun n=>Aa l n) (D9 l))) w1.heap.size 225 (Fx (fun n=>Aa l n) (D9 l)):=(Blk.new _ _ _).setRow
 have hk:=Pw (g:=w1.heap.size) (cs:=Fx (fun n=>Aa l n) (D9 l)) (Aj (o:=.cells (Fx (fun _=>0) 0) 225) (Below.refl _ w1)) (Nat.le_refl _)
 rw [Wk] at hC hk
 have HC:=Lib.hid hC
 have Hk:=Lib.hid hk
 have Hk1:=Lib.hid k1
 have HB:=Lib.hid B0
 clear hC hk k1 B0
 gi_wp2_with (refine Xl rfl 225 (.tmp 5) (.tmp 9) rfl w1.heap.size _ rfl rfl 225 _ (Blk.new w1 225 _).raw (Vd _ _) (Sk _ _).symm (Ak9 _ _) ?_)
 refine ⟨trivial,?_⟩
 refine (callsIn_wide.2 (Ao7 m _ _ (Hs.out.next Hk.out) (HT1.out.next Hk.out))).mono ?_
 rintro e w2 ⟨Bn,D,rfl,hE,hBn,hD,hb2⟩
 have B2:Blk w2 w.heap.size 4 #[.bool false]:=(HB.out.next Hk.out).next hb2
 have C2:=HC.out.next hb2
 have k2:Below w.heap.size w w2:=B9 (B9 Hk1.out Hk.out) hb2
 have l1:=hE.box.lt
 have l2:=hE.cnt.lt
 have l3:=hE.tab.lt
 have l4:=B2.lt
 have hM:=N3 m
 have HE:=Lib.hid hE
 have HK2:=Lib.hid k2
 have hg1:=Hk1.out.size
 clear hb2 HB HC Hk Hk1 hE Hs HT1 hBn hD
 generalize w1.heap.size=g1 at *
 have HB2:=Lib.hid B2
 have HC2:=Lib.hid C2
 clear B2 C2 k2
 gi_wp2
 refine wpIn_rangeFunc_ownF rfl (by omega) (gf:=221) (lb:=#[.pointer (some ⟨Bn,0,none⟩)]) rfl trivial (enters_of Tryz.func221 (by kernel_rfl) rfl)
  (Yg _ (by omega) Bn D (fun n=>Aa m n) (D9 m) hM w2 HE.out) (fun h k=>Ck.t h k) (fun W l o o' hl _ _ _=>Ck.put l1 l2 l3 hl) (Below.refl _ _) (fun _=>rfl)
  (fun pre W=>(Blk W w.heap.size 4 #[.bool false]/\Blk W g1 225 (Fx (fun n=>Aa l n) (D9 l))/\∀ i∈pre,Aa m (i.1:Nat)<=Aa l (i.1:Nat))/\Below w.heap.size w W)
  (fun c pre W=>(c=.ret/\Blk W w.heap.size 4 #[.bool false]/\∃ i∈pre,Aa l (i.1:Nat) < Aa m (i.1:Nat))/\Below w.heap.size w W)
  (OwnFrom.and (Own.from (fun s A B row hs hg hr=>⟨hs.1.own hg hr,hs.2.1.own hg hr,hs.2.2⟩) _) (ownFrom_below (Nat.le_refl _) HK2.out.size))
  (fun c=>OwnFrom.and (Own.from (fun s A B row hs hg hr=>⟨hs.1,hs.2.1.own hg hr,hs.2.2⟩) _) (ownFrom_below (Nat.le_refl _) HK2.out.size))
  ⟨⟨HB2.out,HC2.out,by simp⟩,HK2.out⟩
  (fun x=>{ tmps:=#[.slice A l.length c,.slice A' m.length c',undef,undef,.pointer (some ⟨w.heap.size,0,none⟩),.pointer (some ⟨g1,0,none⟩),.int .i64 (x.1:Nat),.int .i64 (Aa m (x.1:Nat)),.slice A l.length c,.agg (Fx (fun n=>Aa l n) (D9 l)),.slice A' m.length c',Ak3 Bn,.int .i64 (x.1:Nat),.int .i64 (Aa m (x.1:Nat)),undef,undef,undef,undef,undef,undef],defers:=[] }) ?assign ?body ?done ?stop
 case assign =>
  intro r x W K hK
  dsimp only [Ni]
  gi_wp2
  exact hK
 case body =>
  rintro r pre ⟨x,hx⟩ W ⟨⟨hB,hC,hall⟩,hb⟩ _
  dsimp only
  have c0:=(hC.cell x).trans (Tx hx)
  have f0:=hB.frozen 0
  have d0:=hB.cell 0
  simp only [List.getElem?_toArray,List.getElem?_cons_zero] at c0 d0
  have Hall:=Lib.hid hall
  have HBB:=Lib.hid hB
  have HCC:=Lib.hid hC
  have Hb:=Lib.hid hb
  clear hall hB hC hb
  have hxi:(x:Int) < 64:=by omega
  generalize hp:Aa l x=p at c0
  generalize hq:Aa m x=q
  have HP:=Lib.hid hp
  have HQ:=Lib.hid hq
  clear hp hq
  gi_wp2
  ·refine ⟨KeepsOthers.setCell _ _ _,⟨rfl,?_,⟨x,hx⟩,by simp,?_⟩,Ym Hb.out (Nat.le_refl _)⟩
   ·exact HBB.out.set_ 0 _
   ·show Aa l x < Aa m x
    rw [HP.out,HQ.out]
    assumption
  ·refine ⟨KeepsOthers.refl _,Ck.refl _ _ _,⟨HBB.out,HCC.out,fun i hi=>?_⟩,Hb.out⟩
   rcases List.mem_append.1 hi with hi | hi
   ·exact Hall.out i hi
   ·obtain rfl:i=⟨x,hx⟩:=by simpa using hi
    show Aa m x<=Aa l x
    rw [HP.out,HQ.out]
    assumption
 case done =>
  rintro E ys W hD hys ⟨⟨hB,_,hall⟩,hb⟩ hK
  have Hres:Hid (Ay l m=true):=by
   rw [Ay,decide_eq_true_eq]
   intro n hn
   by_cases hz:Aa m n=0
   ·rw [hz]
    by_cases h0:Aa l n=0
    ·omega
    ·have:=Vm h0;omega
   ·have hmem:n∈Cy (D9 m) 64:=R9.2 ⟨hn,by rw [Qn hn];simpa using hz⟩
    rw [<-hys] at hmem
    obtain ⟨i,hi,rfl⟩:=List.mem_map.1 hmem
    exact hall i hi
  have f0:=hB.frozen 0
  have d0:=hB.cell 0
  simp only [List.getElem?_toArray,List.getElem?_cons_zero] at d0
  have HBB:=Lib.hid hB
  have Hb:=Lib.hid hb
  have Hys:=Lib.hid hys
  have HK:=Lib.hid hK
  clear hall hB hb hys hK
  gi_wp2
  have hK':=(KeepsOthers.setCell W ⟨w.heap.size,0,none⟩ (.bool true)).same E _ HK.out rfl
  refine ⟨by simp,.inl ⟨_,_,rfl,run_takeDeferred hK',?_⟩⟩
  have hc5:=cell_kept (World.cell?_setCell_same' W ⟨w.heap.size,0,none⟩ (.bool true) (by rw [d0];rfl)) (grownBy_putObj' _ E (.deferred none)) (fun r e=>by cases e;exact ⟨_,hK',rfl⟩)
  refine ⟨.bool true,?_,by rw [Hres.out],(Hb.out.setCell (p:=⟨w.heap.size,0,none⟩) (Nat.le_refl _) _).trans (belowK_b (w:=w) (Nat.le_refl _) _ E _ _ (by have:=HK2.out.size;omega) hK' rfl rfl)⟩
  simp [results,Tryz.f121,go_sem,hc5]
 case stop =>
  rintro E d pre W hD _ ⟨⟨rfl,hB,i,_,hi⟩,hb⟩ hK
  have Hres:Hid (Ay l m=false):=by
   rw [Ay,decide_eq_false_iff_not]
   intro h
   have:=h i.1 i.2
   omega
  have d0:=hB.cell 0
  simp only [List.getElem?_toArray,List.getElem?_cons_zero] at d0
  have Hb:=Lib.hid hb
  have HK:=Lib.hid hK
  clear hB hb hK hi
  gi_wp2
  refine ⟨by simp,.inl ⟨_,_,rfl,run_takeDeferred HK.out,?_⟩⟩
  have hc5:=cell_kept d0 (grownBy_putObj' _ E (.deferred none)) (fun r e=>by cases e;exact ⟨_,HK.out,rfl⟩)
  refine ⟨.bool false,?_,by rw [Hres.out],Hb.out.trans (belowK_b (w:=w) (Nat.le_refl _) W E _ _ (by have:=HK2.out.size;omega) HK.out rfl rfl)⟩
  simp [results,Tryz.f121,go_sem,hc5]
end Go.Proofs.YthlgnjlpakimaaaGreatDoor
