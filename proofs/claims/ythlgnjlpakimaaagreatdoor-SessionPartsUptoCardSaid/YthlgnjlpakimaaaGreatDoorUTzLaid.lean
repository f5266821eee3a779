/- A world that holds math/bits.deBruijn64tab as it is laid; and what a row's list gives of it. -/
import Derived.Test.YthlgnjlpakimaaaGreatDoorUCounts
import Derived.Laws.BitsAllLaws
import Derived.Shelf.Spec.TrailingZeros
import Derived.Test.YthlgnjlpakimaaaGreatDoorCards
import Derived.Test.YthlgnjlpakimaaaGreatDoorTie
import Derived.Lib.LaidTab
import Derived.Deep.DeepWitnessRowRef
import Derived.Lib.SmallJoins
set_option linter.all false
set_option linter.unnecessarySimpa false
set_option linter.unusedSimpArgs false
set_option linter.unusedVariables false
namespace Go.Proofs.YthlgnjlpakimaaaGreatDoor
open Go.ChangeShapes Go.WideShapes Go.ChangeAt Go.RowKit
def C14:Go.Shelf.Ren:=⟨fun | 29=>222 | n=>n,fun | 0=>0 | 3=>3 | 4=>4 | 5=>5 | 22=>223 | 25=>34 | 54=>267 | n=>n,fun | 1=>0 | n=>n⟩
theorem Bn7:Go.Proofs.Lays7.n29 Tryz.prog C14:={
 mixed:=by kernel_rfl
 f29:=Tryz.func222.trans (congrArg some (by kernel_rfl))
 t0:=Tryz.underlying0
 a0:=Tryz.isAgg0
 z0:=Tryz.sizeOf0
 v0:=Tryz.zeroValue0
 i0:=by kernel_rfl
 t3:=Tryz.underlying3
 a3:=Tryz.isAgg3
 z3:=Tryz.sizeOf3
 v3:=Tryz.zeroValue3
 i3:=by kernel_rfl
 t4:=Tryz.underlying4
 a4:=Tryz.isAgg4
 z4:=Tryz.sizeOf4
 v4:=Tryz.zeroValue4
 i4:=by kernel_rfl
 t5:=Tryz.underlying5
 a5:=Tryz.isAgg5
 z5:=Tryz.sizeOf5
 v5:=Tryz.zeroValue5
 i5:=by kernel_rfl
 t22:=Tryz.underlying223
 a22:=Tryz.isAgg223
 z22:=Tryz.sizeOf223
 v22:=Tryz.zeroValue223
 i22:=by kernel_rfl
 t25:=Tryz.underlying34
 a25:=Tryz.isAgg34
 z25:=Tryz.sizeOf34
 v25:=Tryz.zeroValue34
 i25:=by kernel_rfl
 t54:=Tryz.underlying267
 a54:=Tryz.isAgg267
 z54:=Tryz.sizeOf267
 g1:=by kernel_rfl }
def A8 (w:World):Prop:=TabAt 0 Lib.deBruijn64tab w
theorem A8.next {w w1:World} (h:A8 w) (hb:Below w.heap.size w w1):A8 w1:=fun j hj=>Am hb (h j hj)
theorem Ac6 (x:Nat) (hx:x < 18446744073709551616) (w:World) (hT:A8 w) :
  Calls Tryz.prog 222 #[.int .u64 x] w fun e w'=>e=.returned (.int .i64 (Lib.ctz 64 x))/\w=w' :=
 (Any7.bits_TrailingZeros64 Bn7 x hx w fun _=>hT).mono fun _ _ ⟨h1,h2⟩=>⟨h1,h2.symm⟩
def E7 (f:Nat->Int) (M:Nat):Array Value:=G6 65 fun i=>if i < 64 then .int .i64 (f i) else .int .u64 M
theorem Nh (f:Nat->Int) (M:Nat):(E7 f M).size=65:=Ny _ _
theorem Yu (f:Nat->Int) (M:Nat):(E7 f M).all (·.oneCell')=true:=Ug fun i=>by split<;>rfl
theorem Qd (f:Nat->Int) (M:Nat):(Tryz.prog.info? 225).map (·.size)=some (E7 f M).size:=by rw [Nh];kernel_rfl
theorem Pd {f:Nat->Int} {M n:Nat} (h:n < 64):(E7 f M)[n]? = some (.int .i64 (f n)):=by rw [E7,Cv (by omega),if_pos h]
theorem Ql {f:Nat->Int} {M:Nat} : (E7 f M)[64]? = some (.int .u64 M):=by rw [E7,Cv (by omega)];rfl
theorem Ak4 {f:Nat->Int} {M n:Nat} (h:n < 64) (x:Int):(E7 f M).setIfInBounds n (.int .i64 x)=E7 (fun k=>if k=n then x else f k) M:=by
 rw [E7,N0,E7]
 refine F6 fun i _=>?_
 by_cases hi:i=n
 ·subst hi;simp [h]
 ·simp [hi]
theorem Tx {f:Nat->Int} {M M':Nat} : (E7 f M).setIfInBounds 64 (.int .u64 M')=E7 f M':=by
 rw [E7,N0,E7]
 refine F6 fun i _=>?_
 by_cases hi:i=64
 ·subst hi;simp
 ·have:i < 64:=by omega
  simp [hi,this]
theorem R3:E7 (fun _=>0) 0=#[.int .i64 0,.int .i64 0,.int .i64 0,.int .i64 0,.int .i64 0,.int .i64 0,.int .i64 0,.int .i64 0,.int .i64 0,.int .i64 0,.int .i64 0,.int .i64 0,.int .i64 0,.int .i64 0,.int .i64 0,.int .i64 0,.int .i64 0,.int .i64 0,.int .i64 0,.int .i64 0,.int .i64 0,.int .i64 0,.int .i64 0,.int .i64 0,.int .i64 0,.int .i64 0,.int .i64 0,.int .i64 0,.int .i64 0,.int .i64 0,.int .i64 0,.int .i64 0,.int .i64 0,.int .i64 0,.int .i64 0,.int .i64 0,.int .i64 0,.int .i64 0,.int .i64 0,.int .i64 0,.int .i64 0,.int .i64 0,.int .i64 0,.int .i64 0,.int .i64 0,.int .i64 0,.int .i64 0,.int .i64 0,.int .i64 0,.int .i64 0,.int .i64 0,.int .i64 0,.int .i64 0,.int .i64 0,.int .i64 0,.int .i64 0,.int .i64 0,.int .i64 0,.int .i64 0,.int .i64 0,.int .i64 0,.int .i64 0,.int .i64 0,.int .i64 0,.int .u64 0]:=by kernel_rfl
theorem Ak0 (M n:Nat):(M:Int) / 2 ^ n=((M / 2 ^ n:Nat):Int):=by
 rw [Int.natCast_ediv,Int.natCast_pow];rfl
theorem Be3 {M n:Nat} (hM:M < 18446744073709551616):(bits .and .u64 ((M:Int) / 2 ^ n) 1==0)=!M.testBit n:=by
 have h1:M / 2 ^ n < 18446744073709551616:=Nat.lt_of_le_of_lt (Nat.div_le_self _ _) hM
 have e:bits .and .u64 ((M:Int) / 2 ^ n) 1=((M / 2 ^ n &&& 1:Nat):Int):=by
  rw [Ak0]
  exact u64_and_nat _ 1 h1 (by omega)
 rw [e,Nat.testBit,Nat.shiftRight_eq_div_pow,Nat.and_comm 1]
 generalize M / 2 ^ n &&& 1=q
 cases q with
 | zero=>rfl
 | succ q=>rw [bne,Bool.not_not];simp<;>omega
theorem Au8 {M n:Nat} (hM:M < 18446744073709551616) (hn:n < 64):bits .or .u64 (M:Int) (IntKind.u64.wrap (2 ^ n))=((M|||2 ^ n:Nat):Int):=by
 have h2:2 ^ n < 18446744073709551616:=Nat.pow_lt_pow_right (by omega) hn
 have e:IntKind.u64.wrap (2 ^ n)=((2 ^ n:Nat):Int):=by
  rw [IntKind.wrap_u64,show ((2:Int) ^ n)=((2 ^ n:Nat):Int) by rw [Int.natCast_pow];rfl]
  generalize 2 ^ n=q at h2
  omega
 rw [e,u64_or_nat _ _ hM h2]
theorem Um {M n:Nat} (hM:M < 18446744073709551616) (hn:n < 64):M|||2 ^ n < 18446744073709551616 :=
 Nat.or_lt_two_pow (n:=64) hM (Nat.pow_lt_pow_right (by omega) hn)
theorem Ap7 (M n i:Nat):(M|||2 ^ n).testBit i=(M.testBit i || decide (n=i)):=by
 rw [Nat.testBit_or,Nat.testBit_two_pow]
theorem W5 {l:List Ab} {n:Int} (h:A9 l n≠0):1<=A9 l n:=by
 induction l with
 | nil=>exact absurd rfl h
 | cons s l ih =>
  rw [A9] at h ⊢
  split
  ·rename_i hs
   simp only [Bm,decide_eq_true_eq] at hs
   omega
  ·rename_i hs
   rw [if_neg hs] at h
   exact ih h
theorem L3 (l:List Ab) (x:Ab) (n:Int):A9 (l++[x]) n=if A9 l n=0 then (if x.node=n/\Bm x.count x.node=true then x.count else 0) else A9 l n:=by
 induction l with
 | nil=>simp [A9]
 | cons s l ih =>
  rw [List.cons_append,A9,A9,ih]
  by_cases hs:s.node=n/\Bm s.count s.node=true
  ·rw [if_pos hs,if_pos hs,if_neg]
   have:=hs.2
   simp only [Bm,decide_eq_true_eq] at this
   omega
  ·rw [if_neg hs,if_neg hs]
def Pg (p:Nat->Bool):Nat->Nat
 | 0=>0
 | k+1=>if p k then Pg p k|||2 ^ k else Pg p k
theorem Yz (p:Nat->Bool):∀ k i,(Pg p k).testBit i=(decide (i < k)&&p i)
 | 0,i=>by simp [Pg]
 | k+1,i=>by
  have ih:=Yz p k i
  rw [Pg]
  by_cases hk:p k=true
  ·rw [if_pos hk,Ap7,ih]
   by_cases hi:k=i
   ·subst hi;simp [hk]
   ·rw [decide_eq_false hi,Bool.or_false]
    congr 1
    exact decide_eq_decide.2 ⟨fun h=>by omega,fun h=>by omega⟩
  ·rw [if_neg hk,ih]
   by_cases hi:k=i
   ·subst hi;simp [hk]
   ·congr 1
    exact decide_eq_decide.2 ⟨fun h=>by omega,fun h=>by omega⟩
theorem V5 (p:Nat->Bool):∀ k,k<=64->Pg p k < 18446744073709551616
 | 0,_=>by simp [Pg]
 | k+1,h=>by
  rw [Pg]
  split
  ·exact Um (V5 p k (by omega)) (by omega)
  ·exact V5 p k (by omega)
theorem B62 {M N:Nat} (hM:M < 18446744073709551616) (hN:N < 18446744073709551616) (h:∀ i,i < 64->M.testBit i=N.testBit i):M=N:=by
 apply Nat.eq_of_testBit_eq
 intro i
 rcases Nat.lt_or_ge i 64 with c | c
 ·exact h i c
 ·have hp:(18446744073709551616:Nat)<=2 ^ i:=Nat.pow_le_pow_right (n:=2) (by omega) c
  rw [Nat.testBit_lt_two_pow (Nat.lt_of_lt_of_le hM hp),Nat.testBit_lt_two_pow (Nat.lt_of_lt_of_le hN hp)]
def Dg (l:List Ab):Nat:=Pg (fun n=>!decide (A9 l n=0)) 64
theorem S8 {l:List Ab} {i:Nat} (h:i < 64):(Dg l).testBit i=!decide (A9 l i=0):=by
 rw [Dg,Yz,decide_eq_true h,Bool.true_and]
theorem Na (l:List Ab):Dg l < 18446744073709551616:=V5 _ 64 (by omega)
set_option maxRecDepth 100000 in
theorem Ru (l:List Ab) (v:Value) (w:World) (h:C0 w w.heap.size v l) :
  Calls Tryz.prog 187 #[v] w fun e w'=>e=.returned (.agg (E7 (fun n=>A9 l n) (Dg l)))/\Below w.heap.size w w':=by
 have hle:=h.len_le
 obtain ⟨A,c,rfl,_⟩:=id h
 go_enter Tryz.func187,Tryz.ntmps187
 go_wp2_with fail
 go_loopw [7] (fun k wr=>∃ (m M:Nat),m<=l.length/\k=.int .i64 m/\M < 18446744073709551616/\(∀ i:Nat,i < 64->M.testBit i=!decide (A9 (l.take m) i=0))/\Below w.heap.size w wr/\Blk wr w.heap.size 225 (E7 (fun n=>A9 (l.take m) n) M)) (fun k _=>l.length - (intOf k).toNat)
 case atStart => 
  refine ⟨0,0,Nat.zero_le _,rfl,by omega,fun i _=>by simp [A9],Af (Below.refl _ _),?_⟩
  rw [show (fun n:Nat=>A9 (l.take 0) n)=fun _=>0 from funext fun n=>by simp [A9],R3]
  exact Blk.new _ _ _
 case round =>
  obtain ⟨m,M,hm,rfl,hM,hbit,hb,hC⟩:=hrel
  have Hbit:=Lib.hid hbit
  clear hbit
  by_cases hlt:m < l.length
  ·obtain ⟨x,hx⟩ : ∃ x,l[m]? = some x:=⟨l[m],List.getElem?_eq_getElem hlt⟩
   obtain ⟨b,off,c',hv',hbb,e0,e1,_,_⟩:=Ey h hx
   injection hv' with hv1 hv2 hv3
   subst hv1
   have f0:=(hb.cell (p:=⟨b,off+m*2,none⟩) hbb).trans e0
   have f1:=(hb.cell (p:=⟨b,off+m*2+1,none⟩) hbb).trans e1
   have ht:=Cu hx
   obtain ⟨xc,xn⟩:=x
   simp only at f0 f1 ht
   have Ht:=Lib.hid ht
   clear ht hv2 hv3 e0 e1 hx
   cases hr:Bm xc xn with
   | false =>
    go_wp2_with fail
    refine (Ja _ _ _ hr).mono ?_
    rintro e w1 ⟨rfl,hb1⟩
    go_wp2_with fail
    refine ⟨⟨m+1,M,by omega,by go_num,hM,fun i hi=>?_,As (Af hb) hb1,?_⟩,by simp [intOf];omega⟩
    ·rw [Hbit.out i hi,Ht.out,L3]
     simp only [hr]
     split<;>simp_all
    ·have e:(fun n:Nat=>A9 (l.take (m+1)) n)=fun n:Nat=>A9 (l.take m) n:=by
      funext n
      rw [Ht.out,L3]
      simp only [hr]
      split<;>simp_all
     rw [e]
     exact hC.alloc.next hb1
   | true =>
    go_wp2_with fail
    refine (Ja _ _ _ hr).mono ?_
    rintro e w1 ⟨rfl,hb1⟩
    have B1:=(Blk.new wr 42 #[.int .i64 xc,.int .i64 xn]).next hb1
    have hC0:=hC
    have hb0:=hb
    replace hC:=hC.alloc (o:=.cells #[.int .i64 xc,.int .i64 xn] 42) |>.next hb1
    replace hb:=As (Af hb) hb1
    simp only [Bm,decide_eq_true_eq] at hr
    obtain ⟨r1,r2,r3⟩:=hr
    obtain ⟨n,rfl⟩ : ∃ n:Nat,xn=n:=⟨xn.toNat,by omega⟩
    have r4:n < 64:=by omega
    have c0:=(hC.cell n).trans (Pd r4)
    have c1:=(hC.cell 64).trans Ql
    have d0:=hC.frozen n
    have d1:=hC.frozen 64
    have b0:=B1.cell 0
    have b1:=B1.cell 1
    simp only [List.getElem?_toArray,List.getElem?_cons_zero,List.getElem?_cons_succ] at b0 b1
    have hne:w.heap.size < wr.heap.size:=by have:=hb0.size;exact hC0.lt
    have ht:=Be3 (n:=n) hM
    have Hb1:=Lib.hid hb1
    clear hb1 hC0 hb0
    cases hq:M.testBit n with
    | true =>
     rw [hq] at ht
     simp only [Bool.not_true] at ht
     go_wp2_with fail
     rw [Hbit.out n r4,Bool.not_eq_true',decide_eq_false_iff_not] at hq
     have key:∀ i:Nat,A9 (l.take (m+1)) i=A9 (l.take m) i:=fun i=>by
      rw [Ht.out,L3]
      split
      ·rename_i h0
       rw [if_neg,h0]
       rintro ⟨h1,_⟩
       simp only at h1
       rw [<-h1] at h0
       exact hq h0
      ·rfl
     refine ⟨⟨m+1,M,by omega,by go_num,hM,fun i hi=>by rw [key,Hbit.out i hi],hb,?_⟩,by simp [intOf];omega⟩
     rw [funext key]
     exact hC
    | false =>
     rw [hq] at ht
     simp only [Bool.not_false] at ht
     go_wp2_with fail
     rw [Hbit.out n r4,Bool.not_eq_false',decide_eq_true_eq] at hq
     have key:∀ i:Nat,A9 (l.take (m+1)) i=if i=n then xc else A9 (l.take m) i:=fun i=>by
      rw [Ht.out,L3]
      have hr:Bm xc n=true:=by simp only [Bm,decide_eq_true_eq];omega
      by_cases hi:i=n
      ·subst hi
       rw [if_pos hq,if_pos ⟨rfl,hr⟩,if_pos rfl]
      ·rw [if_neg hi]
       split
       ·rename_i h0
        rw [if_neg (by rintro ⟨h1,_⟩;simp only at h1;omega),h0]
       ·rfl
     refine ⟨⟨m+1,M|||2 ^ n,by omega,by go_num,Um hM r4,fun i hi=>?_,Se (Se hb (by simp)) (by simp),?_⟩,by simp [intOf];omega⟩
     ·rw [key,Ap7,Hbit.out i hi]
      by_cases hin:i=n
      ·subst hin;simp;omega
      ·rw [if_neg hin,decide_eq_false (p:=n=i) (fun e=>hin e.symm),Bool.or_false]
     ·rw [funext key,Au8 hM r4]
      have:=(hC.set_ n (.int .i64 xc)).set_ 64 (.int .u64 ((M|||2 ^ n:Nat):Int))
      rw [Ak4 r4,Tx] at this
      exact this
  ·obtain rfl:m=l.length:=by omega
   have hT:l.take l.length=l:=List.take_length
   have hMm:M=Dg l:=B62 hM (Na l) fun i hi=>by rw [Hbit.out i hi,hT,S8 hi]
   rw [hT,hMm] at hC
   clear hT hMm
   go_wp2_with (first
    | (with_reducible refine wpList_load_row rfl 225 (.tmp 2) rfl w.heap.size rfl 225 _ (0,0) _ hC.raw Tryz.underlying225 rfl (Qd _ _) ?_)
    | (with_reducible refine wpList_store_row rfl 225 (.tmp 2) (.tmp 38) rfl w.heap.size _ rfl rfl 225 _ hC.raw (Qd _ _) rfl (Yu _ _) ?_))
   exact bodyPost_ret (results_cell_row Tryz.results187 _ _ w.heap.size 225 _ (0,0) _ rfl (hC.setRow (cs':=E7 (fun n=>A9 l n) (Dg l))).raw Tryz.underlying225 rfl (Qd _ _)) rfl ⟨rfl,L5 hb (by simp)⟩
def Bp8 (cs:Array Value):Obj->Obj
 | .cells _ t frozen=>.cells cs t frozen
 | o=>o
def Bf7:Array Value:=#[.int .u8 0,.int .u8 1,.int .u8 56,.int .u8 2,.int .u8 57,.int .u8 49,.int .u8 28,.int .u8 3,.int .u8 61,.int .u8 58,.int .u8 42,.int .u8 50,.int .u8 38,.int .u8 29,.int .u8 17,.int .u8 4,.int .u8 62,.int .u8 47,.int .u8 59,.int .u8 36,.int .u8 45,.int .u8 43,.int .u8 51,.int .u8 22,.int .u8 53,.int .u8 39,.int .u8 33,.int .u8 30,.int .u8 24,.int .u8 18,.int .u8 12,.int .u8 5,.int .u8 63,.int .u8 55,.int .u8 48,.int .u8 27,.int .u8 60,.int .u8 41,.int .u8 37,.int .u8 16,.int .u8 46,.int .u8 35,.int .u8 44,.int .u8 21,.int .u8 52,.int .u8 32,.int .u8 23,.int .u8 11,.int .u8 54,.int .u8 26,.int .u8 40,.int .u8 15,.int .u8 34,.int .u8 20,.int .u8 31,.int .u8 10,.int .u8 25,.int .u8 14,.int .u8 19,.int .u8 9,.int .u8 13,.int .u8 8,.int .u8 7,.int .u8 6]
noncomputable def Qs (os:Os):World :=
 { World.holding Tryz.prog os ⟨#[],#[],[]⟩ with heap:=(World.holding Tryz.prog os ⟨#[],#[],[]⟩).heap.modify 0 (Bp8 Bf7) }
theorem B76 : Tryz.prog.globalNamed "math/bits.deBruijn64tab" = some 0 := by kernel_rfl
theorem Bn6:(Tryz.prog.globals[0]?).map (·.type)=some 267:=by kernel_rfl
theorem Xa {laid : List (String × DataW Unit)} {W : World} (e : (laid.filter fun x => x.1 == "math/bits.deBruijn64tab") = [("math/bits.deBruijn64tab", Lib.tabData .u8 (Lib.deBruijn64tab.map Int.ofNat))]) (h : laidMetH Tryz.prog laid W) : A8 W := by
 have h1 := h.filter (fun x => x.1 == "math/bits.deBruijn64tab")
 rw [e] at h1
 have h2:=Lib.tabIs_of_head (rest:=[]) B76 Bn6 Tryz.underlying267 Tryz.underlying5 (by kernel_rfl) (by kernel_rfl) h1
 intro j hj
 have h3:=h2.cell B76 j (by simpa using hj)
 rw [h3]
 simp [List.getD,hj]
theorem Xj {H:Type} {l:List (DataW H)} (h:Rows.uptoSmall H l=true):∀ d,d∈l->Rows.uptoBulk d<=1048576:=by
 have h2:Rows.uptoBulkAll l<=1048576:=of_decide_eq_true h
 intro d hd
 have:=V4 hd
 omega
end Go.Proofs.YthlgnjlpakimaaaGreatDoor
