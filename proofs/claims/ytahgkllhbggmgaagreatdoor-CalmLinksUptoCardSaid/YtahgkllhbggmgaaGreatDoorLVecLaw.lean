/- Plain laws on vectors as counts: the list of counts, and what is joined. -/
import Derived.Test.YtahgkllhbggmgaaGreatDoorLCounts
import Derived.Laws.BitsAllLaws
import Derived.Shelf.Spec.TrailingZeros
set_option linter.all false
set_option linter.unnecessarySimpa false
set_option linter.unusedSimpArgs false
set_option linter.unusedVariables false
namespace Go.Proofs.YtahgkllhbggmgaaGreatDoor
open Go.ChangeShapes Go.WideShapes Go.ChangeAt Go.RowKit
def Cq7:Go.Shelf.Ren:=⟨fun | 29=>471 | n=>n,fun | 0=>0 | 3=>3 | 4=>4 | 5=>5 | 22=>230 | 25=>147 | 54=>513 | n=>n,fun | 1=>1 | n=>n⟩
theorem C77:Go.Proofs.Lays7.n29 Tryz.prog Cq7:={
 mixed:=by kernel_rfl
 f29:=Tryz.func471.trans (congrArg some (by kernel_rfl))
 t0:=Tryz.underlying0
 a0:=Tryz.isAgg0
 z0:=Tryz.sizeOf0
 v0:=Tryz.zeroValue0
 i0:=by kernel_rfl
 t3:=Tryz.underlying3
 a3:=Tryz.isAgg3
 z3:=Tryz.sizeOf3
 v3:=Tryz.zeroValue3
 i3:=by kernel_rfl
 t4:=Tryz.underlying4
 a4:=Tryz.isAgg4
 z4:=Tryz.sizeOf4
 v4:=Tryz.zeroValue4
 i4:=by kernel_rfl
 t5:=Tryz.underlying5
 a5:=Tryz.isAgg5
 z5:=Tryz.sizeOf5
 v5:=Tryz.zeroValue5
 i5:=by kernel_rfl
 t22:=Tryz.underlying230
 a22:=Tryz.isAgg230
 z22:=Tryz.sizeOf230
 v22:=Tryz.zeroValue230
 i22:=by kernel_rfl
 t25:=Tryz.underlying147
 a25:=Tryz.isAgg147
 z25:=Tryz.sizeOf147
 v25:=Tryz.zeroValue147
 i25:=by kernel_rfl
 t54:=Tryz.underlying513
 a54:=Tryz.isAgg513
 z54:=Tryz.sizeOf513
 g1:=by kernel_rfl }
def A8 (w:World):Prop:=TabAt 1 Lib.deBruijn64tab w
theorem A8.next {w w1:World} (h:A8 w) (hb:Below w.heap.size w w1):A8 w1:=fun j hj=>Ao hb (h j hj)
theorem Bg4 (x:Nat) (hx:x < 18446744073709551616) (w:World) (hT:A8 w) :
  Calls Tryz.prog 471 #[.int .u64 x] w fun e w'=>e=.returned (.int .i64 (Lib.ctz 64 x))/\w=w' :=
 (Any7.bits_TrailingZeros64 C77 x hx w fun _=>hT).mono fun _ _ ⟨h1,h2⟩=>⟨h1,h2.symm⟩
def E7 (f:Nat->Int) (M:Nat):Array Value:=G2 65 fun i=>if i < 64 then .int .i64 (f i) else .int .u64 M
theorem Uj (f:Nat->Int) (M:Nat):(E7 f M).size=65:=Mw _ _
theorem Yl (f:Nat->Int) (M:Nat):(E7 f M).all (·.oneCell')=true:=Ts fun i=>by split<;>rfl
theorem Pi (f:Nat->Int) (M:Nat):(Tryz.prog.info? 396).map (·.size)=some (E7 f M).size:=by rw [Uj];kernel_rfl
theorem T5 {f:Nat->Int} {M n:Nat} (h:n < 64):(E7 f M)[n]? = some (.int .i64 (f n)):=by rw [E7,Dv (by omega),if_pos h]
theorem Ym {f:Nat->Int} {M:Nat} : (E7 f M)[64]? = some (.int .u64 M):=by rw [E7,Dv (by omega)];rfl
theorem An5 {f:Nat->Int} {M n:Nat} (h:n < 64) (x:Int):(E7 f M).setIfInBounds n (.int .i64 x)=E7 (fun k=>if k=n then x else f k) M:=by
 rw [E7,M9,E7]
 refine F9 fun i _=>?_
 by_cases hi:i=n
 ·subst hi;simp [h]
 ·simp [hi]
theorem T4 {f:Nat->Int} {M M':Nat} : (E7 f M).setIfInBounds 64 (.int .u64 M')=E7 f M':=by
 rw [E7,M9,E7]
 refine F9 fun i _=>?_
 by_cases hi:i=64
 ·subst hi;simp
 ·have:i < 64:=by omega
  simp [hi,this]
theorem Qc:E7 (fun _=>0) 0=#[.int .i64 0,.int .i64 0,.int .i64 0,.int .i64 0,.int .i64 0,.int .i64 0,.int .i64 0,.int .i64 0,.int .i64 0,.int .i64 0,.int .i64 0,.int .i64 0,.int .i64 0,.int .i64 0,.int .i64 0,.int .i64 0,.int .i64 0,.int .i64 0,.int .i64 0,.int .i64 0,.int .i64 0,.int .i64 0,.int .i64 0,.int .i64 0,.int .i64 0,.int .i64 0,.int .i64 0,.int .i64 0,.int .i64 0,.int .i64 0,.int .i64 0,.int .i64 0,.int .i64 0,.int .i64 0,.int .i64 0,.int .i64 0,.int .i64 0,.int .i64 0,.int .i64 0,.int .i64 0,.int .i64 0,.int .i64 0,.int .i64 0,.int .i64 0,.int .i64 0,.int .i64 0,.int .i64 0,.int .i64 0,.int .i64 0,.int .i64 0,.int .i64 0,.int .i64 0,.int .i64 0,.int .i64 0,.int .i64 0,.int .i64 0,.int .i64 0,.int .i64 0,.int .i64 0,.int .i64 0,.int .i64 0,.int .i64 0,.int .i64 0,.int .i64 0,.int .u64 0]:=by kernel_rfl
theorem An2 (M n:Nat):(M:Int) / 2 ^ n=((M / 2 ^ n:Nat):Int):=by
 rw [Int.natCast_ediv,Int.natCast_pow];rfl
theorem Br4 {M n:Nat} (hM:M < 18446744073709551616):(bits .and .u64 ((M:Int) / 2 ^ n) 1==0)=!M.testBit n:=by
 have h1:M / 2 ^ n < 18446744073709551616:=Nat.lt_of_le_of_lt (Nat.div_le_self _ _) hM
 have e:bits .and .u64 ((M:Int) / 2 ^ n) 1=((M / 2 ^ n &&& 1:Nat):Int):=by
  rw [An2]
  exact u64_and_nat _ 1 h1 (by omega)
 rw [e,Nat.testBit,Nat.shiftRight_eq_div_pow,Nat.and_comm 1]
 generalize M / 2 ^ n &&& 1=q
 cases q with
 | zero=>rfl
 | succ q=>rw [bne,Bool.not_not];simp<;>omega
theorem B17 {M n:Nat} (hM:M < 18446744073709551616) (hn:n < 64):bits .or .u64 (M:Int) (IntKind.u64.wrap (2 ^ n))=((M|||2 ^ n:Nat):Int):=by
 have h2:2 ^ n < 18446744073709551616:=Nat.pow_lt_pow_right (by omega) hn
 have e:IntKind.u64.wrap (2 ^ n)=((2 ^ n:Nat):Int):=by
  rw [IntKind.wrap_u64,show ((2:Int) ^ n)=((2 ^ n:Nat):Int) by rw [Int.natCast_pow];rfl]
  generalize 2 ^ n=q at h2
  omega
 rw [e,u64_or_nat _ _ hM h2]
theorem Tv {M n:Nat} (hM:M < 18446744073709551616) (hn:n < 64):M|||2 ^ n < 18446744073709551616 :=
 Nat.or_lt_two_pow (n:=64) hM (Nat.pow_lt_pow_right (by omega) hn)
theorem Au3 (M n i:Nat):(M|||2 ^ n).testBit i=(M.testBit i || decide (n=i)):=by
 rw [Nat.testBit_or,Nat.testBit_two_pow]
theorem Vh {l:List Ad} {n:Int} (h:A9 l n≠0):1<=A9 l n:=by
 induction l with
 | nil=>exact absurd rfl h
 | cons s l ih =>
  rw [A9] at h ⊢
  split
  ·rename_i hs
   simp only [Bj,decide_eq_true_eq] at hs
   omega
  ·rename_i hs
   rw [if_neg hs] at h
   exact ih h
theorem K9 (l:List Ad) (x:Ad) (n:Int):A9 (l++[x]) n=if A9 l n=0 then (if x.node=n/\Bj x.count x.node=true then x.count else 0) else A9 l n:=by
 induction l with
 | nil=>simp [A9]
 | cons s l ih =>
  rw [List.cons_append,A9,A9,ih]
  by_cases hs:s.node=n/\Bj s.count s.node=true
  ·rw [if_pos hs,if_pos hs,if_neg]
   have:=hs.2
   simp only [Bj,decide_eq_true_eq] at this
   omega
  ·rw [if_neg hs,if_neg hs]
def Nc (p:Nat->Bool):Nat->Nat
 | 0=>0
 | k+1=>if p k then Nc p k|||2 ^ k else Nc p k
theorem Yv (p:Nat->Bool):∀ k i,(Nc p k).testBit i=(decide (i < k)&&p i)
 | 0,i=>by simp [Nc]
 | k+1,i=>by
  have ih:=Yv p k i
  rw [Nc]
  by_cases hk:p k=true
  ·rw [if_pos hk,Au3,ih]
   by_cases hi:k=i
   ·subst hi;simp [hk]
   ·rw [decide_eq_false hi,Bool.or_false]
    congr 1
    exact decide_eq_decide.2 ⟨fun h=>by omega,fun h=>by omega⟩
  ·rw [if_neg hk,ih]
   by_cases hi:k=i
   ·subst hi;simp [hk]
   ·congr 1
    exact decide_eq_decide.2 ⟨fun h=>by omega,fun h=>by omega⟩
theorem Ul (p:Nat->Bool):∀ k,k<=64->Nc p k < 18446744073709551616
 | 0,_=>by simp [Nc]
 | k+1,h=>by
  rw [Nc]
  split
  ·exact Tv (Ul p k (by omega)) (by omega)
  ·exact Ul p k (by omega)
theorem Be1 {M N:Nat} (hM:M < 18446744073709551616) (hN:N < 18446744073709551616) (h:∀ i,i < 64->M.testBit i=N.testBit i):M=N:=by
 apply Nat.eq_of_testBit_eq
 intro i
 rcases Nat.lt_or_ge i 64 with c | c
 ·exact h i c
 ·have hp:(18446744073709551616:Nat)<=2 ^ i:=Nat.pow_le_pow_right (n:=2) (by omega) c
  rw [Nat.testBit_lt_two_pow (Nat.lt_of_lt_of_le hM hp),Nat.testBit_lt_two_pow (Nat.lt_of_lt_of_le hN hp)]
def Ep (l:List Ad):Nat:=Nc (fun n=>!decide (A9 l n=0)) 64
theorem Rp {l:List Ad} {i:Nat} (h:i < 64):(Ep l).testBit i=!decide (A9 l i=0):=by
 rw [Ep,Yv,decide_eq_true h,Bool.true_and]
theorem U6 (l:List Ad):Ep l < 18446744073709551616:=Ul _ 64 (by omega)
set_option maxRecDepth 100000 in
theorem Wo (l:List Ad) (v:Value) (w:World) (h:Bx w w.heap.size v l) :
  Calls Tryz.prog 349 #[v] w fun e w'=>e=.returned (.agg (E7 (fun n=>A9 l n) (Ep l)))/\Below w.heap.size w w':=by
 have hle:=h.len_le
 obtain ⟨A,c,rfl,_⟩:=id h
 go_enter Tryz.func349,Tryz.ntmps349
 go_wp2_with fail
 go_loopw [7] (fun k wr=>∃ (m M:Nat),m<=l.length/\k=.int .i64 m/\M < 18446744073709551616/\(∀ i:Nat,i < 64->M.testBit i=!decide (A9 (l.take m) i=0))/\Below w.heap.size w wr/\Blk wr w.heap.size 396 (E7 (fun n=>A9 (l.take m) n) M)) (fun k _=>l.length - (intOf k).toNat)
 case atStart => 
  refine ⟨0,0,Nat.zero_le _,rfl,by omega,fun i _=>by simp [A9],Ap (Below.refl _ _),?_⟩
  rw [show (fun n:Nat=>A9 (l.take 0) n)=fun _=>0 from funext fun n=>by simp [A9],Qc]
  exact Blk.new _ _ _
 case round =>
  obtain ⟨m,M,hm,rfl,hM,hbit,hb,hC⟩:=hrel
  have Hbit:=Lib.hid hbit
  clear hbit
  by_cases hlt:m < l.length
  ·obtain ⟨x,hx⟩ : ∃ x,l[m]? = some x:=⟨l[m],List.getElem?_eq_getElem hlt⟩
   obtain ⟨b,off,c',hv',hbb,e0,e1,_,_⟩:=Ev h hx
   injection hv' with hv1 hv2 hv3
   subst hv1
   have f0:=(hb.cell (p:=⟨b,off+m*2,none⟩) hbb).trans e0
   have f1:=(hb.cell (p:=⟨b,off+m*2+1,none⟩) hbb).trans e1
   have ht:=Eh hx
   obtain ⟨xc,xn⟩:=x
   simp only at f0 f1 ht
   have Ht:=Lib.hid ht
   clear ht hv2 hv3 e0 e1 hx
   cases hr:Bj xc xn with
   | false =>
    go_wp2_with fail
    refine (H6 _ _ _ hr).mono ?_
    rintro e w1 ⟨rfl,hb1⟩
    go_wp2_with fail
    refine ⟨⟨m+1,M,by omega,by go_num,hM,fun i hi=>?_,B6 (Ap hb) hb1,?_⟩,by simp [intOf];omega⟩
    ·rw [Hbit.out i hi,Ht.out,K9]
     simp only [hr]
     split<;>simp_all
    ·have e:(fun n:Nat=>A9 (l.take (m+1)) n)=fun n:Nat=>A9 (l.take m) n:=by
      funext n
      rw [Ht.out,K9]
      simp only [hr]
      split<;>simp_all
     rw [e]
     exact hC.alloc.next hb1
   | true =>
    go_wp2_with fail
    refine (H6 _ _ _ hr).mono ?_
    rintro e w1 ⟨rfl,hb1⟩
    have B1:=(Blk.new wr 38 #[.int .i64 xc,.int .i64 xn]).next hb1
    have hC0:=hC
    have hb0:=hb
    replace hC:=hC.alloc (o:=.cells #[.int .i64 xc,.int .i64 xn] 38) |>.next hb1
    replace hb:=B6 (Ap hb) hb1
    simp only [Bj,decide_eq_true_eq] at hr
    obtain ⟨r1,r2,r3⟩:=hr
    obtain ⟨n,rfl⟩ : ∃ n:Nat,xn=n:=⟨xn.toNat,by omega⟩
    have r4:n < 64:=by omega
    have c0:=(hC.cell n).trans (T5 r4)
    have c1:=(hC.cell 64).trans Ym
    have d0:=hC.frozen n
    have d1:=hC.frozen 64
    have b0:=B1.cell 0
    have b1:=B1.cell 1
    simp only [List.getElem?_toArray,List.getElem?_cons_zero,List.getElem?_cons_succ] at b0 b1
    have hne:w.heap.size < wr.heap.size:=by have:=hb0.size;exact hC0.lt
    have ht:=Br4 (n:=n) hM
    have Hb1:=Lib.hid hb1
    clear hb1 hC0 hb0
    cases hq:M.testBit n with
    | true =>
     rw [hq] at ht
     simp only [Bool.not_true] at ht
     go_wp2_with fail
     rw [Hbit.out n r4,Bool.not_eq_true',decide_eq_false_iff_not] at hq
     have key:∀ i:Nat,A9 (l.take (m+1)) i=A9 (l.take m) i:=fun i=>by
      rw [Ht.out,K9]
      split
      ·rename_i h0
       rw [if_neg,h0]
       rintro ⟨h1,_⟩
       simp only at h1
       rw [<-h1] at h0
       exact hq h0
      ·rfl
     refine ⟨⟨m+1,M,by omega,by go_num,hM,fun i hi=>by rw [key,Hbit.out i hi],hb,?_⟩,by simp [intOf];omega⟩
     rw [funext key]
     exact hC
    | false =>
     rw [hq] at ht
     simp only [Bool.not_false] at ht
     go_wp2_with fail
     rw [Hbit.out n r4,Bool.not_eq_false',decide_eq_true_eq] at hq
     have key:∀ i:Nat,A9 (l.take (m+1)) i=if i=n then xc else A9 (l.take m) i:=fun i=>by
      rw [Ht.out,K9]
      have hr:Bj xc n=true:=by simp only [Bj,decide_eq_true_eq];omega
      by_cases hi:i=n
      ·subst hi
       rw [if_pos hq,if_pos ⟨rfl,hr⟩,if_pos rfl]
      ·rw [if_neg hi]
       split
       ·rename_i h0
        rw [if_neg (by rintro ⟨h1,_⟩;simp only at h1;omega),h0]
       ·rfl
     refine ⟨⟨m+1,M|||2 ^ n,by omega,by go_num,Tv hM r4,fun i hi=>?_,Yu (Yu hb (by simp)) (by simp),?_⟩,by simp [intOf];omega⟩
     ·rw [key,Au3,Hbit.out i hi]
      by_cases hin:i=n
      ·subst hin;simp;omega
      ·rw [if_neg hin,decide_eq_false (p:=n=i) (fun e=>hin e.symm),Bool.or_false]
     ·rw [funext key,B17 hM r4]
      have:=(hC.set_ n (.int .i64 xc)).set_ 64 (.int .u64 ((M|||2 ^ n:Nat):Int))
      rw [An5 r4,T4] at this
      exact this
  ·obtain rfl:m=l.length:=by omega
   have hT:l.take l.length=l:=List.take_length
   have hMm:M=Ep l:=Be1 hM (U6 l) fun i hi=>by rw [Hbit.out i hi,hT,Rp hi]
   rw [hT,hMm] at hC
   clear hT hMm
   go_wp2_with (first
    | (with_reducible refine wpList_load_row rfl 396 (.tmp 2) rfl w.heap.size rfl 396 _ (0,0) _ hC.raw Tryz.underlying396 rfl (Pi _ _) ?_)
    | (with_reducible refine wpList_store_row rfl 396 (.tmp 2) (.tmp 38) rfl w.heap.size _ rfl rfl 396 _ hC.raw (Pi _ _) rfl (Yl _ _) ?_))
   exact bodyPost_ret (results_cell_row Tryz.results349 _ _ w.heap.size 396 _ (0,0) _ rfl (hC.setRow (cs':=E7 (fun n=>A9 l n) (Ep l))).raw Tryz.underlying396 rfl (Pi _ _)) rfl ⟨rfl,Ln hb (by simp)⟩
theorem L7 (l:List Ad) (n:Int):0<=A9 l n:=by
 by_cases h:A9 l n=0
 ·omega
 ·have:=Vh h;omega
def D4 (c:Nat->Int):Nat->List Ad
 | 0=>[]
 | k+1=>if 0 < c k then D4 c k++[⟨c k,k⟩] else D4 c k
def Ji (c:Nat->Int):List Ad:=D4 c 64
theorem Us (c:Nat->Int):∀ k,(D4 c k).length<=k
 | 0=>by simp [D4]
 | k+1=>by
  have:=Us c k
  unfold D4
  split
  ·simp;omega
  ·omega
theorem Qp {c d:Nat->Int} : ∀ {k:Nat},(∀ n,n < k->c n=d n)->D4 c k=D4 d k
 | 0,_=>rfl
 | k+1,h=>by rw [D4,D4,Qp (k:=k) (fun n hn=>h n (by omega)),h k (by omega)]
theorem Ad3 {c d:Nat->Int} (h:∀ n,n < 64->c n=d n):Ji c=Ji d:=Qp h
theorem Yk (l m:List Ad) (n:Int):A9 (l++m) n=if A9 l n=0 then A9 m n else A9 l n:=by
 induction l with
 | nil=>simp [A9]
 | cons s l ih =>
  rw [List.cons_append,A9,A9,ih]
  by_cases hs:s.node=n/\Bj s.count s.node=true
  ·rw [if_pos hs,if_pos hs,if_neg]
   have:=hs.2
   simp only [Bj,decide_eq_true_eq] at this
   omega
  ·rw [if_neg hs,if_neg hs]
theorem T3 (c:Nat->Int):∀ (k:Nat),k<=64->∀ n:Nat,A9 (D4 c k) n=if n < k/\0 < c n then c n else 0
 | 0,_,n=>by simp [D4,A9]
 | k+1,hk,n=>by
  have ih:=T3 c k (by omega) n
  unfold D4
  by_cases h0:0 < c k
  ·rw [if_pos h0,Yk,ih]
   by_cases hn:n < k/\0 < c n
   ·rw [if_pos hn,if_neg (by omega),if_pos ⟨by omega,hn.2⟩]
   ·rw [if_neg hn,if_pos rfl,A9]
    by_cases he:n=k
    ·subst he
     rw [if_pos ⟨rfl,by simp only [Bj,decide_eq_true_eq];omega⟩,if_pos ⟨by omega,h0⟩]
    ·rw [if_neg (by simp only;omega),if_neg (by omega)]
     rfl
  ·rw [if_neg h0,ih]
   by_cases he:n=k
   ·subst he
    rw [if_neg (by omega),if_neg (by omega)]
   ·by_cases hn:n < k/\0 < c n
    ·rw [if_pos hn,if_pos ⟨by omega,hn.2⟩]
    ·rw [if_neg hn,if_neg (by omega)]
theorem Zk (c:Nat->Int) {n:Nat} (hn:n < 64) (h0:0<=c n):A9 (Ji c) n=c n:=by
 rw [Ji,T3 c 64 (by omega)]
 split<;>omega
theorem S1:∀ {l:List Ad} {e:Int} {s:Ad},Ea e (l++[s])=(Ea e l&&(Bj s.count s.node&&decide ((l.getLast?.map (·.node)).getD e < s.node)))
 | [],e,s=>by
  show ((Bj s.count s.node&&decide (e < s.node))&&true)=(true&&(Bj s.count s.node&&decide (e < s.node)))
  rw [Bool.and_true,Bool.true_and]
 | x :: l,e,s=>by
  have:((x :: l).getLast?.map (·.node)).getD e=(l.getLast?.map (·.node)).getD x.node:=by
   cases l with
   | nil=>rfl
   | cons y l=>simp [List.getLast?_cons]
  rw [this]
  show ((Bj x.count x.node&&decide (e < x.node))&&Ea x.node (l++[s]))=(((Bj x.count x.node&&decide (e < x.node))&&Ea x.node l)&&_)
  rw [S1,Bool.and_assoc,Bool.and_assoc,Bool.and_assoc]
theorem S0 (c:Nat->Int):∀ k,k<=64->Ea (-1) (D4 c k)=true/\((D4 c k).getLast?.map (·.node)).getD (-1) < (k:Int)
 | 0,_=>⟨rfl,by simp [D4]⟩
 | k+1,hk=>by
  obtain ⟨h1,h2⟩:=S0 c k (by omega)
  unfold D4
  split
  ·rename_i h0
   refine ⟨?_,by simp;omega⟩
   rw [S1,h1,Bool.true_and,Bool.and_eq_true,decide_eq_true_eq]
   exact ⟨by simp only [Bj,decide_eq_true_eq];omega,h2⟩
  ·exact ⟨h1,by omega⟩
theorem A43 (c:Nat->Int):B7 (Ji c)=true:=(S0 c 64 (by omega)).1
theorem Gg {e:Int} : ∀ {l:List Ad},Ea e l=true->∀ n:Int,n<=e->A9 l n=0
 | [],_,_,_=>rfl
 | s :: l,h,n,hn=>by
  simp only [Ea,Bool.and_eq_true,decide_eq_true_eq] at h
  rw [A9,if_neg (by omega)]
  exact Gg h.2 n (by omega)
theorem Wp:∀ {l m:List Ad} {e:Int},-1<=e->Ea e l=true->Ea e m=true->(∀ n:Nat,n < 64->A9 l n=A9 m n)->l=m
 | [],[],_,_,_,_,_=>rfl
 | [],s :: m,e,he,_,h',h=>by
  simp only [Ea,Bool.and_eq_true,decide_eq_true_eq,Bj] at h'
  have:=h s.node.toNat (by omega)
  rw [A9,A9,show ((s.node.toNat:Nat):Int)=s.node by omega,if_pos ⟨rfl,by simp only [Bj,decide_eq_true_eq];omega⟩] at this
  omega
 | s :: l,[],e,he,h',_,h=>by
  simp only [Ea,Bool.and_eq_true,decide_eq_true_eq,Bj] at h'
  have:=h s.node.toNat (by omega)
  rw [A9,A9,show ((s.node.toNat:Nat):Int)=s.node by omega,if_pos ⟨rfl,by simp only [Bj,decide_eq_true_eq];omega⟩] at this
  omega
 | s :: l,t :: m,e,he,hl,hm,h=>by
  have h1:=hl
  have h2:=hm
  simp only [Ea,Bool.and_eq_true,decide_eq_true_eq,Bj] at h1 h2
  have hs:=h s.node.toNat (by omega)
  have ht:=h t.node.toNat (by omega)
  rw [show ((s.node.toNat:Nat):Int)=s.node by omega] at hs
  rw [show ((t.node.toNat:Nat):Int)=t.node by omega] at ht
  have cs:A9 (s :: l) s.node=s.count:=by rw [A9,if_pos ⟨rfl,by simp only [Bj,decide_eq_true_eq];omega⟩]
  have ct:A9 (t :: m) t.node=t.count:=by rw [A9,if_pos ⟨rfl,by simp only [Bj,decide_eq_true_eq];omega⟩]
  have hn:s.node=t.node:=by
   rcases Int.lt_trichotomy s.node t.node with c | c | c
   ·exfalso
    rw [cs,A9,if_neg (by omega),Gg h2.2 _ (by omega)] at hs
    omega
   ·exact c
   ·exfalso
    rw [ct,A9,if_neg (by omega),Gg h1.2 _ (by omega)] at ht
    omega
  rw [cs,hn,ct] at hs
  obtain ⟨sc,sn⟩:=s
  obtain ⟨tc,tn⟩:=t
  simp only at hn hs h1 h2
  subst hn hs
  have:l=m:=by
   refine Wp (e:=sn) (by omega) h1.2 h2.2 fun n hn'=>?_
   have:=h n hn'
   rw [A9,A9] at this
   by_cases he':sn=n
   ·rw [Gg h1.2 _ (by omega),Gg h2.2 _ (by omega)]
   ·rw [if_neg (by simp only;omega),if_neg (by simp only;omega)] at this
    exact this
  rw [this]
theorem Ad2 {l:List Ad} (h:B7 l=true):Ji (fun n=>A9 l n)=l :=
 Wp (e:=-1) (by omega) (A43 _) h fun n hn=>by rw [Zk _ hn (L7 _ _)]
def Ew (ls:List (List Ad)) (n:Nat):Int:=ls.foldl (fun a l=>max a (A9 l n)) 0
theorem Rq (ls:List (List Ad)) (l:List Ad) (n:Nat):Ew (ls++[l]) n=max (Ew ls n) (A9 l n):=by simp [Ew]
theorem A90 (ls:List (List Ad)) (n:Nat):0<=Ew ls n:=by
 have key:∀ (ls:List (List Ad)) (a:Int),0<=a->0<=ls.foldl (fun a l=>max a (A9 l n)) a:=by
  intro ls
  induction ls with
  | nil=>exact fun a h=>h
  | cons l ls ih=>exact fun a h=>ih _ (by show 0<=max _ _;omega)
 exact key ls 0 (by omega)
def Dw (ls:List (List Ad)):List Ad:=Ji (Ew ls)
theorem Bb0 (a:List Ad) (n:Nat):Ew [a] n=A9 a n:=by
 have:=L7 a n
 simp only [Ew,List.foldl_cons,List.foldl_nil]
 omega
def C34:List (List Ad)->Nat->Int
 | [],_=>0
 | l :: ls,n=>ls.foldl (fun a l=>min a (A9 l n)) (A9 l n)
def Bm6 (ls:List (List Ad)):List Ad:=Ji (C34 ls)
end Go.Proofs.YtahgkllhbggmgaaGreatDoor
