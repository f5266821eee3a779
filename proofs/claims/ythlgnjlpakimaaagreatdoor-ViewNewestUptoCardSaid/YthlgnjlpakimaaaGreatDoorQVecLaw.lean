/- A world that holds math/bits.deBruijn64tab as it is laid; and what a row's list gives of it. -/
import Derived.Test.YthlgnjlpakimaaaGreatDoorQCounts
import Derived.Laws.BitsAllLaws
import Derived.Shelf.Spec.TrailingZeros
import Derived.Test.YthlgnjlpakimaaaGreatDoorCards
import Derived.Test.YthlgnjlpakimaaaGreatDoorTie
import Derived.Lib.LaidTab
import Derived.Deep.DeepWitnessRowRef
import Derived.Lib.SmallJoins
set_option linter.all false
set_option linter.unnecessarySimpa false
set_option linter.unusedSimpArgs false
set_option linter.unusedVariables false
namespace Go.Proofs.YthlgnjlpakimaaaGreatDoor
open Go.ChangeShapes Go.WideShapes Go.ChangeAt Go.RowKit
def D40:Go.Shelf.Ren:=⟨fun | 29=>222 | n=>n,fun | 0=>0 | 3=>3 | 4=>4 | 5=>5 | 22=>223 | 25=>34 | 54=>267 | n=>n,fun | 1=>0 | n=>n⟩
theorem Cq5:Go.Proofs.Lays7.n29 Tryz.prog D40:={
 mixed:=by kernel_rfl
 f29:=Tryz.func222.trans (congrArg some (by kernel_rfl))
 t0:=Tryz.underlying0
 a0:=Tryz.isAgg0
 z0:=Tryz.sizeOf0
 v0:=Tryz.zeroValue0
 i0:=by kernel_rfl
 t3:=Tryz.underlying3
 a3:=Tryz.isAgg3
 z3:=Tryz.sizeOf3
 v3:=Tryz.zeroValue3
 i3:=by kernel_rfl
 t4:=Tryz.underlying4
 a4:=Tryz.isAgg4
 z4:=Tryz.sizeOf4
 v4:=Tryz.zeroValue4
 i4:=by kernel_rfl
 t5:=Tryz.underlying5
 a5:=Tryz.isAgg5
 z5:=Tryz.sizeOf5
 v5:=Tryz.zeroValue5
 i5:=by kernel_rfl
 t22:=Tryz.underlying223
 a22:=Tryz.isAgg223
 z22:=Tryz.sizeOf223
 v22:=Tryz.zeroValue223
 i22:=by kernel_rfl
 t25:=Tryz.underlying34
 a25:=Tryz.isAgg34
 z25:=Tryz.sizeOf34
 v25:=Tryz.zeroValue34
 i25:=by kernel_rfl
 t54:=Tryz.underlying267
 a54:=Tryz.isAgg267
 z54:=Tryz.sizeOf267
 g1:=by kernel_rfl }
def A8 (w:World):Prop:=TabAt 0 Lib.deBruijn64tab w
theorem A8.next {w w1:World} (h:A8 w) (hb:Below w.heap.size w w1):A8 w1:=fun j hj=>Ax hb (h j hj)
theorem B34 (x:Nat) (hx:x < 18446744073709551616) (w:World) (hT:A8 w) :
  Calls Tryz.prog 222 #[.int .u64 x] w fun e w'=>e=.returned (.int .i64 (Lib.ctz 64 x))/\w=w' :=
 (Any7.bits_TrailingZeros64 Cq5 x hx w fun _=>hT).mono fun _ _ ⟨h1,h2⟩=>⟨h1,h2.symm⟩
def Fx (f:Nat->Int) (M:Nat):Array Value:=K5 65 fun i=>if i < 64 then .int .i64 (f i) else .int .u64 M
theorem Sk (f:Nat->Int) (M:Nat):(Fx f M).size=65:=Td _ _
theorem Ak9 (f:Nat->Int) (M:Nat):(Fx f M).all (·.oneCell')=true:=A42 fun i=>by split<;>rfl
theorem Vd (f:Nat->Int) (M:Nat):(Tryz.prog.info? 225).map (·.size)=some (Fx f M).size:=by rw [Sk];kernel_rfl
theorem Tx {f:Nat->Int} {M n:Nat} (h:n < 64):(Fx f M)[n]? = some (.int .i64 (f n)):=by rw [Fx,Dz (by omega),if_pos h]
theorem Vn {f:Nat->Int} {M:Nat} : (Fx f M)[64]? = some (.int .u64 M):=by rw [Fx,Dz (by omega)];rfl
theorem Be1 {f:Nat->Int} {M n:Nat} (h:n < 64) (x:Int):(Fx f M).setIfInBounds n (.int .i64 x)=Fx (fun k=>if k=n then x else f k) M:=by
 rw [Fx,S1,Fx]
 refine Hj fun i _=>?_
 by_cases hi:i=n
 ·subst hi;simp [h]
 ·simp [hi]
theorem A05 {f:Nat->Int} {M M':Nat} : (Fx f M).setIfInBounds 64 (.int .u64 M')=Fx f M':=by
 rw [Fx,S1,Fx]
 refine Hj fun i _=>?_
 by_cases hi:i=64
 ·subst hi;simp
 ·have:i < 64:=by omega
  simp [hi,this]
theorem Wk:Fx (fun _=>0) 0=#[.int .i64 0,.int .i64 0,.int .i64 0,.int .i64 0,.int .i64 0,.int .i64 0,.int .i64 0,.int .i64 0,.int .i64 0,.int .i64 0,.int .i64 0,.int .i64 0,.int .i64 0,.int .i64 0,.int .i64 0,.int .i64 0,.int .i64 0,.int .i64 0,.int .i64 0,.int .i64 0,.int .i64 0,.int .i64 0,.int .i64 0,.int .i64 0,.int .i64 0,.int .i64 0,.int .i64 0,.int .i64 0,.int .i64 0,.int .i64 0,.int .i64 0,.int .i64 0,.int .i64 0,.int .i64 0,.int .i64 0,.int .i64 0,.int .i64 0,.int .i64 0,.int .i64 0,.int .i64 0,.int .i64 0,.int .i64 0,.int .i64 0,.int .i64 0,.int .i64 0,.int .i64 0,.int .i64 0,.int .i64 0,.int .i64 0,.int .i64 0,.int .i64 0,.int .i64 0,.int .i64 0,.int .i64 0,.int .i64 0,.int .i64 0,.int .i64 0,.int .i64 0,.int .i64 0,.int .i64 0,.int .i64 0,.int .i64 0,.int .i64 0,.int .i64 0,.int .u64 0]:=by kernel_rfl
theorem Bd5 (M n:Nat):(M:Int) / 2 ^ n=((M / 2 ^ n:Nat):Int):=by
 rw [Int.natCast_ediv,Int.natCast_pow];rfl
theorem Cf7 {M n:Nat} (hM:M < 18446744073709551616):(bits .and .u64 ((M:Int) / 2 ^ n) 1==0)=!M.testBit n:=by
 have h1:M / 2 ^ n < 18446744073709551616:=Nat.lt_of_le_of_lt (Nat.div_le_self _ _) hM
 have e:bits .and .u64 ((M:Int) / 2 ^ n) 1=((M / 2 ^ n &&& 1:Nat):Int):=by
  rw [Bd5]
  exact u64_and_nat _ 1 h1 (by omega)
 rw [e,Nat.testBit,Nat.shiftRight_eq_div_pow,Nat.and_comm 1]
 generalize M / 2 ^ n &&& 1=q
 cases q with
 | zero=>rfl
 | succ q=>rw [bne,Bool.not_not];simp<;>omega
theorem Bq7 {M n:Nat} (hM:M < 18446744073709551616) (hn:n < 64):bits .or .u64 (M:Int) (IntKind.u64.wrap (2 ^ n))=((M|||2 ^ n:Nat):Int):=by
 have h2:2 ^ n < 18446744073709551616:=Nat.pow_lt_pow_right (by omega) hn
 have e:IntKind.u64.wrap (2 ^ n)=((2 ^ n:Nat):Int):=by
  rw [IntKind.wrap_u64,show ((2:Int) ^ n)=((2 ^ n:Nat):Int) by rw [Int.natCast_pow];rfl]
  generalize 2 ^ n=q at h2
  omega
 rw [e,u64_or_nat _ _ hM h2]
theorem A50 {M n:Nat} (hM:M < 18446744073709551616) (hn:n < 64):M|||2 ^ n < 18446744073709551616 :=
 Nat.or_lt_two_pow (n:=64) hM (Nat.pow_lt_pow_right (by omega) hn)
theorem Bl3 (M n i:Nat):(M|||2 ^ n).testBit i=(M.testBit i || decide (n=i)):=by
 rw [Nat.testBit_or,Nat.testBit_two_pow]
theorem Vm {l:List Ab} {n:Int} (h:Aa l n≠0):1<=Aa l n:=by
 induction l with
 | nil=>exact absurd rfl h
 | cons s l ih =>
  rw [Aa] at h ⊢
  split
  ·rename_i hs
   simp only [C7,decide_eq_true_eq] at hs
   omega
  ·rename_i hs
   rw [if_neg hs] at h
   exact ih h
theorem Pt (l:List Ab) (x:Ab) (n:Int):Aa (l++[x]) n=if Aa l n=0 then (if x.node=n/\C7 x.count x.node=true then x.count else 0) else Aa l n:=by
 induction l with
 | nil=>simp [Aa]
 | cons s l ih =>
  rw [List.cons_append,Aa,Aa,ih]
  by_cases hs:s.node=n/\C7 s.count s.node=true
  ·rw [if_pos hs,if_pos hs,if_neg]
   have:=hs.2
   simp only [C7,decide_eq_true_eq] at this
   omega
  ·rw [if_neg hs,if_neg hs]
def U2 (p:Nat->Bool):Nat->Nat
 | 0=>0
 | k+1=>if p k then U2 p k|||2 ^ k else U2 p k
theorem Al4 (p:Nat->Bool):∀ k i,(U2 p k).testBit i=(decide (i < k)&&p i)
 | 0,i=>by simp [U2]
 | k+1,i=>by
  have ih:=Al4 p k i
  rw [U2]
  by_cases hk:p k=true
  ·rw [if_pos hk,Bl3,ih]
   by_cases hi:k=i
   ·subst hi;simp [hk]
   ·rw [decide_eq_false hi,Bool.or_false]
    congr 1
    exact decide_eq_decide.2 ⟨fun h=>by omega,fun h=>by omega⟩
  ·rw [if_neg hk,ih]
   by_cases hi:k=i
   ·subst hi;simp [hk]
   ·congr 1
    exact decide_eq_decide.2 ⟨fun h=>by omega,fun h=>by omega⟩
theorem A66 (p:Nat->Bool):∀ k,k<=64->U2 p k < 18446744073709551616
 | 0,_=>by simp [U2]
 | k+1,h=>by
  rw [U2]
  split
  ·exact A50 (A66 p k (by omega)) (by omega)
  ·exact A66 p k (by omega)
theorem C44 {M N:Nat} (hM:M < 18446744073709551616) (hN:N < 18446744073709551616) (h:∀ i,i < 64->M.testBit i=N.testBit i):M=N:=by
 apply Nat.eq_of_testBit_eq
 intro i
 rcases Nat.lt_or_ge i 64 with c | c
 ·exact h i c
 ·have hp:(18446744073709551616:Nat)<=2 ^ i:=Nat.pow_le_pow_right (n:=2) (by omega) c
  rw [Nat.testBit_lt_two_pow (Nat.lt_of_lt_of_le hM hp),Nat.testBit_lt_two_pow (Nat.lt_of_lt_of_le hN hp)]
def D9 (l:List Ab):Nat:=U2 (fun n=>!decide (Aa l n=0)) 64
theorem Qn {l:List Ab} {i:Nat} (h:i < 64):(D9 l).testBit i=!decide (Aa l i=0):=by
 rw [D9,Al4,decide_eq_true h,Bool.true_and]
theorem N3 (l:List Ab):D9 l < 18446744073709551616:=A66 _ 64 (by omega)
set_option maxRecDepth 100000 in
theorem Xp (l:List Ab) (v:Value) (w:World) (h:Co w w.heap.size v l) :
  Calls Tryz.prog 187 #[v] w fun e w'=>e=.returned (.agg (Fx (fun n=>Aa l n) (D9 l)))/\Below w.heap.size w w':=by
 have hle:=h.len_le
 obtain ⟨A,c,rfl,_⟩:=id h
 go_enter Tryz.func187,Tryz.ntmps187
 go_wp2_with fail
 go_loopw [7] (fun k wr=>∃ (m M:Nat),m<=l.length/\k=.int .i64 m/\M < 18446744073709551616/\(∀ i:Nat,i < 64->M.testBit i=!decide (Aa (l.take m) i=0))/\Below w.heap.size w wr/\Blk wr w.heap.size 225 (Fx (fun n=>Aa (l.take m) n) M)) (fun k _=>l.length - (intOf k).toNat)
 case atStart => 
  refine ⟨0,0,Nat.zero_le _,rfl,by omega,fun i _=>by simp [Aa],Aj (Below.refl _ _),?_⟩
  rw [show (fun n:Nat=>Aa (l.take 0) n)=fun _=>0 from funext fun n=>by simp [Aa],Wk]
  exact Blk.new _ _ _
 case round =>
  obtain ⟨m,M,hm,rfl,hM,hbit,hb,hC⟩:=hrel
  have Hbit:=Lib.hid hbit
  clear hbit
  by_cases hlt:m < l.length
  ·obtain ⟨x,hx⟩ : ∃ x,l[m]? = some x:=⟨l[m],List.getElem?_eq_getElem hlt⟩
   obtain ⟨b,off,c',hv',hbb,e0,e1,_,_⟩:=Gx h hx
   injection hv' with hv1 hv2 hv3
   subst hv1
   have f0:=(hb.cell (p:=⟨b,off+m*2,none⟩) hbb).trans e0
   have f1:=(hb.cell (p:=⟨b,off+m*2+1,none⟩) hbb).trans e1
   have ht:=Dv hx
   obtain ⟨xc,xn⟩:=x
   simp only at f0 f1 ht
   have Ht:=Lib.hid ht
   clear ht hv2 hv3 e0 e1 hx
   cases hr:C7 xc xn with
   | false =>
    go_wp2_with fail
    refine (M4 _ _ _ hr).mono ?_
    rintro e w1 ⟨rfl,hb1⟩
    go_wp2_with fail
    refine ⟨⟨m+1,M,by omega,by go_num,hM,fun i hi=>?_,B9 (Aj hb) hb1,?_⟩,by simp [intOf];omega⟩
    ·rw [Hbit.out i hi,Ht.out,Pt]
     simp only [hr]
     split<;>simp_all
    ·have e:(fun n:Nat=>Aa (l.take (m+1)) n)=fun n:Nat=>Aa (l.take m) n:=by
      funext n
      rw [Ht.out,Pt]
      simp only [hr]
      split<;>simp_all
     rw [e]
     exact hC.alloc.next hb1
   | true =>
    go_wp2_with fail
    refine (M4 _ _ _ hr).mono ?_
    rintro e w1 ⟨rfl,hb1⟩
    have B1:=(Blk.new wr 42 #[.int .i64 xc,.int .i64 xn]).next hb1
    have hC0:=hC
    have hb0:=hb
    replace hC:=hC.alloc (o:=.cells #[.int .i64 xc,.int .i64 xn] 42) |>.next hb1
    replace hb:=B9 (Aj hb) hb1
    simp only [C7,decide_eq_true_eq] at hr
    obtain ⟨r1,r2,r3⟩:=hr
    obtain ⟨n,rfl⟩ : ∃ n:Nat,xn=n:=⟨xn.toNat,by omega⟩
    have r4:n < 64:=by omega
    have c0:=(hC.cell n).trans (Tx r4)
    have c1:=(hC.cell 64).trans Vn
    have d0:=hC.frozen n
    have d1:=hC.frozen 64
    have b0:=B1.cell 0
    have b1:=B1.cell 1
    simp only [List.getElem?_toArray,List.getElem?_cons_zero,List.getElem?_cons_succ] at b0 b1
    have hne:w.heap.size < wr.heap.size:=by have:=hb0.size;exact hC0.lt
    have ht:=Cf7 (n:=n) hM
    have Hb1:=Lib.hid hb1
    clear hb1 hC0 hb0
    cases hq:M.testBit n with
    | true =>
     rw [hq] at ht
     simp only [Bool.not_true] at ht
     go_wp2_with fail
     rw [Hbit.out n r4,Bool.not_eq_true',decide_eq_false_iff_not] at hq
     have key:∀ i:Nat,Aa (l.take (m+1)) i=Aa (l.take m) i:=fun i=>by
      rw [Ht.out,Pt]
      split
      ·rename_i h0
       rw [if_neg,h0]
       rintro ⟨h1,_⟩
       simp only at h1
       rw [<-h1] at h0
       exact hq h0
      ·rfl
     refine ⟨⟨m+1,M,by omega,by go_num,hM,fun i hi=>by rw [key,Hbit.out i hi],hb,?_⟩,by simp [intOf];omega⟩
     rw [funext key]
     exact hC
    | false =>
     rw [hq] at ht
     simp only [Bool.not_false] at ht
     go_wp2_with fail
     rw [Hbit.out n r4,Bool.not_eq_false',decide_eq_true_eq] at hq
     have key:∀ i:Nat,Aa (l.take (m+1)) i=if i=n then xc else Aa (l.take m) i:=fun i=>by
      rw [Ht.out,Pt]
      have hr:C7 xc n=true:=by simp only [C7,decide_eq_true_eq];omega
      by_cases hi:i=n
      ·subst hi
       rw [if_pos hq,if_pos ⟨rfl,hr⟩,if_pos rfl]
      ·rw [if_neg hi]
       split
       ·rename_i h0
        rw [if_neg (by rintro ⟨h1,_⟩;simp only at h1;omega),h0]
       ·rfl
     refine ⟨⟨m+1,M|||2 ^ n,by omega,by go_num,A50 hM r4,fun i hi=>?_,Ym (Ym hb (by simp)) (by simp),?_⟩,by simp [intOf];omega⟩
     ·rw [key,Bl3,Hbit.out i hi]
      by_cases hin:i=n
      ·subst hin;simp;omega
      ·rw [if_neg hin,decide_eq_false (p:=n=i) (fun e=>hin e.symm),Bool.or_false]
     ·rw [funext key,Bq7 hM r4]
      have:=(hC.set_ n (.int .i64 xc)).set_ 64 (.int .u64 ((M|||2 ^ n:Nat):Int))
      rw [Be1 r4,A05] at this
      exact this
  ·obtain rfl:m=l.length:=by omega
   have hT:l.take l.length=l:=List.take_length
   have hMm:M=D9 l:=C44 hM (N3 l) fun i hi=>by rw [Hbit.out i hi,hT,Qn hi]
   rw [hT,hMm] at hC
   clear hT hMm
   go_wp2_with (first
    | (with_reducible refine wpList_load_row rfl 225 (.tmp 2) rfl w.heap.size rfl 225 _ (0,0) _ hC.raw Tryz.underlying225 rfl (Vd _ _) ?_)
    | (with_reducible refine wpList_store_row rfl 225 (.tmp 2) (.tmp 38) rfl w.heap.size _ rfl rfl 225 _ hC.raw (Vd _ _) rfl (Ak9 _ _) ?_))
   exact bodyPost_ret (results_cell_row Tryz.results187 _ _ w.heap.size 225 _ (0,0) _ rfl (hC.setRow (cs':=Fx (fun n=>Aa l n) (D9 l))).raw Tryz.underlying225 rfl (Vd _ _)) rfl ⟨rfl,Pw hb (by simp)⟩
theorem Di (l:List Ab) (n:Int):0<=Aa l n:=by
 by_cases h:Aa l n=0
 ·omega
 ·have:=Vm h;omega
def Ek (c:Nat->Int):Nat->List Ab
 | 0=>[]
 | k+1=>if 0 < c k then Ek c k++[⟨c k,k⟩] else Ek c k
def F6 (c:Nat->Int):List Ab:=Ek c 64
theorem A73 (c:Nat->Int):∀ k,(Ek c k).length<=k
 | 0=>by simp [Ek]
 | k+1=>by
  have:=A73 c k
  unfold Ek
  split
  ·simp;omega
  ·omega
theorem Wr {c d:Nat->Int} : ∀ {k:Nat},(∀ n,n < k->c n=d n)->Ek c k=Ek d k
 | 0,_=>rfl
 | k+1,h=>by rw [Ek,Ek,Wr (k:=k) (fun n hn=>h n (by omega)),h k (by omega)]
theorem Fq {c d:Nat->Int} (h:∀ n,n < 64->c n=d n):F6 c=F6 d:=Wr h
theorem Ak8 (l m:List Ab) (n:Int):Aa (l++m) n=if Aa l n=0 then Aa m n else Aa l n:=by
 induction l with
 | nil=>simp [Aa]
 | cons s l ih =>
  rw [List.cons_append,Aa,Aa,ih]
  by_cases hs:s.node=n/\C7 s.count s.node=true
  ·rw [if_pos hs,if_pos hs,if_neg]
   have:=hs.2
   simp only [C7,decide_eq_true_eq] at this
   omega
  ·rw [if_neg hs,if_neg hs]
theorem A04 (c:Nat->Int):∀ (k:Nat),k<=64->∀ n:Nat,Aa (Ek c k) n=if n < k/\0 < c n then c n else 0
 | 0,_,n=>by simp [Ek,Aa]
 | k+1,hk,n=>by
  have ih:=A04 c k (by omega) n
  unfold Ek
  by_cases h0:0 < c k
  ·rw [if_pos h0,Ak8,ih]
   by_cases hn:n < k/\0 < c n
   ·rw [if_pos hn,if_neg (by omega),if_pos ⟨by omega,hn.2⟩]
   ·rw [if_neg hn,if_pos rfl,Aa]
    by_cases he:n=k
    ·subst he
     rw [if_pos ⟨rfl,by simp only [C7,decide_eq_true_eq];omega⟩,if_pos ⟨by omega,h0⟩]
    ·rw [if_neg (by simp only;omega),if_neg (by omega)]
     rfl
  ·rw [if_neg h0,ih]
   by_cases he:n=k
   ·subst he
    rw [if_neg (by omega),if_neg (by omega)]
   ·by_cases hn:n < k/\0 < c n
    ·rw [if_pos hn,if_pos ⟨by omega,hn.2⟩]
    ·rw [if_neg hn,if_neg (by omega)]
theorem Nj (c:Nat->Int) {n:Nat} (hn:n < 64) (h0:0<=c n):Aa (F6 c) n=c n:=by
 rw [F6,A04 c 64 (by omega)]
 split<;>omega
theorem Yx:∀ {l:List Ab} {e:Int} {s:Ab},Fj e (l++[s])=(Fj e l&&(C7 s.count s.node&&decide ((l.getLast?.map (·.node)).getD e < s.node)))
 | [],e,s=>by
  show ((C7 s.count s.node&&decide (e < s.node))&&true)=(true&&(C7 s.count s.node&&decide (e < s.node)))
  rw [Bool.and_true,Bool.true_and]
 | x :: l,e,s=>by
  have:((x :: l).getLast?.map (·.node)).getD e=(l.getLast?.map (·.node)).getD x.node:=by
   cases l with
   | nil=>rfl
   | cons y l=>simp [List.getLast?_cons]
  rw [this]
  show ((C7 x.count x.node&&decide (e < x.node))&&Fj x.node (l++[s]))=(((C7 x.count x.node&&decide (e < x.node))&&Fj x.node l)&&_)
  rw [Yx,Bool.and_assoc,Bool.and_assoc,Bool.and_assoc]
theorem Yw (c:Nat->Int):∀ k,k<=64->Fj (-1) (Ek c k)=true/\((Ek c k).getLast?.map (·.node)).getD (-1) < (k:Int)
 | 0,_=>⟨rfl,by simp [Ek]⟩
 | k+1,hk=>by
  obtain ⟨h1,h2⟩:=Yw c k (by omega)
  unfold Ek
  split
  ·rename_i h0
   refine ⟨?_,by simp;omega⟩
   rw [Yx,h1,Bool.true_and,Bool.and_eq_true,decide_eq_true_eq]
   exact ⟨by simp only [C7,decide_eq_true_eq];omega,h2⟩
  ·exact ⟨h1,by omega⟩
theorem E7 (c:Nat->Int):Ak (F6 c)=true:=(Yw c 64 (by omega)).1
theorem Ky {e:Int} : ∀ {l:List Ab},Fj e l=true->∀ n:Int,n<=e->Aa l n=0
 | [],_,_,_=>rfl
 | s :: l,h,n,hn=>by
  simp only [Fj,Bool.and_eq_true,decide_eq_true_eq] at h
  rw [Aa,if_neg (by omega)]
  exact Ky h.2 n (by omega)
theorem Xq:∀ {l m:List Ab} {e:Int},-1<=e->Fj e l=true->Fj e m=true->(∀ n:Nat,n < 64->Aa l n=Aa m n)->l=m
 | [],[],_,_,_,_,_=>rfl
 | [],s :: m,e,he,_,h',h=>by
  simp only [Fj,Bool.and_eq_true,decide_eq_true_eq,C7] at h'
  have:=h s.node.toNat (by omega)
  rw [Aa,Aa,show ((s.node.toNat:Nat):Int)=s.node by omega,if_pos ⟨rfl,by simp only [C7,decide_eq_true_eq];omega⟩] at this
  omega
 | s :: l,[],e,he,h',_,h=>by
  simp only [Fj,Bool.and_eq_true,decide_eq_true_eq,C7] at h'
  have:=h s.node.toNat (by omega)
  rw [Aa,Aa,show ((s.node.toNat:Nat):Int)=s.node by omega,if_pos ⟨rfl,by simp only [C7,decide_eq_true_eq];omega⟩] at this
  omega
 | s :: l,t :: m,e,he,hl,hm,h=>by
  have h1:=hl
  have h2:=hm
  simp only [Fj,Bool.and_eq_true,decide_eq_true_eq,C7] at h1 h2
  have hs:=h s.node.toNat (by omega)
  have ht:=h t.node.toNat (by omega)
  rw [show ((s.node.toNat:Nat):Int)=s.node by omega] at hs
  rw [show ((t.node.toNat:Nat):Int)=t.node by omega] at ht
  have cs:Aa (s :: l) s.node=s.count:=by rw [Aa,if_pos ⟨rfl,by simp only [C7,decide_eq_true_eq];omega⟩]
  have ct:Aa (t :: m) t.node=t.count:=by rw [Aa,if_pos ⟨rfl,by simp only [C7,decide_eq_true_eq];omega⟩]
  have hn:s.node=t.node:=by
   rcases Int.lt_trichotomy s.node t.node with c | c | c
   ·exfalso
    rw [cs,Aa,if_neg (by omega),Ky h2.2 _ (by omega)] at hs
    omega
   ·exact c
   ·exfalso
    rw [ct,Aa,if_neg (by omega),Ky h1.2 _ (by omega)] at ht
    omega
  rw [cs,hn,ct] at hs
  obtain ⟨sc,sn⟩:=s
  obtain ⟨tc,tn⟩:=t
  simp only at hn hs h1 h2
  subst hn hs
  have:l=m:=by
   refine Xq (e:=sn) (by omega) h1.2 h2.2 fun n hn'=>?_
   have:=h n hn'
   rw [Aa,Aa] at this
   by_cases he':sn=n
   ·rw [Ky h1.2 _ (by omega),Ky h2.2 _ (by omega)]
   ·rw [if_neg (by simp only;omega),if_neg (by simp only;omega)] at this
    exact this
  rw [this]
theorem Uh {l:List Ab} (h:Ak l=true):F6 (fun n=>Aa l n)=l :=
 Xq (e:=-1) (by omega) (E7 _) h fun n hn=>by rw [Nj _ hn (Di _ _)]
def G8 (ls:List (List Ab)) (n:Nat):Int:=ls.foldl (fun a l=>max a (Aa l n)) 0
theorem Yb (ls:List (List Ab)) (l:List Ab) (n:Nat):G8 (ls++[l]) n=max (G8 ls n) (Aa l n):=by simp [G8]
theorem Zw (ls:List (List Ab)) (n:Nat):0<=G8 ls n:=by
 have key:∀ (ls:List (List Ab)) (a:Int),0<=a->0<=ls.foldl (fun a l=>max a (Aa l n)) a:=by
  intro ls
  induction ls with
  | nil=>exact fun a h=>h
  | cons l ls ih=>exact fun a h=>ih _ (by show 0<=max _ _;omega)
 exact key ls 0 (by omega)
def E4 (ls:List (List Ab)):List Ab:=F6 (G8 ls)
theorem Gf (a b:List Ab) (n:Nat):G8 [a,b] n=max (Aa a n) (Aa b n):=by
 have:=Di a n
 simp only [G8,List.foldl_cons,List.foldl_nil]
 omega
theorem C13 (a:List Ab) (n:Nat):G8 [a] n=Aa a n:=by
 have:=Di a n
 simp only [G8,List.foldl_cons,List.foldl_nil]
 omega
theorem Gq (ls:List (List Ab)) {n:Nat} (hn:n < 64):Aa (E4 ls) n=G8 ls n:=Nj _ hn (Zw _ _)
def Cn9:List (List Ab)->Nat->Int
 | [],_=>0
 | l :: ls,n=>ls.foldl (fun a l=>min a (Aa l n)) (Aa l n)
def Cn8 (ls:List (List Ab)):List Ab:=F6 (Cn9 ls)
def Cs3 (cs:Array Value):Obj->Obj
 | .cells _ t frozen=>.cells cs t frozen
 | o=>o
def Ch7:Array Value:=#[.int .u8 0,.int .u8 1,.int .u8 56,.int .u8 2,.int .u8 57,.int .u8 49,.int .u8 28,.int .u8 3,.int .u8 61,.int .u8 58,.int .u8 42,.int .u8 50,.int .u8 38,.int .u8 29,.int .u8 17,.int .u8 4,.int .u8 62,.int .u8 47,.int .u8 59,.int .u8 36,.int .u8 45,.int .u8 43,.int .u8 51,.int .u8 22,.int .u8 53,.int .u8 39,.int .u8 33,.int .u8 30,.int .u8 24,.int .u8 18,.int .u8 12,.int .u8 5,.int .u8 63,.int .u8 55,.int .u8 48,.int .u8 27,.int .u8 60,.int .u8 41,.int .u8 37,.int .u8 16,.int .u8 46,.int .u8 35,.int .u8 44,.int .u8 21,.int .u8 52,.int .u8 32,.int .u8 23,.int .u8 11,.int .u8 54,.int .u8 26,.int .u8 40,.int .u8 15,.int .u8 34,.int .u8 20,.int .u8 31,.int .u8 10,.int .u8 25,.int .u8 14,.int .u8 19,.int .u8 9,.int .u8 13,.int .u8 8,.int .u8 7,.int .u8 6]
noncomputable def F4 (os:Os):World :=
 { World.holding Tryz.prog os ⟨#[],#[],[]⟩ with heap:=(World.holding Tryz.prog os ⟨#[],#[],[]⟩).heap.modify 0 (Cs3 Ch7) }
theorem C64 : Tryz.prog.globalNamed "math/bits.deBruijn64tab" = some 0 := by kernel_rfl
theorem Cq4:(Tryz.prog.globals[0]?).map (·.type)=some 267:=by kernel_rfl
theorem Lf {laid : List (String × DataW Unit)} {W : World} (e : (laid.filter fun x => x.1 == "math/bits.deBruijn64tab") = [("math/bits.deBruijn64tab", Lib.tabData .u8 (Lib.deBruijn64tab.map Int.ofNat))]) (h : laidMetH Tryz.prog laid W) : A8 W := by
 have h1 := h.filter (fun x => x.1 == "math/bits.deBruijn64tab")
 rw [e] at h1
 have h2:=Lib.tabIs_of_head (rest:=[]) C64 Cq4 Tryz.underlying267 Tryz.underlying5 (by kernel_rfl) (by kernel_rfl) h1
 intro j hj
 have h3:=h2.cell C64 j (by simpa using hj)
 rw [h3]
 simp [List.getD,hj]
theorem Lj {H:Type} {l:List (DataW H)} (h:Rows.uptoSmall H l=true):∀ d,d∈l->Rows.uptoBulk d<=1048576:=by
 have h2:Rows.uptoBulkAll l<=1048576:=of_decide_eq_true h
 intro d hd
 have:=A65 hd
 omega
end Go.Proofs.YthlgnjlpakimaaaGreatDoor
