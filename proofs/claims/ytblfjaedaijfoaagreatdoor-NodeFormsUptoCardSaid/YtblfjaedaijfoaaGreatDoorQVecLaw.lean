/- Plain laws on vectors as counts: the list of counts, and what is joined. -/
import Derived.Test.YtblfjaedaijfoaaGreatDoorQCounts
import Derived.Laws.BitsAllLaws
import Derived.Shelf.Spec.TrailingZeros
set_option linter.all false
set_option linter.unnecessarySimpa false
set_option linter.unusedSimpArgs false
set_option linter.unusedVariables false
namespace Go.Proofs.YtblfjaedaijfoaaGreatDoor
open Go.ChangeShapes Go.WideShapes Go.ChangeAt Go.RowKit
def Cx6:Go.Shelf.Ren:=⟨fun | 29=>316 | n=>n,fun | 0=>0 | 3=>3 | 4=>4 | 5=>5 | 22=>263 | 25=>195 | 54=>327 | n=>n,fun | 1=>1 | n=>n⟩
theorem Cg7:Go.Proofs.Lays7.n29 Tryz.prog Cx6:={
 mixed:=by kernel_rfl
 f29:=Tryz.func316.trans (congrArg some (by kernel_rfl))
 t0:=Tryz.underlying0
 a0:=Tryz.isAgg0
 z0:=Tryz.sizeOf0
 v0:=Tryz.zeroValue0
 i0:=by kernel_rfl
 t3:=Tryz.underlying3
 a3:=Tryz.isAgg3
 z3:=Tryz.sizeOf3
 v3:=Tryz.zeroValue3
 i3:=by kernel_rfl
 t4:=Tryz.underlying4
 a4:=Tryz.isAgg4
 z4:=Tryz.sizeOf4
 v4:=Tryz.zeroValue4
 i4:=by kernel_rfl
 t5:=Tryz.underlying5
 a5:=Tryz.isAgg5
 z5:=Tryz.sizeOf5
 v5:=Tryz.zeroValue5
 i5:=by kernel_rfl
 t22:=Tryz.underlying263
 a22:=Tryz.isAgg263
 z22:=Tryz.sizeOf263
 v22:=Tryz.zeroValue263
 i22:=by kernel_rfl
 t25:=Tryz.underlying195
 a25:=Tryz.isAgg195
 z25:=Tryz.sizeOf195
 v25:=Tryz.zeroValue195
 i25:=by kernel_rfl
 t54:=Tryz.underlying327
 a54:=Tryz.isAgg327
 z54:=Tryz.sizeOf327
 g1:=by kernel_rfl }
def A8 (w:World):Prop:=TabAt 1 Lib.deBruijn64tab w
theorem A8.next {w w1:World} (h:A8 w) (hb:Below w.heap.size w w1):A8 w1:=fun j hj=>As hb (h j hj)
theorem Ap3 (x:Nat) (hx:x < 18446744073709551616) (w:World) (hT:A8 w) :
  Calls Tryz.prog 316 #[.int .u64 x] w fun e w'=>e=.returned (.int .i64 (Lib.ctz 64 x))/\w=w' :=
 (Any7.bits_TrailingZeros64 Cg7 x hx w fun _=>hT).mono fun _ _ ⟨h1,h2⟩=>⟨h1,h2.symm⟩
def Ey (f:Nat->Int) (M:Nat):Array Value:=Jf 65 fun i=>if i < 64 then .int .i64 (f i) else .int .u64 M
theorem Pb (f:Nat->Int) (M:Nat):(Ey f M).size=65:=Tx _ _
theorem A57 (f:Nat->Int) (M:Nat):(Ey f M).all (·.oneCell')=true:=Ws fun i=>by split<;>rfl
theorem Rc (f:Nat->Int) (M:Nat):(Tryz.prog.info? 275).map (·.size)=some (Ey f M).size:=by rw [Pb];kernel_rfl
theorem Q9 {f:Nat->Int} {M n:Nat} (h:n < 64):(Ey f M)[n]? = some (.int .i64 (f n)):=by rw [Ey,F3 (by omega),if_pos h]
theorem Rq {f:Nat->Int} {M:Nat} : (Ey f M)[64]? = some (.int .u64 M):=by rw [Ey,F3 (by omega)];rfl
theorem Az7 {f:Nat->Int} {M n:Nat} (h:n < 64) (x:Int):(Ey f M).setIfInBounds n (.int .i64 x)=Ey (fun k=>if k=n then x else f k) M:=by
 rw [Ey,Nv,Ey]
 refine Ga fun i _=>?_
 by_cases hi:i=n
 ·subst hi;simp [h]
 ·simp [hi]
theorem Vs {f:Nat->Int} {M M':Nat} : (Ey f M).setIfInBounds 64 (.int .u64 M')=Ey f M':=by
 rw [Ey,Nv,Ey]
 refine Ga fun i _=>?_
 by_cases hi:i=64
 ·subst hi;simp
 ·have:i < 64:=by omega
  simp [hi,this]
theorem Se:Ey (fun _=>0) 0=#[.int .i64 0,.int .i64 0,.int .i64 0,.int .i64 0,.int .i64 0,.int .i64 0,.int .i64 0,.int .i64 0,.int .i64 0,.int .i64 0,.int .i64 0,.int .i64 0,.int .i64 0,.int .i64 0,.int .i64 0,.int .i64 0,.int .i64 0,.int .i64 0,.int .i64 0,.int .i64 0,.int .i64 0,.int .i64 0,.int .i64 0,.int .i64 0,.int .i64 0,.int .i64 0,.int .i64 0,.int .i64 0,.int .i64 0,.int .i64 0,.int .i64 0,.int .i64 0,.int .i64 0,.int .i64 0,.int .i64 0,.int .i64 0,.int .i64 0,.int .i64 0,.int .i64 0,.int .i64 0,.int .i64 0,.int .i64 0,.int .i64 0,.int .i64 0,.int .i64 0,.int .i64 0,.int .i64 0,.int .i64 0,.int .i64 0,.int .i64 0,.int .i64 0,.int .i64 0,.int .i64 0,.int .i64 0,.int .i64 0,.int .i64 0,.int .i64 0,.int .i64 0,.int .i64 0,.int .i64 0,.int .i64 0,.int .i64 0,.int .i64 0,.int .i64 0,.int .u64 0]:=by kernel_rfl
theorem Az0 (M n:Nat):(M:Int) / 2 ^ n=((M / 2 ^ n:Nat):Int):=by
 rw [Int.natCast_ediv,Int.natCast_pow];rfl
theorem C48 {M n:Nat} (hM:M < 18446744073709551616):(bits .and .u64 ((M:Int) / 2 ^ n) 1==0)=!M.testBit n:=by
 have h1:M / 2 ^ n < 18446744073709551616:=Nat.lt_of_le_of_lt (Nat.div_le_self _ _) hM
 have e:bits .and .u64 ((M:Int) / 2 ^ n) 1=((M / 2 ^ n &&& 1:Nat):Int):=by
  rw [Az0]
  exact u64_and_nat _ 1 h1 (by omega)
 rw [e,Nat.testBit,Nat.shiftRight_eq_div_pow,Nat.and_comm 1]
 generalize M / 2 ^ n &&& 1=q
 cases q with
 | zero=>rfl
 | succ q=>rw [bne,Bool.not_not];simp<;>omega
theorem Bf3 {M n:Nat} (hM:M < 18446744073709551616) (hn:n < 64):bits .or .u64 (M:Int) (IntKind.u64.wrap (2 ^ n))=((M|||2 ^ n:Nat):Int):=by
 have h2:2 ^ n < 18446744073709551616:=Nat.pow_lt_pow_right (by omega) hn
 have e:IntKind.u64.wrap (2 ^ n)=((2 ^ n:Nat):Int):=by
  rw [IntKind.wrap_u64,show ((2:Int) ^ n)=((2 ^ n:Nat):Int) by rw [Int.natCast_pow];rfl]
  generalize 2 ^ n=q at h2
  omega
 rw [e,u64_or_nat _ _ hM h2]
theorem Ww {M n:Nat} (hM:M < 18446744073709551616) (hn:n < 64):M|||2 ^ n < 18446744073709551616 :=
 Nat.or_lt_two_pow (n:=64) hM (Nat.pow_lt_pow_right (by omega) hn)
theorem B76 (M n i:Nat):(M|||2 ^ n).testBit i=(M.testBit i || decide (n=i)):=by
 rw [Nat.testBit_or,Nat.testBit_two_pow]
theorem Rp {l:List Ab} {n:Int} (h:Aa l n≠0):1<=Aa l n:=by
 induction l with
 | nil=>exact absurd rfl h
 | cons s l ih =>
  rw [Aa] at h ⊢
  split
  ·rename_i hs
   simp only [Bl,decide_eq_true_eq] at hs
   omega
  ·rename_i hs
   rw [if_neg hs] at h
   exact ih h
theorem Lz (l:List Ab) (x:Ab) (n:Int):Aa (l++[x]) n=if Aa l n=0 then (if x.node=n/\Bl x.count x.node=true then x.count else 0) else Aa l n:=by
 induction l with
 | nil=>simp [Aa]
 | cons s l ih =>
  rw [List.cons_append,Aa,Aa,ih]
  by_cases hs:s.node=n/\Bl s.count s.node=true
  ·rw [if_pos hs,if_pos hs,if_neg]
   have:=hs.2
   simp only [Bl,decide_eq_true_eq] at this
   omega
  ·rw [if_neg hs,if_neg hs]
def Qb (p:Nat->Bool):Nat->Nat
 | 0=>0
 | k+1=>if p k then Qb p k|||2 ^ k else Qb p k
theorem A63 (p:Nat->Bool):∀ k i,(Qb p k).testBit i=(decide (i < k)&&p i)
 | 0,i=>by simp [Qb]
 | k+1,i=>by
  have ih:=A63 p k i
  rw [Qb]
  by_cases hk:p k=true
  ·rw [if_pos hk,B76,ih]
   by_cases hi:k=i
   ·subst hi;simp [hk]
   ·rw [decide_eq_false hi,Bool.or_false]
    congr 1
    exact decide_eq_decide.2 ⟨fun h=>by omega,fun h=>by omega⟩
  ·rw [if_neg hk,ih]
   by_cases hi:k=i
   ·subst hi;simp [hk]
   ·congr 1
    exact decide_eq_decide.2 ⟨fun h=>by omega,fun h=>by omega⟩
theorem Xg (p:Nat->Bool):∀ k,k<=64->Qb p k < 18446744073709551616
 | 0,_=>by simp [Qb]
 | k+1,h=>by
  rw [Qb]
  split
  ·exact Ww (Xg p k (by omega)) (by omega)
  ·exact Xg p k (by omega)
theorem Bs9 {M N:Nat} (hM:M < 18446744073709551616) (hN:N < 18446744073709551616) (h:∀ i,i < 64->M.testBit i=N.testBit i):M=N:=by
 apply Nat.eq_of_testBit_eq
 intro i
 rcases Nat.lt_or_ge i 64 with c | c
 ·exact h i c
 ·have hp:(18446744073709551616:Nat)<=2 ^ i:=Nat.pow_le_pow_right (n:=2) (by omega) c
  rw [Nat.testBit_lt_two_pow (Nat.lt_of_lt_of_le hM hp),Nat.testBit_lt_two_pow (Nat.lt_of_lt_of_le hN hp)]
def D3 (l:List Ab):Nat:=Qb (fun n=>!decide (Aa l n=0)) 64
theorem Mm {l:List Ab} {i:Nat} (h:i < 64):(D3 l).testBit i=!decide (Aa l i=0):=by
 rw [D3,A63,decide_eq_true h,Bool.true_and]
theorem M6 (l:List Ab):D3 l < 18446744073709551616:=Xg _ 64 (by omega)
set_option maxRecDepth 100000 in
theorem Tn (l:List Ab) (v:Value) (w:World) (h:C8 w w.heap.size v l) :
  Calls Tryz.prog 269 #[v] w fun e w'=>e=.returned (.agg (Ey (fun n=>Aa l n) (D3 l)))/\Below w.heap.size w w':=by
 have hle:=h.len_le
 obtain ⟨A,c,rfl,_⟩:=id h
 go_enter Tryz.func269,Tryz.ntmps269
 go_wp2_with fail
 go_loopw [7] (fun k wr=>∃ (m M:Nat),m<=l.length/\k=.int .i64 m/\M < 18446744073709551616/\(∀ i:Nat,i < 64->M.testBit i=!decide (Aa (l.take m) i=0))/\Below w.heap.size w wr/\Blk wr w.heap.size 275 (Ey (fun n=>Aa (l.take m) n) M)) (fun k _=>l.length - (intOf k).toNat)
 case atStart => 
  refine ⟨0,0,Nat.zero_le _,rfl,by omega,fun i _=>by simp [Aa],Ai (Below.refl _ _),?_⟩
  rw [show (fun n:Nat=>Aa (l.take 0) n)=fun _=>0 from funext fun n=>by simp [Aa],Se]
  exact Blk.new _ _ _
 case round =>
  obtain ⟨m,M,hm,rfl,hM,hbit,hb,hC⟩:=hrel
  have Hbit:=Lib.hid hbit
  clear hbit
  by_cases hlt:m < l.length
  ·obtain ⟨x,hx⟩ : ∃ x,l[m]? = some x:=⟨l[m],List.getElem?_eq_getElem hlt⟩
   obtain ⟨b,off,c',hv',hbb,e0,e1,_,_⟩:=G0 h hx
   injection hv' with hv1 hv2 hv3
   subst hv1
   have f0:=(hb.cell (p:=⟨b,off+m*2,none⟩) hbb).trans e0
   have f1:=(hb.cell (p:=⟨b,off+m*2+1,none⟩) hbb).trans e1
   have ht:=Du hx
   obtain ⟨xc,xn⟩:=x
   simp only at f0 f1 ht
   have Ht:=Lib.hid ht
   clear ht hv2 hv3 e0 e1 hx
   cases hr:Bl xc xn with
   | false =>
    go_wp2_with fail
    refine (K8 _ _ _ hr).mono ?_
    rintro e w1 ⟨rfl,hb1⟩
    go_wp2_with fail
    refine ⟨⟨m+1,M,by omega,by go_num,hM,fun i hi=>?_,Av (Ai hb) hb1,?_⟩,by simp [intOf];omega⟩
    ·rw [Hbit.out i hi,Ht.out,Lz]
     simp only [hr]
     split<;>simp_all
    ·have e:(fun n:Nat=>Aa (l.take (m+1)) n)=fun n:Nat=>Aa (l.take m) n:=by
      funext n
      rw [Ht.out,Lz]
      simp only [hr]
      split<;>simp_all
     rw [e]
     exact hC.alloc.next hb1
   | true =>
    go_wp2_with fail
    refine (K8 _ _ _ hr).mono ?_
    rintro e w1 ⟨rfl,hb1⟩
    have B1:=(Blk.new wr 53 #[.int .i64 xc,.int .i64 xn]).next hb1
    have hC0:=hC
    have hb0:=hb
    replace hC:=hC.alloc (o:=.cells #[.int .i64 xc,.int .i64 xn] 53) |>.next hb1
    replace hb:=Av (Ai hb) hb1
    simp only [Bl,decide_eq_true_eq] at hr
    obtain ⟨r1,r2,r3⟩:=hr
    obtain ⟨n,rfl⟩ : ∃ n:Nat,xn=n:=⟨xn.toNat,by omega⟩
    have r4:n < 64:=by omega
    have c0:=(hC.cell n).trans (Q9 r4)
    have c1:=(hC.cell 64).trans Rq
    have d0:=hC.frozen n
    have d1:=hC.frozen 64
    have b0:=B1.cell 0
    have b1:=B1.cell 1
    simp only [List.getElem?_toArray,List.getElem?_cons_zero,List.getElem?_cons_succ] at b0 b1
    have hne:w.heap.size < wr.heap.size:=by have:=hb0.size;exact hC0.lt
    have ht:=C48 (n:=n) hM
    have Hb1:=Lib.hid hb1
    clear hb1 hC0 hb0
    cases hq:M.testBit n with
    | true =>
     rw [hq] at ht
     simp only [Bool.not_true] at ht
     go_wp2_with fail
     rw [Hbit.out n r4,Bool.not_eq_true',decide_eq_false_iff_not] at hq
     have key:∀ i:Nat,Aa (l.take (m+1)) i=Aa (l.take m) i:=fun i=>by
      rw [Ht.out,Lz]
      split
      ·rename_i h0
       rw [if_neg,h0]
       rintro ⟨h1,_⟩
       simp only at h1
       rw [<-h1] at h0
       exact hq h0
      ·rfl
     refine ⟨⟨m+1,M,by omega,by go_num,hM,fun i hi=>by rw [key,Hbit.out i hi],hb,?_⟩,by simp [intOf];omega⟩
     rw [funext key]
     exact hC
    | false =>
     rw [hq] at ht
     simp only [Bool.not_false] at ht
     go_wp2_with fail
     rw [Hbit.out n r4,Bool.not_eq_false',decide_eq_true_eq] at hq
     have key:∀ i:Nat,Aa (l.take (m+1)) i=if i=n then xc else Aa (l.take m) i:=fun i=>by
      rw [Ht.out,Lz]
      have hr:Bl xc n=true:=by simp only [Bl,decide_eq_true_eq];omega
      by_cases hi:i=n
      ·subst hi
       rw [if_pos hq,if_pos ⟨rfl,hr⟩,if_pos rfl]
      ·rw [if_neg hi]
       split
       ·rename_i h0
        rw [if_neg (by rintro ⟨h1,_⟩;simp only at h1;omega),h0]
       ·rfl
     refine ⟨⟨m+1,M|||2 ^ n,by omega,by go_num,Ww hM r4,fun i hi=>?_,A62 (A62 hb (by simp)) (by simp),?_⟩,by simp [intOf];omega⟩
     ·rw [key,B76,Hbit.out i hi]
      by_cases hin:i=n
      ·subst hin;simp;omega
      ·rw [if_neg hin,decide_eq_false (p:=n=i) (fun e=>hin e.symm),Bool.or_false]
     ·rw [funext key,Bf3 hM r4]
      have:=(hC.set_ n (.int .i64 xc)).set_ 64 (.int .u64 ((M|||2 ^ n:Nat):Int))
      rw [Az7 r4,Vs] at this
      exact this
  ·obtain rfl:m=l.length:=by omega
   have hT:l.take l.length=l:=List.take_length
   have hMm:M=D3 l:=Bs9 hM (M6 l) fun i hi=>by rw [Hbit.out i hi,hT,Mm hi]
   rw [hT,hMm] at hC
   clear hT hMm
   go_wp2_with (first
    | (with_reducible refine wpList_load_row rfl 275 (.tmp 2) rfl w.heap.size rfl 275 _ (0,0) _ hC.raw Tryz.underlying275 rfl (Rc _ _) ?_)
    | (with_reducible refine wpList_store_row rfl 275 (.tmp 2) (.tmp 38) rfl w.heap.size _ rfl rfl 275 _ hC.raw (Rc _ _) rfl (A57 _ _) ?_))
   exact bodyPost_ret (results_cell_row Tryz.results269 _ _ w.heap.size 275 _ (0,0) _ rfl (hC.setRow (cs':=Ey (fun n=>Aa l n) (D3 l))).raw Tryz.underlying275 rfl (Rc _ _)) rfl ⟨rfl,Na hb (by simp)⟩
theorem Ed (l:List Ab) (n:Int):0<=Aa l n:=by
 by_cases h:Aa l n=0
 ·omega
 ·have:=Rp h;omega
def Dl (c:Nat->Int):Nat->List Ab
 | 0=>[]
 | k+1=>if 0 < c k then Dl c k++[⟨c k,k⟩] else Dl c k
def Fi (c:Nat->Int):List Ab:=Dl c 64
theorem Ql (c:Nat->Int):∀ k,(Dl c k).length<=k
 | 0=>by simp [Dl]
 | k+1=>by
  have:=Ql c k
  unfold Dl
  split
  ·simp;omega
  ·omega
theorem Sq {c d:Nat->Int} : ∀ {k:Nat},(∀ n,n < k->c n=d n)->Dl c k=Dl d k
 | 0,_=>rfl
 | k+1,h=>by rw [Dl,Dl,Sq (k:=k) (fun n hn=>h n (by omega)),h k (by omega)]
theorem Lb {c d:Nat->Int} (h:∀ n,n < 64->c n=d n):Fi c=Fi d:=Sq h
theorem Bk4 (c:Nat->Int):(Fi c).length<=64:=Ql c 64
theorem A56 (l m:List Ab) (n:Int):Aa (l++m) n=if Aa l n=0 then Aa m n else Aa l n:=by
 induction l with
 | nil=>simp [Aa]
 | cons s l ih =>
  rw [List.cons_append,Aa,Aa,ih]
  by_cases hs:s.node=n/\Bl s.count s.node=true
  ·rw [if_pos hs,if_pos hs,if_neg]
   have:=hs.2
   simp only [Bl,decide_eq_true_eq] at this
   omega
  ·rw [if_neg hs,if_neg hs]
theorem Vr (c:Nat->Int):∀ (k:Nat),k<=64->∀ n:Nat,Aa (Dl c k) n=if n < k/\0 < c n then c n else 0
 | 0,_,n=>by simp [Dl,Aa]
 | k+1,hk,n=>by
  have ih:=Vr c k (by omega) n
  unfold Dl
  by_cases h0:0 < c k
  ·rw [if_pos h0,A56,ih]
   by_cases hn:n < k/\0 < c n
   ·rw [if_pos hn,if_neg (by omega),if_pos ⟨by omega,hn.2⟩]
   ·rw [if_neg hn,if_pos rfl,Aa]
    by_cases he:n=k
    ·subst he
     rw [if_pos ⟨rfl,by simp only [Bl,decide_eq_true_eq];omega⟩,if_pos ⟨by omega,h0⟩]
    ·rw [if_neg (by simp only;omega),if_neg (by omega)]
     rfl
  ·rw [if_neg h0,ih]
   by_cases he:n=k
   ·subst he
    rw [if_neg (by omega),if_neg (by omega)]
   ·by_cases hn:n < k/\0 < c n
    ·rw [if_pos hn,if_pos ⟨by omega,hn.2⟩]
    ·rw [if_neg hn,if_neg (by omega)]
theorem La (c:Nat->Int) {n:Nat} (hn:n < 64) (h0:0<=c n):Aa (Fi c) n=c n:=by
 rw [Fi,Vr c 64 (by omega)]
 split<;>omega
theorem Uk:∀ {l:List Ab} {e:Int} {s:Ab},Ee e (l++[s])=(Ee e l&&(Bl s.count s.node&&decide ((l.getLast?.map (·.node)).getD e < s.node)))
 | [],e,s=>by
  show ((Bl s.count s.node&&decide (e < s.node))&&true)=(true&&(Bl s.count s.node&&decide (e < s.node)))
  rw [Bool.and_true,Bool.true_and]
 | x :: l,e,s=>by
  have:((x :: l).getLast?.map (·.node)).getD e=(l.getLast?.map (·.node)).getD x.node:=by
   cases l with
   | nil=>rfl
   | cons y l=>simp [List.getLast?_cons]
  rw [this]
  show ((Bl x.count x.node&&decide (e < x.node))&&Ee x.node (l++[s]))=(((Bl x.count x.node&&decide (e < x.node))&&Ee x.node l)&&_)
  rw [Uk,Bool.and_assoc,Bool.and_assoc,Bool.and_assoc]
theorem Uj (c:Nat->Int):∀ k,k<=64->Ee (-1) (Dl c k)=true/\((Dl c k).getLast?.map (·.node)).getD (-1) < (k:Int)
 | 0,_=>⟨rfl,by simp [Dl]⟩
 | k+1,hk=>by
  obtain ⟨h1,h2⟩:=Uj c k (by omega)
  unfold Dl
  split
  ·rename_i h0
   refine ⟨?_,by simp;omega⟩
   rw [Uk,h1,Bool.true_and,Bool.and_eq_true,decide_eq_true_eq]
   exact ⟨by simp only [Bl,decide_eq_true_eq];omega,h2⟩
  ·exact ⟨h1,by omega⟩
theorem J0 (c:Nat->Int):Ak (Fi c)=true:=(Uj c 64 (by omega)).1
theorem Jd {e:Int} : ∀ {l:List Ab},Ee e l=true->∀ n:Int,n<=e->Aa l n=0
 | [],_,_,_=>rfl
 | s :: l,h,n,hn=>by
  simp only [Ee,Bool.and_eq_true,decide_eq_true_eq] at h
  rw [Aa,if_neg (by omega)]
  exact Jd h.2 n (by omega)
theorem To:∀ {l m:List Ab} {e:Int},-1<=e->Ee e l=true->Ee e m=true->(∀ n:Nat,n < 64->Aa l n=Aa m n)->l=m
 | [],[],_,_,_,_,_=>rfl
 | [],s :: m,e,he,_,h',h=>by
  simp only [Ee,Bool.and_eq_true,decide_eq_true_eq,Bl] at h'
  have:=h s.node.toNat (by omega)
  rw [Aa,Aa,show ((s.node.toNat:Nat):Int)=s.node by omega,if_pos ⟨rfl,by simp only [Bl,decide_eq_true_eq];omega⟩] at this
  omega
 | s :: l,[],e,he,h',_,h=>by
  simp only [Ee,Bool.and_eq_true,decide_eq_true_eq,Bl] at h'
  have:=h s.node.toNat (by omega)
  rw [Aa,Aa,show ((s.node.toNat:Nat):Int)=s.node by omega,if_pos ⟨rfl,by simp only [Bl,decide_eq_true_eq];omega⟩] at this
  omega
 | s :: l,t :: m,e,he,hl,hm,h=>by
  have h1:=hl
  have h2:=hm
  simp only [Ee,Bool.and_eq_true,decide_eq_true_eq,Bl] at h1 h2
  have hs:=h s.node.toNat (by omega)
  have ht:=h t.node.toNat (by omega)
  rw [show ((s.node.toNat:Nat):Int)=s.node by omega] at hs
  rw [show ((t.node.toNat:Nat):Int)=t.node by omega] at ht
  have cs:Aa (s :: l) s.node=s.count:=by rw [Aa,if_pos ⟨rfl,by simp only [Bl,decide_eq_true_eq];omega⟩]
  have ct:Aa (t :: m) t.node=t.count:=by rw [Aa,if_pos ⟨rfl,by simp only [Bl,decide_eq_true_eq];omega⟩]
  have hn:s.node=t.node:=by
   rcases Int.lt_trichotomy s.node t.node with c | c | c
   ·exfalso
    rw [cs,Aa,if_neg (by omega),Jd h2.2 _ (by omega)] at hs
    omega
   ·exact c
   ·exfalso
    rw [ct,Aa,if_neg (by omega),Jd h1.2 _ (by omega)] at ht
    omega
  rw [cs,hn,ct] at hs
  obtain ⟨sc,sn⟩:=s
  obtain ⟨tc,tn⟩:=t
  simp only at hn hs h1 h2
  subst hn hs
  have:l=m:=by
   refine To (e:=sn) (by omega) h1.2 h2.2 fun n hn'=>?_
   have:=h n hn'
   rw [Aa,Aa] at this
   by_cases he':sn=n
   ·rw [Jd h1.2 _ (by omega),Jd h2.2 _ (by omega)]
   ·rw [if_neg (by simp only;omega),if_neg (by simp only;omega)] at this
    exact this
  rw [this]
theorem Qm {l:List Ab} (h:Ak l=true):Fi (fun n=>Aa l n)=l :=
 To (e:=-1) (by omega) (J0 _) h fun n hn=>by rw [La _ hn (Ed _ _)]
theorem Sr {l:List Ab} (h:Ak l=true):l.length<=64:=by rw [<-Qm h];exact Bk4 _
def Fb (ls:List (List Ab)) (n:Nat):Int:=ls.foldl (fun a l=>max a (Aa l n)) 0
theorem U2 (ls:List (List Ab)) (l:List Ab) (n:Nat):Fb (ls++[l]) n=max (Fb ls n) (Aa l n):=by simp [Fb]
theorem Vl (ls:List (List Ab)) (n:Nat):0<=Fb ls n:=by
 have key:∀ (ls:List (List Ab)) (a:Int),0<=a->0<=ls.foldl (fun a l=>max a (Aa l n)) a:=by
  intro ls
  induction ls with
  | nil=>exact fun a h=>h
  | cons l ls ih=>exact fun a h=>ih _ (by show 0<=max _ _;omega)
 exact key ls 0 (by omega)
def Di (ls:List (List Ab)):List Ab:=Fi (Fb ls)
theorem Ad4 (a b:List Ab) (n:Nat):Fb [a,b] n=max (Aa a n) (Aa b n):=by
 have:=Ed a n
 simp only [Fb,List.foldl_cons,List.foldl_nil]
 omega
theorem Bq2 (a:List Ab) (n:Nat):Fb [a] n=Aa a n:=by
 have:=Ed a n
 simp only [Fb,List.foldl_cons,List.foldl_nil]
 omega
theorem A87 (ls:List (List Ab)) {n:Nat} (hn:n < 64):Aa (Di ls) n=Fb ls n:=La _ hn (Vl _ _)
def Ce1:List (List Ab)->Nat->Int
 | [],_=>0
 | l :: ls,n=>ls.foldl (fun a l=>min a (Aa l n)) (Aa l n)
def Ce0 (ls:List (List Ab)):List Ab:=Fi (Ce1 ls)
end Go.Proofs.YtblfjaedaijfoaaGreatDoor
