/- Contracts of the counts of a vector, the program's and the reference's. -/
import Derived.Test.YtahgkllhbggmgaaGreatDoorLVec
import Derived.StillTailTactics
set_option linter.all false
set_option linter.unnecessarySimpa false
set_option linter.unusedSimpArgs false
set_option linter.unusedVariables false
namespace Go.Proofs.YtahgkllhbggmgaaGreatDoor
open Go.ChangeShapes Go.WideShapes Go.ChangeAt Go.RowKit
def A9:List Ad->Int->Int
 | [],_=>0
 | s :: l,n=>if s.node=n/\Bj s.count s.node=true then s.count else A9 l n
def Dj (f:Nat->Int):Array Value:=G2 64 fun n=>.int .i64 (f n)
theorem J6 (f:Nat->Int):(Dj f).size=64:=Mw _ _
theorem Q2 (f:Nat->Int):(Dj f).all (·.oneCell')=true:=Ts fun _=>rfl
theorem Rs (f:Nat->Int):(Tryz.prog.info? 136).map (·.size)=some (Dj f).size:=by rw [J6];kernel_rfl
set_option maxRecDepth 100000 in
theorem Q5 (l:List Ad) (v:Value) (w:World) (h:Bx w w.heap.size v l) :
  Calls Tryz.prog 92 #[v] w fun e w'=>e=.returned (.agg (Dj fun n=>A9 l n))/\Below w.heap.size w w':=by
 have hle:=h.len_le
 obtain ⟨A,c,rfl,_⟩:=id h
 go_enter Tryz.func92,Tryz.ntmps92
 go_wp2_with fail
 go_loopw [4] (fun k wr=>∃ m:Nat,m<=l.length/\k=.int .i64 ((m:Int) - 1)/\Below w.heap.size w wr/\Blk wr w.heap.size 136 (Dj fun _=>0)/\Blk wr (w.heap.size+1) 136 (Dj fun n=>A9 (l.drop m) n)) (fun k _=>(intOf k+1).toNat)
 case atStart =>
  refine ⟨l.length,Nat.le_refl _,rfl,Ap (Ap (Below.refl _ _)),(Blk.new _ _ _).alloc,?_⟩
  rw [List.drop_length]
  exact Blk.new_at (by simp)
 case round =>
  obtain ⟨m,hm,rfl,hb,hB,hC⟩:=hrel
  cases m with
  | zero =>
   go_wp2_with (first
    | (with_reducible refine wpList_load_row rfl 136 (.tmp 3) rfl (w.heap.size+1) rfl 136 _ (0,0) _ hC.raw Tryz.underlying136 rfl (Rs _) ?_)
    | (with_reducible refine wpList_store_row rfl 136 (.tmp 2) (.tmp 28) rfl w.heap.size _ rfl rfl 136 _ hB.raw (Rs _) ((J6 _).trans (J6 _).symm) (Q2 _) ?_))
   exact bodyPost_ret (results_cell_row Tryz.results92 _ _ w.heap.size 136 _ (0,0) _ rfl (hB.setRow (cs':=Dj fun n=>A9 (l.drop 0) n)).raw Tryz.underlying136 rfl (Rs _)) rfl ⟨rfl,Ln hb (by simp)⟩
  | succ p =>
   obtain ⟨x,hx⟩ : ∃ x,l[p]? = some x:=⟨l[p],List.getElem?_eq_getElem (by omega)⟩
   obtain ⟨b,off,c',hv',hbb,e0,e1,_,_⟩:=Ev h hx
   injection hv' with hv1 hv2 hv3
   subst hv1
   have f0:=(hb.cell (p:=⟨b,off+p*2,none⟩) hbb).trans e0
   have f1:=(hb.cell (p:=⟨b,off+p*2+1,none⟩) hbb).trans e1
   have hd:=Ek hx
   obtain ⟨xc,xn⟩:=x
   simp only at f0 f1 hd
   have Hd:=Lib.hid hd
   clear hd hv2 hv3 e0 e1 hx
   have i1:(p:Int) < (l.length:Int):=by omega
   have i2:(0:Int)<=(p:Int):=by omega
   rw [show ((p+1:Nat):Int) - 1=(p:Int) by omega]
   cases hr:Bj xc xn with
   | false =>
    go_wp2_with fail
    refine (Ks _ _ _ hr).mono ?_
    rintro e w1 ⟨rfl,hb1⟩
    go_wp2_with fail
    refine ⟨⟨p,by omega,rfl,B6 hb hb1,hB.next hb1,?_⟩,by simp [intOf]⟩
    have e:(fun n:Nat=>A9 (l.drop p) n)=fun n:Nat=>A9 (l.drop (p+1)) n:=by
     funext n
     rw [Hd.out,A9,hr,if_neg (by simp)]
    rw [e]
    exact hC.next hb1
   | true =>
    go_wp2_with fail
    refine (Ks _ _ _ hr).mono ?_
    rintro e w1 ⟨rfl,hb1⟩
    replace f0:=Ao hb1 f0
    replace f1:=Ao hb1 f1
    replace hC:=hC.next hb1
    replace hB:=hB.next hb1
    replace hb:=B6 hb hb1
    simp only [Bj,decide_eq_true_eq] at hr
    obtain ⟨r1,r2,r3⟩:=hr
    obtain ⟨n,rfl⟩ : ∃ n:Nat,xn=n:=⟨xn.toNat,by omega⟩
    have r4:n < 64:=by omega
    have c0:=(hC.cell n).trans (Dv r4)
    have d0:=hC.frozen n
    have Hb1:=Lib.hid hb1
    clear hb1
    go_wp2_with fail
    go_still_tail 11,(by kernel_rfl)
    go_wp2_with fail
    refine ⟨⟨p,by omega,rfl,(Yu hb (p:=⟨w.heap.size+1,n,none⟩) (by simp)).drew,(hB.far (by simp) _).drew,?_⟩,by simp [intOf]⟩
    have e:(Dj fun n:Nat=>A9 (l.drop p) n)=(Dj fun n:Nat=>A9 (l.drop (p+1)) n).setIfInBounds n (.int .i64 xc):=by
     rw [Dj,Dj,M9]
     refine F9 fun i _=>?_
     rw [Hd.out,A9]
     have hr:Bj xc n=true:=by simp only [Bj,decide_eq_true_eq];omega
     by_cases hi:i=n
     ·subst hi;simp [hr]
     ·rw [if_neg (by simp;omega),if_neg hi]
    rw [e]
    exact (hC.set_ n _).drew
theorem Vi {l:List Ad} {n:Int} (h:n < 0\/63 < n):A9 l n=0:=by
 induction l with
 | nil=>rfl
 | cons s l ih =>
  rw [A9,if_neg,ih]
  rintro ⟨rfl,h2⟩
  simp only [Bj,decide_eq_true_eq] at h2
  omega
set_option maxRecDepth 100000 in
theorem Bj8 (l:List Ad) (n:Int) (v:Value) (w:World) (h:Bx w w.heap.size v l) :
  Calls Tryz.prog 42 #[v,.int .i64 n] w fun e w'=>e=.returned (.int .i64 (A9 l n))/\Below w.heap.size w w':=by
 obtain ⟨A,c,rfl,_⟩:=id h
 by_cases h0:n < 0
 ·have H:=Lib.hid (Vi (l:=l) (Or.inl h0))
  go_enter Tryz.func42,Tryz.ntmps42
  go_wp2_with fail
  go_ret
  exact ⟨Q3 H.out.symm,Below.refl _ _⟩
 ·by_cases h1:63 < n
  ·have H:=Lib.hid (Vi (l:=l) (Or.inr h1))
   go_enter Tryz.func42,Tryz.ntmps42
   go_wp2_with fail
   go_ret
   exact ⟨Q3 H.out.symm,Below.refl _ _⟩
  ·obtain ⟨k,rfl⟩ : ∃ k:Nat,n=k:=⟨n.toNat,by omega⟩
   have hk:k < 64:=by omega
   have hX:∀ u:World,(Instr.index 136 (.agg (Dj fun n=>A9 l n)) (.int .i64 k)).run Tryz.prog u=.ok (.int .i64 (A9 l k)) u :=
    Qv Tryz.underlying136 Tryz.underlying3 rfl (by kernel_rfl) hk (Dv hk)
   go_enter Tryz.func42,Tryz.ntmps42
   go_wp2_with fail
   refine (Q5 l _ _ h).mono ?_
   rintro e w1 ⟨rfl,hb1⟩
   go_wp2_with fail
   go_ret
   exact ⟨rfl,hb1⟩
theorem Ad1 (l:List Ad) (n:Int) (v:Value) (w:World) (h:Bx w w.heap.size v l) :
  Calls Tryz.prog 86 #[v,.int .i64 n] w fun e w'=>e=.returned (.int .i64 (A9 l n))/\Below w.heap.size w w':=by
 have hle:=h.len_le
 obtain ⟨A,c,rfl,_⟩:=id h
 go_enter Tryz.func86,Tryz.ntmps86
 go_wp2_with fail
 go_loopw [9] (fun k wr=>∃ m:Nat,m<=l.length/\k=.int .i64 m/\A9 l n=A9 (l.drop m) n/\Below w.heap.size w wr) (fun k _=>l.length - (intOf k).toNat)
 case atStart=>exact ⟨0,Nat.zero_le _,rfl,rfl,Below.refl _ _⟩
 case round =>
  obtain ⟨m,hm,rfl,hv,hb⟩:=hrel
  by_cases hlt:m < l.length
  ·obtain ⟨x,hx⟩ : ∃ x,l[m]? = some x:=⟨l[m],List.getElem?_eq_getElem hlt⟩
   obtain ⟨b,off,c',hv',hbb,e0,e1,_,_⟩:=Ev h hx
   injection hv' with hv1 hv2 hv3
   subst hv1
   have f0:=(hb.cell (p:=⟨b,off+m*2,none⟩) hbb).trans e0
   have f1:=(hb.cell (p:=⟨b,off+m*2+1,none⟩) hbb).trans e1
   rw [Ek hx,A9] at hv
   obtain ⟨xc,xn⟩:=x
   simp only at f0 f1 hv
   generalize hr:Bj xc xn=r at hv
   have HV:=Lib.hid hv
   clear hv hv2 hv3 e0 e1 hx
   by_cases hn:xn=n
   ·have ht:(xn==n)=true:=by simpa using hn
    have Hn:=Lib.hid hn
    clear hn
    go_wp2_with fail
    refine (H6 xc xn _ hr).mono ?_
    rintro e' w1 ⟨rfl,hb1⟩
    have B1:=(Blk.new wr 38 #[.int .i64 xc,.int .i64 xn]).next hb1
    have k1:=B6 (Ap hb) hb1
    have b0:=B1.cell 0
    have b1:=B1.cell 1
    simp only [List.getElem?_toArray,List.getElem?_cons_zero,List.getElem?_cons_succ] at b0 b1
    clear hb1 hr
    cases r<;>go_wp2_with fail
    ·refine ⟨⟨m+1,by omega,by go_num,?_,k1⟩,by simp [intOf];omega⟩
     rw [HV.out,if_neg (by simp)]
    ·go_ret
     refine ⟨Q3 ?_,k1⟩
     rw [HV.out,if_pos ⟨Hn.out,trivial⟩]
   ·have ht:(xn==n)=false:=by simpa using hn
    have Hn:=Lib.hid hn
    clear hn
    go_wp2_with fail
    refine ⟨⟨m+1,by omega,by go_num,?_,Ap hb⟩,by simp [intOf];omega⟩
    rw [HV.out,if_neg (fun h=>Hn.out h.1)]
  ·obtain rfl:m=l.length:=by omega
   rw [List.drop_length] at hv
   have HV:=Lib.hid hv
   clear hv
   go_wp2_with fail
   go_ret
   exact ⟨Q3 HV.out.symm,hb⟩
def H5 (l:List Ad) (s:Ad):Bool:=Bj s.count s.node&&decide (s.count<=A9 l s.node)
theorem Zo (l:List Ad) (s:Ad) (v:Value) (w:World) (h:Bx w w.heap.size v l) :
  Calls Tryz.prog 43 #[v,.agg #[.int .i64 s.count,.int .i64 s.node]] w fun e w'=>e=.returned (.bool (H5 l s))/\Below w.heap.size w w':=by
 obtain ⟨A,c,rfl,_⟩:=id h
 unfold H5
 obtain ⟨sc,sn⟩:=s
 simp only
 generalize hr:Bj sc sn=r
 generalize hk:A9 l sn=k
 have HC:∀ u:World,Bx u u.heap.size (.slice A l.length c) l->Calls Tryz.prog 86 #[.slice A l.length c,.int .i64 sn] u fun e w'=>e=.returned (.int .i64 k)/\Below u.heap.size u w':=fun u hu=>hk ▸ Ad1 l sn _ u hu
 have HD:=Lib.hid HC
 clear hk HC
 go_enter Tryz.func43,Tryz.ntmps43
 cases r
 all_goals
  go_wp2_with fail
  have hS:∀ z:BW (w.alloc (.cells #[.int .i64 sc,.int .i64 sn] 38)),Bx z.val z.val.heap.size (.slice A l.length c) l:=fun z=>(h.next (Ap (Below.refl _ _))).next z.below
  have HS:=Lib.hid hS
  clear hS h
  have B:=Blk.new w 38 #[.int .i64 sc,.int .i64 sn]
  have q0:∀ z:BW (w.alloc (.cells #[.int .i64 sc,.int .i64 sn] 38)),z.val.cell? ⟨w.heap.size,0,none⟩=some (.int .i64 sc):=fun z=>z.cell (B.cell 0)
  have q1:∀ z:BW (w.alloc (.cells #[.int .i64 sc,.int .i64 sn] 38)),z.val.cell? ⟨w.heap.size,1,none⟩=some (.int .i64 sn):=fun z=>z.cell (B.cell 1)
  refine Cj (by kernel_rfl) (by kernel_rfl) ?_
  repeat (go_big_quiet_step (first | (go_at_call 93;exact En (H6 _ _ _ hr)) | (go_at_call 86;exact En (HD.out _ (HS.out _)))))
  refine wpQuiet_nil ?_
  intro w1 hb1
  have k1:=B6 (Ap (Below.refl _ _)) hb1
  go_wp2_with fail
  go_ret
  exact ⟨rfl,k1⟩
theorem Bj7 (l:List Ad) (s:Ad) (v:Value) (w:World) (h:Bx w w.heap.size v l) :
  Calls Tryz.prog 44 #[v,.agg #[.int .i64 s.count,.int .i64 s.node]] w fun e w'=>e=.returned (.bool (H5 l s))/\Below w.heap.size w w':=by
 obtain ⟨A,c,rfl,_⟩:=id h
 unfold H5
 obtain ⟨sc,sn⟩:=s
 simp only
 generalize hr:Bj sc sn=r
 generalize hk:A9 l sn=k
 have HC:∀ u:World,Bx u u.heap.size (.slice A l.length c) l->Calls Tryz.prog 42 #[.slice A l.length c,.int .i64 sn] u fun e w'=>e=.returned (.int .i64 k)/\Below u.heap.size u w':=fun u hu=>hk ▸ Bj8 l sn _ u hu
 have HD:=Lib.hid HC
 clear hk HC
 go_enter Tryz.func44,Tryz.ntmps44
 cases r
 all_goals
  go_wp2_with fail
  have hS:∀ z:BW (w.alloc (.cells #[.int .i64 sc,.int .i64 sn] 38)),Bx z.val z.val.heap.size (.slice A l.length c) l:=fun z=>(h.next (Ap (Below.refl _ _))).next z.below
  have HS:=Lib.hid hS
  clear hS h
  have B:=Blk.new w 38 #[.int .i64 sc,.int .i64 sn]
  have q0:∀ z:BW (w.alloc (.cells #[.int .i64 sc,.int .i64 sn] 38)),z.val.cell? ⟨w.heap.size,0,none⟩=some (.int .i64 sc):=fun z=>z.cell (B.cell 0)
  have q1:∀ z:BW (w.alloc (.cells #[.int .i64 sc,.int .i64 sn] 38)),z.val.cell? ⟨w.heap.size,1,none⟩=some (.int .i64 sn):=fun z=>z.cell (B.cell 1)
  refine Cj (by kernel_rfl) (by kernel_rfl) ?_
  repeat (go_big_quiet_step (first | (go_at_call 94;exact En (Ks _ _ _ hr)) | (go_at_call 42;exact En (HD.out _ (HS.out _)))))
  refine wpQuiet_nil ?_
  intro w1 hb1
  have k1:=B6 (Ap (Below.refl _ _)) hb1
  go_wp2_with fail
  go_ret
  exact ⟨rfl,k1⟩
theorem Ac7 {P:Program} {C:Code} {Q:Exit->Act->World->Prop} {a:Act} {w w2:World} {t:TypeId} {z1 z2 c1 c2:Array Value} (hb:Below w.heap.size w w2)
  (h:∀ W,Blk W w2.heap.size t c1->Blk W (w2.heap.size+1) t c2->Below w.heap.size w W->C.wp P Q a W) :
  C.wp P Q a ((((w2.alloc (.cells z1 t)).alloc (.cells z2 t)).setRow w2.heap.size c1).setRow (w2.heap.size+1) c2):=by
 have hs:=hb.size
 refine h _ ?_ ?_ ?_
 ·exact ((Blk.new w2 t z1).alloc.setRow).farRow (by omega)
 ·exact (((Blk.new_at (by simp)):Blk ((w2.alloc (.cells z1 t)).alloc (.cells z2 t)) (w2.heap.size+1) t z2).farRow (by omega)).setRow
 ·exact Ln (Ln (Ap (Ap hb)) (by omega)) (by omega)
def Bi (a b:List Ad):Bool:=decide (∀ n:Nat,n < 64->A9 b n<=A9 a n)
set_option maxRecDepth 100000 in
theorem Tu (l m:List Ad) (v u:Value) (w:World) (h:Bx w w.heap.size v l) (h':Bx w w.heap.size u m) :
  Calls Tryz.prog 280 #[v,u] w fun e w'=>e=.returned (.bool (Bi l m))/\Below w.heap.size w w':=by
 obtain ⟨A,c,rfl,_⟩:=id h
 obtain ⟨A',c',rfl,_⟩:=id h'
 go_enter Tryz.func280,Tryz.ntmps280
 go_wp2_with fail
 refine (Q5 l _ _ h).mono ?_
 rintro e w1 ⟨rfl,hb1⟩
 replace h':=h'.next hb1
 clear h
 go_wp2_with fail
 refine (Q5 m _ _ h').mono ?_
 rintro e w2 ⟨rfl,hb2⟩
 have hb:=B6 hb1 hb2
 clear hb1 hb2 h'
 go_wp2_with (first
  | (with_reducible refine wpList_store_row rfl 136 (.tmp 5) (.tmp 9) rfl w2.heap.size _ rfl rfl 136 _ (Blk.new w2 136 _).alloc.raw (Rs _) (J6 _).symm (Q2 _) ?_)
  | (with_reducible refine wpList_store_row rfl 136 (.tmp 6) (.tmp 11) rfl (w2.heap.size+1) _ rfl rfl 136 _ ((Blk.new_at (by simp)).farRow (by simp)).raw (Rs _) (J6 _).symm (Q2 _) ?_))
 refine Ac7 hb ?_
 intro W hB5 hB6 hbw
 have hBa:=Lib.hid hB5
 have hBb:=Lib.hid hB6
 have hN:=hB5.lt
 generalize w2.heap.size=g at *
 clear hb hB5 hB6
 go_loopw [7] (fun k wr=>∃ n:Nat,n<=64/\k=.int .i64 n/\Below W.heap.size W wr/\∀ i:Nat,i < n->A9 m i<=A9 l i) (fun k _=>64 - (intOf k).toNat)
 case atStart=>exact ⟨0,by omega,rfl,Below.refl _ _,fun i hi=>by omega⟩
 case round =>
  obtain ⟨n,hn,rfl,hb,hall⟩:=hrel
  have Hall:=Lib.hid hall
  clear hall
  by_cases hlt:n < 64
  ·have f0:=(hBa.out.next hb).cell n |>.trans (Dv hlt)
   have f1:=(hBb.out.next hb).cell n |>.trans (Dv hlt)
   simp only at f0 f1
   generalize hx:A9 l n=x at f0
   generalize hy:A9 m n=y at f1
   have HX:=Lib.hid hx
   have HY:=Lib.hid hy
   clear hx hy
   have i1:(n:Int) < 64:=by omega
   go_wp2_with fail
   go_quiet (fail)
   go_wp2_with fail
   ·go_ret
    refine ⟨Ak ?_,B6 hbw (Jb hb _)⟩
    rw [Bi,eq_comm,decide_eq_false_iff_not]
    intro h
    have:=h n hlt
    rw [HX.out,HY.out] at this
    omega
   ·refine ⟨⟨n+1,by omega,by go_num,Jb hb _,fun i hi=>?_⟩,by simp [intOf];omega⟩
    rcases Nat.lt_or_ge i n with c | c
    ·exact Hall.out i c
    ·obtain rfl:i=n:=by omega
     rw [HX.out,HY.out]
     omega
  ·obtain rfl:n=64:=by omega
   go_wp2_with fail
   go_ret
   refine ⟨Ak ?_,B6 hbw hb⟩
   rw [Bi,eq_comm,decide_eq_true_eq]
   exact Hall.out
end Go.Proofs.YtahgkllhbggmgaaGreatDoor
