/- Contracts of the counts of a vector, the program's and the reference's. -/
import Derived.Test.YtblfjaedaijfoaaGreatDoorQVec
import Derived.StillTailTactics
set_option linter.all false
set_option linter.unnecessarySimpa false
set_option linter.unusedSimpArgs false
set_option linter.unusedVariables false
namespace Go.Proofs.YtblfjaedaijfoaaGreatDoor
open Go.ChangeShapes Go.WideShapes Go.ChangeAt Go.RowKit
def Aa:List Ab->Int->Int
 | [],_=>0
 | s :: l,n=>if s.node=n/\Bl s.count s.node=true then s.count else Aa l n
def E7 (f:Nat->Int):Array Value:=Jf 64 fun n=>.int .i64 (f n)
theorem L0 (f:Nat->Int):(E7 f).size=64:=Tx _ _
theorem S0 (f:Nat->Int):(E7 f).all (·.oneCell')=true:=Ws fun _=>rfl
theorem U5 (f:Nat->Int):(Tryz.prog.info? 246).map (·.size)=some (E7 f).size:=by rw [L0];kernel_rfl
set_option maxRecDepth 100000 in
theorem S3 (l:List Ab) (v:Value) (w:World) (h:C8 w w.heap.size v l) :
  Calls Tryz.prog 236 #[v] w fun e w'=>e=.returned (.agg (E7 fun n=>Aa l n))/\Below w.heap.size w w':=by
 have hle:=h.len_le
 obtain ⟨A,c,rfl,_⟩:=id h
 go_enter Tryz.func236,Tryz.ntmps236
 go_wp2_with fail
 go_loopw [4] (fun k wr=>∃ m:Nat,m<=l.length/\k=.int .i64 ((m:Int) - 1)/\Below w.heap.size w wr/\Blk wr w.heap.size 246 (E7 fun _=>0)/\Blk wr (w.heap.size+1) 246 (E7 fun n=>Aa (l.drop m) n)) (fun k _=>(intOf k+1).toNat)
 case atStart =>
  refine ⟨l.length,Nat.le_refl _,rfl,Ai (Ai (Below.refl _ _)),(Blk.new _ _ _).alloc,?_⟩
  rw [List.drop_length]
  exact Blk.new_at (by simp)
 case round =>
  obtain ⟨m,hm,rfl,hb,hB,hC⟩:=hrel
  cases m with
  | zero =>
   go_wp2_with (first
    | (with_reducible refine wpList_load_row rfl 246 (.tmp 3) rfl (w.heap.size+1) rfl 246 _ (0,0) _ hC.raw Tryz.underlying246 rfl (U5 _) ?_)
    | (with_reducible refine wpList_store_row rfl 246 (.tmp 2) (.tmp 28) rfl w.heap.size _ rfl rfl 246 _ hB.raw (U5 _) ((L0 _).trans (L0 _).symm) (S0 _) ?_))
   exact bodyPost_ret (results_cell_row Tryz.results236 _ _ w.heap.size 246 _ (0,0) _ rfl (hB.setRow (cs':=E7 fun n=>Aa (l.drop 0) n)).raw Tryz.underlying246 rfl (U5 _)) rfl ⟨rfl,Na hb (by simp)⟩
  | succ p =>
   obtain ⟨x,hx⟩ : ∃ x,l[p]? = some x:=⟨l[p],List.getElem?_eq_getElem (by omega)⟩
   obtain ⟨b,off,c',hv',hbb,e0,e1,_,_⟩:=G0 h hx
   injection hv' with hv1 hv2 hv3
   subst hv1
   have f0:=(hb.cell (p:=⟨b,off+p*2,none⟩) hbb).trans e0
   have f1:=(hb.cell (p:=⟨b,off+p*2+1,none⟩) hbb).trans e1
   have hd:=Eh hx
   obtain ⟨xc,xn⟩:=x
   simp only at f0 f1 hd
   have Hd:=Lib.hid hd
   clear hd hv2 hv3 e0 e1 hx
   have i1:(p:Int) < (l.length:Int):=by omega
   have i2:(0:Int)<=(p:Int):=by omega
   rw [show ((p+1:Nat):Int) - 1=(p:Int) by omega]
   cases hr:Bl xc xn with
   | false =>
    go_wp2_with fail
    refine (Mi _ _ _ hr).mono ?_
    rintro e w1 ⟨rfl,hb1⟩
    go_wp2_with fail
    refine ⟨⟨p,by omega,rfl,Av hb hb1,hB.next hb1,?_⟩,by simp [intOf]⟩
    have e:(fun n:Nat=>Aa (l.drop p) n)=fun n:Nat=>Aa (l.drop (p+1)) n:=by
     funext n
     rw [Hd.out,Aa,hr,if_neg (by simp)]
    rw [e]
    exact hC.next hb1
   | true =>
    go_wp2_with fail
    refine (Mi _ _ _ hr).mono ?_
    rintro e w1 ⟨rfl,hb1⟩
    replace f0:=As hb1 f0
    replace f1:=As hb1 f1
    replace hC:=hC.next hb1
    replace hB:=hB.next hb1
    replace hb:=Av hb hb1
    simp only [Bl,decide_eq_true_eq] at hr
    obtain ⟨r1,r2,r3⟩:=hr
    obtain ⟨n,rfl⟩ : ∃ n:Nat,xn=n:=⟨xn.toNat,by omega⟩
    have r4:n < 64:=by omega
    have c0:=(hC.cell n).trans (F3 r4)
    have d0:=hC.frozen n
    have Hb1:=Lib.hid hb1
    clear hb1
    go_wp2_with fail
    go_still_tail 11,(by kernel_rfl)
    go_wp2_with fail
    refine ⟨⟨p,by omega,rfl,(A62 hb (p:=⟨w.heap.size+1,n,none⟩) (by simp)).drew,(hB.far (by simp) _).drew,?_⟩,by simp [intOf]⟩
    have e:(E7 fun n:Nat=>Aa (l.drop p) n)=(E7 fun n:Nat=>Aa (l.drop (p+1)) n).setIfInBounds n (.int .i64 xc):=by
     rw [E7,E7,Nv]
     refine Ga fun i _=>?_
     rw [Hd.out,Aa]
     have hr:Bl xc n=true:=by simp only [Bl,decide_eq_true_eq];omega
     by_cases hi:i=n
     ·subst hi;simp [hr]
     ·rw [if_neg (by simp;omega),if_neg hi]
    rw [e]
    exact (hC.set_ n _).drew
theorem Yd {l:List Ab} {n:Int} (h:n < 0\/63 < n):Aa l n=0:=by
 induction l with
 | nil=>rfl
 | cons s l ih =>
  rw [Aa,if_neg,ih]
  rintro ⟨rfl,h2⟩
  simp only [Bl,decide_eq_true_eq] at h2
  omega
set_option maxRecDepth 100000 in
theorem Bx3 (l:List Ab) (n:Int) (v:Value) (w:World) (h:C8 w w.heap.size v l) :
  Calls Tryz.prog 272 #[v,.int .i64 n] w fun e w'=>e=.returned (.int .i64 (Aa l n))/\Below w.heap.size w w':=by
 obtain ⟨A,c,rfl,_⟩:=id h
 by_cases h0:n < 0
 ·have H:=Lib.hid (Yd (l:=l) (Or.inl h0))
  go_enter Tryz.func272,Tryz.ntmps272
  go_wp2_with fail
  go_ret
  exact ⟨S1 H.out.symm,Below.refl _ _⟩
 ·by_cases h1:63 < n
  ·have H:=Lib.hid (Yd (l:=l) (Or.inr h1))
   go_enter Tryz.func272,Tryz.ntmps272
   go_wp2_with fail
   go_ret
   exact ⟨S1 H.out.symm,Below.refl _ _⟩
  ·obtain ⟨k,rfl⟩ : ∃ k:Nat,n=k:=⟨n.toNat,by omega⟩
   have hk:k < 64:=by omega
   have hX:∀ u:World,(Instr.index 246 (.agg (E7 fun n=>Aa l n)) (.int .i64 k)).run Tryz.prog u=.ok (.int .i64 (Aa l k)) u :=
    T6 Tryz.underlying246 Tryz.underlying3 rfl (by kernel_rfl) hk (F3 hk)
   go_enter Tryz.func272,Tryz.ntmps272
   go_wp2_with fail
   refine (S3 l _ _ h).mono ?_
   rintro e w1 ⟨rfl,hb1⟩
   go_wp2_with fail
   go_ret
   exact ⟨rfl,hb1⟩
theorem Xo (l:List Ab) (n:Int) (v:Value) (w:World) (h:C8 w w.heap.size v l) :
  Calls Tryz.prog 270 #[v,.int .i64 n] w fun e w'=>e=.returned (.int .i64 (Aa l n))/\Below w.heap.size w w':=by
 have hle:=h.len_le
 obtain ⟨A,c,rfl,_⟩:=id h
 go_enter Tryz.func270,Tryz.ntmps270
 go_wp2_with fail
 go_loopw [9] (fun k wr=>∃ m:Nat,m<=l.length/\k=.int .i64 m/\Aa l n=Aa (l.drop m) n/\Below w.heap.size w wr) (fun k _=>l.length - (intOf k).toNat)
 case atStart=>exact ⟨0,Nat.zero_le _,rfl,rfl,Below.refl _ _⟩
 case round =>
  obtain ⟨m,hm,rfl,hv,hb⟩:=hrel
  by_cases hlt:m < l.length
  ·obtain ⟨x,hx⟩ : ∃ x,l[m]? = some x:=⟨l[m],List.getElem?_eq_getElem hlt⟩
   obtain ⟨b,off,c',hv',hbb,e0,e1,_,_⟩:=G0 h hx
   injection hv' with hv1 hv2 hv3
   subst hv1
   have f0:=(hb.cell (p:=⟨b,off+m*2,none⟩) hbb).trans e0
   have f1:=(hb.cell (p:=⟨b,off+m*2+1,none⟩) hbb).trans e1
   rw [Eh hx,Aa] at hv
   obtain ⟨xc,xn⟩:=x
   simp only at f0 f1 hv
   generalize hr:Bl xc xn=r at hv
   have HV:=Lib.hid hv
   clear hv hv2 hv3 e0 e1 hx
   by_cases hn:xn=n
   ·have ht:(xn==n)=true:=by simpa using hn
    have Hn:=Lib.hid hn
    clear hn
    go_wp2_with fail
    refine (K8 xc xn _ hr).mono ?_
    rintro e' w1 ⟨rfl,hb1⟩
    have B1:=(Blk.new wr 53 #[.int .i64 xc,.int .i64 xn]).next hb1
    have k1:=Av (Ai hb) hb1
    have b0:=B1.cell 0
    have b1:=B1.cell 1
    simp only [List.getElem?_toArray,List.getElem?_cons_zero,List.getElem?_cons_succ] at b0 b1
    clear hb1 hr
    cases r<;>go_wp2_with fail
    ·refine ⟨⟨m+1,by omega,by go_num,?_,k1⟩,by simp [intOf];omega⟩
     rw [HV.out,if_neg (by simp)]
    ·go_ret
     refine ⟨S1 ?_,k1⟩
     rw [HV.out,if_pos ⟨Hn.out,trivial⟩]
   ·have ht:(xn==n)=false:=by simpa using hn
    have Hn:=Lib.hid hn
    clear hn
    go_wp2_with fail
    refine ⟨⟨m+1,by omega,by go_num,?_,Ai hb⟩,by simp [intOf];omega⟩
    rw [HV.out,if_neg (fun h=>Hn.out h.1)]
  ·obtain rfl:m=l.length:=by omega
   rw [List.drop_length] at hv
   have HV:=Lib.hid hv
   clear hv
   go_wp2_with fail
   go_ret
   exact ⟨S1 HV.out.symm,hb⟩
def E4 (l:List Ab) (s:Ab):Bool:=Bl s.count s.node&&decide (s.count<=Aa l s.node)
theorem A91 (l:List Ab) (s:Ab) (v:Value) (w:World) (h:C8 w w.heap.size v l) :
  Calls Tryz.prog 196 #[v,.agg #[.int .i64 s.count,.int .i64 s.node]] w fun e w'=>e=.returned (.bool (E4 l s))/\Below w.heap.size w w':=by
 obtain ⟨A,c,rfl,_⟩:=id h
 unfold E4
 obtain ⟨sc,sn⟩:=s
 simp only
 generalize hr:Bl sc sn=r
 generalize hk:Aa l sn=k
 have HC:∀ u:World,C8 u u.heap.size (.slice A l.length c) l->Calls Tryz.prog 270 #[.slice A l.length c,.int .i64 sn] u fun e w'=>e=.returned (.int .i64 k)/\Below u.heap.size u w':=fun u hu=>hk ▸ Xo l sn _ u hu
 have HD:=Lib.hid HC
 clear hk HC
 go_enter Tryz.func196,Tryz.ntmps196
 cases r
 all_goals
  go_wp2_with fail
  have hS:∀ z:BW (w.alloc (.cells #[.int .i64 sc,.int .i64 sn] 53)),C8 z.val z.val.heap.size (.slice A l.length c) l:=fun z=>(h.next (Ai (Below.refl _ _))).next z.below
  have HS:=Lib.hid hS
  clear hS h
  have B:=Blk.new w 53 #[.int .i64 sc,.int .i64 sn]
  have q0:∀ z:BW (w.alloc (.cells #[.int .i64 sc,.int .i64 sn] 53)),z.val.cell? ⟨w.heap.size,0,none⟩=some (.int .i64 sc):=fun z=>z.cell (B.cell 0)
  have q1:∀ z:BW (w.alloc (.cells #[.int .i64 sc,.int .i64 sn] 53)),z.val.cell? ⟨w.heap.size,1,none⟩=some (.int .i64 sn):=fun z=>z.cell (B.cell 1)
  refine Cd (by kernel_rfl) (by kernel_rfl) ?_
  repeat (go_big_quiet_step (first | (go_at_call 192;exact Fl (K8 _ _ _ hr)) | (go_at_call 270;exact Fl (HD.out _ (HS.out _)))))
  refine wpQuiet_nil ?_
  intro w1 hb1
  have k1:=Av (Ai (Below.refl _ _)) hb1
  go_wp2_with fail
  go_ret
  exact ⟨rfl,k1⟩
theorem Bx2 (l:List Ab) (s:Ab) (v:Value) (w:World) (h:C8 w w.heap.size v l) :
  Calls Tryz.prog 206 #[v,.agg #[.int .i64 s.count,.int .i64 s.node]] w fun e w'=>e=.returned (.bool (E4 l s))/\Below w.heap.size w w':=by
 obtain ⟨A,c,rfl,_⟩:=id h
 unfold E4
 obtain ⟨sc,sn⟩:=s
 simp only
 generalize hr:Bl sc sn=r
 generalize hk:Aa l sn=k
 have HC:∀ u:World,C8 u u.heap.size (.slice A l.length c) l->Calls Tryz.prog 272 #[.slice A l.length c,.int .i64 sn] u fun e w'=>e=.returned (.int .i64 k)/\Below u.heap.size u w':=fun u hu=>hk ▸ Bx3 l sn _ u hu
 have HD:=Lib.hid HC
 clear hk HC
 go_enter Tryz.func206,Tryz.ntmps206
 cases r
 all_goals
  go_wp2_with fail
  have hS:∀ z:BW (w.alloc (.cells #[.int .i64 sc,.int .i64 sn] 53)),C8 z.val z.val.heap.size (.slice A l.length c) l:=fun z=>(h.next (Ai (Below.refl _ _))).next z.below
  have HS:=Lib.hid hS
  clear hS h
  have B:=Blk.new w 53 #[.int .i64 sc,.int .i64 sn]
  have q0:∀ z:BW (w.alloc (.cells #[.int .i64 sc,.int .i64 sn] 53)),z.val.cell? ⟨w.heap.size,0,none⟩=some (.int .i64 sc):=fun z=>z.cell (B.cell 0)
  have q1:∀ z:BW (w.alloc (.cells #[.int .i64 sc,.int .i64 sn] 53)),z.val.cell? ⟨w.heap.size,1,none⟩=some (.int .i64 sn):=fun z=>z.cell (B.cell 1)
  refine Cd (by kernel_rfl) (by kernel_rfl) ?_
  repeat (go_big_quiet_step (first | (go_at_call 202;exact Fl (Mi _ _ _ hr)) | (go_at_call 272;exact Fl (HD.out _ (HS.out _)))))
  refine wpQuiet_nil ?_
  intro w1 hb1
  have k1:=Av (Ai (Below.refl _ _)) hb1
  go_wp2_with fail
  go_ret
  exact ⟨rfl,k1⟩
theorem Ao5 {P:Program} {C:Code} {Q:Exit->Act->World->Prop} {a:Act} {w w2:World} {t:TypeId} {z1 z2 c1 c2:Array Value} (hb:Below w.heap.size w w2)
  (h:∀ W,Blk W w2.heap.size t c1->Blk W (w2.heap.size+1) t c2->Below w.heap.size w W->C.wp P Q a W) :
  C.wp P Q a ((((w2.alloc (.cells z1 t)).alloc (.cells z2 t)).setRow w2.heap.size c1).setRow (w2.heap.size+1) c2):=by
 have hs:=hb.size
 refine h _ ?_ ?_ ?_
 ·exact ((Blk.new w2 t z1).alloc.setRow).farRow (by omega)
 ·exact (((Blk.new_at (by simp)):Blk ((w2.alloc (.cells z1 t)).alloc (.cells z2 t)) (w2.heap.size+1) t z2).farRow (by omega)).setRow
 ·exact Na (Na (Ai (Ai hb)) (by omega)) (by omega)
def Aw (a b:List Ab):Bool:=decide (∀ n:Nat,n < 64->Aa b n<=Aa a n)
set_option maxRecDepth 100000 in
theorem Wu (l m:List Ab) (v u:Value) (w:World) (h:C8 w w.heap.size v l) (h':C8 w w.heap.size u m) :
  Calls Tryz.prog 205 #[v,u] w fun e w'=>e=.returned (.bool (Aw l m))/\Below w.heap.size w w':=by
 obtain ⟨A,c,rfl,_⟩:=id h
 obtain ⟨A',c',rfl,_⟩:=id h'
 go_enter Tryz.func205,Tryz.ntmps205
 go_wp2_with fail
 refine (S3 l _ _ h).mono ?_
 rintro e w1 ⟨rfl,hb1⟩
 replace h':=h'.next hb1
 clear h
 go_wp2_with fail
 refine (S3 m _ _ h').mono ?_
 rintro e w2 ⟨rfl,hb2⟩
 have hb:=Av hb1 hb2
 clear hb1 hb2 h'
 go_wp2_with (first
  | (with_reducible refine wpList_store_row rfl 246 (.tmp 5) (.tmp 9) rfl w2.heap.size _ rfl rfl 246 _ (Blk.new w2 246 _).alloc.raw (U5 _) (L0 _).symm (S0 _) ?_)
  | (with_reducible refine wpList_store_row rfl 246 (.tmp 6) (.tmp 11) rfl (w2.heap.size+1) _ rfl rfl 246 _ ((Blk.new_at (by simp)).farRow (by simp)).raw (U5 _) (L0 _).symm (S0 _) ?_))
 refine Ao5 hb ?_
 intro W hB5 hB6 hbw
 have hBa:=Lib.hid hB5
 have hBb:=Lib.hid hB6
 have hN:=hB5.lt
 generalize w2.heap.size=g at *
 clear hb hB5 hB6
 go_loopw [7] (fun k wr=>∃ n:Nat,n<=64/\k=.int .i64 n/\Below W.heap.size W wr/\∀ i:Nat,i < n->Aa m i<=Aa l i) (fun k _=>64 - (intOf k).toNat)
 case atStart=>exact ⟨0,by omega,rfl,Below.refl _ _,fun i hi=>by omega⟩
 case round =>
  obtain ⟨n,hn,rfl,hb,hall⟩:=hrel
  have Hall:=Lib.hid hall
  clear hall
  by_cases hlt:n < 64
  ·have f0:=(hBa.out.next hb).cell n |>.trans (F3 hlt)
   have f1:=(hBb.out.next hb).cell n |>.trans (F3 hlt)
   simp only at f0 f1
   generalize hx:Aa l n=x at f0
   generalize hy:Aa m n=y at f1
   have HX:=Lib.hid hx
   have HY:=Lib.hid hy
   clear hx hy
   have i1:(n:Int) < 64:=by omega
   go_wp2_with fail
   go_quiet (fail)
   go_wp2_with fail
   ·go_ret
    refine ⟨Ad ?_,Av hbw (L4 hb _)⟩
    rw [Aw,eq_comm,decide_eq_false_iff_not]
    intro h
    have:=h n hlt
    rw [HX.out,HY.out] at this
    omega
   ·refine ⟨⟨n+1,by omega,by go_num,L4 hb _,fun i hi=>?_⟩,by simp [intOf];omega⟩
    rcases Nat.lt_or_ge i n with c | c
    ·exact Hall.out i c
    ·obtain rfl:i=n:=by omega
     rw [HX.out,HY.out]
     omega
  ·obtain rfl:n=64:=by omega
   go_wp2_with fail
   go_ret
   refine ⟨Ad ?_,Av hbw hb⟩
   rw [Aw,eq_comm,decide_eq_true_eq]
   exact Hall.out
end Go.Proofs.YtblfjaedaijfoaaGreatDoor
