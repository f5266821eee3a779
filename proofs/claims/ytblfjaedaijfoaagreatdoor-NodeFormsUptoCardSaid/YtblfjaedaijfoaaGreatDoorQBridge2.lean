/- Contracts of the elder kind, told over abstract states: what sorts. -/
import Derived.Test.YtblfjaedaijfoaaGreatDoorQTidy
import Derived.Test.YtblfjaedaijfoaaGreatDoorQConcatSpan
import Derived.Test.YtblfjaedaijfoaaGreatDoorQBridge
set_option linter.all false
set_option linter.unnecessarySimpa false
set_option linter.unusedSimpArgs false
set_option linter.unusedVariables false
namespace Go.Proofs.YtblfjaedaijfoaaGreatDoor
open Go.ChangeShapes Go.WideShapes Go.ChangeAt Go.RowKit
abbrev Cm2:=Sl Cm3 1
theorem Ca1 {w:World} {B:Nat} {v:Value} {l:List Int} (h:Cm2 w B v l) {m:Nat} {x:Int} (hx:l[m]? = some x) :
  ∃ b off c,v=.slice (some ⟨b,off,none⟩) l.length c/\b < B/\w.cell? ⟨b,off+m,none⟩=some (.int .i64 x)/\I64 x:=by
 obtain ⟨A,c,rfl,_,_,h3⟩:=h
 obtain ⟨b,off,rfl,hb,h4⟩:=h3 (by rintro rfl;simp at hx)
 obtain ⟨cs,⟨rfl,i1⟩,_,h5⟩:=h4 m x hx
 have:=h5 0 _ rfl
 rw [Nat.mul_one,Nat.add_zero] at this
 exact ⟨b,off,c,rfl,hb,this,i1⟩
theorem Br8 (os:List Int) (o:Int):Nn (os++[o])=Nn os++[⟨o,o⟩]:=by simp [Nn]
set_option maxRecDepth 100000 in
theorem B44 (os:List Int) (v:Value) (w:World) (h:Cm2 w w.heap.size v os) :
  Calls Tryz.prog 278 #[v] w fun e w'=>(∃ v',e=.returned v'/\Ah Ei 2 w' w.heap.size 121 v' (En (Nn os)))/\Below w.heap.size w w':=by
 have hle:=h.len_le
 have HH:=Lib.hid h
 obtain ⟨A,c,rfl,-⟩:=id h
 clear h
 go_enter Tryz.func278,Tryz.ntmps278
 go_wp2_with fail
 go_loopw [3,8] (fun v k wr=>∃ m:Nat,m<=os.length/\k=.int .i64 m/\Ah Ei 2 wr w.heap.size 121 v (Nn (os.take m))/\Below w.heap.size w wr) (fun _ k _=>os.length - (intOf k).toNat)
 case atStart=>exact ⟨0,Nat.zero_le _,rfl,Ah.nil_ _ _ _,Below.refl _ _⟩
 case round =>
  rename_i v0 k0
  obtain ⟨m,hm,rfl,hown,hb⟩:=hrel
  by_cases hlt:m < os.length
  ·obtain ⟨x,hx⟩ : ∃ x,os[m]? = some x:=⟨os[m],List.getElem?_eq_getElem hlt⟩
   obtain ⟨b,off,c',hv',hbb,e0,r1⟩:=Ca1 (HH.out.keep (fun _ _ h=>h) hb.size (fun p hp=>hb.cell hp)) hx
   injection hv' with hv1 hv2 hv3
   subst hv1
   have HT:=Lib.hid (show Nn (os.take (m+1))=Nn (os.take m)++[⟨x,x⟩] by rw [Du hx,Br8])
   have hcl:(Nn (os.take m)).length<=m:=by simp only [Nn,List.length_map];exact List.length_take_le _ _
   generalize Nn (os.take m)=L at *
   have HO:=Lib.hid hown
   have Hb:=Lib.hid hb
   have hs:=hb.size
   have i1:(m:Int) < (os.length:Int):=by omega
   have i2:(0:Int)<=(m:Int):=by omega
   clear hv2 hv3 hx hb hown
   go_wp2_with (at_builtin;refine K5 P7 Tryz.underlying48 (by omega) (by omega) Jy rfl (.tmp 12) (.tmp 16) rfl w.heap.size _ _ rfl HO.out #[.int .i64 x,.int .i64 x] ⟨x,x⟩ rfl ⟨rfl,r1,r1⟩ rfl (by omega) (by omega) ?_;intro v1 w1 hap)
   have HA:=Lib.hid hap
   clear hap
   go_wp2_with fail
   exact ⟨⟨m+1,by omega,by go_num,by rw [HT.out];exact HA.out.own,HA.out.low w (Nat.le_refl _) (Ai Hb.out)⟩,by simp [intOf];omega⟩
  ·obtain rfl:m=os.length:=by omega
   rw [List.take_length] at hown
   have HC:=Lib.hid (Qp _ _ _ hown.sl)
   have hbs:=hb.size
   clear hown
   go_wp2_with fail
   refine HC.out.mono ?_
   rintro e w1 ⟨⟨v',rfl,hown⟩,hb1⟩
   obtain ⟨A5,c5,rfl⟩:=hown.form
   have HO:=Lib.hid (hown.base hbs)
   clear hown
   go_wp2_with fail
   go_ret
   exact ⟨⟨_,rfl,HO.out⟩,Av hb hb1⟩
theorem Ah6 (ls:List (List Ao)) (v:Value) (w:World) (h:Mv w w.heap.size v ls) (hsum:F9 ls<=1073741824) :
  Calls Tryz.prog 243 #[v] w fun e w'=>(∃ v',e=.returned v'/\Ah Ei 2 w' w.heap.size 121 v' (En ls.flatten))/\Below w.heap.size w w':=by
 have HC:=Lib.hid (Bd2 ls v w h hsum)
 obtain ⟨A,c,rfl,-⟩:=id h
 clear h
 go_enter Tryz.func243,Tryz.ntmps243
 go_wp2_with fail
 refine HC.out.mono ?_
 rintro e w1 ⟨⟨v1,rfl,hown⟩,hb1⟩
 have HT:=Lib.hid (Qp _ _ _ hown.sl)
 have hbs:=hb1.size
 clear hown HC
 go_wp2_with fail
 refine HT.out.mono ?_
 rintro e w2 ⟨⟨v2,rfl,hown2⟩,hb2⟩
 obtain ⟨A5,c5,rfl⟩:=hown2.form
 have HO:=Lib.hid (hown2.base hbs)
 clear hown2
 go_wp2_with fail
 go_ret
 exact ⟨⟨_,rfl,HO.out⟩,Av hb1 hb2⟩
theorem Sl.tail_ {α:Type} {R:List Value->α->Prop} {k:Nat} {w:World} {B b off c:Nat} {y:α} {l:List α} (h:Sl R k w B (.slice (some ⟨b,off,none⟩) (y :: l).length c) (y :: l)):Sl R k w B (.slice (some ⟨b,off+k,none⟩) l.length (c - 1)) l:=by
 have:=Sl.piece h (i:=1) (j:=(y :: l).length) (by simp) (Nat.le_refl _)
 simpa using this
def A83:Value->Nat
 | .slice _ n _=>n
 | _=>0
theorem Aa2 {w:World} {B:Nat} {v:Value} {s:Ao} {l:List Ao} (h:Dz w B v (s :: l)) :
  ∃ b off c,v=.slice (some ⟨b,off,none⟩) (l.length+1) c/\b < B/\w.cell? ⟨b,off,none⟩=some (.int .i64 s.lo)/\w.cell? ⟨b,off+1,none⟩=some (.int .i64 s.hi)/\I64 s.lo/\I64 s.hi/\l.length+1<=c:=by
 obtain ⟨b,off,c,hv,hb,e0,e1,r1,r2⟩:=Lf h (m:=0) rfl
 obtain ⟨A,c2,hv2,⟨h1,_⟩,_⟩:=id h
 rw [hv2] at hv
 injection hv with hA _ hc
 subst hA hc
 exact ⟨b,off,c2,hv2,hb,by simpa using e0,by simpa using e1,r1,r2,by simpa using h1⟩
set_option maxRecDepth 100000 in
set_option maxHeartbeats 1600000 in
theorem Ah5 (a b:List Ao) (v u:Value) (w:World) (h:Dz w w.heap.size v a) (h':Dz w w.heap.size u b) :
  Calls Tryz.prog 279 #[v,u] w fun e w'=>(∃ v',e=.returned v'/\Ah Ei 2 w' w.heap.size 121 v' (Fa fun o=>Bm a o&&Bm b o))/\Below w.heap.size w w':=by
 have HC1:=Lib.hid (Qp a v w h)
 have HH':=Lib.hid h'
 have HR:=Lib.hid (B94 a b)
 obtain ⟨A,c,rfl,-⟩:=id h
 obtain ⟨A',c',rfl,-⟩:=id h'
 clear h h'
 go_enter Tryz.func279,Tryz.ntmps279
 go_wp2_with fail
 refine HC1.out.mono ?_
 rintro e w1 ⟨⟨v1,rfl,hown1⟩,hb1⟩
 have HC2:=Lib.hid (Qp b _ w1 (HH'.out.next hb1))
 have HX:=Lib.hid hown1.sl
 obtain ⟨A1,c1,rfl⟩:=hown1.form
 clear HC1 hown1
 go_wp2_with fail
 refine HC2.out.mono ?_
 rintro e w2 ⟨⟨v2,rfl,hown2⟩,hb2⟩
 have HX2:=Lib.hid (HX.out.next hb2)
 have HY2:=Lib.hid hown2.sl
 obtain ⟨A2,c2,rfl⟩:=hown2.form
 have hb:=Av hb1 hb2
 have hbs:=hb.size
 have hbd:=Gt fun o=>Bm a o
 have hbd2:=Gt fun o=>Bm b o
 have HL:=Lib.hid (show ∀ x y:List Ao,(D2 x y).length<=x.length+y.length from fun x y=>by
  induction hn:x.length+y.length generalizing x y with
  | zero =>
   obtain rfl:x=[]:=List.eq_nil_of_length_eq_zero (by omega)
   simp [D2]
  | succ n ih =>
   cases x with
   | nil=>simp [D2]
   | cons s x =>
    cases y with
    | nil=>simp [D2]
    | cons t y =>
     simp only [List.length_cons] at hn
     have i1:=ih x (t :: y) (by simp only [List.length_cons];omega)
     have i2:=ih (s :: x) y (by simp only [List.length_cons];omega)
     rw [D2,List.length_append]
     have:(if max s.lo t.lo<=min s.hi t.hi then [(⟨max s.lo t.lo,min s.hi t.hi⟩ : Ao)] else []).length<=1:=by split<;>simp
     have h2:(if s.hi < t.hi then D2 x (t :: y) else D2 (s :: x) y).length<=n:=by split<;>assumption
     omega)
 generalize hX:En a=X at *
 generalize hY:En b=Y at *
 have hXl:X.length<=128:=by rw [<-hX];exact hbd
 have hYl:Y.length<=128:=by rw [<-hY];exact hbd2
 clear hX hY HC2 hown2 HX hbd hbd2
 go_wp2_with fail
 go_loopw [5,6,7] (fun p q o wr=>∃ (x y O:List Ao),Dz w2 w2.heap.size p x/\Dz w2 w2.heap.size q y/\O++D2 x y=D2 X Y/\Ah Ei 2 wr w2.heap.size 121 o O/\Below w2.heap.size w2 wr) (fun p q _ _=>A83 p+A83 q)
 case atStart=>exact ⟨X,Y,[],HX2.out,HY2.out,by simp,Ah.nil_ _ _ _,Below.refl _ _⟩
 case round =>
  rename_i p0 q0 o0
  obtain ⟨x,y,O,hx,hy,hO,hown,hb3⟩:=hrel
  have hOl:O.length<=256:=by
   have h1:=congrArg List.length hO
   have h2:=HL.out X Y
   rw [List.length_append] at h1
   omega
  have Hb:=Lib.hid hb3
  have HO:=Lib.hid hown
  have hlt0:=hown.lt
  have hs3:=hb3.size
  by_cases hdone:x=[]\/y=[]
  ·have hres:O=D2 X Y:=by
    rw [<-hO]
    rcases hdone with rfl | rfl
    ·simp [D2]
    ·rw [Bp1];simp
   have HRR:=Lib.hid (hres.trans HR.out)
   obtain ⟨A3,c3,rfl,-⟩:=id hx
   obtain ⟨A4,c4,rfl,-⟩:=id hy
   have hg:x.length=0\/(0 < x.length/\y.length=0):=by
    rcases hdone with rfl | rfl
    ·exact .inl rfl
    ·rcases Nat.eq_zero_or_pos x.length with h | h
     ·exact .inl h
     ·exact .inr ⟨h,rfl⟩
   clear hO hres hdone hx hy hown hb3
   rcases hg with hg | ⟨hg1,hg2⟩
   ·rw [hg]
    go_wp2_with fail
    go_ret
    exact ⟨⟨_,rfl,by rw [<-HRR.out];exact HO.out.base hbs⟩,Av hb Hb.out⟩
   ·have hg3:(0:Int) < (x.length:Int):=by omega
    rw [hg2]
    go_wp2_with fail
    go_ret
    exact ⟨⟨_,rfl,by rw [<-HRR.out];exact HO.out.base hbs⟩,Av hb Hb.out⟩
  ·obtain ⟨s,x,rfl⟩ : ∃ s x',x=s :: x':=by
    cases x with
    | nil=>exact absurd (.inl rfl) hdone
    | cons s x=>exact ⟨s,x,rfl⟩
   obtain ⟨t,y,rfl⟩ : ∃ t y',y=t :: y':=by
    cases y with
    | nil=>exact absurd (.inr rfl) hdone
    | cons t y=>exact ⟨t,y,rfl⟩
   obtain ⟨b1,f1,c3,rfl,hb1',e0,e1,r1,r2,k1⟩:=Aa2 hx
   obtain ⟨b2,f2,c4,rfl,hb2',e2,e3,r3,r4,k2⟩:=Aa2 hy
   have htx:=hx.tail_
   have hty:=hy.tail_
   rw [D2] at hO
   obtain ⟨sl,sh⟩:=s
   obtain ⟨tl,th⟩:=t
   simp only at e0 e1 e2 e3 r1 r2 r3 r4 hO
   have HX3:=Lib.hid hx
   have HY3:=Lib.hid hy
   have HTX:=Lib.hid htx
   have HTY:=Lib.hid hty
   have HOO:=Lib.hid hO
   have p1:(0:Int) < (x.length:Int)+1:=by omega
   have p2:(0:Int) < (y.length:Int)+1:=by omega
   have j1:=r1.lo
   have j2:=r1.hi
   have j3:=r2.lo
   have j4:=r2.hi
   have j5:=r3.lo
   have j6:=r3.hi
   have j7:=r4.lo
   have j8:=r4.hi
   have E1:=Lib.hid e1
   have E3:=Lib.hid e3
   have g0:=As hb3 e0
   have g1:=As hb3 e1
   have g2:=As hb3 e2
   have g3:=As hb3 e3
   have q1:b1 < wr.heap.size:=by omega
   have q2:b2 < wr.heap.size:=by omega
   clear hx hy htx hty hO hown hdone e0 e1 e2 e3 r1 r2 r3 r4 hb3
   go_upto_region 4 with fail
   go_cut [8] (fun p wx=>p=.pointer (some ⟨wr.heap.size,0,none⟩)/\∃ la ha:Int,la=max sl tl/\ha=min sh th/\Blk wx wr.heap.size 121 #[.int .i64 la,.int .i64 ha]/\Below wr.heap.size wr wx)
   case first =>
    go_region
    all_goals
     go_wp2_with fail
     go_meet
     exact ⟨rfl,_,_,rfl,rfl,(Blk.new _ _ _).drew,(Ai (Below.refl _ _)).drew⟩
   case rest =>
    obtain ⟨rfl,la,ha,hla,hha,hB6,hb6⟩:=hcut
    rename_i wc
    obtain ⟨w8,rfl⟩ : ∃ w8:World,w8=wc:=⟨_,rfl⟩
    have q3:=hB6.cell 0
    have q4:=hB6.cell 1
    simp only [List.getElem?_toArray,List.getElem?_cons_zero,List.getElem?_cons_succ] at q3 q4
    have HO6:=Lib.hid (HO.out.next hb6)
    have HB6:=Lib.hid (Av Hb.out hb6)
    have hs6:=HB6.out.size
    have m1:-9223372036854775808<=la:=by omega
    have m2:la<=9223372036854775807:=by omega
    have m3:-9223372036854775808<=ha:=by omega
    have m4:ha<=9223372036854775807:=by omega
    have HO0:Hid (O++((if la<=ha then [⟨la,ha⟩] else [])++(if sh < th then D2 x (⟨tl,th⟩ :: y) else D2 (⟨sl,sh⟩ :: x) y))=D2 X Y):=by
     show _=_
     rw [<-HOO.out,hla,hha]
    clear hla hha HOO HO hB6 hb6 g0 g1 g2 g3 Hb
    by_cases hab:la<=ha
    ·have hd1:decide (la<=ha)=true:=decide_eq_true hab
     have HO7:Hid ((O++[⟨la,ha⟩])++(if sh < th then D2 x (⟨tl,th⟩ :: y) else D2 (⟨sl,sh⟩ :: x) y)=D2 X Y):=by
      show _=_
      rw [<-HO0.out,if_pos hab,List.append_assoc]
     clear HO0
     go_wp2_with (at_builtin;refine K5 P7 Tryz.underlying48 (by omega) (by omega) Jy rfl (.tmp 45) (.tmp 47) rfl w2.heap.size _ _ rfl HO6.out #[.int .i64 la,.int .i64 ha] ⟨la,ha⟩ rfl ⟨rfl,I64.of (by simp only;omega) (by simp only;omega),I64.of (by simp only;omega) (by simp only;omega)⟩ rfl (by omega) (by omega) ?_;intro v8 w8 hap)
     have HO8:=Lib.hid hap.own
     have HB8:=Lib.hid (hap.low w2 (Nat.le_refl _) (Ai HB6.out))
     clear hap q3 q4
     have T1:∀ z:BW w8,z.val.cell? ⟨b1,f1+1,none⟩=some (.int .i64 sh):=fun z=>z.cell (As HB8.out E1.out)
     have T3:∀ z:BW w8,z.val.cell? ⟨b2,f2+1,none⟩=some (.int .i64 th):=fun z=>z.cell (As HB8.out E3.out)
     by_cases hlt:sh < th
     ·have hd2:decide (sh < th)=true:=decide_eq_true hlt
      have HO9:Hid ((O++[⟨la,ha⟩])++D2 x (⟨tl,th⟩ :: y)=D2 X Y):=by
       show _=_
       rw [<-HO7.out,if_pos hlt]
      clear HO7
      go_wp2_with fail
      refine Cd (by kernel_rfl) (by kernel_rfl) ?_
      repeat (go_big_quiet_step (fail))
      refine wpQuiet_nil ?_
      intro w9 hb9
      clear T1 T3
      by_cases hc:c3=1
      ·have hx0:x=[]:=List.eq_nil_of_length_eq_zero (by omega)
       subst hx0 hc
       have HTX2:=Lib.hid (fun (A:Option Addr)=>(Sl.nil_ (by unfold maxLen;omega) A:Dz w2 w2.heap.size (.slice A 0 0) []))
       simp only [List.length_nil] at *
       go_wp2_with fail
       exact ⟨⟨[],⟨tl,th⟩ :: y,O++[⟨la,ha⟩],HTX2.out _,HY3.out,HO9.out,HO8.out.next hb9,Av HB8.out hb9⟩,by simp [A83]⟩
      ·have hc2:1<=c3:=by omega
       have hc3:(1:Int)<=(x.length:Int)+1:=by omega
       go_wp2_with fail
       exact ⟨⟨x,⟨tl,th⟩ :: y,O++[⟨la,ha⟩],HTX.out,HY3.out,HO9.out,HO8.out.next hb9,Av HB8.out hb9⟩,by simp [A83]⟩
     ·have hd2:decide (sh < th)=false:=decide_eq_false hlt
      have HO9:Hid ((O++[⟨la,ha⟩])++D2 (⟨sl,sh⟩ :: x) y=D2 X Y):=by
       show _=_
       rw [<-HO7.out,if_neg hlt]
      clear HO7
      go_wp2_with fail
      refine Cd (by kernel_rfl) (by kernel_rfl) ?_
      repeat (go_big_quiet_step (fail))
      refine wpQuiet_nil ?_
      intro w9 hb9
      clear T1 T3
      by_cases hc:c4=1
      ·have hx0:y=[]:=List.eq_nil_of_length_eq_zero (by omega)
       subst hx0 hc
       have HTX2:=Lib.hid (fun (A:Option Addr)=>(Sl.nil_ (by unfold maxLen;omega) A:Dz w2 w2.heap.size (.slice A 0 0) []))
       simp only [List.length_nil] at *
       go_wp2_with fail
       exact ⟨⟨⟨sl,sh⟩ :: x,[],O++[⟨la,ha⟩],HX3.out,HTX2.out _,HO9.out,HO8.out.next hb9,Av HB8.out hb9⟩,by simp [A83]⟩
      ·have hc2:1<=c4:=by omega
       have hc3:(1:Int)<=(y.length:Int)+1:=by omega
       go_wp2_with fail
       exact ⟨⟨⟨sl,sh⟩ :: x,y,O++[⟨la,ha⟩],HX3.out,HTY.out,HO9.out,HO8.out.next hb9,Av HB8.out hb9⟩,by simp [A83]⟩
    ·have hd1:decide (la<=ha)=false:=decide_eq_false hab
     have HO7:Hid (O++(if sh < th then D2 x (⟨tl,th⟩ :: y) else D2 (⟨sl,sh⟩ :: x) y)=D2 X Y):=by
      show _=_
      rw [<-HO0.out,if_neg hab,List.nil_append]
     clear HO0
     have HO8:=HO6
     have HB8:=HB6
     clear HO6 HB6
     have T1:∀ z:BW w8,z.val.cell? ⟨b1,f1+1,none⟩=some (.int .i64 sh):=fun z=>z.cell (As HB8.out E1.out)
     have T3:∀ z:BW w8,z.val.cell? ⟨b2,f2+1,none⟩=some (.int .i64 th):=fun z=>z.cell (As HB8.out E3.out)
     by_cases hlt:sh < th
     ·have hd2:decide (sh < th)=true:=decide_eq_true hlt
      have HO9:Hid ((O)++D2 x (⟨tl,th⟩ :: y)=D2 X Y):=by
       show _=_
       rw [<-HO7.out,if_pos hlt]
      clear HO7
      go_wp2_with fail
      refine Cd (by kernel_rfl) (by kernel_rfl) ?_
      repeat (go_big_quiet_step (fail))
      refine wpQuiet_nil ?_
      intro w9 hb9
      clear T1 T3
      by_cases hc:c3=1
      ·have hx0:x=[]:=List.eq_nil_of_length_eq_zero (by omega)
       subst hx0 hc
       have HTX2:=Lib.hid (fun (A:Option Addr)=>(Sl.nil_ (by unfold maxLen;omega) A:Dz w2 w2.heap.size (.slice A 0 0) []))
       simp only [List.length_nil] at *
       go_wp2_with fail
       exact ⟨⟨[],⟨tl,th⟩ :: y,O,HTX2.out _,HY3.out,HO9.out,HO8.out.next hb9,Av HB8.out hb9⟩,by simp [A83]⟩
      ·have hc2:1<=c3:=by omega
       have hc3:(1:Int)<=(x.length:Int)+1:=by omega
       go_wp2_with fail
       exact ⟨⟨x,⟨tl,th⟩ :: y,O,HTX.out,HY3.out,HO9.out,HO8.out.next hb9,Av HB8.out hb9⟩,by simp [A83]⟩
     ·have hd2:decide (sh < th)=false:=decide_eq_false hlt
      have HO9:Hid ((O)++D2 (⟨sl,sh⟩ :: x) y=D2 X Y):=by
       show _=_
       rw [<-HO7.out,if_neg hlt]
      clear HO7
      go_wp2_with fail
      refine Cd (by kernel_rfl) (by kernel_rfl) ?_
      repeat (go_big_quiet_step (fail))
      refine wpQuiet_nil ?_
      intro w9 hb9
      clear T1 T3
      by_cases hc:c4=1
      ·have hx0:y=[]:=List.eq_nil_of_length_eq_zero (by omega)
       subst hx0 hc
       have HTX2:=Lib.hid (fun (A:Option Addr)=>(Sl.nil_ (by unfold maxLen;omega) A:Dz w2 w2.heap.size (.slice A 0 0) []))
       simp only [List.length_nil] at *
       go_wp2_with fail
       exact ⟨⟨⟨sl,sh⟩ :: x,[],O,HX3.out,HTX2.out _,HO9.out,HO8.out.next hb9,Av HB8.out hb9⟩,by simp [A83]⟩
      ·have hc2:1<=c4:=by omega
       have hc3:(1:Int)<=(y.length:Int)+1:=by omega
       go_wp2_with fail
       exact ⟨⟨⟨sl,sh⟩ :: x,y,O,HX3.out,HTY.out,HO9.out,HO8.out.next hb9,Av HB8.out hb9⟩,by simp [A83]⟩
theorem Zv (ls:List (List Ao)) (hs:F9 ls<=1073741824):A7 Tryz.prog A8 243 [.iv (Ch2 ls)] (.own 0) [.row 0 121 2 ((En ls.flatten).map Nl)] :=
 El (fun _ _ _ h=>Ts h) Tryz.func243 rfl (by kernel_rfl) fun V w E vs hV hG hr=>by
  obtain ⟨v0,rfl,h0⟩:=H6 hr
  exact Ah6 ls _ w (Aw6 hV h0) hs
theorem B46 (l:List Ao) (m:List Ao):A7 Tryz.prog A8 279 [.iv (spI l),.iv (spI m)] (.own 0) [.row 0 121 2 ((Fa fun o=>Bm l o&&Bm m o).map Nl)] :=
 El (fun _ _ _ h=>Ts h) Tryz.func279 rfl (by kernel_rfl) fun V w E vs hV hG hr=>by
  obtain ⟨v0,v1,rfl,h0,h1⟩:=Kr hr
  exact Ah5 l m _ _ w (Ji hV h0) (Ji hV h1)
def inI (l:List Int):IV:=.sl 1 (l.map fun n=>[.val (.int .i64 n)])
theorem Ca0 {E:Env} {V w:World} {v:Value} {l:List Int} (hV:Ext V w) (h:Bd E V v (.iv (inI l))):Cm2 w w.heap.size v l:=by
 cases h with
 | iv h =>
  refine (Cp.to_typed (R:=Cm3) (l:=l) (enc:=fun n=>[.val (.int .i64 n)]) h fun cs x _ hx=>?_).ext (fun _ _ h=>h) hV
  match cs,hx with
  | [v],⟨hx,_⟩=>cases hx with | val i1=>exact ⟨rfl,i1⟩
theorem Bv7 (os:List Int):A7 Tryz.prog A8 278 [.iv (inI os)] (.own 0) [.row 0 121 2 ((En (Nn os)).map Nl)] :=
 El (fun _ _ _ h=>Ts h) Tryz.func278 rfl (by kernel_rfl) fun V w E vs hV hG hr=>by
  obtain ⟨v0,rfl,h0⟩:=H6 hr
  exact B44 os _ w (Ca0 hV h0)
end Go.Proofs.YtblfjaedaijfoaaGreatDoor
