/- Contract of the program's tidy list of spans. -/
import Derived.Test.YtahgkllhbggmgaaGreatDoorLSortSpan
set_option linter.all false
set_option linter.unnecessarySimpa false
set_option linter.unusedSimpArgs false
set_option linter.unusedVariables false
namespace Go.Proofs.YtahgkllhbggmgaaGreatDoor
open Go.ChangeShapes Go.WideShapes Go.ChangeAt Go.RowKit
theorem Ti {x:Int} (h1:-9223372036854775808<=x) (h2:x<=9223372036854775807):IntKind.i64.wrap x=x:=by
 rw [IntKind.wrap_i64];omega
theorem U9:(Tryz.prog.info? 89).map (fun i=>(i.zero.map (·.cells.size),i.size,i.bytes))=some (some 2,2,16):=by kernel_rfl
set_option maxRecDepth 100000 in
set_option maxHeartbeats 1600000 in
theorem Bh9 (l:List Ah) (v:Value) (w:World) (h:F6 w w.heap.size v l) :
  Calls Tryz.prog 181 #[v] w fun e w'=>(∃ v',e=.returned v'/\Ai Gc 2 w' w.heap.size 89 v' (Cb l))/\Below w.heap.size w w':=by
 have hle:=h.len_le
 have HH:=Lib.hid h
 obtain ⟨A,c,rfl,-⟩:=id h
 clear h
 go_enter Tryz.func181,Tryz.ntmps181
 go_wp2_with fail
 go_loopw [3,12] (fun v k wr=>∃ m:Nat,m<=l.length/\k=.int .i64 m/\Ai Gc 2 wr w.heap.size 89 v (Pt (l.take m))/\Below w.heap.size w wr) (fun _ k _=>l.length - (intOf k).toNat)
 case atStart=>exact ⟨0,Nat.zero_le _,rfl,Ai.nil_ _ _ _,Below.refl _ _⟩
 case round =>
  rename_i v0 k0
  obtain ⟨m,hm,rfl,hown,hb⟩:=hrel
  by_cases hlt:m < l.length
  ·obtain ⟨x,hx⟩ : ∃ x,l[m]? = some x:=⟨l[m],List.getElem?_eq_getElem hlt⟩
   obtain ⟨b,off,c',hv',hbb,e0,e1,r1,r2⟩:=Kn (HH.out.next hb) hx
   injection hv' with hv1 hv2 hv3
   subst hv1
   obtain ⟨lo,hi⟩:=x
   simp only at e0 e1 r1 r2
   have HT:=Lib.hid (show Pt (l.take (m+1))=Pt (l.take m)++Ps ⟨lo,hi⟩ by rw [Eh hx,Bd2])
   have hcl:(Pt (l.take m)).length<=m:=Nat.le_trans (An3 _) (List.length_take_le _ _)
   have HO:=Lib.hid hown
   have Hb:=Lib.hid hb
   have hs:=hb.size
   have i1:(m:Int) < (l.length:Int):=by omega
   have i2:(0:Int)<=(m:Int):=by omega
   have j1:=r1.lo
   have j2:=r1.hi
   have j3:=r2.lo
   have j4:=r2.hi
   generalize Pt (l.take m)=L at *
   clear hv2 hv3 hx hb hown r1 r2
   go_upto_region 5 with fail
   go_cut [5] (fun p wx=>p=.pointer (some ⟨wr.heap.size,0,none⟩)/\∃ a b:Int,a=max lo 0/\b=min hi 255/\wx=wr.alloc (.cells #[.int .i64 a,.int .i64 b] 89))
   case first =>
    go_wp2_with fail
    all_goals
     go_meet
     exact ⟨rfl,_,_,by omega,by omega,rfl⟩
   case rest =>
    obtain ⟨rfl,a,b',ha,hb',rfl⟩:=hcut
    clear e0 e1
    have hb6:=Ap (o:=.cells #[.int .i64 a,.int .i64 b'] 89) (Below.refl _ wr)
    have ho6:=HO.out.next hb6
    have hB6:=Blk.new wr 89 #[.int .i64 a,.int .i64 b']
    have HB6:=Lib.hid (B6 Hb.out hb6)
    have hlt0:=HO.out.lt
    have hs6:=hb6.size
    generalize hW6:wr.alloc _=W6 at *
    have q0:=hB6.cell 0
    have q1:=hB6.cell 1
    simp only [List.getElem?_toArray,List.getElem?_cons_zero,List.getElem?_cons_succ] at q0 q1
    have HO6:=Lib.hid ho6
    have HTT:=Lib.hid (HT.out.trans (show L++(if max lo 0<=min hi 255 then [⟨max lo 0,min hi 255⟩] else [])=L++(if a<=b' then [⟨a,b'⟩] else []) by rw [ha,hb']))
    have k1:0<=a:=by omega
    have k2:a<=9223372036854775807:=by omega
    have k3:b'<=255:=by omega
    have k4:-9223372036854775808<=b':=by omega
    clear hb6 ho6 hB6 hW6 HO HT ha hb'
    by_cases hab:a<=b'
    ·have HT2:=Lib.hid (HTT.out.trans (show _=L++[⟨a,b'⟩] by rw [if_pos hab]))
     have hf1:(decide (a<=b'))=true:=decide_eq_true hab
     clear HTT
     go_wp2_with (at_builtin;refine Lp U9 Tryz.underlying40 (by omega) (by omega) Q0 rfl (.tmp 29) (.tmp 31) rfl w.heap.size _ _ rfl HO6.out #[.int .i64 a,.int .i64 b'] ⟨a,b'⟩ rfl ⟨rfl,I64.of (by simp only;omega) (by simp only;omega),I64.of (by simp only;omega) (by simp only;omega)⟩ rfl (by omega) (by omega) ?_;intro v1 w1 hap)
     have HA:=Lib.hid hap
     clear hap
     go_wp2_with fail
     exact ⟨⟨m+1,by omega,by go_num,by rw [HT2.out];exact HA.out.own,HA.out.low w (Nat.le_refl _) (Ap HB6.out)⟩,by simp [intOf];omega⟩
    ·have HT2:=Lib.hid (HTT.out.trans (show _=L by rw [if_neg hab,List.append_nil]))
     have hf1:(decide (a<=b'))=false:=decide_eq_false hab
     clear HTT
     go_wp2_with fail
     exact ⟨⟨m+1,by omega,by go_num,by rw [HT2.out];exact HO6.out,HB6.out⟩,by simp [intOf];omega⟩
  ·obtain rfl:m=l.length:=by omega
   rw [List.take_length] at hown
   have hcl:=An3 l
   have HCR:=Lib.hid (fun s (hs:s∈Pt l)=>Yh hs)
   have HMT:=Lib.hid (fun (d:List Ah) (hp:d.Perm (Pt l)) (hs:d.Pairwise fun a b=>a.lo<=b.lo)=>Aw4 hp hs)
   have HC:=Lib.hid (B73 _ _ _ _ hown)
   have Hb:=Lib.hid hb
   have hlt0:=hown.lt
   have hbs:=hb.size
   clear hown hb
   go_wp2_with fail
   refine HC.out.mono ?_
   rintro e w1 ⟨rfl,⟨d,hp,hsd,hown⟩,hgr⟩
   have hb1:Below w.heap.size w w1:=Hb.out.grown hgr hbs fun k hk=>(hlt0 k hk).1
   have hdl:d.length=(Pt l).length:=hp.length_eq
   obtain ⟨A1,c1,rfl⟩:=hown.form
   have HD:=Lib.hid (Sl.ext hown.sl (fun _ _ h=>h) (Ext.refl w1))
   have HR:=Lib.hid (fun s (hs:s∈d)=>HCR.out s (hp.mem_iff.1 hs))
   have HS:=Lib.hid hsd
   have HF:=Lib.hid (HMT.out d hp hsd)
   have hs1:=hb1.size
   clear HC HMT HCR hp hsd hgr hown hcl hlt0 HH
   have HM:=Lib.hid (fun n (hn:n<=d.length)=>U5 n d hn HR.out HS.out)
   have HSD:=Lib.hid (show F6 w1 w1.heap.size (.slice A1 d.length c1) d from HD.out)
   have hd30:d.length<=1073741824:=HD.out.len_le
   rw [<-hdl] at *
   clear HD HS hdl
   go_wp2_with fail
   go_loopw [6,38] (fun v k wx=>∃ n:Nat,n<=d.length/\k=.int .i64 n/\Ai Gc 2 wx w1.heap.size 89 v (Ha (d.take n))/\Below w1.heap.size w1 wx) (fun _ k _=>d.length - (intOf k).toNat)
   case atStart=>exact ⟨0,Nat.zero_le _,rfl,Ai.nil_ _ _ _,Below.refl _ _⟩
   case round =>
    rename_i v9 k9
    obtain ⟨n,hn,rfl,hown,hb2⟩:=hrel
    by_cases hlt2:n < d.length
    ·obtain ⟨x,hx⟩ : ∃ x,d[n]? = some x:=⟨d[n],List.getElem?_eq_getElem hlt2⟩
     obtain ⟨b,off,c',hv',hbb,e0,e1,r1,r2⟩:=Kn (HSD.out.next hb2) hx
     injection hv' with hv1 hv2 hv3
     subst hv1
     have hxr:=HR.out x (List.mem_of_getElem? hx)
     obtain ⟨lo,hi⟩:=x
     simp only at e0 e1 r1 r2 hxr
     obtain ⟨x1,x2,x3⟩:=hxr
     have HT:=Lib.hid (show Ha (d.take (n+1))=Kd (Ha (d.take n)) ⟨lo,hi⟩ by rw [Eh hx,V8])
     have hml:(Ha (d.take n)).length<=128:=((G0 _).1 (HM.out n hn).formed).1
     have hfm:=(HM.out n hn).formed
     generalize Ha (d.take n)=L at *
     have HO:=Lib.hid hown
     have hlt0:=hown.lt
     have Hb2:=Lib.hid hb2
     have hs:=hb2.size
     have i1:(n:Int) < (d.length:Int):=by omega
     have i2:(0:Int)<=(n:Int):=by omega
     clear hv2 hv3 hx hb2 r1 r2
     cases hg:L.getLast? with
     | none =>
      obtain rfl:L=[]:=by simpa using hg
      have HT2:=Lib.hid (show Ha (d.take (n+1))=[⟨lo,hi⟩] from HT.out)
      obtain ⟨A5,c5,rfl⟩:=hown.form
      simp only [List.length_nil] at *
      clear hown hg HT hfm
      have ha6:=Ap (o:=.cells #[.int .i64 lo,.int .i64 hi] 89) (Below.refl _ wr)
      have HO6:=Lib.hid (HO.out.next ha6)
      have hB6:=Blk.new wr 89 #[.int .i64 lo,.int .i64 hi]
      have HB6:=Lib.hid (B6 Hb2.out ha6)
      clear ha6
      go_wp2_with fail
      generalize hW6:wr.alloc _=W6 at *
      refine Cj (by kernel_rfl) (by kernel_rfl) ?_
      repeat (go_big_quiet_step (fail))
      refine wpQuiet_nil ?_
      intro w7 hb7
      have hB7:=hB6.next hb7
      have q0:=hB7.cell 0
      have q1:=hB7.cell 1
      simp only [List.getElem?_toArray,List.getElem?_cons_zero,List.getElem?_cons_succ] at q0 q1
      have HO7:=Lib.hid (HO6.out.next hb7)
      have HB7:=Lib.hid (B6 HB6.out hb7)
      have hs7:=HB7.out.size
      clear hB6 hB7 HO6 HB6 hb7
      go_wp2_with (at_builtin;refine Lp U9 Tryz.underlying40 (by omega) (by omega) Q0 rfl (.tmp 72) (.tmp 74) rfl w1.heap.size _ _ rfl HO7.out #[.int .i64 lo,.int .i64 hi] ⟨lo,hi⟩ rfl ⟨rfl,I64.of (by simp only;omega) (by simp only;omega),I64.of (by simp only;omega) (by simp only;omega)⟩ rfl (by first | omega | (simp;omega) | simp) (by omega) ?_;intro v1 w8 hap)
      have HA:=Lib.hid hap
      clear hap
      go_wp2_with fail
      exact ⟨⟨n+1,by omega,by go_num,by rw [HT2.out];exact HA.out.own,HA.out.low w1 (Nat.le_refl _) (Ap HB7.out)⟩,by simp [intOf];omega⟩
     | some t =>
      obtain ⟨od,rfl⟩ : ∃ od,L=od++[t]:=⟨_,(A14 hg).symm⟩
      obtain ⟨f1,f2,f3,f4,f5⟩:=Fa.1 hfm
      rcases hown.forms with ⟨_,h0⟩ | ⟨g,c5,rfl,hg1,hg2⟩
      ·simp at h0
      have hstep:Kd (od++[t]) ⟨lo,hi⟩=if lo<=t.hi+1 then od++[⟨t.lo,max t.hi hi⟩] else (od++[t])++[⟨lo,hi⟩]:=by
       unfold Kd
       rw [hg]
       simp only [List.dropLast_concat]
      have HT1:=Lib.hid (HT.out.trans hstep)
      have hat:(od++[t])[od.length]? = some t:=by simp
      have HAT:=Lib.hid hat
      have hlen:(od++[t]).length=od.length+1:=by simp
      rw [hlen] at hml
      have ha6:=Ap (o:=.cells #[.int .i64 lo,.int .i64 hi] 89) (Below.refl _ wr)
      have hO6:=HO.out.next ha6
      have hB6:=Blk.new wr 89 #[.int .i64 lo,.int .i64 hi]
      have HB6:=Lib.hid (B6 Hb2.out ha6)
      obtain ⟨cs,⟨rfl,j1,j2⟩,_,hcs⟩:=Ai.at_ hO6 hat
      have t1:=hcs 1 _ rfl
      have z1:=Ai.frozen hO6 (od.length*2+1)
      have HO6:=Lib.hid hO6
      have hge:g≠wr.heap.size:=by omega
      clear hown hg HT hfm f1 f2 hstep hat hlen ha6 hO6 hcs HO
      generalize hW6:wr.alloc _=W6 at *
      obtain ⟨tl,th⟩:=t
      simp only at t1 f3 f4 f5 j1 j2 HT1
      have hw1:IntKind.i64.wrap (th+1)=th+1:=Ti (by omega) (by omega)
      have T1:∀ z:BW W6,z.val.cell? ⟨g,od.length*2+1,none⟩=some (.int .i64 th):=fun z=>z.cell t1
      have q0:∀ z:BW W6,z.val.cell? ⟨wr.heap.size,0,none⟩=some (.int .i64 lo):=fun z=>z.cell (hB6.cell 0)
      have q1:∀ z:BW W6,z.val.cell? ⟨wr.heap.size,1,none⟩=some (.int .i64 hi):=fun z=>z.cell (hB6.cell 1)
      clear t1
      by_cases hcmp:lo<=th+1
      ·have hd1:decide (lo<=th+1)=true:=decide_eq_true hcmp
       have HT2:=Lib.hid (HT1.out.trans (if_pos hcmp))
       clear HT1
       go_wp2_with fail
       refine Cj (by kernel_rfl) (by kernel_rfl) ?_
       repeat (go_big_quiet_step (fail))
       refine wpQuiet_nil ?_
       intro w7 hb7
       have hO7:=HO6.out.next hb7
       have T2:=T1 ⟨w7,hb7⟩
       have q2:=q1 ⟨w7,hb7⟩
       have z2:=Ai.frozen hO7 (od.length*2+1)
       simp only at T2 q2
       have hset:=Ai.set_ (i:=od.length) (j:=1) (u:=.int .i64 (max th hi)) (x':=⟨tl,max th hi⟩) hO7 HAT.out (by omega) (by
        rintro cs ⟨rfl,k1,k2⟩ _
        exact ⟨rfl,k1,I64.of (by simp only;omega) (by simp only;omega)⟩)
       rw [List.set_append_right _ _ (Nat.le_refl _),Nat.sub_self,List.set_cons_zero] at hset
       have HSET:=Lib.hid hset
       have HB7:=Lib.hid (B6 HB6.out hb7)
       have hw2:IntKind.i64.wrap ((od.length:Int)+1 - 1)=(od.length:Int):=by rw [Ti]<;>omega
       have hw3:IntKind.i64.wrap (od.length:Int)=(od.length:Int):=by rw [Ti]<;>omega
       have hw4:(0:Int)<=(od.length:Int):=by omega
       have hw5:(od.length:Int) < (od.length:Int)+1:=by omega
       clear T1 q0 q1 z1 hset hO7 hb7 HO6 HB6 hB6 hW6
       go_wp2_with fail
       go_still_tail 14,(by kernel_rfl)
       go_wp2_with fail
       have hmx:(if th < hi then hi else th)=max th hi:=by split<;>omega
       try rw [hmx]
       refine ⟨⟨n+1,by omega,by go_num,?_,(Yu HB7.out (p:=⟨g,od.length*2+1,none⟩) (by simp only;omega)).drew⟩,by simp [intOf];omega⟩
       rw [HT2.out]
       have h9:=Ai.next HSET.out (Jb (Below.refl _ _) 1)
       simp only [List.length_append,List.length_singleton] at h9
       exact h9
      ·have hd1:decide (lo<=th+1)=false:=decide_eq_false hcmp
       have HT2:=Lib.hid (HT1.out.trans (if_neg hcmp))
       clear HT1
       go_wp2_with fail
       refine Cj (by kernel_rfl) (by kernel_rfl) ?_
       repeat (go_big_quiet_step (fail))
       refine wpQuiet_nil ?_
       intro w7 hb7
       have hB7:=hB6.next hb7
       have p0:=hB7.cell 0
       have p1:=hB7.cell 1
       simp only [List.getElem?_toArray,List.getElem?_cons_zero,List.getElem?_cons_succ] at p0 p1
       have hO7:=HO6.out.next hb7
       rw [show (od++[(⟨tl,th⟩ : Ah)]).length=od.length+1 by simp] at hO7
       have HO7:=Lib.hid hO7
       have HB7:=Lib.hid (B6 HB6.out hb7)
       have hs7:=HB7.out.size
       clear hB6 hB7 HO6 HB6 hb7 T1 q0 q1 z1 hO7
       go_wp2_with (at_builtin;refine Lp U9 Tryz.underlying40 (by omega) (by omega) Q0 rfl (.tmp 72) (.tmp 74) rfl w1.heap.size _ _ rfl HO7.out #[.int .i64 lo,.int .i64 hi] ⟨lo,hi⟩ rfl ⟨rfl,I64.of (by simp only;omega) (by simp only;omega),I64.of (by simp only;omega) (by simp only;omega)⟩ rfl (by first | omega | (simp;omega) | simp) (by omega) ?_;intro v1 w8 hap)
       have HA:=Lib.hid hap
       clear hap
       go_wp2_with fail
       exact ⟨⟨n+1,by omega,by go_num,by rw [HT2.out];exact HA.out.own,HA.out.low w1 (Nat.le_refl _) (Ap HB7.out)⟩,by simp [intOf];omega⟩
    ·obtain rfl:n=d.length:=by omega
     rw [List.take_length] at hown
     rw [HF.out] at hown
     obtain ⟨A5,c5,rfl⟩:=hown.form
     have HO:=Lib.hid (hown.base hs1)
     clear hown
     go_wp2_with fail
     go_ret
     exact ⟨⟨_,rfl,HO.out⟩,B6 hb1 hb2⟩
end Go.Proofs.YtahgkllhbggmgaaGreatDoor
