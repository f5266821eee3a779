/- Contract of the program's test whether a note is formed. -/
import Derived.Test.YthlgnjlpakimaaaGreatDoorUMsg
set_option linter.all false
set_option linter.unnecessarySimpa false
set_option linter.unusedSimpArgs false
set_option linter.unusedVariables false
namespace Go.Proofs.YthlgnjlpakimaaaGreatDoor
open Go.ChangeShapes Go.WideShapes Go.ChangeAt Go.RowKit
theorem Aq7 (o:Int) (w:World) :
  Calls Tryz.prog 141 #[.int .i64 o] w fun e w'=>e=.returned (.bool (decide (0<=o/\o<=255)))/\w=w':=by
 go_enter Tryz.func141,Tryz.ntmps141
 go_wp2_with fail
 all_goals (go_ret;refine ⟨Ag ?_,rfl⟩;first | (rw [eq_comm,decide_eq_true_eq];omega) | (rw [eq_comm,decide_eq_false_iff_not];omega) | (rw [Bool.eq_iff_iff];simp<;>omega))
set_option maxHeartbeats 1600000 in
theorem Q7 (x:B7) (v0 v1 v2 v3:Value) (w:World) (h:Pm w w.heap.size v0 v1 v2 v3 x) (hT:A8 w) :
  Calls Tryz.prog 117 #[.agg #[v0,v1,v2,v3]] w fun e w'=>e=.returned (.bool (Al x))/\Below w.heap.size w w':=by
 have hle:=h.writes.len_le
 obtain ⟨A0,c0,rfl,_⟩:=id h.start
 obtain ⟨A1,c1,rfl,_⟩:=id h.end_
 obtain ⟨A2,c2,rfl,_⟩:=id h.blur
 obtain ⟨A3,c3,rfl,_⟩:=id h.writes
 unfold Al
 generalize hr0:Av x.start=r0
 generalize hr1:Av x.end_=r1
 generalize hr2:Ba x.end_ x.start=r2
 generalize hr3:Ci x.blur=r3
 have H0:=Lib.hid hr0
 have H1:=Lib.hid hr1
 have H2:=Lib.hid hr2
 have H3:=Lib.hid hr3
 have HT:=Lib.hid hT
 clear hr0 hr1 hr2 hr3 hT
 go_enter Tryz.func117,Tryz.ntmps117
 go_wp2_with fail
 generalize hv0:Value.slice A0 x.start.length c0=v0 at *
 generalize hv1:Value.slice A1 x.end_.length c1=v1 at *
 generalize hv2:Value.slice A2 x.blur.length c2=v2 at *
 generalize hv3:Value.slice A3 x.writes.length c3=v3 at *
 have Hv3:=Lib.hid hv3
 clear hv0 hv1 hv2 hv3
 have k:=Af (o:=.cells #[v0,v1,v2,v3] 37) (Below.refl _ w)
 have B:=Blk.new w 37 #[v0,v1,v2,v3]
 generalize hW0:w.alloc (.cells #[v0,v1,v2,v3] 37)=W0 at *
 clear hW0
 have hn:=h.next k
 have hT:=Lib.hid (HT.out.next k)
 refine (Kw x.start _ _ hn.start).mono ?_
 rw [H0.out]
 rintro e w1 ⟨rfl,hb1⟩
 replace k:=As k hb1
 replace B:=B.next hb1
 replace hn:=hn.next hb1
 replace hT:=Lib.hid (hT.out.next hb1)
 clear hb1
 have b0:=B.cell 0
 have b1:=B.cell 1
 have b2:=B.cell 2
 have b3:=B.cell 3
 simp only [List.getElem?_toArray,List.getElem?_cons_zero,List.getElem?_cons_succ] at b0 b1 b2 b3
 cases r0
 ·go_wp2_with fail
  go_ret
  exact ⟨rfl,k⟩
 go_wp2_with fail
 refine (Kw x.end_ _ _ hn.end_).mono ?_
 rw [H1.out]
 rintro e w2 ⟨rfl,hb1⟩
 replace k:=As k hb1
 replace B:=B.next hb1
 replace hn:=hn.next hb1
 replace hT:=Lib.hid (hT.out.next hb1)
 replace b0:=Am hb1 b0
 replace b1:=Am hb1 b1
 replace b2:=Am hb1 b2
 replace b3:=Am hb1 b3
 clear hb1
 cases r1
 ·go_wp2_with fail
  go_ret
  exact ⟨rfl,k⟩
 go_wp2_with fail
 refine (Nr x.end_ x.start _ _ _ hn.end_ hn.start hT.out).mono ?_
 rw [H2.out]
 rintro e w3 ⟨rfl,hb1⟩
 replace k:=As k hb1
 replace B:=B.next hb1
 replace hn:=hn.next hb1
 replace hT:=Lib.hid (hT.out.next hb1)
 replace b0:=Am hb1 b0
 replace b1:=Am hb1 b1
 replace b2:=Am hb1 b2
 replace b3:=Am hb1 b3
 clear hb1
 cases r2
 ·go_wp2_with fail
  go_ret
  exact ⟨rfl,k⟩
 go_wp2_with fail
 refine (Ln x.blur _ _ hn.blur).mono ?_
 rw [H3.out]
 rintro e w4 ⟨rfl,hb1⟩
 replace k:=As k hb1
 replace B:=B.next hb1
 replace hn:=hn.next hb1
 replace hT:=Lib.hid (hT.out.next hb1)
 replace b0:=Am hb1 b0
 replace b1:=Am hb1 b1
 replace b2:=Am hb1 b2
 replace b3:=Am hb1 b3
 clear hb1
 cases r3
 ·go_wp2_with fail
  go_ret
  exact ⟨rfl,k⟩
 rw [<-Hv3.out] at b3
 go_wp2_with fail
 have HB:=Lib.hid B
 have HN:=Lib.hid hn
 clear b0 b1 b2 b3 B hn HT H0 H1 H2 H3 h
 go_loopw [3,33] (fun a i wr=>∃ (m:Nat) (e:Int),m<=x.writes.length/\i=.int .i64 m/\a=.int .i64 e/\Dt x (-1) x.writes=Dt x e (x.writes.drop m)/\Below w4.heap.size w4 wr) (fun _ i _=>x.writes.length - (intOf i).toNat)
 case atStart=>exact ⟨0,-1,Nat.zero_le _,rfl,rfl,rfl,Below.refl _ _⟩
 case round =>
  obtain ⟨m,e,hm,rfl,rfl,hv,hb⟩:=hrel
  have hn:=HN.out.next hb
  have B:=HB.out.next hb
  replace k:=As k hb
  by_cases hlt:m < x.writes.length
  ·obtain ⟨y,hy⟩ : ∃ y,x.writes[m]? = some y:=⟨x.writes[m],List.getElem?_eq_getElem hlt⟩
   obtain ⟨b,off,c',hv',hbb,e0,e1,e2,e3,_⟩:=Mv hn.writes hy
   rw [<-Hv3.out] at hv'
   injection hv' with hv1 hv2 hv3
   rw [E6 hy,Dt] at hv
   obtain ⟨⟨yc,yn⟩,yo,yg⟩:=y
   simp only at e0 e1 e2 e3 hv
   have HV:=Lib.hid hv
   subst hv1
   have b1:=B.cell 1
   have b2:=B.cell 2
   simp only [List.getElem?_toArray,List.getElem?_cons_zero,List.getElem?_cons_succ] at b1 b2
   clear hv hv2 hv3 hy hbb
   by_cases p1:yo<=e
   ·go_wp2_with fail
    go_ret
    refine ⟨Ag ?_,Af k⟩
    rw [HV.out,decide_eq_false (p:=e < yo/\0<=yo/\yo<=255) (by omega)]
    rfl
   ·go_wp2_with fail
    have kB:=Af (o:=.cells #[.int .i64 yc,.int .i64 yn,.int .i64 yo,.bool yg] 49) (Below.refl _ wr)
    have B5:=Blk.new wr 49 #[.int .i64 yc,.int .i64 yn,.int .i64 yo,.bool yg]
    replace hn:=hn.next kB
    replace B:=B.next kB
    have hT2:=Lib.hid ((hT.out.next hb).next kB)
    replace k:=As k kB
    replace hb:=As hb kB
    clear e0 e1 e2 e3 b1 b2
    have HVn:=Lib.hid hn
    clear hn
    refine (Aq7 yo _).mono ?_
    by_cases p2:0<=yo/\yo<=255
    ·rw [decide_eq_true p2]
     rintro e' w5 ⟨rfl,rfl⟩
     have hd:decide (e < yo/\0<=yo/\yo<=255)=true:=decide_eq_true (by omega)
     have HD:=Lib.hid hd
     clear hd
     generalize hW5:wr.alloc (.cells #[.int .i64 yc,.int .i64 yn,.int .i64 yo,.bool yg] 49)=w5 at *
     have d0:=B5.cell 0
     have d1:=B5.cell 1
     have d2:=B5.cell 2
     have b1:=B.cell 1
     have b2:=B.cell 2
     simp only [List.getElem?_toArray,List.getElem?_cons_zero,List.getElem?_cons_succ] at b1 b2 d0 d1 d2
     clear hW5 kB
     go_wp2_with fail
     refine (Vg x.blur yo _ _ HVn.out.blur).mono ?_
     generalize hq:Bv x.blur yo=q at HV ⊢
     clear hq
     rintro e' w6 ⟨rfl,hb1⟩
     replace k:=As k hb1
     replace hb:=As hb hb1
     replace HVn:=Lib.hid (HVn.out.next hb1)
     replace B5:=B5.next hb1
     replace b1:=Am hb1 b1
     replace b2:=Am hb1 b2
     replace d0:=Am hb1 d0
     replace d1:=Am hb1 d1
     replace d2:=Am hb1 d2
     clear hb1
     cases q with
     | true =>
      go_wp2_with fail
      go_ret
      refine ⟨Ag ?_,k⟩
      rw [HV.out,HD.out]
      rfl
     | false =>
      go_wp2_with fail
      refine (Zr x.end_ ⟨yc,yn⟩ _ _ HVn.out.end_).mono ?_
      generalize hq:Fs x.end_ ⟨yc,yn⟩=q at HV ⊢
      clear hq
      rintro e' w7 ⟨rfl,hb1⟩
      replace k:=As k hb1
      replace hb:=As hb hb1
      replace d2:=Am hb1 d2
      clear hb1
      cases q with
      | false =>
       go_wp2_with fail
       go_ret
       refine ⟨Ag ?_,k⟩
       rw [HV.out,HD.out]
       rfl
      | true =>
       go_wp2_with fail
       refine ⟨⟨m+1,yo,by omega,by go_num,rfl,?_,hb⟩,by simp [intOf];omega⟩
       rw [HV.out,HD.out]
       rfl
    ·rw [decide_eq_false p2]
     rintro e' w5 ⟨rfl,rfl⟩
     go_wp2_with fail
     go_ret
     refine ⟨Ag ?_,k⟩
     rw [HV.out,decide_eq_false (p:=e < yo/\0<=yo/\yo<=255) (by omega)]
     rfl
  ·obtain rfl:m=x.writes.length:=by omega
   rw [List.drop_length] at hv
   have HV:=Lib.hid hv
   clear hv
   go_wp2_with fail
   go_ret
   exact ⟨Ag (by rw [HV.out];rfl),k⟩
end Go.Proofs.YthlgnjlpakimaaaGreatDoor
