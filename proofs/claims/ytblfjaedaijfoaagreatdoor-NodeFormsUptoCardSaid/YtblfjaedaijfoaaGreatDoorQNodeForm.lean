/- Whether a node is formed, what a new one is, whether it is up (the program's). -/
import Derived.Test.YtblfjaedaijfoaaGreatDoorQNodeSpec
import Derived.Test.YtblfjaedaijfoaaGreatDoorQNoteWalk
import Derived.Test.YtblfjaedaijfoaaGreatDoorQNoteRef
import Derived.Test.YtblfjaedaijfoaaGreatDoorQStretch
import Derived.Test.YtblfjaedaijfoaaGreatDoorQLogWalk
import Derived.Test.YtblfjaedaijfoaaGreatDoorQLogKnown
import Derived.Test.YtblfjaedaijfoaaGreatDoorQViewRead
import Derived.Test.YtblfjaedaijfoaaGreatDoorQSess
import Derived.Test.YtblfjaedaijfoaaGreatDoorQOuts
import Derived.Test.YtblfjaedaijfoaaGreatDoorQDisk
import Derived.Test.YtblfjaedaijfoaaGreatDoorQWire
set_option linter.all false
set_option linter.unnecessarySimpa false
set_option linter.unusedSimpArgs false
set_option linter.unusedVariables false
namespace Go.Proofs.YtblfjaedaijfoaaGreatDoor
open Go.ChangeShapes Go.WideShapes Go.ChangeAt Go.RowKit
set_option maxRecDepth 100000 in
set_option maxHeartbeats 1600000 in
theorem Ao7 (x:Msg) (vi vv vn vb:Value) (w:World) (hI:An8 x) (h:A90 w w.heap.size vi vv vn vb x) (hT:A8 w) (k1:x.kind=1) :
  Calls Tryz.prog 39 #[.agg #[.int .i64 x.kind,.int .i64 x.from_,.int .i64 x.to_,.int .i64 x.session,.int .i64 x.seq,vi,vv,vn,.int .i64 x.body.object,.int .i64 x.body.stamp.count,.int .i64 x.body.stamp.node,vb]] w fun e w'=>e=.returned (.bool (Fe x))/\Below w.heap.size w w':=by
 have hl1:=h.interest.len_le
 have hl2:=h.vector.len_le
 have hl3:=h.notes.len_le
 have hl4:=h.value.len_le
 obtain ⟨A1,c1,rfl,-⟩:=id h.interest
 obtain ⟨A2,c2,rfl,-⟩:=id h.vector
 obtain ⟨A3,c3,rfl,-⟩:=id h.notes
 obtain ⟨A4,c4,rfl,-⟩:=id h.value
 have HH:=Lib.hid h
 have HT:=Lib.hid hT
 clear h hT
 obtain ⟨kd,fr,tt,se,sq,li,lv,ln,⟨bo,⟨bc,bn⟩,lb⟩⟩:=x
 dsimp only at *
 unfold Fe
 dsimp only
 generalize hv:(Dy fr&&Dy tt&&_:Bool)=V
 unfold Ve Ca K4 at hv
 dsimp only at hv
 generalize hr1:Dy fr=r1 at hv
 generalize hr2:Dy tt=r2 at hv
 have HE:=Lib.hid (rfl:ln=ln)
 generalize hn1:li.length=n1 at *
 generalize hn2:lv.length=n2 at *
 generalize hn3:ln.length=n3 at *
 generalize hn4:lb.length=n4 at *
 have HV:=Lib.hid hv
 have HN1:=Lib.hid hn1
 have HN2:=Lib.hid hn2
 have HN3:=Lib.hid hn3
 have H1:=Lib.hid hr1
 have H2:=Lib.hid hr2
 clear hr1 hr2 hv hn1 hn2 hn3 hn4 hI
 subst k1
 go_enter Tryz.func39,Tryz.ntmps39
 go_wp2_with fail
 refine BW.sameR (Nr _ _) (congrArg Value.bool H1.out) ?_
 cases r1
 ·go_wp2_with fail
  go_ret
  exact ⟨Ad (by rw [<-HV.out];simp),Ai (Below.refl _ _)⟩
 go_wp2_with fail
 refine BW.sameR (Nr _ _) (congrArg Value.bool H2.out) ?_
 cases r2
 ·go_wp2_with fail
  go_ret
  exact ⟨Ad (by rw [<-HV.out];simp),Ai (Below.refl _ _)⟩
 clear H1 H2
 by_cases hok:0<=se/\sq=0/\n3=0/\bo=0/\0 < n1/\bc=0/\bn=0/\n4=0
 ·obtain ⟨q1,rfl,rfl,rfl,q2,rfl,rfl,rfl⟩:=hok
  generalize hr1:Br li=r1 at HV
  generalize hr2:Ak lv=r2 at HV
  have H1:=Lib.hid hr1
  have H2:=Lib.hid hr2
  have HW:=Lib.hid (show V=(r1&&r2) by rw [<-HV.out];simp [q1,q2])
  clear HV hr1 hr2
  go_wp2_with fail
  have kB:=Ai (o:=.cells #[.int .i64 1,.int .i64 fr,.int .i64 tt,.int .i64 se,.int .i64 0,.slice A1 n1 c1,.slice A2 n2 c2,.slice A3 0 c3,.int .i64 0,.int .i64 0,.int .i64 0,.slice A4 0 c4] 81) (Below.refl _ w)
  have B:=Blk.new w 81 #[.int .i64 1,.int .i64 fr,.int .i64 tt,.int .i64 se,.int .i64 0,.slice A1 n1 c1,.slice A2 n2 c2,.slice A3 0 c3,.int .i64 0,.int .i64 0,.int .i64 0,.slice A4 0 c4]
  generalize hW:w.alloc _=W at *
  have B5:=Lib.hid (B.cell 5)
  have B6:=Lib.hid (B.cell 6)
  have q6:∀ z:BW W,z.val.cell? ⟨w.heap.size,6,none⟩=some (.slice A2 n2 c2):=fun z=>z.cell B6.out
  clear hW B
  refine BW.start (w:=W) ?_
  intro z
  refine BW.callR (z:=z) (Ka li _ _ ((HH.out.next kB).next z.below).interest) (congrArg Value.bool H1.out) ?_
  clear z
  intro z
  cases r1
  ·go_wp2_with fail
   go_ret
   exact ⟨Ad (by rw [HW.out];rfl),Av kB z.below⟩
  go_wp2_with fail
  refine BW.callR (z:=z) (Lw lv _ _ ((HH.out.next kB).next z.below).vector) (congrArg Value.bool H2.out) ?_
  clear z
  intro z
  go_wp2_with fail
  go_ret
  exact ⟨Ad (by rw [HW.out];rfl),Av kB z.below⟩
 ·obtain rfl:V=false:=by
   rw [<-HV.out]
   simp
   omega
  go_wp2_with fail
  all_goals first | (go_ret;exact ⟨rfl,Ai (Below.refl _ _)⟩) | (exfalso;simp at *;omega)
set_option maxRecDepth 100000 in
set_option maxHeartbeats 1600000 in
theorem Ao6 (x:Msg) (vi vv vn vb:Value) (w:World) (hI:An8 x) (h:A90 w w.heap.size vi vv vn vb x) (hT:A8 w) (k3:x.kind=3) :
  Calls Tryz.prog 39 #[.agg #[.int .i64 x.kind,.int .i64 x.from_,.int .i64 x.to_,.int .i64 x.session,.int .i64 x.seq,vi,vv,vn,.int .i64 x.body.object,.int .i64 x.body.stamp.count,.int .i64 x.body.stamp.node,vb]] w fun e w'=>e=.returned (.bool (Fe x))/\Below w.heap.size w w':=by
 have hl1:=h.interest.len_le
 have hl2:=h.vector.len_le
 have hl3:=h.notes.len_le
 have hl4:=h.value.len_le
 obtain ⟨A1,c1,rfl,-⟩:=id h.interest
 obtain ⟨A2,c2,rfl,-⟩:=id h.vector
 obtain ⟨A3,c3,rfl,-⟩:=id h.notes
 obtain ⟨A4,c4,rfl,-⟩:=id h.value
 have HH:=Lib.hid h
 have HT:=Lib.hid hT
 clear h hT
 obtain ⟨kd,fr,tt,se,sq,li,lv,ln,⟨bo,⟨bc,bn⟩,lb⟩⟩:=x
 dsimp only at *
 unfold Fe
 dsimp only
 generalize hv:(Dy fr&&Dy tt&&_:Bool)=V
 unfold Ve Ca K4 at hv
 dsimp only at hv
 generalize hr1:Dy fr=r1 at hv
 generalize hr2:Dy tt=r2 at hv
 have HE:=Lib.hid (rfl:ln=ln)
 generalize hn1:li.length=n1 at *
 generalize hn2:lv.length=n2 at *
 generalize hn3:ln.length=n3 at *
 generalize hn4:lb.length=n4 at *
 have HV:=Lib.hid hv
 have HN1:=Lib.hid hn1
 have HN2:=Lib.hid hn2
 have HN3:=Lib.hid hn3
 have H1:=Lib.hid hr1
 have H2:=Lib.hid hr2
 clear hr1 hr2 hv hn1 hn2 hn3 hn4 hI
 subst k3
 go_enter Tryz.func39,Tryz.ntmps39
 go_wp2_with fail
 refine BW.sameR (Nr _ _) (congrArg Value.bool H1.out) ?_
 cases r1
 ·go_wp2_with fail
  go_ret
  exact ⟨Ad (by rw [<-HV.out];simp),Ai (Below.refl _ _)⟩
 go_wp2_with fail
 refine BW.sameR (Nr _ _) (congrArg Value.bool H2.out) ?_
 cases r2
 ·go_wp2_with fail
  go_ret
  exact ⟨Ad (by rw [<-HV.out];simp),Ai (Below.refl _ _)⟩
 clear H1 H2
 by_cases hok:n3<=257/\0<=se/\0<=sq/\n1=0/\n2=0/\bo=0/\bc=0/\bn=0/\n4=0
 ·obtain ⟨q1,q2,q3,rfl,rfl,rfl,rfl,rfl,rfl⟩:=hok
  have HW:=Lib.hid (show V=ln.all Ax by rw [<-HV.out];simp [q1,q2,q3])
  clear HV
  have HB:=Lib.hid hl3
  go_wp2_with fail
  have kB:=Ai (o:=.cells #[.int .i64 3,.int .i64 fr,.int .i64 tt,.int .i64 se,.int .i64 sq,.slice A1 0 c1,.slice A2 0 c2,.slice A3 n3 c3,.int .i64 0,.int .i64 0,.int .i64 0,.slice A4 0 c4] 81) (Below.refl _ w)
  go_loopw [115] (fun i wr=>∃ (m:Nat) (z:BW w),m<=n3/\i=.int .i64 m/\ln.all Ax=(ln.drop m).all Ax/\wr=z.val) (fun i _=>n3 - (intOf i).toNat)
  case atStart=>exact ⟨0,⟨_,kB⟩,Nat.zero_le _,rfl,rfl,rfl⟩
  case round =>
   obtain ⟨m,z,hm,rfl,hv,rfl⟩:=hrel
   by_cases hlt:m < n3
   ·obtain ⟨y,hy⟩ : ∃ y,ln[m]? = some y:=⟨ln[m]'(by rw [HN3.out];exact hlt),List.getElem?_eq_getElem (by rw [HN3.out];exact hlt)⟩
    obtain ⟨b,off,c',v0,v1,v2,v3,hv',hbb,e0,e1,e2,e3,hn⟩:=Av2 HH.out.notes hy
    rw [HN3.out] at hv'
    injection hv' with hv1 hv2 hv3
    rw [Eh hy,List.all_cons] at hv
    subst hv1
    replace e0:=z.cell e0
    replace e1:=z.cell e1
    replace e2:=z.cell e2
    replace e3:=z.cell e3
    obtain ⟨a0,d0,rfl,-⟩:=id hn.start
    obtain ⟨a1,d1,rfl,-⟩:=id hn.end_
    obtain ⟨a2,d2,rfl,-⟩:=id hn.blur
    obtain ⟨a3,d3,rfl,-⟩:=id hn.writes
    generalize hr:Ax y=r at hv
    have HR:=Lib.hid hr
    have HY:=Lib.hid hv
    have HQ:=Lib.hid hn
    clear hv hv2 hv3 hr hy hn kB
    generalize hs0:y.start.length=s0 at *
    generalize hs1:y.end_.length=s1 at *
    generalize hs2:y.blur.length=s2 at *
    generalize hs3:y.writes.length=s3 at *
    clear hs0 hs1 hs2 hs3
    go_wp2_with fail
    refine BW.callR (z:=z.alloc _) (R3 y _ _ _ _ _ (HQ.out.next (z.alloc _).below) (HT.out.next (z.alloc _).below)) (congrArg Value.bool HR.out) ?_
    intro z1
    clear e0 e1 e2 e3
    cases r
    ·go_wp2_with fail
     go_ret
     exact ⟨Ad (by rw [HW.out,HY.out];rfl),z1.below⟩
    ·go_wp2_with fail
     refine ⟨⟨m+1,z1,by omega,by go_num,?_,rfl⟩,by simp [intOf];omega⟩
     rw [HY.out];rfl
   ·obtain rfl:m=n3:=by omega
    have HX:=Lib.hid (show V=true by rw [HW.out,hv,List.drop_of_length_le (by rw [HN3.out];exact Nat.le_refl _)];rfl)
    clear hv
    go_wp2_with fail
    go_ret
    exact ⟨Ad HX.out.symm,z.below⟩
 ·obtain rfl:V=false:=by
   rw [<-HV.out]
   simp
   omega
  go_wp2_with fail
  all_goals first | (go_ret;exact ⟨rfl,Ai (Below.refl _ _)⟩) | (exfalso;simp at *;omega)
set_option maxRecDepth 100000 in
set_option maxHeartbeats 1600000 in
theorem Ao8 (x:Msg) (vi vv vn vb:Value) (w:World) (hI:An8 x) (h:A90 w w.heap.size vi vv vn vb x) (hT:A8 w) (k1:¬ x.kind=1) (k3:¬ x.kind=3) :
  Calls Tryz.prog 39 #[.agg #[.int .i64 x.kind,.int .i64 x.from_,.int .i64 x.to_,.int .i64 x.session,.int .i64 x.seq,vi,vv,vn,.int .i64 x.body.object,.int .i64 x.body.stamp.count,.int .i64 x.body.stamp.node,vb]] w fun e w'=>e=.returned (.bool (Fe x))/\Below w.heap.size w w':=by
 have hl1:=h.interest.len_le
 have hl2:=h.vector.len_le
 have hl3:=h.notes.len_le
 have hl4:=h.value.len_le
 obtain ⟨A1,c1,rfl,-⟩:=id h.interest
 obtain ⟨A2,c2,rfl,-⟩:=id h.vector
 obtain ⟨A3,c3,rfl,-⟩:=id h.notes
 obtain ⟨A4,c4,rfl,-⟩:=id h.value
 have HH:=Lib.hid h
 have HT:=Lib.hid hT
 clear h hT
 obtain ⟨kd,fr,tt,se,sq,li,lv,ln,⟨bo,⟨bc,bn⟩,lb⟩⟩:=x
 dsimp only at *
 unfold Fe
 dsimp only
 generalize hv:(Dy fr&&Dy tt&&_:Bool)=V
 unfold Ve Ca K4 at hv
 dsimp only at hv
 generalize hr1:Dy fr=r1 at hv
 generalize hr2:Dy tt=r2 at hv
 have HE:=Lib.hid (rfl:ln=ln)
 generalize hn1:li.length=n1 at *
 generalize hn2:lv.length=n2 at *
 generalize hn3:ln.length=n3 at *
 generalize hn4:lb.length=n4 at *
 have HV:=Lib.hid hv
 have HN1:=Lib.hid hn1
 have HN2:=Lib.hid hn2
 have HN3:=Lib.hid hn3
 have H1:=Lib.hid hr1
 have H2:=Lib.hid hr2
 clear hr1 hr2 hv hn1 hn2 hn3 hn4 hI
 go_enter Tryz.func39,Tryz.ntmps39
 go_wp2_with fail
 refine BW.sameR (Nr _ _) (congrArg Value.bool H1.out) ?_
 cases r1
 ·go_wp2_with fail
  go_ret
  exact ⟨Ad (by rw [<-HV.out];simp),Ai (Below.refl _ _)⟩
 go_wp2_with fail
 refine BW.sameR (Nr _ _) (congrArg Value.bool H2.out) ?_
 cases r2
 ·go_wp2_with fail
  go_ret
  exact ⟨Ad (by rw [<-HV.out];simp),Ai (Below.refl _ _)⟩
 clear H1 H2
 have k1':(kd==1)=false:=by simpa using k1
 have k3':(kd==3)=false:=by simpa using k3
 simp only [if_neg k1,if_neg k3] at HV
 by_cases hok:n1=0/\n2=0/\n3=0/\se=0/\sq=0
 ·obtain ⟨rfl,rfl,rfl,rfl,rfl⟩:=hok
  by_cases k2:kd=2
  ·subst k2
   by_cases hb:bc=0/\bn=0/\n4=0/\bo=0
   ·obtain ⟨rfl,rfl,rfl,rfl⟩:=hb
    obtain rfl:V=true:=by rw [<-HV.out];rfl
    go_wp2_with fail
    go_ret
    exact ⟨rfl,Ai (Below.refl _ _)⟩
   ·obtain rfl:V=false:=by
     rw [<-HV.out]
     simp
     omega
    go_wp2_with fail
    all_goals first | (go_ret;exact ⟨rfl,Ai (Below.refl _ _)⟩) | (go_ret;exact ⟨Ad (Bool.eq_iff_iff.2 (by simp<;>omega)),Ai (Below.refl _ _)⟩) | (exfalso;simp at *;omega)
  have k2':(kd==2)=false:=by simpa using k2
  by_cases k4:kd=4
  ·subst k4
   by_cases hb:bc=0/\bn=0/\n4=0/\0<=bo/\bo<=255
   ·obtain ⟨rfl,rfl,rfl,g1,g2⟩:=hb
    have g3:bo < 256:=by omega
    obtain rfl:V=true:=by rw [<-HV.out];simp [g1,g2]
    go_wp2_with fail
    go_ret
    exact ⟨rfl,Ai (Below.refl _ _)⟩
   ·obtain rfl:V=false:=by
     rw [<-HV.out]
     simp
     omega
    go_wp2_with fail
    all_goals first | (go_ret;exact ⟨rfl,Ai (Below.refl _ _)⟩) | (go_ret;exact ⟨Ad (Bool.eq_iff_iff.2 (by simp<;>omega)),Ai (Below.refl _ _)⟩) | (exfalso;simp at *;omega)
  have k4':(kd==4)=false:=by simpa using k4
  by_cases k5:kd=5
  ·subst k5
   have HW:=Lib.hid (show V=(decide (0<=bo/\bo<=255)&&Bl bc bn&&decide (n4<=256)) by rw [<-HV.out];simp)
   clear HV
   go_wp2_with fail
   all_goals
    refine BW.callR (z:=(BW.self w).alloc _) (Bj9 _ _ _ _ _ _ _ hl4) rfl ?_
    intro z
    go_wp2_with fail
    go_ret
    exact ⟨Ad (by rw [HW.out];simp [*]),z.below⟩
  ·have k5':(kd==5)=false:=by simpa using k5
   obtain rfl:V=false:=by
    rw [<-HV.out]
    simp [k2,k4,k5]
   go_wp2_with fail
   all_goals first | (go_ret;exact ⟨rfl,Ai (Below.refl _ _)⟩) | (go_ret;exact ⟨Ad (Bool.eq_iff_iff.2 (by simp<;>omega)),Ai (Below.refl _ _)⟩) | (exfalso;simp at *;omega)
 ·obtain rfl:V=false:=by
   rw [<-HV.out]
   simp
   omega
  have hcs:(0:Int) < (n1:Int)+n2\/(n1=0/\n2=0/\(0:Int) < (n3:Int))\/(n1=0/\n2=0/\n3=0/\¬ se=0)\/(n1=0/\n2=0/\n3=0/\se=0/\¬ sq=0):=by omega
  rcases hcs with g | ⟨rfl,rfl,g⟩ | ⟨rfl,rfl,rfl,g⟩ | ⟨rfl,rfl,rfl,rfl,g⟩
  ·go_wp2_with fail
   all_goals (go_ret;exact ⟨rfl,Ai (Below.refl _ _)⟩)
  ·go_wp2_with fail
   all_goals (go_ret;exact ⟨rfl,Ai (Below.refl _ _)⟩)
  ·have g':(se != 0)=true:=by simpa using g
   go_wp2_with fail
   all_goals (go_ret;exact ⟨rfl,Ai (Below.refl _ _)⟩)
  ·have g':(sq != 0)=true:=by simpa using g
   go_wp2_with fail
   all_goals (go_ret;exact ⟨rfl,Ai (Below.refl _ _)⟩)
theorem B26 (x:Msg) (vi vv vn vb:Value) (w:World) (hI:An8 x) (h:A90 w w.heap.size vi vv vn vb x) (hT:A8 w) :
  Calls Tryz.prog 39 #[.agg (R8 vi vv vn vb x)] w fun e w'=>e=.returned (.bool (Fe x))/\Below w.heap.size w w':=by
 by_cases k3:x.kind=3
 ·exact Ao6 x vi vv vn vb w hI h hT k3
 ·by_cases k1:x.kind=1
  ·exact Ao7 x vi vv vn vb w hI h hT k1
  ·exact Ao8 x vi vv vn vb w hI h hT k1 k3
theorem As6 (o c n:Int) (A:Option Addr) (k cp:Nat) (w:World) :
  Calls Tryz.prog 129 #[.agg #[.int .i64 o,.int .i64 c,.int .i64 n,.slice A k cp]] w fun e w'=>e=.returned (.bool (decide (c=0/\n=0)&&decide (k=0)))/\Below w.heap.size w w':=by
 go_enter Tryz.func129,Tryz.ntmps129
 go_wp2_with fail
 all_goals (go_ret;exact ⟨Ad (Bool.eq_iff_iff.2 (by simp [*]<;>omega)),Ai (Below.refl _ _)⟩)
theorem Aj0 (o c n:Int) (A:Option Addr) (k cp:Nat) (w:World) (hk:k<=1073741824) :
  Calls Tryz.prog 130 #[.agg #[.int .i64 o,.int .i64 c,.int .i64 n,.slice A k cp]] w fun e w'=>e=.returned (.bool (decide (0<=o/\o<=255)&&Bl c n&&decide (k<=256)))/\Below w.heap.size w w':=by
 generalize hr:Bl c n=r
 have HR:=Lib.hid hr
 clear hr
 by_cases ho:0<=o/\o<=255
 ·rw [decide_eq_true ho]
  obtain ⟨h1,h2⟩:=ho
  go_enter Tryz.func130,Tryz.ntmps130
  go_wp2_with fail
  have kB:=Ai (o:=.cells #[.int .i64 o,.int .i64 c,.int .i64 n,.slice A k cp] 79) (Below.refl _ w)
  have B:=Blk.new w 79 #[.int .i64 o,.int .i64 c,.int .i64 n,.slice A k cp]
  generalize hW:w.alloc _=W at *
  have B3:=Lib.hid (B.cell 3)
  have q3:∀ z:BW W,z.val.cell? ⟨w.heap.size,3,none⟩=some (.slice A k cp):=fun z=>z.cell B3.out
  clear hW B
  refine BW.start (w:=W) ?_
  intro z
  refine BW.callR (z:=z) (A10 _ _ _) (congrArg Value.bool HR.out) ?_
  clear z
  intro z
  cases r
  ·go_wp2_with fail
   go_ret
   exact ⟨rfl,Av kB z.below⟩
  ·go_wp2_with fail
   go_ret
   exact ⟨Ad (Bool.eq_iff_iff.2 (by simp<;>omega)),Av kB z.below⟩
 ·rw [decide_eq_false ho]
  go_enter Tryz.func130,Tryz.ntmps130
  go_wp2_with fail
  all_goals first | (go_ret;exact ⟨Ad (Bool.eq_iff_iff.2 (by simp<;>omega)),Ai (Below.refl _ _)⟩) | (exfalso;simp at *;omega)
set_option maxRecDepth 100000 in
set_option maxHeartbeats 3200000 in
theorem Ai9 (x:Msg) (vi vv vn vb:Value) (w:World) (hI:An8 x) (h:A90 w w.heap.size vi vv vn vb x) :
  Calls Tryz.prog 50 #[.agg (R8 vi vv vn vb x)] w fun e w'=>e=.returned (.bool (Fe x))/\Below w.heap.size w w':=by
 have hl1:=h.interest.len_le
 have hl2:=h.vector.len_le
 have hl3:=h.notes.len_le
 have hl4:=h.value.len_le
 obtain ⟨A1,c1,rfl,-⟩:=id h.interest
 obtain ⟨A2,c2,rfl,-⟩:=id h.vector
 obtain ⟨A3,c3,rfl,-⟩:=id h.notes
 obtain ⟨A4,c4,rfl,-⟩:=id h.value
 have HH:=Lib.hid h
 clear h
 obtain ⟨kd,fr,tt,se,sq,li,lv,ln,⟨bo,⟨bc,bn⟩,lb⟩⟩:=x
 dsimp only [R8] at *
 unfold Fe
 dsimp only
 generalize hv:(Dy fr&&Dy tt&&_:Bool)=V
 unfold Ve Ca K4 at hv
 dsimp only at hv
 generalize hn1:li.length=n1 at *
 generalize hn2:lv.length=n2 at *
 generalize hn3:ln.length=n3 at *
 generalize hn4:lb.length=n4 at *
 have HV:=Lib.hid hv
 have HN1:=Lib.hid hn1
 have HN2:=Lib.hid hn2
 have HN3:=Lib.hid hn3
 clear hv hn1 hn2 hn3 hn4 hI
 by_cases hbase:(0<=fr/\fr<=63)/\(0<=tt/\tt<=63)/\0<=se/\0<=sq/\n3<=257
 ·obtain ⟨⟨p1,p2⟩,⟨p3,p4⟩,p5,p6,p7⟩:=hbase
  have hV2:=HV.out
  rw [show Dy fr=true from decide_eq_true (by omega),show Dy tt=true from decide_eq_true (by omega),Bool.true_and,Bool.true_and] at hV2
  generalize he:(decide (bc=0/\bn=0)&&decide (n4=0))=em at hV2
  have HEm:=Lib.hid he
  have HW:=Lib.hid hV2
  clear HV hV2 he
  go_enter Tryz.func50,Tryz.ntmps50
  go_upto_region 3 with fail
  have kB:=Ai (o:=.cells #[.int .i64 kd,.int .i64 fr,.int .i64 tt,.int .i64 se,.int .i64 sq,.slice A1 n1 c1,.slice A2 n2 c2,.slice A3 n3 c3,.int .i64 bo,.int .i64 bc,.int .i64 bn,.slice A4 n4 c4] 81) (Below.refl _ w)
  have B:=Blk.new w 81 #[.int .i64 kd,.int .i64 fr,.int .i64 tt,.int .i64 se,.int .i64 sq,.slice A1 n1 c1,.slice A2 n2 c2,.slice A3 n3 c3,.int .i64 bo,.int .i64 bc,.int .i64 bn,.slice A4 n4 c4]
  generalize hW:w.alloc _=W at *
  have HB:=Lib.hid B
  clear hW B
  have q0:∀ z:BW W,z.val.cell? ⟨w.heap.size,0,none⟩=some (.int .i64 kd):=fun z=>z.cell (HB.out.cell 0)
  have q3:∀ z:BW W,z.val.cell? ⟨w.heap.size,3,none⟩=some (.int .i64 se):=fun z=>z.cell (HB.out.cell 3)
  have q4:∀ z:BW W,z.val.cell? ⟨w.heap.size,4,none⟩=some (.int .i64 sq):=fun z=>z.cell (HB.out.cell 4)
  have q5:∀ z:BW W,z.val.cell? ⟨w.heap.size,5,none⟩=some (.slice A1 n1 c1):=fun z=>z.cell (HB.out.cell 5)
  have q6:∀ z:BW W,z.val.cell? ⟨w.heap.size,6,none⟩=some (.slice A2 n2 c2):=fun z=>z.cell (HB.out.cell 6)
  have q7:∀ z:BW W,z.val.cell? ⟨w.heap.size,7,none⟩=some (.slice A3 n3 c3):=fun z=>z.cell (HB.out.cell 7)
  have q8:∀ z:BW W,z.val.cell? ⟨w.heap.size,8,none⟩=some (.int .i64 bo):=fun z=>z.cell (HB.out.cell 8)
  have q9:∀ z:BW W,z.val.cell? ⟨w.heap.size,9,none⟩=some (.int .i64 bc):=fun z=>z.cell (HB.out.cell 9)
  have q10:∀ z:BW W,z.val.cell? ⟨w.heap.size,10,none⟩=some (.int .i64 bn):=fun z=>z.cell (HB.out.cell 10)
  have q11:∀ z:BW W,z.val.cell? ⟨w.heap.size,11,none⟩=some (.slice A4 n4 c4):=fun z=>z.cell (HB.out.cell 11)
  refine BW.rebase W ?_
  intro z
  generalize hb1:((n1:Int)==0)=b1
  generalize hb2:((n2:Int)==0)=b2
  generalize hb3:((n3:Int)==0)=b3
  generalize hb4:(se==0)=b4
  generalize hb5:(sq==0)=b5
  generalize hb6:(bo==0)=b6
  have HB1:=Lib.hid hb1
  have HB2:=Lib.hid hb2
  have HB3:=Lib.hid hb3
  have HB4:=Lib.hid hb4
  have HB5:=Lib.hid hb5
  have HB6:=Lib.hid hb6
  clear hb1 hb2 hb3 hb4 hb5 hb6
  go_cut [3] (fun s wx=>s=.bool (b1&&b2)/\wx=z.val)
  case first =>
   have e1:=HB1.out
   have e2:=HB2.out
   cases b1
   ·go_wp2_with fail;go_meet;exact ⟨rfl,rfl⟩
   ·cases b2
    all_goals (go_wp2_with fail;go_meet;exact ⟨rfl,rfl⟩)
  case rest =>
   obtain ⟨rfl,rfl⟩:=hcut
   go_upto_region 4 with fail
   go_cut [4] (fun s wx=>s=.bool (b4&&b5&&b3)/\wx=z.val)
   case first =>
    have e1:=HB4.out
    have e2:=HB5.out
    have e3:=HB3.out
    cases b4
    ·go_wp2_with fail;go_meet;exact ⟨rfl,rfl⟩
    ·cases b5
     ·go_wp2_with fail;go_meet;exact ⟨rfl,rfl⟩
     ·cases b3
      all_goals (go_wp2_with fail;go_meet;exact ⟨rfl,rfl⟩)
   case rest =>
    obtain ⟨rfl,rfl⟩:=hcut
    go_upto_region 5 with fail
    go_cut [5] (fun s wx=>s=.bool (b6&&em)/\∃ z:BW W,wx=z.val)
    case first =>
     have e1:=HB6.out
     cases b6
     ·go_wp2_with fail
      go_meet
      exact ⟨rfl,z,rfl⟩
     ·go_wp2_with fail
      refine BW.callR (z:=z) (As6 _ _ _ _ _ _ _) (congrArg Value.bool HEm.out) ?_
      clear z
      intro z
      go_wp2_with fail
      go_meet
      exact ⟨rfl,z,rfl⟩
    case rest =>
     clear z
     obtain ⟨rfl,z,rfl⟩:=hcut
     by_cases k1:kd=1
     ·subst k1
      generalize hs1:Br li=sf at HW
      generalize hs2:Ak lv=vf at HW
      have HS1:=Lib.hid hs1
      have HS2:=Lib.hid hs2
      have HX:=Lib.hid (show V=(b5&&b3&&(b6&&em)&&decide (0 < n1)&&sf&&vf) by
       rw [<-HW.out,<-HB5.out,<-HB3.out,<-HB6.out,Bool.eq_iff_iff]
       cases em<;>cases sf<;>cases vf<;>simp<;>omega)
      clear HW hs1 hs2
      generalize (b6&&em)=N at HX ⊢
      have e5:=HB5.out
      have e3:=HB3.out
      cases b5
      ·go_wp2_with fail
       go_ret
       exact ⟨Ad (by rw [HX.out];simp),Av kB z.below⟩
      cases b3
      ·go_wp2_with fail
       go_ret
       exact ⟨Ad (by rw [HX.out];simp),Av kB z.below⟩
      cases N
      ·go_wp2_with fail
       go_ret
       exact ⟨Ad (by rw [HX.out];simp),Av kB z.below⟩
      by_cases g1:0 < n1
      ·have HY:=Lib.hid (show V=(sf&&vf) by rw [HX.out,decide_eq_true g1];simp)
       clear HX
       have g2:(0:Int) < (n1:Int):=by omega
       go_wp2_with fail
       refine BW.callR (z:=z) (Nf li _ _ ((HH.out.next kB).next z.below).interest) (congrArg Value.bool HS1.out) ?_
       clear z
       intro z
       cases sf
       ·go_wp2_with fail
        go_ret
        exact ⟨Ad (by rw [HY.out];simp),Av kB z.below⟩
       go_wp2_with fail
       refine BW.callR (z:=z) (Jm lv _ _ ((HH.out.next kB).next z.below).vector) (congrArg Value.bool HS2.out) ?_
       clear z
       intro z
       go_wp2_with fail
       go_ret
       exact ⟨Ad (by rw [HY.out];simp),Av kB z.below⟩
      ·have HY:=Lib.hid (show V=false by rw [HX.out,decide_eq_false g1];simp)
       clear HX
       have g2:(n1:Int)<=0:=by omega
       go_wp2_with fail
       go_ret
       exact ⟨Ad (by rw [HY.out]),Av kB z.below⟩
     have k1':(kd==1)=false:=by simpa using k1
     by_cases k2:kd=2
     ·subst k2
      have HX:=Lib.hid (show V=((b1&&b2)&&(b4&&b5&&b3)&&(b6&&em)) by
       rw [<-HW.out,<-HB1.out,<-HB2.out,<-HB4.out,<-HB5.out,<-HB3.out,<-HB6.out,Bool.eq_iff_iff]
       cases em<;>simp<;>omega)
      clear HW
      generalize (b6&&em)=N at HX ⊢
      generalize (b1&&b2)=S at HX ⊢
      generalize (b4&&b5&&b3)=R at HX ⊢
      cases S
      ·go_wp2_with fail
       go_ret
       exact ⟨Ad (by rw [HX.out];simp),Av kB z.below⟩
      cases R
      ·go_wp2_with fail
       go_ret
       exact ⟨Ad (by rw [HX.out];simp),Av kB z.below⟩
      go_wp2_with fail
      go_ret
      exact ⟨Ad (by rw [HX.out];simp),Av kB z.below⟩
     have k2':(kd==2)=false:=by simpa using k2
     by_cases k3:kd=3
     ·subst k3
      generalize hs1:ln.all Ax=nf at HW
      have HS1:=Lib.hid hs1
      have HX:=Lib.hid (show V=((b1&&b2)&&(b6&&em)&&nf) by
       rw [<-HW.out,<-HB1.out,<-HB2.out,<-HB6.out,Bool.eq_iff_iff]
       cases em<;>cases nf<;>simp<;>omega)
      clear HW hs1
      generalize (b6&&em)=N at HX ⊢
      generalize (b1&&b2)=S at HX ⊢
      go_wp2_with fail
      go_loopw [6] (fun i wr=>∃ (m:Nat) (z:BW W),m<=n3/\i=.int .i64 m/\nf=(ln.drop m).all Ax/\wr=z.val) (fun i _=>n3 - (intOf i).toNat)
      case atStart=>exact ⟨0,z,Nat.zero_le _,rfl,HS1.out.symm,rfl⟩
      case round =>
       clear z
       obtain ⟨m,z,hm,rfl,hv,rfl⟩:=hrel
       by_cases hlt:m < n3
       ·obtain ⟨y,hy⟩ : ∃ y,ln[m]? = some y:=⟨ln[m]'(by rw [HN3.out];exact hlt),List.getElem?_eq_getElem (by rw [HN3.out];exact hlt)⟩
        obtain ⟨b,off,c',v0,v1,v2,v3,hv',hbb,e0,e1,e2,e3,hn⟩:=Av2 (HH.out.next kB).notes hy
        rw [HN3.out] at hv'
        injection hv' with hv1 hv2 hv3
        rw [Eh hy,List.all_cons] at hv
        subst hv1
        replace e0:=z.cell e0
        replace e1:=z.cell e1
        replace e2:=z.cell e2
        replace e3:=z.cell e3
        generalize hr:Ax y=r at hv
        have HR:=Lib.hid hr
        have HY:=Lib.hid hv
        have HQ:=Lib.hid hn
        clear hv hv2 hv3 hr hy hn
        go_wp2_with fail
        refine BW.callR (z:=z) (T9 y _ _ _ _ _ (HQ.out.next z.below)) (congrArg Value.bool HR.out) ?_
        clear e0 e1 e2 e3 z
        intro z
        cases r
        ·go_wp2_with fail
         go_ret
         exact ⟨Ad (by rw [HX.out,HY.out];simp),Av kB z.below⟩
        ·go_wp2_with fail
         refine ⟨⟨m+1,z,by omega,by go_num,?_,rfl⟩,by simp [intOf];omega⟩
         rw [HY.out];rfl
       ·obtain rfl:m=n3:=by omega
        have HY:=Lib.hid (show V=(S&&N) by rw [HX.out,hv,List.drop_of_length_le (by rw [HN3.out];exact Nat.le_refl _)];simp)
        clear hv
        cases S
        all_goals
         go_wp2_with fail
         go_ret
         exact ⟨Ad (by rw [HY.out];simp),Av kB z.below⟩
     have k3':(kd==3)=false:=by simpa using k3
     by_cases k4:kd=4
     ·subst k4
      have HX:=Lib.hid (show V=((b1&&b2)&&(b4&&b5&&b3)&&decide (0<=bo/\bo<=255)&&em) by
       rw [<-HW.out,<-HB1.out,<-HB2.out,<-HB4.out,<-HB5.out,<-HB3.out,Bool.eq_iff_iff]
       cases em<;>simp<;>omega)
      clear HW
      generalize (b6&&em)=N
      generalize (b1&&b2)=S at HX ⊢
      generalize (b4&&b5&&b3)=R at HX ⊢
      cases S
      ·go_wp2_with fail
       go_ret
       exact ⟨Ad (by rw [HX.out];simp),Av kB z.below⟩
      cases R
      ·go_wp2_with fail
       go_ret
       exact ⟨Ad (by rw [HX.out];simp),Av kB z.below⟩
      by_cases g1:bo < 0
      ·have HY:=Lib.hid (show V=false by rw [HX.out,decide_eq_false (by omega)];simp)
       go_wp2_with fail
       go_ret
       exact ⟨Ad (by rw [HY.out]),Av kB z.below⟩
      by_cases g2:255 < bo
      ·have HY:=Lib.hid (show V=false by rw [HX.out,decide_eq_false (by omega)];simp)
       have g3:0<=bo:=by omega
       go_wp2_with fail
       go_ret
       exact ⟨Ad (by rw [HY.out]),Av kB z.below⟩
      have HY:=Lib.hid (show V=em by rw [HX.out,decide_eq_true (by omega)];simp)
      have g3:0<=bo:=by omega
      have g4:bo<=255:=by omega
      clear HX
      go_wp2_with fail
      refine BW.callR (z:=z) (As6 _ _ _ _ _ _ _) (congrArg Value.bool HEm.out) ?_
      clear z
      intro z
      go_wp2_with fail
      go_ret
      exact ⟨Ad HY.out.symm,Av kB z.below⟩
     have k4':(kd==4)=false:=by simpa using k4
     by_cases k5:kd=5
     ·subst k5
      generalize hs1:(decide (0<=bo/\bo<=255)&&Bl bc bn&&decide (n4<=256))=bf at HW
      have HS1:=Lib.hid hs1
      have HX:=Lib.hid (show V=((b1&&b2)&&(b4&&b5&&b3)&&bf) by
       rw [<-HW.out,<-HB1.out,<-HB2.out,<-HB4.out,<-HB5.out,<-HB3.out,Bool.eq_iff_iff]
       cases bf<;>simp<;>omega)
      clear HW hs1
      generalize (b6&&em)=N
      generalize (b1&&b2)=S at HX ⊢
      generalize (b4&&b5&&b3)=R at HX ⊢
      cases S
      ·go_wp2_with fail
       go_ret
       exact ⟨Ad (by rw [HX.out];simp),Av kB z.below⟩
      cases R
      ·go_wp2_with fail
       go_ret
       exact ⟨Ad (by rw [HX.out];simp),Av kB z.below⟩
      go_wp2_with fail
      refine BW.callR (z:=z) (Aj0 _ _ _ _ _ _ _ hl4) (congrArg Value.bool HS1.out) ?_
      clear z
      intro z
      go_wp2_with fail
      go_ret
      exact ⟨Ad (by rw [HX.out];simp),Av kB z.below⟩
     have k5':(kd==5)=false:=by simpa using k5
     have HX:=Lib.hid (show V=false by rw [<-HW.out,if_neg k1,if_neg k3,if_neg k2,if_neg k4,if_neg k5];simp)
     go_wp2_with fail
     go_ret
     exact ⟨Ad (by rw [HX.out]),Av kB z.below⟩
 ·obtain rfl:V=false:=by
   rw [<-HV.out,Bool.eq_false_iff]
   intro h
   simp only [Bool.and_eq_true,Dy,decide_eq_true_eq] at h
   obtain ⟨⟨h1,h2⟩,h3⟩:=h
   split at h3
   ·simp only [Bool.and_eq_true,decide_eq_true_eq] at h3;omega
   ·split at h3
    ·simp only [Bool.and_eq_true,decide_eq_true_eq] at h3;omega
    ·simp only [Bool.and_eq_true,decide_eq_true_eq] at h3;omega
  go_enter Tryz.func50,Tryz.ntmps50
  go_wp2_with fail
  all_goals first | (go_ret;exact ⟨rfl,Ai (Below.refl _ _)⟩) | (exfalso;simp at *;omega)
theorem Bm5 {X:World} {cs:List Value} {x:Bc} (h:Ay X cs (enN x)):B19 X X.heap.size cs x:=by
 match cs,h with
 | [a,b,c,d],⟨h1,h2,h3,h4,_⟩=>exact ⟨a,b,c,d,rfl,h1.stamps,h2.stamps,h3.spans,h4.writes⟩
theorem C13 {E:Env} {V w:World} {v:Value} {l:List Bc} (hV:Ext V w) (h:Bd E V v (.iv (noI l))):Tg w w.heap.size v l:=by
 cases h with
 | iv h=>exact Sl.ext (Cp.to_typed (R:=B19 V V.heap.size) (enc:=enN) (l:=l) h fun _ _ _ h=>Bm5 h) (fun cs x ⟨v0,v1,v2,v3,e,h⟩=>⟨v0,v1,v2,v3,e,h.start.ext (fun _ _ h=>h) hV,h.end_.ext (fun _ _ h=>h) hV,h.blur.ext (fun _ _ h=>h) hV,h.writes.ext (fun _ _ h=>h) hV⟩) hV
theorem C14 {E:Env} {V w:World} {v:Value} {l:List Nat} (hV:Ext V w) (h:Bd E V v (.iv (byI l))):W8 w w.heap.size v l:=by
 cases h with
 | iv h =>
  refine Sl.ext (Cp.to_typed (R:=Bj2) (enc:=fun b=>[IV.val (.int .u8 (b:Int))]) (l:=l) h fun cs x hx hr=>?_) (fun _ _ h=>h) hV
  match cs,hr with
  | [u],⟨h1,_⟩ =>
   cases h1 with
   | val h2 =>
    refine ⟨rfl,?_⟩
    have:(Lit.int .u8 (x:Int)).wf=true:=h2
    simp [Lit.wf,IntKind.max,IntKind.min,IntKind.signed,IntKind.bits] at this
    omega
theorem Bf7 {E:Env} {V w:World} (hV:Ext V w) {v:Value} {m:Msg} (h:Bd E V v (msA m)):∃ vi vv vn vb,v=.agg (R8 vi vv vn vb m)/\A90 w w.heap.size vi vv vn vb m:=by
 cases h with
 | @agg vs _ h1 h2 =>
  obtain ⟨l⟩:=vs
  match l,h1 with
  | [v0,v1,v2,v3,v4,v5,v6,v7,v8,v9,v10,v11],_ =>
   have a0:=h2 0 v0 _ rfl rfl
   have a1:=h2 1 v1 _ rfl rfl
   have a2:=h2 2 v2 _ rfl rfl
   have a3:=h2 3 v3 _ rfl rfl
   have a4:=h2 4 v4 _ rfl rfl
   have a5:=h2 5 v5 _ rfl rfl
   have a6:=h2 6 v6 _ rfl rfl
   have a7:=h2 7 v7 _ rfl rfl
   have a8:=h2 8 v8 _ rfl rfl
   have a9:=h2 9 v9 _ rfl rfl
   have a10:=h2 10 v10 _ rfl rfl
   have a11:=h2 11 v11 _ rfl rfl
   cases a0;cases a1;cases a2;cases a3;cases a4;cases a8;cases a9;cases a10
   exact ⟨v5,v6,v7,v11,rfl,Ji hV a5,Cl hV a6,C13 hV a7,C14 hV a11⟩
theorem Ag8 (m:Msg) (hI:An8 m):A7 Tryz.prog A8 39 [msA m] (.val (.bool (Fe m))) [] :=
 Bt Tryz.func39 rfl (by kernel_rfl) fun V w E vs hV hG hr=>by
  obtain ⟨v,rfl,hv⟩:=H6 hr
  obtain ⟨vi,vv,vn,vb,rfl,hM⟩:=Bf7 hV hv
  exact B26 m vi vv vn vb w hI hM hG
theorem A74 (m:Msg) (hI:An8 m):A7 Tryz.prog A8 50 [msA m] (.val (.bool (Fe m))) [] :=
 Bt Tryz.func50 rfl (by kernel_rfl) fun V w E vs hV hG hr=>by
  obtain ⟨v,rfl,hv⟩:=H6 hr
  obtain ⟨vi,vv,vn,vb,rfl,hM⟩:=Bf7 hV hv
  exact Ai9 m vi vv vn vb w hI hM
theorem Cd9 {l:List Msg} (h:AV.okd (.iv (msI l))) {m:Nat} (hm:m < l.length):An8 l[m]:=by
 obtain ⟨-,o1,o2,o3,o4,o5,-,-,-,o6,o7,o8,-⟩:=Do (by simpa [msI] using h.2) (Af2 l[m]) (List.mem_map_of_mem (List.getElem_mem hm))
 exact ⟨o1,o2,o3,o4,o5,o6,o7,o8⟩
structure Lu (n:Eo):Prop where
 me:I64 n.me
 room:I64 n.view.room
 sure:I64 n.log.sure
 tries:I64 n.tries
 droom:I64 n.disk.room
attribute [local irreducible] AW AWY Bo B4 vop Bj B7 Bf qop Bu C4 Aq Aj Bh A7 B9
attribute [local go_sem] Cv Hu Fs F6 G3 Gu L2 Pa X1 L1 Mr Fx Jk G2 Ef Dk Db Dq Cm My Ae Af
theorem Cf7 {W:Int} {K:Int->Prop} (hk:K W):∃ m,W=m/\Dv (K m):=⟨_,rfl,Bi hk⟩
theorem Sa (n:Int):A7 Tryz.prog A8 30 [.val (.int .i64 n)] (.val (.bool (decide (0<=n/\n < 64)))) []:=by
 refine A7.of (n:=9) (rs:=[.tmp 2]) Tryz.func30 rfl (by kernel_rfl) Tryz.ntmps30 (by kernel_rfl) (by simp) (fun _ _=>A8.later) ?_
 intro hok V w0
 obtain ⟨B,hB⟩ : ∃ B,decide (0<=n/\n < 64)=B:=⟨_,rfl⟩
 rw [hB]
 refine g ?_
 repeat' (first | refine st_ rfl (g ?_) | (refine B8 rfl rfl (fun h e=>?_) (fun h e=>?_)<;>simp only [e]<;>clear e<;>refine g ?_))
 all_goals (rw [<-hB];simp;omega)
theorem Bw5 (room:Int):Bw [] room=Ke room:=by
 simp only [Bw,Gp,Gl]
 cases h:Ke room with
 | false=>simp
 | true =>
  simp only [Ke,Bool.and_eq_true,decide_eq_true_eq] at h
  simp [h.1]
theorem Si {α:Type} {l:List α} {p:α->Bool} {m:Nat} (h:m < l.length) (hp:p l[m]=false):l.all p=false:=List.all_eq_false.2 ⟨_,List.getElem_mem h,by simp [hp]⟩
theorem C51 (s:Sub) (f:Int):A7 Tryz.prog A8 115 [.agg [.val (.int .i64 s.from_),.iv (spI s.interest),.val (.int .i64 s.session),.val (.int .i64 s.seq),.val (.bool s.live),.val (.bool s.heard),.val (.bool s.idle)],.ip [.val (.int .i64 f)]] (.val (.bool (decide (s.from_=f)))) []:=by
 refine A7.of (n:=8) (rs:=[.tmp 3]) Tryz.func115 rfl (by kernel_rfl) Tryz.ntmps115 (by kernel_rfl) (by simp) (fun _ _=>A8.later) ?_
 intro hok V w0
 refine g ?_
 repeat' (first | refine st_ rfl (g ?_) | exact trivial)
set_option maxRecDepth 100000 in
theorem Bq6 (l:List Sub) (f:FuncId) (C:List IV) (p:Sub->Bool) (hp:∀ s,A7 Tryz.prog A8 f [.agg [.val (.int .i64 s.from_),.iv (spI s.interest),.val (.int .i64 s.session),.val (.int .i64 s.seq),.val (.bool s.live),.val (.bool s.heard),.val (.bool s.idle)],.ip C] (.val (.bool (p s))) []):A7 Tryz.prog A8 114 [.iv (H9 l),.fn f [.ip C]] (.val (.int .i64 (if l.any p=true then ((l.findIdx p:Nat):Int) else -1))) []:=by
 refine A7.of (n:=19) (rs:=[.tmp 4]) Tryz.func114 rfl (by kernel_rfl) Tryz.ntmps114 (by kernel_rfl) (by simp) (fun _ _=>A8.later) ?_
 intro hok V w0
 have hlen:l.length<=1073741824:=by simpa [H9] using hok.1.1
 refine g ?_
 repeat' refine st_ rfl (g ?_)
 refine AW.loop (fun m:{m:Nat // m<=l.length/\∀ x∈l.take m,p x=false}=>⟨[(0,.iv (H9 l)),(1,.fn f [.ip C]),(7,.val (.int .i64 (l.length:Nat))),(8,.val (.int .i64 (m.1:Nat)))],[]⟩) (fun m=>l.length - m.1) ⟨0,Nat.zero_le _,fun x hx=>by simp at hx⟩ id ⟨⟨rfl,rfl,rfl,rfl,trivial⟩,trivial,List.nodup_nil⟩ fun ⟨m,hm,ht⟩=>?_
 refine g ?_
 repeat' (first | refine st_ rfl (g ?_) | refine Al (fun h=>g ?_) (fun h=>g ?_) | refine Cy (fun h=>g ?_) (fun h=>g ?_) | refine ix_ (by omega) (g ?_) | refine A9 (hp _) rfl (g ?_))
 ·have hlt:m < l.length:=by omega
  rw [if_pos (List.any_eq_true.2 ⟨_,List.getElem_mem hlt,h⟩),(List.findIdx_eq hlt).2 ⟨h,fun j hj=>ht _ (List.mem_take_iff_getElem.2 ⟨j,by omega,rfl⟩)⟩]
 ·refine ⟨⟨m+1,by omega,fun x hx=>?_⟩,id,⟨⟨rfl,rfl,rfl,rfl,trivial⟩,trivial,List.nodup_nil⟩,by show l.length - (m+1) < l.length - m;omega⟩
  rw [List.take_succ_eq_append_getElem (by omega)] at hx
  rcases List.mem_append.1 hx with h1 | h1
  ·exact ht x h1
  ·rw [List.mem_singleton.1 h1];exact h
 ·obtain rfl:m=l.length:=by omega
  rw [List.take_length] at ht
  rw [if_neg]
  rw [List.any_eq_true]
  rintro ⟨x,hx,hp⟩
  rw [ht x hx] at hp
  cases hp
def Aq2 (l:List Sub) (f:Int):Int:=if l.any (fun s=>decide (s.from_=f))=true then ((l.findIdx fun s=>decide (s.from_=f):Nat):Int) else -1
theorem Cc5 (n:Eo) (f:Int) (hI:Lu n) (iF:I64 f):A7 Tryz.prog A8 40 [ndA n,.val (.int .i64 f)] (.val (.int .i64 (Aq2 n.subs f))) []:=by
 refine A7.of (n:=9) (rs:=[.tmp 4]) Tryz.func40 rfl (by kernel_rfl) Tryz.ntmps40 (by kernel_rfl) (by simp) (fun _ _=>A8.later) ?_
 intro hok V w0
 refine g ?_
 refine AW.seq ?_
 refine AW.reg rfl fun KK hKK=>?_
 refine g ?_
 repeat' (refine hKK _ (g ?_);clear hKK KK)
 refine AW.freeze 300 _ rfl ⟨hI.me,trivial,trivial,trivial,trivial,hI.room,trivial,trivial,hI.sure,trivial,trivial,hI.tries,trivial,hI.droom,trivial,trivial,trivial⟩ ?_
 simp only [go_sem,reduceIte,Nat.reduceEqDiff]
 refine AW.freeze 400 _ rfl ⟨iF,trivial⟩ ?_
 simp only [go_sem,reduceIte,Nat.reduceEqDiff]
 refine g ?_
 repeat' (first | refine st_ rfl (g ?_) | refine A9 (Bq6 _ _ _ (fun s=>decide (s.from_=f)) (fun s=>C51 s f)) rfl (g ?_))
 rfl
set_option maxRecDepth 100000 in
set_option maxHeartbeats 6400000 in
theorem A27 (n:Eo) (hI:Lu n):A7 Tryz.prog A8 10 [ndA n] (.val (.bool (Dc n))) []:=by
 have hat:=Cc5 n n.me hI hI.me
 obtain ⟨me,v,lg,outs,subs,tries,q,dk,dn⟩:=n
 obtain ⟨iM,iR,iS,iT,iD⟩:=hI
 simp only at iM iR iS iT iD hat
 refine A7.of (n:=166) (rs:=[.tmp 2]) Tryz.func10 rfl (by kernel_rfl) Tryz.ntmps10 (by kernel_rfl) (by simp) (fun _ _=>A8.later) ?_
 intro hok V w0
 have hq:AV.okd (.iv (msI q)):=hok.1.2.2.2.2.2.2.2.2.2.2.2.2.1
 have ho:AV.okd (.iv (ouI outs)):=hok.1.2.2.2.2.2.2.2.2.2.1
 have l1:v.known.length<=1073741824:=by simpa using hok.1.2.1.1
 have l2:v.zones.length<=1073741824:=by simpa [znI] using hok.1.2.2.1.1
 have l3:v.held.length<=1073741824:=by simpa using hok.1.2.2.2.1.1
 have l4:v.bodies.length<=1073741824:=by simpa [boI] using hok.1.2.2.2.2.1.1
 have l5:lg.base.length<=1073741824:=by simpa using hok.1.2.2.2.2.2.2.1.1
 have l6:lg.notes.length<=1073741824:=by simpa using hok.1.2.2.2.2.2.2.2.1.1
 have l7:outs.length<=1073741824:=by simpa [ouI] using ho.1
 have l8:subs.length<=1073741824:=by simpa [H9] using hok.1.2.2.2.2.2.2.2.2.2.2.1.1
 have l9:q.length<=1073741824:=by simpa [msI] using hq.1
 obtain ⟨B,hB⟩ : ∃ B,Dc ⟨me,v,lg,outs,subs,tries,q,dk,dn⟩=B:=⟨_,rfl⟩
 rw [hB]
 have hdf:=Jt dk iD
 refine g ?_
 refine AW.seq ?_
 refine AW.reg rfl fun KK hKK=>?_
 refine g ?_
 repeat' (refine hKK _ (g ?_);clear hKK KK)
 refine AW.freeze 200 _ rfl ⟨iM,trivial,trivial,trivial,trivial,iR,trivial,trivial,iS,trivial,trivial,iT,trivial,iD,trivial,trivial,trivial⟩ ?_
 simp only [go_sem,reduceIte,Nat.reduceEqDiff]
 cases hT:B35 ⟨me,v,lg,outs,subs,tries,q,dk,dn⟩ with
 | false =>
  obtain rfl:B=false:=by rw [<-hB,Dc,hT];rfl
  simp only [B35,Bool.and_eq_false_iff,decide_eq_false_iff_not] at hT
  cases hD:Bs dk with
  | false =>
   rw [hD] at hdf
   refine g ?_
   repeat' (first | refine st_ rfl (g ?_) | exact trivial | (refine B8 rfl rfl (fun h e=>?_) (fun h e=>?_)<;>simp only [e]<;>clear e<;>refine g ?_) | (refine Cn rfl rfl (fun h=>?_) (fun h=>?_)<;>simp only [h]<;>refine g ?_) | refine A9 (Sa me) rfl (g ?_) | refine A9 (hdf) rfl (g ?_))
  | true =>
   rw [hD] at hdf hT
   simp only [Bool.true_eq_false,or_false] at hT
   refine g ?_
   repeat' (first | refine st_ rfl (g ?_) | exact trivial | refine Al (fun h=>g ?_) (fun h=>g ?_) | refine Cy (fun h=>g ?_) (fun h=>g ?_) | (refine B8 rfl rfl (fun h e=>?_) (fun h e=>?_)<;>simp only [e]<;>clear e<;>refine g ?_) | (refine Cn rfl rfl (fun h=>?_) (fun h=>?_)<;>simp only [h]<;>refine g ?_) | refine A9 (Sa me) rfl (g ?_) | refine A9 (hdf) rfl (g ?_))
   all_goals (exfalso;simp at *;omega)
 | true =>
  rw [Dc,hT,Bool.true_and] at hB
  simp only [B35,Bool.and_eq_true,decide_eq_true_eq] at hT
  obtain ⟨⟨⟨t1,t2⟩,t3⟩,t4⟩:=hT
  rw [t3] at hdf
  have hnum:=Sa me
  rw [decide_eq_true t1] at hnum
  cases dn with
  | true =>
   simp only [if_true] at hB
   have hcf:=M0 [] v.room iR
   obtain ⟨lb,ln,ls⟩:=lg
   simp only at iS l5 l6
   by_cases hs:ls=0
   ·subst hs
    refine g ?_
    repeat' (first | refine st_ rfl (g ?_) | refine Al (fun h=>g ?_) (fun h=>g ?_) | (refine B8 rfl rfl (fun h e=>?_) (fun h e=>?_)<;>simp only [e]<;>clear e<;>refine g ?_) | refine A9 (hnum) rfl (g ?_) | refine A9 (hdf) rfl (g ?_))
    iterate 3 (exfalso;omega)
    ·refine A61 hcf (by exact Sbs.of_ (Bg 4) (Sbs.rfl_ _)) rfl (g ?_)
     refine g ?_
     repeat' refine st_ rfl (g ?_)
     have z1:=List.length_eq_zero_iff.1 (show v.known.length=0 by omega)
     have z2:=List.length_eq_zero_iff.1 (show v.zones.length=0 by omega)
     have z3:=List.length_eq_zero_iff.1 (show v.held.length=0 by omega)
     have z4:=List.length_eq_zero_iff.1 (show v.bodies.length=0 by omega)
     have z5:=List.length_eq_zero_iff.1 (show lb.length=0 by omega)
     have z6:=List.length_eq_zero_iff.1 (show ln.length=0 by omega)
     have z7:=List.length_eq_zero_iff.1 (show outs.length=0 by omega)
     have z8:=List.length_eq_zero_iff.1 (show subs.length=0 by omega)
     have z9:=List.length_eq_zero_iff.1 (show q.length=0 by omega)
     rw [<-hB,Ay7,decide_eq_true ⟨z1,z2,z3,z4,z5,z6,z7,z8,z9,show tries=0 by omega,rfl⟩,Bool.true_and,Bw5]
    ·rw [<-hB,Ay7,decide_eq_false (fun ⟨z1,z2,z3,z4,z5,z6,z7,z8,z9,z10,_⟩=>h (by
      simp only at z1 z2 z3 z4 z5 z6 z7 z8 z9 z10
      rw [z1,z2,z3,z4,z5,z6,z7,z8,z9,z10];rfl))]
     rfl
   ·refine g ?_
    repeat' (first | refine st_ rfl (g ?_) | refine Al (fun h=>g ?_) (fun h=>g ?_) | (refine B8 rfl rfl (fun h e=>?_) (fun h e=>?_)<;>simp only [e]<;>clear e<;>refine g ?_) | refine A9 (hnum) rfl (g ?_) | refine A9 (hdf) rfl (g ?_) | (refine Cf7 ?_)<;>refine g ?_)
    iterate 3 (exfalso;omega)
    all_goals first | (exfalso;omega) | (rw [<-hB,Ay7,decide_eq_false (fun ⟨_,_,_,_,_,_,_,_,_,_,z⟩=>hs z)];rfl)
  | false =>
   simp only [Bool.false_eq_true,if_false] at hB
   refine g ?_
   repeat' (first | refine st_ rfl (g ?_) | refine Al (fun h=>g ?_) (fun h=>g ?_) | (refine B8 rfl rfl (fun h e=>?_) (fun h e=>?_)<;>simp only [e]<;>clear e<;>refine g ?_) | refine A9 (hnum) rfl (g ?_) | refine A9 (hdf) rfl (g ?_))
   iterate 3 (exfalso;omega)
   unfold Bk6 at hB
   simp only at hB
   have hvf:=Jo v iR
   have hlf:=Vi lg iS
   cases hV:Am v with
   | false =>
    obtain rfl:B=false:=by rw [<-hB,hV];simp
    rw [hV] at hvf
    refine AW.drawn (ds:=[96,97,98,99,100,101,102,103,104,105,106,107,108,109,110,111,112,113,114,115]) (fin:=[]) (bs:=[0,0,0,0,0,0,0,0,0,0,0,0,0,0,0,0,0,0,0,0]) [⟨[],[],[],[],0⟩,⟨[(96,0)],[],[],[],0⟩,⟨[(97,1)],[],[],[],0⟩,⟨[(98,2)],[],[],[],0⟩,⟨[(99,3)],[],[],[],0⟩,⟨[],[],[],[],0⟩,⟨[(101,5)],[],[],[],0⟩,⟨[(102,6)],[],[],[],0⟩,⟨[(103,7)],[],[],[],0⟩,⟨[(100,4),(104,8)],[],[],[],0⟩,⟨[(105,9)],[],[],[],0⟩,⟨[],[],[],[],0⟩,⟨[(107,11)],[],[],[],0⟩,⟨[(108,12)],[],[],[],0⟩,⟨[],[],[],[],0⟩,⟨[(110,14)],[],[],[],0⟩,⟨[(111,15)],[],[],[],0⟩,⟨[(109,13),(112,16)],[],[],[],0⟩,⟨[(113,17)],[],[],[],0⟩,⟨[(106,10),(114,18)],[],[],[],0⟩] (by kernel_rfl) rfl (by kernel_rfl) rfl rfl rfl fun KD hKD=>?_
    refine g ?_
    repeat' (first | refine st_ rfl (g ?_) | exact trivial | (refine hKD _ _ ⟨rfl,g ?_⟩;clear hKD KD) | refine A9 (hvf) rfl (g ?_))
   | true =>
   rw [hV] at hvf
   cases hL:Cf lg with
   | false =>
    obtain rfl:B=false:=by rw [<-hB,hL];simp
    rw [hL] at hlf
    refine AW.drawn (ds:=[96,97,98,99,100,101,102,103,104,105,106,107,108,109,110,111,112,113,114,115]) (fin:=[]) (bs:=[0,0,0,0,0,0,0,0,0,0,0,0,0,0,0,0,0,0,0,0]) [⟨[],[],[],[],0⟩,⟨[(96,0)],[],[],[],0⟩,⟨[(97,1)],[],[],[],0⟩,⟨[(98,2)],[],[],[],0⟩,⟨[(99,3)],[],[],[],0⟩,⟨[],[],[],[],0⟩,⟨[(101,5)],[],[],[],0⟩,⟨[(102,6)],[],[],[],0⟩,⟨[(103,7)],[],[],[],0⟩,⟨[(100,4),(104,8)],[],[],[],0⟩,⟨[(105,9)],[],[],[],0⟩,⟨[],[],[],[],0⟩,⟨[(107,11)],[],[],[],0⟩,⟨[(108,12)],[],[],[],0⟩,⟨[],[],[],[],0⟩,⟨[(110,14)],[],[],[],0⟩,⟨[(111,15)],[],[],[],0⟩,⟨[(109,13),(112,16)],[],[],[],0⟩,⟨[(113,17)],[],[],[],0⟩,⟨[(106,10),(114,18)],[],[],[],0⟩] (by kernel_rfl) rfl (by kernel_rfl) rfl rfl rfl fun KD hKD=>?_
    refine g ?_
    repeat' (first | refine st_ rfl (g ?_) | exact trivial | (refine hKD _ _ ⟨rfl,g ?_⟩;clear hKD KD) | refine A9 (hvf) rfl (g ?_) | refine A9 (hlf) rfl (g ?_))
   | true =>
   rw [hL] at hlf
   have hkn:=Aw0 lg iS hL
   have heq:=Xb (Bk lg.base lg.notes) v.known
   by_cases hK:Bk lg.base lg.notes=v.known
   rotate_left
   ·obtain rfl:B=false:=by rw [<-hB,A34,if_pos hL,decide_eq_false hK];simp
    rw [decide_eq_false hK] at heq
    refine AW.drawn (ds:=[96,97,98,99,100,101,102,103,104,105,106,107,108,109,110,111,112,113,114,115]) (fin:=[]) (bs:=[0,0,0,0,0,0,0,0,0,0,0,0,0,0,0,0,0,0,0,0]) [⟨[],[],[],[],0⟩,⟨[(96,0)],[],[],[],0⟩,⟨[(97,1)],[],[],[],0⟩,⟨[(98,2)],[],[],[],0⟩,⟨[(99,3)],[],[],[],0⟩,⟨[],[],[],[],0⟩,⟨[(101,5)],[],[],[],0⟩,⟨[(102,6)],[],[],[],0⟩,⟨[(103,7)],[],[],[],0⟩,⟨[(100,4),(104,8)],[],[],[],0⟩,⟨[(105,9)],[],[],[],0⟩,⟨[],[],[],[],0⟩,⟨[(107,11)],[],[],[],0⟩,⟨[(108,12)],[],[],[],0⟩,⟨[],[],[],[],0⟩,⟨[(110,14)],[],[],[],0⟩,⟨[(111,15)],[],[],[],0⟩,⟨[(109,13),(112,16)],[],[],[],0⟩,⟨[(113,17)],[],[],[],0⟩,⟨[(106,10),(114,18)],[],[],[],0⟩] (by kernel_rfl) rfl (by kernel_rfl) rfl rfl rfl fun KD hKD=>?_
    refine g ?_
    repeat' (first | refine st_ rfl (g ?_) | exact trivial | (refine hKD _ _ ⟨rfl,g ?_⟩;clear hKD KD) | refine A9 (hvf) rfl (g ?_) | refine A9 (hlf) rfl (g ?_) | refine A9 (hkn) rfl (g ?_) | refine A9 (heq) rfl (g ?_))
   rw [decide_eq_true hK] at heq
   rw [hV,hL,A34,if_pos hL,decide_eq_true hK,Bool.true_and,Bool.true_and,Bool.true_and] at hB
   refine AW.drawn (ds:=[96,97,98,99,100,101,102,103,104,105,106,107,108,109,110,111,112,113,114,115]) (fin:=[]) (bs:=[0,0,0,0,0,0,0,0,0,0,0,0,0,0,0,0,0,0,0,0]) [⟨[],[],[],[],0⟩,⟨[(96,0)],[],[],[],0⟩,⟨[(97,1)],[],[],[],0⟩,⟨[(98,2)],[],[],[],0⟩,⟨[(99,3)],[],[],[],0⟩,⟨[],[],[],[],0⟩,⟨[(101,5)],[],[],[],0⟩,⟨[(102,6)],[],[],[],0⟩,⟨[(103,7)],[],[],[],0⟩,⟨[(100,4),(104,8)],[],[],[],0⟩,⟨[(105,9)],[],[],[],0⟩,⟨[],[],[],[],0⟩,⟨[(107,11)],[],[],[],0⟩,⟨[(108,12)],[],[],[],0⟩,⟨[],[],[],[],0⟩,⟨[(110,14)],[],[],[],0⟩,⟨[(111,15)],[],[],[],0⟩,⟨[(109,13),(112,16)],[],[],[],0⟩,⟨[(113,17)],[],[],[],0⟩,⟨[(106,10),(114,18)],[],[],[],0⟩] (by kernel_rfl) rfl (by kernel_rfl) rfl rfl rfl fun KD hKD=>?_
   have hfo:=Bc0 outs lg.notes.length
   have hfs:=Bb6 subs
   cases hO:Gf lg.notes.length outs with
   | false =>
    obtain rfl:B=false:=by rw [<-hB,hO];simp
    rw [hO] at hfo
    refine g ?_
    repeat' (first | refine st_ rfl (g ?_) | exact trivial | (refine hKD _ _ ⟨rfl,g ?_⟩;clear hKD KD) | refine A9 (hvf) rfl (g ?_) | refine A9 (hlf) rfl (g ?_) | refine A9 (hkn) rfl (g ?_) | refine A9 (heq) rfl (g ?_) | refine A9 (hfo) rfl (g ?_))
   | true =>
   rw [hO] at hfo
   cases hS:Fo subs with
   | false =>
    obtain rfl:B=false:=by rw [<-hB,hS];simp
    rw [hS] at hfs
    refine g ?_
    repeat' (first | refine st_ rfl (g ?_) | exact trivial | (refine hKD _ _ ⟨rfl,g ?_⟩;clear hKD KD) | refine A9 (hvf) rfl (g ?_) | refine A9 (hlf) rfl (g ?_) | refine A9 (hkn) rfl (g ?_) | refine A9 (heq) rfl (g ?_) | refine A9 (hfo) rfl (g ?_) | refine A9 (hfs) rfl (g ?_))
   | true =>
   rw [hS] at hfs
   rw [hO,hS,Bool.true_and,Bool.true_and] at hB
   refine g ?_
   repeat' (first | refine st_ rfl (g ?_) | (refine hKD _ _ ⟨rfl,g ?_⟩;clear hKD KD) | refine A9 (hvf) rfl (g ?_) | refine A9 (hlf) rfl (g ?_) | refine A9 (hkn) rfl (g ?_) | refine A9 (heq) rfl (g ?_) | refine A9 (hfo) rfl (g ?_) | refine A9 (hfs) rfl (g ?_))
   refine AW.loop (fun m:{m:Nat // m<=outs.length/\∀ x∈outs.take m,¬ x.to_=me}=>⟨[(1,.ip [.val (.int .i64 me),stI v.known,znI v.zones,wrI v.held,boI v.bodies,.val (.int .i64 v.room),stI lg.base,noI lg.notes,.val (.int .i64 lg.sure),ouI outs,H9 subs,.val (.int .i64 tries),msI q,.val (.int .i64 dk.room),flI dk.files,.val (.bool false)]),(131,.iv (ouI outs)),(132,.val (.int .i64 (outs.length:Nat))),(133,.val (.int .i64 (m.1:Nat)))],[]⟩) (fun m=>outs.length - m.1) ⟨0,Nat.zero_le _,fun x hx=>by simp at hx⟩ id ⟨⟨rfl,rfl,rfl,rfl,trivial⟩,trivial,List.nodup_nil⟩ fun ⟨m,hm,ht⟩=>?_
   simp only
   repeat (refine AW.seq ?_)
   refine AW.reg rfl fun KK hKK=>?_
   refine g ?_
   repeat' (refine hKK _ (g ?_);clear hKK KK)
   repeat (refine AW.seq ?_)
   refine st_ rfl ?_
   refine g ?_
   refine Al (fun h=>?_) (fun h=>?_)
   ·have hlt:m < outs.length:=by omega
    refine st_ rfl (g ?_)
    refine g ?_
    repeat' (first | refine st_ rfl (g ?_) | refine Al (fun h=>g ?_) (fun h=>g ?_) | refine ix_ (by omega) (g ?_))
    ·rw [<-hB,Si hlt (by simp [h])];rfl
    ·refine ⟨⟨m+1,hlt,fun x hx=>?_⟩,id,⟨⟨rfl,rfl,rfl,rfl,trivial⟩,trivial,List.nodup_nil⟩,by show outs.length - (m+1) < outs.length - m;omega⟩
     rw [List.take_succ_eq_append_getElem hlt] at hx
     rcases List.mem_append.1 hx with h1 | h1
     ·exact ht x h1
     ·rw [List.mem_singleton.1 h1];exact h
   obtain rfl:m=outs.length:=by omega
   rw [List.take_length] at ht
   rw [List.all_eq_true.2 (fun x hx=>by simp [ht x hx]),Bool.true_and] at hB
   refine AW.exit ?_
   simp only [reduceIte]
   refine g ?_
   repeat' refine st_ rfl (g ?_)
   refine AW.loop (fun m:{m:Nat // m<=q.length/\∀ x∈q.take m,Vh me x=true}=>⟨[(1,.ip [.val (.int .i64 me),stI v.known,znI v.zones,wrI v.held,boI v.bodies,.val (.int .i64 v.room),stI lg.base,noI lg.notes,.val (.int .i64 lg.sure),ouI outs,H9 subs,.val (.int .i64 tries),msI q,.val (.int .i64 dk.room),flI dk.files,.val (.bool false)]),(144,.iv (msI q)),(145,.val (.int .i64 (q.length:Nat))),(146,.val (.int .i64 (m.1:Nat)))],[]⟩) (fun m=>q.length - m.1) ⟨0,Nat.zero_le _,fun x hx=>by simp at hx⟩ id ⟨⟨rfl,rfl,rfl,rfl,trivial⟩,trivial,List.nodup_nil⟩ fun ⟨m,hm,ht⟩=>?_
   simp only
   repeat (refine AW.seq ?_)
   refine AW.reg rfl fun KK hKK=>?_
   refine g ?_
   repeat' (refine hKK _ (g ?_);clear hKK KK)
   repeat (refine AW.seq ?_)
   refine st_ rfl ?_
   refine g ?_
   refine Al (fun h=>?_) (fun h=>?_)
   ·have hlt:m < q.length:=by omega
    have hwf:=Ag8 q[m] (Cd9 hq hlt)
    refine st_ rfl (g ?_)
    refine g ?_
    repeat' (first | refine st_ rfl (g ?_) | refine Cy (fun h=>g ?_) (fun h=>g ?_) | (refine B8 rfl rfl (fun h e=>?_) (fun h e=>?_)<;>simp only [e]<;>clear e<;>refine g ?_) | refine ix_ (by omega) (g ?_) | refine A9 (hwf) rfl (g ?_))
    ·rw [<-hB,Si hlt (by simp [Vh,h])];rfl
    ·rw [<-hB,Si hlt (by simp only [Vh];simp at h;simp [h])];rfl
    ·rename_i h2
     refine ⟨⟨m+1,hlt,fun x hx=>?_⟩,id,⟨⟨rfl,rfl,rfl,rfl,trivial⟩,trivial,List.nodup_nil⟩,by show q.length - (m+1) < q.length - m;omega⟩
     rw [List.take_succ_eq_append_getElem hlt] at hx
     rcases List.mem_append.1 hx with h1 | h1
     ·exact ht x h1
     ·rw [List.mem_singleton.1 h1]
      simp only [Vh]
      simp at h h2
      simp [h,h2]
   obtain rfl:m=q.length:=by omega
   rw [List.take_length] at ht
   rw [List.all_eq_true.2 ht,Bool.true_and] at hB
   refine AW.exit ?_
   simp only [reduceIte]
   refine g ?_
   repeat' (first | refine st_ rfl (g ?_) | refine A9 (hat) rfl (g ?_))
   rw [<-hB,<-List.not_any_eq_all_not]
   unfold Aq2
   cases ha:subs.any (fun s=>decide (s.from_=me)) with
   | true=>rw [if_pos rfl];exact decide_eq_false (by omega)
   | false=>rfl
set_option maxRecDepth 100000 in
theorem Au9 (n:Eo) (hI:Lu n):A7 Tryz.prog A8 63 [ndA n] (.val (.int .i64 (upE n))) []:=by
 have hf:=A27 n hI
 refine A7.of (n:=8) (rs:=[.tmp 2]) Tryz.func63 rfl (by kernel_rfl) Tryz.ntmps63 (by kernel_rfl) (by simp) (fun _ _=>A8.later) ?_
 intro hok V w0
 obtain ⟨B,hB⟩ : ∃ B,upE n=B:=⟨_,rfl⟩
 rw [hB]
 unfold upE at hB
 refine g ?_
 refine AW.seq ?_
 refine AW.reg rfl fun KK hKK=>?_
 refine g ?_
 repeat' (refine hKK _ (g ?_);clear hKK KK)
 refine AW.freeze 200 _ rfl ⟨hI.me,trivial,trivial,trivial,trivial,hI.room,trivial,trivial,hI.sure,trivial,trivial,hI.tries,trivial,hI.droom,trivial,trivial,trivial⟩ ?_
 simp only [go_sem,reduceIte,Nat.reduceEqDiff]
 cases hF:Dc n with
 | false =>
  rw [if_neg (by simp [hF])] at hB
  rw [hF] at hf
  refine g ?_
  repeat' (first | refine st_ rfl (g ?_) | refine A9 (hf) rfl (g ?_))
  exact hB
 | true =>
  rw [if_pos hF] at hB
  rw [hF] at hf
  refine g ?_
  repeat' (first | refine st_ rfl (g ?_) | refine Cy (fun h=>g ?_) (fun h=>g ?_) | refine A9 (hf) rfl (g ?_))
  ·rw [if_pos h] at hB;exact hB
  ·rw [if_neg (by simp [h])] at hB;exact hB
end Go.Proofs.YtblfjaedaijfoaaGreatDoor
