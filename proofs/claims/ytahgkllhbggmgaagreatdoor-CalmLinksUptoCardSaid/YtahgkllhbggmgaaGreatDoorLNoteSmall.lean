/- Contracts of the library's equality of rows of stamps and spans; comparisons of writes and notes that are the same; whether a note fits, or is new. -/
import Derived.Test.YtahgkllhbggmgaaGreatDoorLVecRef
import Derived.Test.YtahgkllhbggmgaaGreatDoorLNoteWalk
import Derived.Test.YtahgkllhbggmgaaGreatDoorLCovers
import Derived.Test.YtahgkllhbggmgaaGreatDoorLMarks
set_option linter.all false
set_option linter.unnecessarySimpa false
set_option linter.unusedSimpArgs false
set_option linter.unusedVariables false
namespace Go.Proofs.YtahgkllhbggmgaaGreatDoor
open Go.ChangeShapes Go.WideShapes Go.ChangeAt Go.RowKit
theorem Am7 (l m:List Ad) (v u:Value) (w:World) (h:Bx w w.heap.size v l) (h':Bx w w.heap.size u m) :
  Calls Tryz.prog 65 #[v,u] w fun e w'=>e=.returned (.bool (decide (l=m)))/\Below w.heap.size w w':=by
 have hle:=h.len_le
 have hle':=h'.len_le
 obtain ⟨A,c,rfl,_⟩:=id h
 obtain ⟨A',c',rfl,_⟩:=id h'
 by_cases hlen:l.length=m.length
 ·have Hlen:=Lib.hid hlen
  have ht:((l.length:Int) != (m.length:Int))=false:=by rw [hlen];simp
  clear hlen
  go_enter Tryz.func65,Tryz.ntmps65
  go_wp2_with fail
  go_loopw [13] (fun k wr=>∃ n:Nat,n<=l.length/\k=.int .i64 n/\l.take n=m.take n/\Below w.heap.size w wr) (fun k _=>l.length - (intOf k).toNat)
  case atStart=>exact ⟨0,Nat.zero_le _,rfl,rfl,Below.refl _ _⟩
  case round =>
   obtain ⟨n,hn,rfl,ht2,hb⟩:=hrel
   have Ht:=Lib.hid ht2
   clear ht2 ht
   by_cases hlt:n < l.length
   ·obtain ⟨x,hx⟩ : ∃ x,l[n]? = some x:=⟨l[n],List.getElem?_eq_getElem hlt⟩
    obtain ⟨y,hy⟩ : ∃ y,m[n]? = some y:=⟨m[n]'(by have:=Hlen.out;omega),List.getElem?_eq_getElem (by have:=Hlen.out;omega)⟩
    obtain ⟨b,off,_,hv,hbb,e0,e1,_,_⟩:=Ev h hx
    obtain ⟨b',off',_,hv',hbb',e0',e1',_,_⟩:=Ev h' hy
    injection hv with hv1 hv2 hv3
    injection hv' with hv1' hv2' hv3'
    subst hv1 hv1'
    have f0:=(hb.cell (p:=⟨b,off+n*2,none⟩) hbb).trans e0
    have f1:=(hb.cell (p:=⟨b,off+n*2+1,none⟩) hbb).trans e1
    have f0':=(hb.cell (p:=⟨b',off'+n*2,none⟩) hbb').trans e0'
    have f1':=(hb.cell (p:=⟨b',off'+n*2+1,none⟩) hbb').trans e1'
    have Hx:=Lib.hid hx
    have Hy:=Lib.hid hy
    have i1:(n:Int) < (l.length:Int):=by omega
    have i2:(n:Int) < (m.length:Int):=by have:=Hlen.out;omega
    clear hv2 hv3 hv2' hv3' e0 e1 e0' e1' hx hy
    obtain ⟨xl,xh⟩:=x
    obtain ⟨yl,yh⟩:=y
    simp only at f0 f1 f0' f1'
    by_cases p1:xl=yl
    ·subst p1
     by_cases p2:xh=yh
     ·subst p2
      go_wp2_with fail
      go_quiet (fail)
      go_wp2_with fail
      refine ⟨⟨n+1,by omega,by go_num,?_,Jb hb _⟩,by simp [intOf];omega⟩
      rw [Eh Hx.out,Eh Hy.out,Ht.out]
     ·have Hres:Hid (decide (l=m)=false):=by
       refine decide_eq_false fun e=>?_
       have:=Hx.out
       rw [e,Hy.out] at this
       simp at this
       exact p2 this.symm
      go_wp2_with fail
      go_quiet (fail)
      go_wp2_with fail
      go_ret
      exact ⟨Ak Hres.out.symm,Jb hb _⟩
    ·have Hres:Hid (decide (l=m)=false):=by
      refine decide_eq_false fun e=>?_
      have:=Hx.out
      rw [e,Hy.out] at this
      simp at this
      exact p1 this.1.symm
     go_wp2_with fail
     go_quiet (fail)
     go_wp2_with fail
     go_ret
     exact ⟨Ak Hres.out.symm,Jb hb _⟩
   ·obtain rfl:n=l.length:=by omega
    have Hres:Hid (decide (l=m)=true):=by
     refine decide_eq_true ?_
     have:=Ht.out
     rwa [List.take_length,Hlen.out,List.take_length] at this
    go_wp2_with fail
    go_ret
    exact ⟨Ak Hres.out.symm,hb⟩
 ·have ht:((l.length:Int) != (m.length:Int))=true:=by simp;omega
  have Hres:Hid (decide (l=m)=false):=decide_eq_false fun e=>hlen (by rw [e])
  clear hlen
  go_enter Tryz.func65,Tryz.ntmps65
  go_wp2_with fail
  go_ret
  exact ⟨Ak Hres.out.symm,Below.refl _ _⟩
theorem Bl4 (x:Bz) (l:List Ad) (v0 v1 v2 v3 u:Value) (w:World) (h:Pz w w.heap.size v0 v1 v2 v3 x) (h':Bx w w.heap.size u l) (hT:A8 w) :
  Calls Tryz.prog 269 #[.agg #[v0,v1,v2,v3],u] w fun e w'=>e=.returned (.bool (Bi l x.start))/\Below w.heap.size w w':=by
 obtain ⟨A0,c0,rfl,-⟩:=id h.start
 obtain ⟨A1,c1,rfl,-⟩:=id h.end_
 obtain ⟨A2,c2,rfl,-⟩:=id h.blur
 obtain ⟨A3,c3,rfl,-⟩:=id h.writes
 obtain ⟨A,c,rfl,-⟩:=id h'
 have kb:=Ap (o:=.cells #[.slice A0 x.start.length c0,.slice A1 x.end_.length c1,.slice A2 x.blur.length c2,.slice A3 x.writes.length c3] 86) (Below.refl _ w)
 have HC:=Lib.hid (Ms l x.start _ _ _ (h'.next kb) (h.start.next kb) (hT.next kb))
 clear h h' hT
 go_enter Tryz.func269,Tryz.ntmps269
 go_wp2_with fail
 refine HC.out.mono ?_
 rintro e w1 ⟨rfl,hb1⟩
 go_wp2_with fail
 go_ret
 exact ⟨rfl,B6 kb hb1⟩
theorem Bv7 (x:Bz) (l:List Ad) (v0 v1 v2 v3 u:Value) (w:World) (h:Pz w w.heap.size v0 v1 v2 v3 x) (h':Bx w w.heap.size u l) :
  Calls Tryz.prog 163 #[.agg #[v0,v1,v2,v3],u] w fun e w'=>e=.returned (.bool (Bi l x.start))/\Below w.heap.size w w':=by
 obtain ⟨A0,c0,rfl,-⟩:=id h.start
 obtain ⟨A1,c1,rfl,-⟩:=id h.end_
 obtain ⟨A2,c2,rfl,-⟩:=id h.blur
 obtain ⟨A3,c3,rfl,-⟩:=id h.writes
 obtain ⟨A,c,rfl,-⟩:=id h'
 have kb:=Ap (o:=.cells #[.slice A0 x.start.length c0,.slice A1 x.end_.length c1,.slice A2 x.blur.length c2,.slice A3 x.writes.length c3] 86) (Below.refl _ w)
 have HC:=Lib.hid (Tu l x.start _ _ _ (h'.next kb) (h.start.next kb))
 clear h h'
 go_enter Tryz.func163,Tryz.ntmps163
 go_wp2_with fail
 refine HC.out.mono ?_
 rintro e w1 ⟨rfl,hb1⟩
 go_wp2_with fail
 go_ret
 exact ⟨rfl,B6 kb hb1⟩
theorem At4 (l:List Ar) (v u:Value) (w:World) (h:Ng w w.heap.size v l) (h':Ng w w.heap.size u l) :
  Calls Tryz.prog 273 #[v,u] w fun e w'=>e=.returned (.bool true)/\Below w.heap.size w w':=by
 have hle:=h.len_le
 obtain ⟨A,c,rfl,_⟩:=id h
 obtain ⟨A',c',rfl,_⟩:=id h'
 go_enter Tryz.func273,Tryz.ntmps273
 go_wp2_with fail
 go_loopw [5] (fun k wr=>∃ n:Nat,n<=l.length/\k=.int .i64 n/\Below w.heap.size w wr) (fun k _=>l.length - (intOf k).toNat)
 case atStart=>exact ⟨0,Nat.zero_le _,rfl,Below.refl _ _⟩
 case round =>
  obtain ⟨n,hn,rfl,hb⟩:=hrel
  by_cases hlt:n < l.length
  ·obtain ⟨x,hx⟩ : ∃ x,l[n]? = some x:=⟨l[n],List.getElem?_eq_getElem hlt⟩
   obtain ⟨b,off,_,hv,hbb,e0,e1,e2,e3,_⟩:=Ly h hx
   obtain ⟨b',off',_,hv',hbb',e0',e1',e2',e3',_⟩:=Ly h' hx
   injection hv with hv1 hv2 hv3
   injection hv' with hv1' hv2' hv3'
   subst hv1 hv1'
   have f0:=(hb.cell (p:=⟨b,off+n*4,none⟩) hbb).trans e0
   have f1:=(hb.cell (p:=⟨b,off+n*4+1,none⟩) hbb).trans e1
   have f2:=(hb.cell (p:=⟨b,off+n*4+2,none⟩) hbb).trans e2
   have f3:=(hb.cell (p:=⟨b,off+n*4+3,none⟩) hbb).trans e3
   have f0':=(hb.cell (p:=⟨b',off'+n*4,none⟩) hbb').trans e0'
   have f1':=(hb.cell (p:=⟨b',off'+n*4+1,none⟩) hbb').trans e1'
   have f2':=(hb.cell (p:=⟨b',off'+n*4+2,none⟩) hbb').trans e2'
   have f3':=(hb.cell (p:=⟨b',off'+n*4+3,none⟩) hbb').trans e3'
   have i1:(n:Int) < (l.length:Int):=by omega
   obtain ⟨⟨xc,xn⟩,xo,xg⟩:=x
   simp only at f0 f1 f2 f3 f0' f1' f2' f3'
   clear hv2 hv3 hv2' hv3' e0 e1 e2 e3 e0' e1' e2' e3' hx
   cases xg
   all_goals
    go_wp2_with fail
    go_quiet (fail)
    go_wp2_with fail
    exact ⟨⟨n+1,by omega,by go_num,Jb hb _⟩,by simp [intOf];omega⟩
  ·obtain rfl:n=l.length:=by omega
   go_wp2_with fail
   go_ret
   exact ⟨rfl,hb⟩
theorem V2 (l:List Ad) (v u:Value) (w:World) (h:Bx w w.heap.size v l) (h':Bx w w.heap.size u l) :
  Calls Tryz.prog 78 #[v,u] w fun e w'=>e=.returned (.bool true)/\Below w.heap.size w w' :=
 (Xg l l v u w h h').mono fun e w' ⟨he,hb⟩=>⟨by rw [he,decide_eq_true rfl],hb⟩
theorem A66 (l:List Ah) (v u:Value) (w:World) (h:F6 w w.heap.size v l) (h':F6 w w.heap.size u l) :
  Calls Tryz.prog 276 #[v,u] w fun e w'=>e=.returned (.bool true)/\Below w.heap.size w w' :=
 (P2 l l v u w h h').mono fun e w' ⟨he,hb⟩=>⟨by rw [he,decide_eq_true rfl],hb⟩
set_option maxRecDepth 100000 in
theorem A67 (x:Bz) (v0 v1 v2 v3 u0 u1 u2 u3:Value) (w:World) (h:Pz w w.heap.size v0 v1 v2 v3 x) (h':Pz w w.heap.size u0 u1 u2 u3 x) :
  Calls Tryz.prog 356 #[.agg #[v0,v1,v2,v3],.agg #[u0,u1,u2,u3]] w fun e w'=>e=.returned (.bool true)/\Below w.heap.size w w':=by
 have HH:=Lib.hid h
 have HH':=Lib.hid h'
 obtain ⟨A0,c0,rfl,-⟩:=id h.start
 obtain ⟨A1,c1,rfl,-⟩:=id h.end_
 obtain ⟨A2,c2,rfl,-⟩:=id h.blur
 obtain ⟨A3,c3,rfl,-⟩:=id h.writes
 obtain ⟨B0,d0,rfl,-⟩:=id h'.start
 obtain ⟨B1,d1,rfl,-⟩:=id h'.end_
 obtain ⟨B2,d2,rfl,-⟩:=id h'.blur
 obtain ⟨B3,d3,rfl,-⟩:=id h'.writes
 clear h h'
 go_enter Tryz.func356,Tryz.ntmps356
 have kb:=Ap (o:=.cells #[.slice B0 x.start.length d0,.slice B1 x.end_.length d1,.slice B2 x.blur.length d2,.slice B3 x.writes.length d3] 86) (Ap (o:=.cells #[.slice A0 x.start.length c0,.slice A1 x.end_.length c1,.slice A2 x.blur.length c2,.slice A3 x.writes.length c3] 86) (Below.refl _ w))
 have B:Blk ((w.alloc (.cells #[.slice A0 x.start.length c0,.slice A1 x.end_.length c1,.slice A2 x.blur.length c2,.slice A3 x.writes.length c3] 86)).alloc (.cells #[.slice B0 x.start.length d0,.slice B1 x.end_.length d1,.slice B2 x.blur.length d2,.slice B3 x.writes.length d3] 86)) w.heap.size 86 _:=(Blk.new _ _ _).alloc
 have B':Blk ((w.alloc (.cells #[.slice A0 x.start.length c0,.slice A1 x.end_.length c1,.slice A2 x.blur.length c2,.slice A3 x.writes.length c3] 86)).alloc (.cells #[.slice B0 x.start.length d0,.slice B1 x.end_.length d1,.slice B2 x.blur.length d2,.slice B3 x.writes.length d3] 86)) (w.heap.size+1) 86 _:=Blk.new_at (by simp)
 go_wp2_with fail
 generalize World.alloc _ _=W at *
 have HB:=Lib.hid B
 have HB':=Lib.hid B'
 clear B B'
 have p0:∀ z:BW W,z.val.cell? ⟨w.heap.size,0,none⟩=some (.slice A0 x.start.length c0):=fun z=>z.cell (HB.out.cell 0)
 have p1:∀ z:BW W,z.val.cell? ⟨w.heap.size,1,none⟩=some (.slice A1 x.end_.length c1):=fun z=>z.cell (HB.out.cell 1)
 have p2:∀ z:BW W,z.val.cell? ⟨w.heap.size,2,none⟩=some (.slice A2 x.blur.length c2):=fun z=>z.cell (HB.out.cell 2)
 have p3:∀ z:BW W,z.val.cell? ⟨w.heap.size,3,none⟩=some (.slice A3 x.writes.length c3):=fun z=>z.cell (HB.out.cell 3)
 have q0:∀ z:BW W,z.val.cell? ⟨w.heap.size+1,0,none⟩=some (.slice B0 x.start.length d0):=fun z=>z.cell (HB'.out.cell 0)
 have q1:∀ z:BW W,z.val.cell? ⟨w.heap.size+1,1,none⟩=some (.slice B1 x.end_.length d1):=fun z=>z.cell (HB'.out.cell 1)
 have q2:∀ z:BW W,z.val.cell? ⟨w.heap.size+1,2,none⟩=some (.slice B2 x.blur.length d2):=fun z=>z.cell (HB'.out.cell 2)
 have q3:∀ z:BW W,z.val.cell? ⟨w.heap.size+1,3,none⟩=some (.slice B3 x.writes.length d3):=fun z=>z.cell (HB'.out.cell 3)
 refine BW.start (w:=W) ?_
 intro z0
 refine BW.call (z:=z0) (V2 _ _ _ _ ((HH.out.start.next kb).next z0.below) ((HH'.out.start.next kb).next z0.below)) ?_
 intro z1
 go_wp2_with fail
 refine BW.call (z:=z1) (V2 _ _ _ _ ((HH.out.end_.next kb).next z1.below) ((HH'.out.end_.next kb).next z1.below)) ?_
 intro z2
 go_wp2_with fail
 refine BW.call (z:=z2) (A66 _ _ _ _ ((HH.out.blur.next kb).next z2.below) ((HH'.out.blur.next kb).next z2.below)) ?_
 intro z3
 go_wp2_with fail
 refine BW.call (z:=z3) (At4 _ _ _ _ ((HH.out.writes.next kb).next z3.below) ((HH'.out.writes.next kb).next z3.below)) ?_
 intro z4
 go_wp2_with fail
 go_ret
 exact ⟨rfl,B6 kb z4.below⟩
end Go.Proofs.YtahgkllhbggmgaaGreatDoor
