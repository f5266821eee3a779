/- Contract of the program's test whether a note is formed. -/
import Derived.Test.YtahgkllhbggmgaaGreatDoorLSpanSet
import Derived.Test.YtahgkllhbggmgaaGreatDoorLCovers
set_option linter.all false
set_option linter.unnecessarySimpa false
set_option linter.unusedSimpArgs false
set_option linter.unusedVariables false
namespace Go.Proofs.YtahgkllhbggmgaaGreatDoor
open Go.ChangeShapes Go.WideShapes Go.ChangeAt Go.RowKit
theorem Lr (l:List Ah) (v:Value) (w:World) (h:F6 w w.heap.size v l) :
  Calls Tryz.prog 169 #[v] w fun e w'=>e=.returned (.bool (C1 l))/\Below w.heap.size w w':=by
 have hle:=h.len_le
 obtain ⟨A,c,rfl,_⟩:=id h
 by_cases hlt:l.length<=128
 ·have hres:decide (l=Gb fun o=>Ba l o)=C1 l:=by
   rw [Bool.eq_iff_iff,G0,decide_eq_true_eq]
   exact ⟨fun h=>⟨hlt,h⟩,fun h=>h.2⟩
  have Hres:=Lib.hid hres
  have hi:(l.length:Int)<=128:=by omega
  clear hres
  go_enter Tryz.func169,Tryz.ntmps169
  go_wp2_with fail
  refine (At8 l _ _ h).mono ?_
  rintro e w1 ⟨rfl,hb1⟩
  go_wp2_with fail
  refine (C29 _ _).mono ?_
  rintro e w2 ⟨⟨v2,rfl,hown⟩,hb2⟩
  go_wp2_with fail
  refine (P2 l _ _ _ _ ((h.next hb1).next hb2) hown.sl).mono ?_
  rintro e w3 ⟨rfl,hb3⟩
  have k3:=B6 (B6 hb1 hb2) hb3
  clear hown hb1 hb2 hb3 h
  rw [Hres.out]
  go_wp2_with fail
  go_ret
  exact ⟨rfl,k3⟩
 ·have Hres:Hid (C1 l=false):=by
   rw [Bool.eq_false_iff]
   intro h
   exact hlt ((G0 l).1 h).1
  have hi:128 < (l.length:Int):=by omega
  go_enter Tryz.func169,Tryz.ntmps169
  go_wp2_with fail
  go_ret
  exact ⟨Ak Hres.out.symm,Below.refl _ _⟩
def Eb (l:List Ah) (o:Int):Bool:=decide (0<=o/\o<=255)&&Ba l o
set_option maxRecDepth 100000 in
theorem At7 (l:List Ah) (o:Int) (v:Value) (w:World) (h:F6 w w.heap.size v l) :
  Calls Tryz.prog 283 #[v,.int .i64 o] w fun e w'=>e=.returned (.bool (Eb l o))/\Below w.heap.size w w':=by
 obtain ⟨A,c,rfl,_⟩:=id h
 by_cases h0:0<=o/\o<=255
 ·obtain ⟨h1,h2⟩:=h0
  have Hres:=Lib.hid (show Eb l o=Ba l o by rw [Eb,decide_eq_true ⟨h1,h2⟩,Bool.true_and])
  obtain ⟨n,rfl⟩ : ∃ n:Nat,o=n:=⟨o.toNat,by omega⟩
  have hX:∀ u:World,(Instr.index 231 (.agg (setRow fun o=>Ba l o)) (.int .i64 n)).run Tryz.prog u=.ok (.bool (Ba l n)) u :=
   Qv Tryz.underlying231 Tryz.underlying4 rfl (by kernel_rfl) (by omega) (Dv (by omega))
  go_enter Tryz.func283,Tryz.ntmps283
  go_wp2_with fail
  refine (At8 l _ _ h).mono ?_
  rintro e w1 ⟨rfl,hb1⟩
  go_wp2_with fail
  go_ret
  exact ⟨Ak Hres.out.symm,hb1⟩
 ·have Hres:=Lib.hid (show Eb l o=false by rw [Eb,decide_eq_false h0,Bool.false_and])
  have hc:o < 0\/(0<=o/\255 < o):=by omega
  clear h0
  rcases hc with h1 | ⟨h1,h2⟩
  all_goals
   go_enter Tryz.func283,Tryz.ntmps283
   go_wp2_with fail
   go_ret
   exact ⟨Ak Hres.out.symm,Below.refl _ _⟩
def Lk {α:Type} (p:α->Bool):Nat->List α->Int
 | _,[]=>-1
 | i,x :: l=>if p x then i else Lk p (i+1) l
theorem Vb {α:Type} (p:α->Bool):∀ (l:List α) (i:Nat),decide (0<=Lk p i l)=l.any p
 | [],_=>rfl
 | x :: l,i=>by
  rw [Lk,List.any_cons]
  cases h:p x with
  | true=>rw [if_pos rfl,Bool.true_or,decide_eq_true (by omega)]
  | false=>rw [if_neg (by simp),Bool.false_or];exact Vb p l (i+1)
def N4 (o:Int) (s:Ah):Bool:=decide (s.lo<=o)&&decide (o<=s.hi)
theorem Bm5 (l:List Ah) (o:Int):Ba l o=l.any (N4 o):=rfl
theorem Bi0 (o:Int) (s:Ah) (B:Nat) (w:World) (h:w.cell? ⟨B,0,none⟩=some (.int .i64 o)) :
  Calls Tryz.prog 354 #[.agg #[.int .i64 s.lo,.int .i64 s.hi],.pointer (some ⟨B,0,none⟩)] w fun e w'=>e=.returned (.bool (N4 o s))/\Below w.heap.size w w':=by
 obtain ⟨lo,hi⟩:=s
 have c0:=Ao (Ap (o:=.cells #[.int .i64 lo,.int .i64 hi] 89) (Below.refl _ w)) h
 have hB:=World.block_lt_of_cell? _ _ h
 simp only at hB
 go_enter Tryz.func354,Tryz.ntmps354
 go_wp2_with fail
 all_goals
  go_ret
  refine ⟨Ak ?_,Ap (Below.refl _ _)⟩
  simp [N4]<;>omega
def Am1 (B:Nat):Value:=.func (.func 354) #[] #[.pointer (some ⟨B,0,none⟩)]
theorem Z5 (o:Int) (l:List Ah) (B:Nat) (v:Value) (w:World) (h:F6 w w.heap.size v l) (ho:w.cell? ⟨B,0,none⟩=some (.int .i64 o)) :
  Calls Tryz.prog 423 #[v,Am1 B] w fun e w'=>e=.returned (.int .i64 (Lk (N4 o) 0 l))/\Below w.heap.size w w':=by
 have hle:=h.len_le
 obtain ⟨A,c,rfl,_⟩:=id h
 have Ho:=Lib.hid ho
 clear ho
 unfold Am1
 go_enter Tryz.func423,Tryz.ntmps423
 go_wp2_with fail
 go_loopw [8] (fun k wr=>∃ m:Nat,m<=l.length/\k=.int .i64 m/\Lk (N4 o) 0 l=Lk (N4 o) m (l.drop m)/\Below w.heap.size w wr) (fun k _=>l.length - (intOf k).toNat)
 case atStart=>exact ⟨0,Nat.zero_le _,rfl,rfl,Below.refl _ _⟩
 case round =>
  obtain ⟨m,hm,rfl,hv,hb⟩:=hrel
  by_cases hlt:m < l.length
  ·obtain ⟨x,hx⟩ : ∃ x,l[m]? = some x:=⟨l[m],List.getElem?_eq_getElem hlt⟩
   obtain ⟨b,off,c',hv',hbb,e0,e1,_,_⟩:=Kn h hx
   injection hv' with hv1 hv2 hv3
   subst hv1
   have f0:=(hb.cell (p:=⟨b,off+m*2,none⟩) hbb).trans e0
   have f1:=(hb.cell (p:=⟨b,off+m*2+1,none⟩) hbb).trans e1
   rw [Ek hx,Lk] at hv
   have HC:=Lib.hid (Bi0 o x B wr (Ao hb Ho.out))
   generalize N4 o x=r at hv HC
   obtain ⟨lo,hi⟩:=x
   simp only at f0 f1 HC
   have HV:=Lib.hid hv
   clear hv hv2 hv3 e0 e1 hx
   go_wp2_with fail
   refine HC.out.mono ?_
   rintro e w1 ⟨rfl,hb1⟩
   have k1:=B6 hb hb1
   clear hb1 HC f0 f1
   cases r<;>go_wp2_with fail
   ·refine ⟨⟨m+1,by omega,by go_num,?_,k1⟩,by simp [intOf];omega⟩
    rw [HV.out,if_neg (by simp)]
   ·go_ret
    exact ⟨Q3 (by rw [HV.out];simp),k1⟩
  ·obtain rfl:m=l.length:=by omega
   rw [List.drop_length] at hv
   have HV:=Lib.hid hv
   clear hv
   go_wp2_with fail
   go_ret
   exact ⟨Q3 HV.out.symm,hb⟩
theorem Tm (o:Int) (l:List Ah) (B:Nat) (v:Value) (w:World) (h:F6 w w.heap.size v l) (ho:w.cell? ⟨B,0,none⟩=some (.int .i64 o)) :
  Calls Tryz.prog 353 #[v,Am1 B] w fun e w'=>e=.returned (.bool (Ba l o))/\Below w.heap.size w w':=by
 obtain ⟨A,c,rfl,_⟩:=id h
 have hany:=Vb (N4 o) l 0
 rw [<-Bm5] at hany
 have HC:=Lib.hid (Z5 o l B _ w h ho)
 generalize Lk (N4 o) 0 l=k at hany HC
 rw [<-hany]
 clear hany ho h
 unfold Am1 at *
 go_enter Tryz.func353,Tryz.ntmps353
 go_wp2_with fail
 refine HC.out.mono ?_
 rintro e w1 ⟨rfl,hb1⟩
 go_wp2_with fail
 go_ret
 exact ⟨rfl,hb1⟩
theorem Af1 (l:List Ah) (o:Int) (v:Value) (w:World) (h:F6 w w.heap.size v l) :
  Calls Tryz.prog 271 #[v,.int .i64 o] w fun e w'=>e=.returned (.bool (Eb l o))/\Below w.heap.size w w':=by
 obtain ⟨A,c,rfl,_⟩:=id h
 have B0:=Blk.new w 3 #[.int .i64 o]
 have c0:=B0.cell 0
 simp only [List.getElem?_toArray,List.getElem?_cons_zero] at c0
 by_cases h0:0<=o/\o<=255
 ·obtain ⟨h1,h2⟩:=h0
  have Hres:=Lib.hid (show Eb l o=Ba l o by rw [Eb,decide_eq_true ⟨h1,h2⟩,Bool.true_and])
  have HC:=Lib.hid (Tm o l w.heap.size _ _ (h.next (Ap (o:=.cells #[.int .i64 o] 3) (Below.refl _ _))) c0)
  unfold Am1 at HC
  clear h B0
  go_enter Tryz.func271,Tryz.ntmps271
  go_wp2_with fail
  refine HC.out.mono ?_
  rintro e w1 ⟨rfl,hb1⟩
  go_wp2_with fail
  go_ret
  exact ⟨Ak Hres.out.symm,B6 (Ap (Below.refl _ _)) hb1⟩
 ·have Hres:=Lib.hid (show Eb l o=false by rw [Eb,decide_eq_false h0,Bool.false_and])
  have hc:o < 0\/(0<=o/\255 < o):=by omega
  clear h0 h B0
  rcases hc with h1 | ⟨h1,h2⟩
  all_goals
   go_enter Tryz.func271,Tryz.ntmps271
   go_wp2_with fail
   go_ret
   exact ⟨Ak Hres.out.symm,Ap (Below.refl _ _)⟩
structure Ar where
 stamp:Ad
 object:Int
 gone:Bool
 deriving DecidableEq
def Ab7 (cs:List Value) (x:Ar):Prop:=cs=[.int .i64 x.stamp.count,.int .i64 x.stamp.node,.int .i64 x.object,.bool x.gone]/\I64 x.stamp.count/\I64 x.stamp.node/\I64 x.object
theorem Aj0 {w:World} : Dt Tryz.prog w 128 4 Ab7:=by
 intro H enc fuel cs x h
 obtain ⟨hl,n,hf⟩:=Bq Tryz.underlying128 h
 have hk:Tryz.prog.cellsOf 128=4:=by kernel_rfl
 have hs:Tryz.prog.cellsOf 38=2:=by kernel_rfl
 have hi:Tryz.prog.cellsOf 3=1:=by kernel_rfl
 have hb:Tryz.prog.cellsOf 4=1:=by kernel_rfl
 rw [hk] at hl
 refine ⟨hl,?_⟩
 match cs,hl with
 | [v0,v1,v2,v3],_ =>
  obtain ⟨y0,h0⟩:=hf 0 38 0 2 rfl hs
  obtain ⟨y1,h1⟩:=hf 1 3 2 1 rfl hi
  obtain ⟨y2,h2⟩:=hf 2 4 3 1 rfl hb
  obtain ⟨_,a,e0,i1,i2⟩:=P8 (w:=w) H enc n _ _ h0
  obtain ⟨_,b,e1,i3⟩:=Br (w:=w) Tryz.underlying3 H enc n _ _ h1
  obtain ⟨_,g,e2⟩:=Kt (w:=w) Tryz.underlying4 H enc n _ _ h2
  simp at e0 e1 e2
  obtain ⟨rfl,rfl⟩:=e0
  subst e1 e2
  exact ⟨⟨a,b,g⟩,rfl,i1,i2,i3⟩
abbrev Ng:=Sl Ab7 4
theorem Sm {w:World} : Dt Tryz.prog w 53 1 (fun cs l=>∃ v,cs=[v]/\Ng w w.heap.size v l) :=
 Cz Tryz.underlying53 (by kernel_rfl) (by omega) Aj0
theorem Ly {w:World} {B:Nat} {v:Value} {l:List Ar} (h:Ng w B v l) {m:Nat} {x:Ar} (hx:l[m]? = some x) :
  ∃ b off c,v=.slice (some ⟨b,off,none⟩) l.length c/\b < B/\w.cell? ⟨b,off+m*4,none⟩=some (.int .i64 x.stamp.count)/\w.cell? ⟨b,off+m*4+1,none⟩=some (.int .i64 x.stamp.node) /\
   w.cell? ⟨b,off+m*4+2,none⟩=some (.int .i64 x.object)/\w.cell? ⟨b,off+m*4+3,none⟩=some (.bool x.gone)/\I64 x.object:=by
 obtain ⟨A,c,rfl,_,_,h3⟩:=h
 obtain ⟨b,off,rfl,hb,h4⟩:=h3 (by rintro rfl;simp at hx)
 obtain ⟨cs,⟨rfl,i1,i2,i3⟩,_,h5⟩:=h4 m x hx
 exact ⟨b,off,c,rfl,hb,h5 0 _ rfl,h5 1 _ rfl,h5 2 _ rfl,h5 3 _ rfl,i3⟩
structure Bz where
 start:List Ad
 end_ : List Ad
 blur:List Ah
 writes:List Ar
 deriving DecidableEq
structure Pz (w:World) (B:Nat) (v0 v1 v2 v3:Value) (x:Bz):Prop where
 start:Bx w B v0 x.start
 end_ : Bx w B v1 x.end_
 blur:F6 w B v2 x.blur
 writes:Ng w B v3 x.writes
theorem Pz.next {w w':World} {v0 v1 v2 v3:Value} {x:Bz} (h:Pz w w.heap.size v0 v1 v2 v3 x) (hb:Below w.heap.size w w'):Pz w' w'.heap.size v0 v1 v2 v3 x :=
 ⟨h.start.next hb,h.end_.next hb,h.blur.next hb,h.writes.next hb⟩
def Bs5 (w:World) (B:Nat) (cs:List Value) (x:Bz):Prop:=∃ v0 v1 v2 v3,cs=[v0,v1,v2,v3]/\Pz w B v0 v1 v2 v3 x
theorem Au9 {w:World} : Dt Tryz.prog w 86 4 (Bs5 w w.heap.size):=by
 intro H enc fuel cs x h
 obtain ⟨hl,n,hf⟩:=Bq Tryz.underlying86 h
 have hk:Tryz.prog.cellsOf 86=4:=by kernel_rfl
 have hs:Tryz.prog.cellsOf 51=1:=by kernel_rfl
 have hi:Tryz.prog.cellsOf 40=1:=by kernel_rfl
 have hb:Tryz.prog.cellsOf 53=1:=by kernel_rfl
 rw [hk] at hl
 refine ⟨hl,?_⟩
 match cs,hl with
 | [v0,v1,v2,v3],_ =>
  obtain ⟨y0,h0⟩:=hf 0 51 0 1 rfl hs
  obtain ⟨y1,h1⟩:=hf 1 51 1 1 rfl hs
  obtain ⟨y2,h2⟩:=hf 2 40 2 1 rfl hi
  obtain ⟨y3,h3⟩:=hf 3 53 3 1 rfl hb
  obtain ⟨_,a,_,e0,s0⟩:=G7 (w:=w) H enc n _ _ h0
  obtain ⟨_,b,_,e1,s1⟩:=G7 (w:=w) H enc n _ _ h1
  obtain ⟨_,c,_,e2,s2⟩:=Jm (w:=w) H enc n _ _ h2
  obtain ⟨_,d,_,e3,s3⟩:=Sm (w:=w) H enc n _ _ h3
  simp at e0 e1 e2 e3
  subst e0 e1 e2 e3
  exact ⟨⟨a,b,c,d⟩,_,_,_,_,rfl,s0,s1,s2,s3⟩
abbrev Ao9 (w:World) (B:Nat):=Sl (Bs5 w B) 4 w B
theorem V5 {w:World} : Dt Tryz.prog w 57 1 (fun cs l=>∃ v,cs=[v]/\Ao9 w w.heap.size v l) :=
 Cz Tryz.underlying57 (by kernel_rfl) (by omega) Au9
def Fz (x:Bz):Int->List Ar->Bool
 | _,[]=>true
 | e,y :: l=>(decide (e < y.object/\0<=y.object/\y.object<=255)&&!Eb x.blur y.object&&H5 x.end_ y.stamp)&&Fz x y.object l
def Bt (x:Bz):Bool:=B7 x.start&&B7 x.end_&&Bi x.end_ x.start&&C1 x.blur&&Fz x (-1) x.writes
theorem Av8 (o:Int) (w:World) :
  Calls Tryz.prog 270 #[.int .i64 o] w fun e w'=>e=.returned (.bool (decide (0<=o/\o<=255)))/\w=w':=by
 go_enter Tryz.func270,Tryz.ntmps270
 go_wp2_with fail
 all_goals (go_ret;refine ⟨Ak ?_,rfl⟩;first | (rw [eq_comm,decide_eq_true_eq];omega) | (rw [eq_comm,decide_eq_false_iff_not];omega) | (rw [Bool.eq_iff_iff];simp<;>omega))
set_option maxHeartbeats 1600000 in
theorem Xs (x:Bz) (v0 v1 v2 v3:Value) (w:World) (h:Pz w w.heap.size v0 v1 v2 v3 x) (hT:A8 w) :
  Calls Tryz.prog 145 #[.agg #[v0,v1,v2,v3]] w fun e w'=>e=.returned (.bool (Bt x))/\Below w.heap.size w w':=by
 have hle:=h.writes.len_le
 obtain ⟨A0,c0,rfl,_⟩:=id h.start
 obtain ⟨A1,c1,rfl,_⟩:=id h.end_
 obtain ⟨A2,c2,rfl,_⟩:=id h.blur
 obtain ⟨A3,c3,rfl,_⟩:=id h.writes
 unfold Bt
 generalize hr0:B7 x.start=r0
 generalize hr1:B7 x.end_=r1
 generalize hr2:Bi x.end_ x.start=r2
 generalize hr3:C1 x.blur=r3
 have H0:=Lib.hid hr0
 have H1:=Lib.hid hr1
 have H2:=Lib.hid hr2
 have H3:=Lib.hid hr3
 have HT:=Lib.hid hT
 clear hr0 hr1 hr2 hr3 hT
 go_enter Tryz.func145,Tryz.ntmps145
 go_wp2_with fail
 generalize hv0:Value.slice A0 x.start.length c0=v0 at *
 generalize hv1:Value.slice A1 x.end_.length c1=v1 at *
 generalize hv2:Value.slice A2 x.blur.length c2=v2 at *
 generalize hv3:Value.slice A3 x.writes.length c3=v3 at *
 have Hv3:=Lib.hid hv3
 clear hv0 hv1 hv2 hv3
 have k:=Ap (o:=.cells #[v0,v1,v2,v3] 86) (Below.refl _ w)
 have B:=Blk.new w 86 #[v0,v1,v2,v3]
 generalize hW0:w.alloc (.cells #[v0,v1,v2,v3] 86)=W0 at *
 clear hW0
 have hn:=h.next k
 have hT:=Lib.hid (HT.out.next k)
 refine (Mr x.start _ _ hn.start).mono ?_
 rw [H0.out]
 rintro e w1 ⟨rfl,hb1⟩
 replace k:=B6 k hb1
 replace B:=B.next hb1
 replace hn:=hn.next hb1
 replace hT:=Lib.hid (hT.out.next hb1)
 clear hb1
 have b0:=B.cell 0
 have b1:=B.cell 1
 have b2:=B.cell 2
 have b3:=B.cell 3
 simp only [List.getElem?_toArray,List.getElem?_cons_zero,List.getElem?_cons_succ] at b0 b1 b2 b3
 cases r0
 ·go_wp2_with fail
  go_ret
  exact ⟨rfl,k⟩
 go_wp2_with fail
 refine (Mr x.end_ _ _ hn.end_).mono ?_
 rw [H1.out]
 rintro e w2 ⟨rfl,hb1⟩
 replace k:=B6 k hb1
 replace B:=B.next hb1
 replace hn:=hn.next hb1
 replace hT:=Lib.hid (hT.out.next hb1)
 replace b0:=Ao hb1 b0
 replace b1:=Ao hb1 b1
 replace b2:=Ao hb1 b2
 replace b3:=Ao hb1 b3
 clear hb1
 cases r1
 ·go_wp2_with fail
  go_ret
  exact ⟨rfl,k⟩
 go_wp2_with fail
 refine (Ms x.end_ x.start _ _ _ hn.end_ hn.start hT.out).mono ?_
 rw [H2.out]
 rintro e w3 ⟨rfl,hb1⟩
 replace k:=B6 k hb1
 replace B:=B.next hb1
 replace hn:=hn.next hb1
 replace hT:=Lib.hid (hT.out.next hb1)
 replace b0:=Ao hb1 b0
 replace b1:=Ao hb1 b1
 replace b2:=Ao hb1 b2
 replace b3:=Ao hb1 b3
 clear hb1
 cases r2
 ·go_wp2_with fail
  go_ret
  exact ⟨rfl,k⟩
 go_wp2_with fail
 refine (Ko x.blur _ _ hn.blur).mono ?_
 rw [H3.out]
 rintro e w4 ⟨rfl,hb1⟩
 replace k:=B6 k hb1
 replace B:=B.next hb1
 replace hn:=hn.next hb1
 replace hT:=Lib.hid (hT.out.next hb1)
 replace b0:=Ao hb1 b0
 replace b1:=Ao hb1 b1
 replace b2:=Ao hb1 b2
 replace b3:=Ao hb1 b3
 clear hb1
 cases r3
 ·go_wp2_with fail
  go_ret
  exact ⟨rfl,k⟩
 rw [<-Hv3.out] at b3
 go_wp2_with fail
 have HB:=Lib.hid B
 have HN:=Lib.hid hn
 clear b0 b1 b2 b3 B hn HT H0 H1 H2 H3 h
 go_loopw [3,33] (fun a i wr=>∃ (m:Nat) (e:Int),m<=x.writes.length/\i=.int .i64 m/\a=.int .i64 e/\Fz x (-1) x.writes=Fz x e (x.writes.drop m)/\Below w4.heap.size w4 wr) (fun _ i _=>x.writes.length - (intOf i).toNat)
 case atStart=>exact ⟨0,-1,Nat.zero_le _,rfl,rfl,rfl,Below.refl _ _⟩
 case round =>
  obtain ⟨m,e,hm,rfl,rfl,hv,hb⟩:=hrel
  have hn:=HN.out.next hb
  have B:=HB.out.next hb
  replace k:=B6 k hb
  by_cases hlt:m < x.writes.length
  ·obtain ⟨y,hy⟩ : ∃ y,x.writes[m]? = some y:=⟨x.writes[m],List.getElem?_eq_getElem hlt⟩
   obtain ⟨b,off,c',hv',hbb,e0,e1,e2,e3,_⟩:=Ly hn.writes hy
   rw [<-Hv3.out] at hv'
   injection hv' with hv1 hv2 hv3
   rw [Ek hy,Fz] at hv
   obtain ⟨⟨yc,yn⟩,yo,yg⟩:=y
   simp only at e0 e1 e2 e3 hv
   have HV:=Lib.hid hv
   subst hv1
   have b1:=B.cell 1
   have b2:=B.cell 2
   simp only [List.getElem?_toArray,List.getElem?_cons_zero,List.getElem?_cons_succ] at b1 b2
   clear hv hv2 hv3 hy hbb
   by_cases p1:yo<=e
   ·go_wp2_with fail
    go_ret
    refine ⟨Ak ?_,Ap k⟩
    rw [HV.out,decide_eq_false (p:=e < yo/\0<=yo/\yo<=255) (by omega)]
    rfl
   ·go_wp2_with fail
    have kB:=Ap (o:=.cells #[.int .i64 yc,.int .i64 yn,.int .i64 yo,.bool yg] 128) (Below.refl _ wr)
    have B5:=Blk.new wr 128 #[.int .i64 yc,.int .i64 yn,.int .i64 yo,.bool yg]
    replace hn:=hn.next kB
    replace B:=B.next kB
    have hT2:=Lib.hid ((hT.out.next hb).next kB)
    replace k:=B6 k kB
    replace hb:=B6 hb kB
    clear e0 e1 e2 e3 b1 b2
    have HVn:=Lib.hid hn
    clear hn
    refine (Av8 yo _).mono ?_
    by_cases p2:0<=yo/\yo<=255
    ·rw [decide_eq_true p2]
     rintro e' w5 ⟨rfl,rfl⟩
     have hd:decide (e < yo/\0<=yo/\yo<=255)=true:=decide_eq_true (by omega)
     have HD:=Lib.hid hd
     clear hd
     generalize hW5:wr.alloc (.cells #[.int .i64 yc,.int .i64 yn,.int .i64 yo,.bool yg] 128)=w5 at *
     have d0:=B5.cell 0
     have d1:=B5.cell 1
     have d2:=B5.cell 2
     have b1:=B.cell 1
     have b2:=B.cell 2
     simp only [List.getElem?_toArray,List.getElem?_cons_zero,List.getElem?_cons_succ] at b1 b2 d0 d1 d2
     clear hW5 kB
     go_wp2_with fail
     refine (Af1 x.blur yo _ _ HVn.out.blur).mono ?_
     generalize hq:Eb x.blur yo=q at HV ⊢
     clear hq
     rintro e' w6 ⟨rfl,hb1⟩
     replace k:=B6 k hb1
     replace hb:=B6 hb hb1
     replace HVn:=Lib.hid (HVn.out.next hb1)
     replace B5:=B5.next hb1
     replace b1:=Ao hb1 b1
     replace b2:=Ao hb1 b2
     replace d0:=Ao hb1 d0
     replace d1:=Ao hb1 d1
     replace d2:=Ao hb1 d2
     clear hb1
     cases q with
     | true =>
      go_wp2_with fail
      go_ret
      refine ⟨Ak ?_,k⟩
      rw [HV.out,HD.out]
      rfl
     | false =>
      go_wp2_with fail
      refine (Zo x.end_ ⟨yc,yn⟩ _ _ HVn.out.end_).mono ?_
      generalize hq:H5 x.end_ ⟨yc,yn⟩=q at HV ⊢
      clear hq
      rintro e' w7 ⟨rfl,hb1⟩
      replace k:=B6 k hb1
      replace hb:=B6 hb hb1
      replace d2:=Ao hb1 d2
      clear hb1
      cases q with
      | false =>
       go_wp2_with fail
       go_ret
       refine ⟨Ak ?_,k⟩
       rw [HV.out,HD.out]
       rfl
      | true =>
       go_wp2_with fail
       refine ⟨⟨m+1,yo,by omega,by go_num,rfl,?_,hb⟩,by simp [intOf];omega⟩
       rw [HV.out,HD.out]
       rfl
    ·rw [decide_eq_false p2]
     rintro e' w5 ⟨rfl,rfl⟩
     go_wp2_with fail
     go_ret
     refine ⟨Ak ?_,k⟩
     rw [HV.out,decide_eq_false (p:=e < yo/\0<=yo/\yo<=255) (by omega)]
     rfl
  ·obtain rfl:m=x.writes.length:=by omega
   rw [List.drop_length] at hv
   have HV:=Lib.hid hv
   clear hv
   go_wp2_with fail
   go_ret
   exact ⟨Ak (by rw [HV.out];rfl),k⟩
end Go.Proofs.YtahgkllhbggmgaaGreatDoor
