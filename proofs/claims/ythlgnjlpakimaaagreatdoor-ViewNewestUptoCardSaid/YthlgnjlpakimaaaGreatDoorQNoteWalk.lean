/- Bodies, messages and subscriptions: how they are read. -/
import Derived.Test.YthlgnjlpakimaaaGreatDoorQSpanSet
import Derived.Test.YthlgnjlpakimaaaGreatDoorQCovers
set_option linter.all false
set_option linter.unnecessarySimpa false
set_option linter.unusedSimpArgs false
set_option linter.unusedVariables false
namespace Go.Proofs.YthlgnjlpakimaaaGreatDoor
open Go.ChangeShapes Go.WideShapes Go.ChangeAt Go.RowKit
theorem X9 (l:List Ad) (v:Value) (w:World) (h:Dl w w.heap.size v l) :
  Calls Tryz.prog 94 #[v] w fun e w'=>e=.returned (.bool (D8 l))/\Below w.heap.size w w':=by
 have hle:=h.len_le
 obtain ⟨A,c,rfl,_⟩:=id h
 by_cases hlt:l.length<=128
 ·have hres:decide (l=Ch fun o=>Al l o)=D8 l:=by
   rw [Bool.eq_iff_iff,El,decide_eq_true_eq]
   exact ⟨fun h=>⟨hlt,h⟩,fun h=>h.2⟩
  have Hres:=Lib.hid hres
  have hi:(l.length:Int)<=128:=by omega
  clear hres
  go_enter Tryz.func94,Tryz.ntmps94
  go_wp2_with fail
  refine (A43 l _ _ h).mono ?_
  rintro e w1 ⟨rfl,hb1⟩
  go_wp2_with fail
  refine (Br6 _ _).mono ?_
  rintro e w2 ⟨⟨v2,rfl,hown⟩,hb2⟩
  go_wp2_with fail
  refine (Ux l _ _ _ _ ((h.next hb1).next hb2) hown.sl).mono ?_
  rintro e w3 ⟨rfl,hb3⟩
  have k3:=B9 (B9 hb1 hb2) hb3
  clear hown hb1 hb2 hb3 h
  rw [Hres.out]
  go_wp2_with fail
  go_ret
  exact ⟨rfl,k3⟩
 ·have Hres:Hid (D8 l=false):=by
   rw [Bool.eq_false_iff]
   intro h
   exact hlt ((El l).1 h).1
  have hi:128 < (l.length:Int):=by omega
  go_enter Tryz.func94,Tryz.ntmps94
  go_wp2_with fail
  go_ret
  exact ⟨Ap Hres.out.symm,Below.refl _ _⟩
def By (l:List Ad) (o:Int):Bool:=decide (0<=o/\o<=255)&&Al l o
set_option maxRecDepth 100000 in
theorem Ag8 (l:List Ad) (o:Int) (v:Value) (w:World) (h:Dl w w.heap.size v l) :
  Calls Tryz.prog 29 #[v,.int .i64 o] w fun e w'=>e=.returned (.bool (By l o))/\Below w.heap.size w w':=by
 obtain ⟨A,c,rfl,_⟩:=id h
 by_cases h0:0<=o/\o<=255
 ·obtain ⟨h1,h2⟩:=h0
  have Hres:=Lib.hid (show By l o=Al l o by rw [By,decide_eq_true ⟨h1,h2⟩,Bool.true_and])
  obtain ⟨n,rfl⟩ : ∃ n:Nat,o=n:=⟨o.toNat,by omega⟩
  have hX:∀ u:World,(Instr.index 99 (.agg (setRow fun o=>Al l o)) (.int .i64 n)).run Tryz.prog u=.ok (.bool (Al l n)) u :=
   X7 Tryz.underlying99 Tryz.underlying4 rfl (by kernel_rfl) (by omega) (Dz (by omega))
  go_enter Tryz.func29,Tryz.ntmps29
  go_wp2_with fail
  refine (A43 l _ _ h).mono ?_
  rintro e w1 ⟨rfl,hb1⟩
  go_wp2_with fail
  go_ret
  exact ⟨Ap Hres.out.symm,hb1⟩
 ·have Hres:=Lib.hid (show By l o=false by rw [By,decide_eq_false h0,Bool.false_and])
  have hc:o < 0\/(0<=o/\255 < o):=by omega
  clear h0
  rcases hc with h1 | ⟨h1,h2⟩
  all_goals
   go_enter Tryz.func29,Tryz.ntmps29
   go_wp2_with fail
   go_ret
   exact ⟨Ap Hres.out.symm,Below.refl _ _⟩
theorem B46 (w:World):Ah Es 2 (w.alloc (.cells #[] 66)) w.heap.size 66 (.slice (some ⟨w.heap.size,0,none⟩) 0 0) [] :=
 ⟨[],⟨rfl,.inr ⟨_,0,#[],rfl,Nat.le_refl _,heap_alloc_new w _,Nat.le_refl _,Nat.zero_le _,rfl,rfl⟩⟩,rfl,Nat.zero_le _⟩
theorem B77 (l:List Ad) (v:Value) (w:World) (h:Dl w w.heap.size v l) :
  Calls Tryz.prog 86 #[v] w fun e w'=>(∃ v',e=.returned v'/\Ah Es 2 w' w.heap.size 66 v' l)/\Below w.heap.size w w':=by
 have hle:=h.len_le
 obtain ⟨i0,hi,hz0,hz1,hz2⟩:=info_parts Aj3
 obtain ⟨A,c,rfl,_⟩:=id h
 go_enter Tryz.func86,Tryz.ntmps86
 go_wp2_with (at_builtin;refine D0 _ Ls rfl (.tmp 3) (.tmp 4) 35 rfl w.heap.size 66 i0 _ 16 Tryz.underlying35 hi hz0 hz1 hz2 rfl (by omega) _ [] rfl (B46 w) w.heap.size _ l rfl (h.keep (fun _ _ h=>h) (Nat.le_refl _) (fun p hp=>World.cell?_alloc_lt _ _ _ hp)) (by simp only [List.length_nil];omega) (by omega) (by simp) ?_;intro v1 w1 hown hgr hat)
 simp only [List.nil_append] at hown
 have hb1:Below w.heap.size w w1:=(Aj (Below.refl _ _)).grown hgr (by simp) (fun k hk=>Nat.le_of_eq (Option.some.inj hk))
 have H1:=Lib.hid hown
 clear hown hgr hat hi hz0 hz1 hz2
 go_wp2_with fail
 go_ret
 exact ⟨⟨_,rfl,H1.out⟩,hb1⟩
def Fl {α:Type} (p:α->Bool):Nat->List α->Int
 | _,[]=>-1
 | i,x :: l=>if p x then i else Fl p (i+1) l
theorem A93 {α:Type} (p:α->Bool):∀ (l:List α) (i:Nat),decide (0<=Fl p i l)=l.any p
 | [],_=>rfl
 | x :: l,i=>by
  rw [Fl,List.any_cons]
  cases h:p x with
  | true=>rw [if_pos rfl,Bool.true_or,decide_eq_true (by omega)]
  | false=>rw [if_neg (by simp),Bool.false_or];exact A93 p l (i+1)
def Tr (o:Int) (s:Ad):Bool:=decide (s.lo<=o)&&decide (o<=s.hi)
theorem Cb8 (l:List Ad) (o:Int):Al l o=l.any (Tr o):=rfl
theorem C72 (o:Int) (s:Ad) (B:Nat) (w:World) (h:w.cell? ⟨B,0,none⟩=some (.int .i64 o)) :
  Calls Tryz.prog 145 #[.agg #[.int .i64 s.lo,.int .i64 s.hi],.pointer (some ⟨B,0,none⟩)] w fun e w'=>e=.returned (.bool (Tr o s))/\Below w.heap.size w w':=by
 obtain ⟨lo,hi⟩:=s
 have c0:=Ax (Aj (o:=.cells #[.int .i64 lo,.int .i64 hi] 66) (Below.refl _ w)) h
 have hB:=World.block_lt_of_cell? _ _ h
 simp only at hB
 go_enter Tryz.func145,Tryz.ntmps145
 go_wp2_with fail
 all_goals
  go_ret
  refine ⟨Ap ?_,Aj (Below.refl _ _)⟩
  simp [Tr]<;>omega
def Bc1 (B:Nat):Value:=.func (.func 145) #[] #[.pointer (some ⟨B,0,none⟩)]
theorem Am6 (o:Int) (l:List Ad) (B:Nat) (v:Value) (w:World) (h:Dl w w.heap.size v l) (ho:w.cell? ⟨B,0,none⟩=some (.int .i64 o)) :
  Calls Tryz.prog 199 #[v,Bc1 B] w fun e w'=>e=.returned (.int .i64 (Fl (Tr o) 0 l))/\Below w.heap.size w w':=by
 have hle:=h.len_le
 obtain ⟨A,c,rfl,_⟩:=id h
 have Ho:=Lib.hid ho
 clear ho
 unfold Bc1
 go_enter Tryz.func199,Tryz.ntmps199
 go_wp2_with fail
 go_loopw [8] (fun k wr=>∃ m:Nat,m<=l.length/\k=.int .i64 m/\Fl (Tr o) 0 l=Fl (Tr o) m (l.drop m)/\Below w.heap.size w wr) (fun k _=>l.length - (intOf k).toNat)
 case atStart=>exact ⟨0,Nat.zero_le _,rfl,rfl,Below.refl _ _⟩
 case round =>
  obtain ⟨m,hm,rfl,hv,hb⟩:=hrel
  by_cases hlt:m < l.length
  ·obtain ⟨x,hx⟩ : ∃ x,l[m]? = some x:=⟨l[m],List.getElem?_eq_getElem hlt⟩
   obtain ⟨b,off,c',hv',hbb,e0,e1,_,_⟩:=L0 h hx
   injection hv' with hv1 hv2 hv3
   subst hv1
   have f0:=(hb.cell (p:=⟨b,off+m*2,none⟩) hbb).trans e0
   have f1:=(hb.cell (p:=⟨b,off+m*2+1,none⟩) hbb).trans e1
   rw [Fw hx,Fl] at hv
   have HC:=Lib.hid (C72 o x B wr (Ax hb Ho.out))
   generalize Tr o x=r at hv HC
   obtain ⟨lo,hi⟩:=x
   simp only at f0 f1 HC
   have HV:=Lib.hid hv
   clear hv hv2 hv3 e0 e1 hx
   go_wp2_with fail
   refine HC.out.mono ?_
   rintro e w1 ⟨rfl,hb1⟩
   have k1:=B9 hb hb1
   clear hb1 HC f0 f1
   cases r<;>go_wp2_with fail
   ·refine ⟨⟨m+1,by omega,by go_num,?_,k1⟩,by simp [intOf];omega⟩
    rw [HV.out,if_neg (by simp)]
   ·go_ret
    exact ⟨Po (by rw [HV.out];simp),k1⟩
  ·obtain rfl:m=l.length:=by omega
   rw [List.drop_length] at hv
   have HV:=Lib.hid hv
   clear hv
   go_wp2_with fail
   go_ret
   exact ⟨Po HV.out.symm,hb⟩
theorem A33 (o:Int) (l:List Ad) (B:Nat) (v:Value) (w:World) (h:Dl w w.heap.size v l) (ho:w.cell? ⟨B,0,none⟩=some (.int .i64 o)) :
  Calls Tryz.prog 144 #[v,Bc1 B] w fun e w'=>e=.returned (.bool (Al l o))/\Below w.heap.size w w':=by
 obtain ⟨A,c,rfl,_⟩:=id h
 have hany:=A93 (Tr o) l 0
 rw [<-Cb8] at hany
 have HC:=Lib.hid (Am6 o l B _ w h ho)
 generalize Fl (Tr o) 0 l=k at hany HC
 rw [<-hany]
 clear hany ho h
 unfold Bc1 at *
 go_enter Tryz.func144,Tryz.ntmps144
 go_wp2_with fail
 refine HC.out.mono ?_
 rintro e w1 ⟨rfl,hb1⟩
 go_wp2_with fail
 go_ret
 exact ⟨rfl,hb1⟩
theorem A76 (l:List Ad) (o:Int) (v:Value) (w:World) (h:Dl w w.heap.size v l) :
  Calls Tryz.prog 67 #[v,.int .i64 o] w fun e w'=>e=.returned (.bool (By l o))/\Below w.heap.size w w':=by
 obtain ⟨A,c,rfl,_⟩:=id h
 have B0:=Blk.new w 3 #[.int .i64 o]
 have c0:=B0.cell 0
 simp only [List.getElem?_toArray,List.getElem?_cons_zero] at c0
 by_cases h0:0<=o/\o<=255
 ·obtain ⟨h1,h2⟩:=h0
  have Hres:=Lib.hid (show By l o=Al l o by rw [By,decide_eq_true ⟨h1,h2⟩,Bool.true_and])
  have HC:=Lib.hid (A33 o l w.heap.size _ _ (h.next (Aj (o:=.cells #[.int .i64 o] 3) (Below.refl _ _))) c0)
  unfold Bc1 at HC
  clear h B0
  go_enter Tryz.func67,Tryz.ntmps67
  go_wp2_with fail
  refine HC.out.mono ?_
  rintro e w1 ⟨rfl,hb1⟩
  go_wp2_with fail
  go_ret
  exact ⟨Ap Hres.out.symm,B9 (Aj (Below.refl _ _)) hb1⟩
 ·have Hres:=Lib.hid (show By l o=false by rw [By,decide_eq_false h0,Bool.false_and])
  have hc:o < 0\/(0<=o/\255 < o):=by omega
  clear h0 h B0
  rcases hc with h1 | ⟨h1,h2⟩
  all_goals
   go_enter Tryz.func67,Tryz.ntmps67
   go_wp2_with fail
   go_ret
   exact ⟨Ap Hres.out.symm,Aj (Below.refl _ _)⟩
structure Ai where
 stamp:Ab
 object:Int
 gone:Bool
 deriving DecidableEq
def Yq (cs:List Value) (x:Ai):Prop:=cs=[.int .i64 x.stamp.count,.int .i64 x.stamp.node,.int .i64 x.object,.bool x.gone]/\I64 x.stamp.count/\I64 x.stamp.node/\I64 x.object
theorem B90 {w:World} : Hv Tryz.prog w 49 4 Yq:=by
 intro H enc fuel cs x h
 obtain ⟨hl,n,hf⟩:=Dj Tryz.underlying49 h
 have hk:Tryz.prog.cellsOf 49=4:=by kernel_rfl
 have hs:Tryz.prog.cellsOf 42=2:=by kernel_rfl
 have hi:Tryz.prog.cellsOf 3=1:=by kernel_rfl
 have hb:Tryz.prog.cellsOf 4=1:=by kernel_rfl
 rw [hk] at hl
 refine ⟨hl,?_⟩
 match cs,hl with
 | [v0,v1,v2,v3],_ =>
  obtain ⟨y0,h0⟩:=hf 0 42 0 2 rfl hs
  obtain ⟨y1,h1⟩:=hf 1 3 2 1 rfl hi
  obtain ⟨y2,h2⟩:=hf 2 4 3 1 rfl hb
  obtain ⟨_,a,e0,i1,i2⟩:=V5 (w:=w) H enc n _ _ h0
  obtain ⟨_,b,e1,i3⟩:=Dw (w:=w) Tryz.underlying3 H enc n _ _ h1
  obtain ⟨_,g,e2⟩:=Ah6 (w:=w) Tryz.underlying4 H enc n _ _ h2
  simp at e0 e1 e2
  obtain ⟨rfl,rfl⟩:=e0
  subst e1 e2
  exact ⟨⟨a,b,g⟩,rfl,i1,i2,i3⟩
abbrev Qu:=Sl Yq 4
theorem Zo {w:World} : Hv Tryz.prog w 27 1 (fun cs l=>∃ v,cs=[v]/\Qu w w.heap.size v l) :=
 Gj Tryz.underlying27 (by kernel_rfl) (by omega) B90
theorem Rs {w:World} {B:Nat} {v:Value} {l:List Ai} (h:Qu w B v l) {m:Nat} {x:Ai} (hx:l[m]? = some x) :
  ∃ b off c,v=.slice (some ⟨b,off,none⟩) l.length c/\b < B/\w.cell? ⟨b,off+m*4,none⟩=some (.int .i64 x.stamp.count)/\w.cell? ⟨b,off+m*4+1,none⟩=some (.int .i64 x.stamp.node) /\
   w.cell? ⟨b,off+m*4+2,none⟩=some (.int .i64 x.object)/\w.cell? ⟨b,off+m*4+3,none⟩=some (.bool x.gone)/\I64 x.object:=by
 obtain ⟨A,c,rfl,_,_,h3⟩:=h
 obtain ⟨b,off,rfl,hb,h4⟩:=h3 (by rintro rfl;simp at hx)
 obtain ⟨cs,⟨rfl,i1,i2,i3⟩,_,h5⟩:=h4 m x hx
 exact ⟨b,off,c,rfl,hb,h5 0 _ rfl,h5 1 _ rfl,h5 2 _ rfl,h5 3 _ rfl,i3⟩
structure At where
 start:List Ab
 end_ : List Ab
 blur:List Ad
 writes:List Ai
 deriving DecidableEq
structure Sq (w:World) (B:Nat) (v0 v1 v2 v3:Value) (x:At):Prop where
 start:Co w B v0 x.start
 end_ : Co w B v1 x.end_
 blur:Dl w B v2 x.blur
 writes:Qu w B v3 x.writes
theorem Sq.next {w w':World} {v0 v1 v2 v3:Value} {x:At} (h:Sq w w.heap.size v0 v1 v2 v3 x) (hb:Below w.heap.size w w'):Sq w' w'.heap.size v0 v1 v2 v3 x :=
 ⟨h.start.next hb,h.end_.next hb,h.blur.next hb,h.writes.next hb⟩
def Bt8 (w:World) (B:Nat) (cs:List Value) (x:At):Prop:=∃ v0 v1 v2 v3,cs=[v0,v1,v2,v3]/\Sq w B v0 v1 v2 v3 x
theorem Y8 {w:World} : Hv Tryz.prog w 37 4 (Bt8 w w.heap.size):=by
 intro H enc fuel cs x h
 obtain ⟨hl,n,hf⟩:=Dj Tryz.underlying37 h
 have hk:Tryz.prog.cellsOf 37=4:=by kernel_rfl
 have hs:Tryz.prog.cellsOf 25=1:=by kernel_rfl
 have hi:Tryz.prog.cellsOf 35=1:=by kernel_rfl
 have hb:Tryz.prog.cellsOf 27=1:=by kernel_rfl
 rw [hk] at hl
 refine ⟨hl,?_⟩
 match cs,hl with
 | [v0,v1,v2,v3],_ =>
  obtain ⟨y0,h0⟩:=hf 0 25 0 1 rfl hs
  obtain ⟨y1,h1⟩:=hf 1 25 1 1 rfl hs
  obtain ⟨y2,h2⟩:=hf 2 35 2 1 rfl hi
  obtain ⟨y3,h3⟩:=hf 3 27 3 1 rfl hb
  obtain ⟨_,a,_,e0,s0⟩:=M9 (w:=w) H enc n _ _ h0
  obtain ⟨_,b,_,e1,s1⟩:=M9 (w:=w) H enc n _ _ h1
  obtain ⟨_,c,_,e2,s2⟩:=Lt (w:=w) H enc n _ _ h2
  obtain ⟨_,d,_,e3,s3⟩:=Zo (w:=w) H enc n _ _ h3
  simp at e0 e1 e2 e3
  subst e0 e1 e2 e3
  exact ⟨⟨a,b,c,d⟩,_,_,_,_,rfl,s0,s1,s2,s3⟩
abbrev A17 (w:World) (B:Nat):=Sl (Bt8 w B) 4 w B
theorem A17.next {w w':World} {v:Value} {l:List At} (h:A17 w w.heap.size v l) (hb:Below w.heap.size w w'):A17 w' w'.heap.size v l :=
 h.keep (fun _ _ ⟨v0,v1,v2,v3,e,hn⟩=>⟨v0,v1,v2,v3,e,hn.next hb⟩) hb.size fun _ hp=>hb.cell hp
theorem B91 {w:World} : Hv Tryz.prog w 60 1 (fun cs l=>∃ v,cs=[v]/\A17 w w.heap.size v l) :=
 Gj Tryz.underlying60 (by kernel_rfl) (by omega) Y8
theorem Cb0 {w:World} {B:Nat} {v:Value} {l:List At} (h:A17 w B v l) {m:Nat} {x:At} (hx:l[m]? = some x) :
  ∃ b off c v0 v1 v2 v3,v=.slice (some ⟨b,off,none⟩) l.length c/\b < B/\w.cell? ⟨b,off+m*4,none⟩=some v0/\w.cell? ⟨b,off+m*4+1,none⟩=some v1 /\
   w.cell? ⟨b,off+m*4+2,none⟩=some v2/\w.cell? ⟨b,off+m*4+3,none⟩=some v3/\Sq w B v0 v1 v2 v3 x:=by
 obtain ⟨A,c,rfl,_,_,h3⟩:=h
 obtain ⟨b,off,rfl,hb,h4⟩:=h3 (by rintro rfl;simp at hx)
 obtain ⟨cs,⟨v0,v1,v2,v3,rfl,hn⟩,_,h5⟩:=h4 m x hx
 exact ⟨b,off,c,v0,v1,v2,v3,rfl,hb,h5 0 _ rfl,h5 1 _ rfl,h5 2 _ rfl,h5 3 _ rfl,hn⟩
def Eg (x:At):Int->List Ai->Bool
 | _,[]=>true
 | e,y :: l=>(decide (e < y.object/\0<=y.object/\y.object<=255)&&!By x.blur y.object&&Dr x.end_ y.stamp)&&Eg x y.object l
def Ae (x:At):Bool:=Ak x.start&&Ak x.end_&&Ay x.end_ x.start&&D8 x.blur&&Eg x (-1) x.writes
theorem Bm2 (o:Int) (w:World) :
  Calls Tryz.prog 141 #[.int .i64 o] w fun e w'=>e=.returned (.bool (decide (0<=o/\o<=255)))/\w=w':=by
 go_enter Tryz.func141,Tryz.ntmps141
 go_wp2_with fail
 all_goals (go_ret;refine ⟨Ap ?_,rfl⟩;first | (rw [eq_comm,decide_eq_true_eq];omega) | (rw [eq_comm,decide_eq_false_iff_not];omega) | (rw [Bool.eq_iff_iff];simp<;>omega))
set_option maxHeartbeats 1600000 in
theorem V7 (x:At) (v0 v1 v2 v3:Value) (w:World) (h:Sq w w.heap.size v0 v1 v2 v3 x) (hT:A8 w) :
  Calls Tryz.prog 117 #[.agg #[v0,v1,v2,v3]] w fun e w'=>e=.returned (.bool (Ae x))/\Below w.heap.size w w':=by
 have hle:=h.writes.len_le
 obtain ⟨A0,c0,rfl,_⟩:=id h.start
 obtain ⟨A1,c1,rfl,_⟩:=id h.end_
 obtain ⟨A2,c2,rfl,_⟩:=id h.blur
 obtain ⟨A3,c3,rfl,_⟩:=id h.writes
 unfold Ae
 generalize hr0:Ak x.start=r0
 generalize hr1:Ak x.end_=r1
 generalize hr2:Ay x.end_ x.start=r2
 generalize hr3:D8 x.blur=r3
 have H0:=Lib.hid hr0
 have H1:=Lib.hid hr1
 have H2:=Lib.hid hr2
 have H3:=Lib.hid hr3
 have HT:=Lib.hid hT
 clear hr0 hr1 hr2 hr3 hT
 go_enter Tryz.func117,Tryz.ntmps117
 go_wp2_with fail
 generalize hv0:Value.slice A0 x.start.length c0=v0 at *
 generalize hv1:Value.slice A1 x.end_.length c1=v1 at *
 generalize hv2:Value.slice A2 x.blur.length c2=v2 at *
 generalize hv3:Value.slice A3 x.writes.length c3=v3 at *
 have Hv3:=Lib.hid hv3
 clear hv0 hv1 hv2 hv3
 have k:=Aj (o:=.cells #[v0,v1,v2,v3] 37) (Below.refl _ w)
 have B:=Blk.new w 37 #[v0,v1,v2,v3]
 generalize hW0:w.alloc (.cells #[v0,v1,v2,v3] 37)=W0 at *
 clear hW0
 have hn:=h.next k
 have hT:=Lib.hid (HT.out.next k)
 refine (Pk x.start _ _ hn.start).mono ?_
 rw [H0.out]
 rintro e w1 ⟨rfl,hb1⟩
 replace k:=B9 k hb1
 replace B:=B.next hb1
 replace hn:=hn.next hb1
 replace hT:=Lib.hid (hT.out.next hb1)
 clear hb1
 have b0:=B.cell 0
 have b1:=B.cell 1
 have b2:=B.cell 2
 have b3:=B.cell 3
 simp only [List.getElem?_toArray,List.getElem?_cons_zero,List.getElem?_cons_succ] at b0 b1 b2 b3
 cases r0
 ·go_wp2_with fail
  go_ret
  exact ⟨rfl,k⟩
 go_wp2_with fail
 refine (Pk x.end_ _ _ hn.end_).mono ?_
 rw [H1.out]
 rintro e w2 ⟨rfl,hb1⟩
 replace k:=B9 k hb1
 replace B:=B.next hb1
 replace hn:=hn.next hb1
 replace hT:=Lib.hid (hT.out.next hb1)
 replace b0:=Ax hb1 b0
 replace b1:=Ax hb1 b1
 replace b2:=Ax hb1 b2
 replace b3:=Ax hb1 b3
 clear hb1
 cases r1
 ·go_wp2_with fail
  go_ret
  exact ⟨rfl,k⟩
 go_wp2_with fail
 refine (Sz x.end_ x.start _ _ _ hn.end_ hn.start hT.out).mono ?_
 rw [H2.out]
 rintro e w3 ⟨rfl,hb1⟩
 replace k:=B9 k hb1
 replace B:=B.next hb1
 replace hn:=hn.next hb1
 replace hT:=Lib.hid (hT.out.next hb1)
 replace b0:=Ax hb1 b0
 replace b1:=Ax hb1 b1
 replace b2:=Ax hb1 b2
 replace b3:=Ax hb1 b3
 clear hb1
 cases r2
 ·go_wp2_with fail
  go_ret
  exact ⟨rfl,k⟩
 go_wp2_with fail
 refine (Qc x.blur _ _ hn.blur).mono ?_
 rw [H3.out]
 rintro e w4 ⟨rfl,hb1⟩
 replace k:=B9 k hb1
 replace B:=B.next hb1
 replace hn:=hn.next hb1
 replace hT:=Lib.hid (hT.out.next hb1)
 replace b0:=Ax hb1 b0
 replace b1:=Ax hb1 b1
 replace b2:=Ax hb1 b2
 replace b3:=Ax hb1 b3
 clear hb1
 cases r3
 ·go_wp2_with fail
  go_ret
  exact ⟨rfl,k⟩
 rw [<-Hv3.out] at b3
 go_wp2_with fail
 have HB:=Lib.hid B
 have HN:=Lib.hid hn
 clear b0 b1 b2 b3 B hn HT H0 H1 H2 H3 h
 go_loopw [3,33] (fun a i wr=>∃ (m:Nat) (e:Int),m<=x.writes.length/\i=.int .i64 m/\a=.int .i64 e/\Eg x (-1) x.writes=Eg x e (x.writes.drop m)/\Below w4.heap.size w4 wr) (fun _ i _=>x.writes.length - (intOf i).toNat)
 case atStart=>exact ⟨0,-1,Nat.zero_le _,rfl,rfl,rfl,Below.refl _ _⟩
 case round =>
  obtain ⟨m,e,hm,rfl,rfl,hv,hb⟩:=hrel
  have hn:=HN.out.next hb
  have B:=HB.out.next hb
  replace k:=B9 k hb
  by_cases hlt:m < x.writes.length
  ·obtain ⟨y,hy⟩ : ∃ y,x.writes[m]? = some y:=⟨x.writes[m],List.getElem?_eq_getElem hlt⟩
   obtain ⟨b,off,c',hv',hbb,e0,e1,e2,e3,_⟩:=Rs hn.writes hy
   rw [<-Hv3.out] at hv'
   injection hv' with hv1 hv2 hv3
   rw [Fw hy,Eg] at hv
   obtain ⟨⟨yc,yn⟩,yo,yg⟩:=y
   simp only at e0 e1 e2 e3 hv
   have HV:=Lib.hid hv
   subst hv1
   have b1:=B.cell 1
   have b2:=B.cell 2
   simp only [List.getElem?_toArray,List.getElem?_cons_zero,List.getElem?_cons_succ] at b1 b2
   clear hv hv2 hv3 hy hbb
   by_cases p1:yo<=e
   ·go_wp2_with fail
    go_ret
    refine ⟨Ap ?_,Aj k⟩
    rw [HV.out,decide_eq_false (p:=e < yo/\0<=yo/\yo<=255) (by omega)]
    rfl
   ·go_wp2_with fail
    have kB:=Aj (o:=.cells #[.int .i64 yc,.int .i64 yn,.int .i64 yo,.bool yg] 49) (Below.refl _ wr)
    have B5:=Blk.new wr 49 #[.int .i64 yc,.int .i64 yn,.int .i64 yo,.bool yg]
    replace hn:=hn.next kB
    replace B:=B.next kB
    have hT2:=Lib.hid ((hT.out.next hb).next kB)
    replace k:=B9 k kB
    replace hb:=B9 hb kB
    clear e0 e1 e2 e3 b1 b2
    have HVn:=Lib.hid hn
    clear hn
    refine (Bm2 yo _).mono ?_
    by_cases p2:0<=yo/\yo<=255
    ·rw [decide_eq_true p2]
     rintro e' w5 ⟨rfl,rfl⟩
     have hd:decide (e < yo/\0<=yo/\yo<=255)=true:=decide_eq_true (by omega)
     have HD:=Lib.hid hd
     clear hd
     generalize hW5:wr.alloc (.cells #[.int .i64 yc,.int .i64 yn,.int .i64 yo,.bool yg] 49)=w5 at *
     have d0:=B5.cell 0
     have d1:=B5.cell 1
     have d2:=B5.cell 2
     have b1:=B.cell 1
     have b2:=B.cell 2
     simp only [List.getElem?_toArray,List.getElem?_cons_zero,List.getElem?_cons_succ] at b1 b2 d0 d1 d2
     clear hW5 kB
     go_wp2_with fail
     refine (A76 x.blur yo _ _ HVn.out.blur).mono ?_
     generalize hq:By x.blur yo=q at HV ⊢
     clear hq
     rintro e' w6 ⟨rfl,hb1⟩
     replace k:=B9 k hb1
     replace hb:=B9 hb hb1
     replace HVn:=Lib.hid (HVn.out.next hb1)
     replace B5:=B5.next hb1
     replace b1:=Ax hb1 b1
     replace b2:=Ax hb1 b2
     replace d0:=Ax hb1 d0
     replace d1:=Ax hb1 d1
     replace d2:=Ax hb1 d2
     clear hb1
     cases q with
     | true =>
      go_wp2_with fail
      go_ret
      refine ⟨Ap ?_,k⟩
      rw [HV.out,HD.out]
      rfl
     | false =>
      go_wp2_with fail
      refine (Ao6 x.end_ ⟨yc,yn⟩ _ _ HVn.out.end_).mono ?_
      generalize hq:Dr x.end_ ⟨yc,yn⟩=q at HV ⊢
      clear hq
      rintro e' w7 ⟨rfl,hb1⟩
      replace k:=B9 k hb1
      replace hb:=B9 hb hb1
      replace d2:=Ax hb1 d2
      clear hb1
      cases q with
      | false =>
       go_wp2_with fail
       go_ret
       refine ⟨Ap ?_,k⟩
       rw [HV.out,HD.out]
       rfl
      | true =>
       go_wp2_with fail
       refine ⟨⟨m+1,yo,by omega,by go_num,rfl,?_,hb⟩,by simp [intOf];omega⟩
       rw [HV.out,HD.out]
       rfl
    ·rw [decide_eq_false p2]
     rintro e' w5 ⟨rfl,rfl⟩
     go_wp2_with fail
     go_ret
     refine ⟨Ap ?_,k⟩
     rw [HV.out,decide_eq_false (p:=e < yo/\0<=yo/\yo<=255) (by omega)]
     rfl
  ·obtain rfl:m=x.writes.length:=by omega
   rw [List.drop_length] at hv
   have HV:=Lib.hid hv
   clear hv
   go_wp2_with fail
   go_ret
   exact ⟨Ap (by rw [HV.out];rfl),k⟩
def Cp4 (cs:List Value) (b:Nat):Prop:=cs=[.int .u8 b]/\b < 256
theorem Bl7 {w:World} : Hv Tryz.prog w 5 1 Cp4:=by
 intro H enc fuel cs x h
 obtain ⟨n,rfl,_,hw⟩:=DataW.trod_int Tryz.underlying5 h.1
 have h0:0<=n/\n < 256:=by
  simp [Lit.wf,IntKind.max,IntKind.min,IntKind.signed,IntKind.bits] at hw
  omega
 refine ⟨rfl,n.toNat,?_,by omega⟩
 rw [show ((n.toNat:Nat):Int)=n by omega]
abbrev Bg2:=Sl Cp4 1
theorem A91 {w:World} : Hv Tryz.prog w 38 1 (fun cs l=>∃ v,cs=[v]/\Bg2 w w.heap.size v l) :=
 Gj Tryz.underlying38 (by kernel_rfl) (by omega) Bl7
structure Cg where
 object:Int
 stamp:Ab
 value:List Nat
 deriving DecidableEq
def Bt9 (w:World) (B:Nat) (cs:List Value) (x:Cg):Prop :=
 ∃ v,cs=[.int .i64 x.object,.int .i64 x.stamp.count,.int .i64 x.stamp.node,v]/\I64 x.object/\I64 x.stamp.count/\I64 x.stamp.node/\Bg2 w B v x.value
theorem Ah7 {w:World} : Hv Tryz.prog w 44 4 (Bt9 w w.heap.size):=by
 intro H enc fuel cs x h
 obtain ⟨hl,n,hf⟩:=Dj Tryz.underlying44 h
 have hk:Tryz.prog.cellsOf 44=4:=by kernel_rfl
 have hs:Tryz.prog.cellsOf 42=2:=by kernel_rfl
 have hi:Tryz.prog.cellsOf 3=1:=by kernel_rfl
 have hb:Tryz.prog.cellsOf 38=1:=by kernel_rfl
 rw [hk] at hl
 refine ⟨hl,?_⟩
 match cs,hl with
 | [v0,v1,v2,v3],_ =>
  obtain ⟨y0,h0⟩:=hf 0 3 0 1 rfl hi
  obtain ⟨y1,h1⟩:=hf 1 42 1 2 rfl hs
  obtain ⟨y2,h2⟩:=hf 2 38 3 1 rfl hb
  obtain ⟨_,a,e0,i0⟩:=Dw (w:=w) Tryz.underlying3 H enc n _ _ h0
  obtain ⟨_,s,e1,i1,i2⟩:=V5 (w:=w) H enc n _ _ h1
  obtain ⟨_,b,v,e2,hv⟩:=A91 (w:=w) H enc n _ _ h2
  simp at e0 e1 e2
  obtain ⟨rfl,rfl⟩:=e1
  subst e0 e2
  exact ⟨⟨a,s,b⟩,_,rfl,i0,i1,i2,hv⟩
structure Sub where
 from_:Int
 interest:List Ad
 session:Int
 seq:Int
 live:Bool
 heard:Bool
 idle:Bool
 deriving DecidableEq
def B15 (w:World) (B:Nat) (cs:List Value) (x:Sub):Prop :=
 ∃ v,cs=[.int .i64 x.from_,v,.int .i64 x.session,.int .i64 x.seq,.bool x.live,.bool x.heard,.bool x.idle]/\I64 x.from_/\I64 x.session/\I64 x.seq/\Dl w B v x.interest
abbrev Qv (w:World) (B:Nat):=Sl (B15 w B) 7 w B
theorem Qv.next {w w':World} {v:Value} {l:List Sub} (h:Qv w w.heap.size v l) (hb:Below w.heap.size w w'):Qv w' w'.heap.size v l :=
 h.keep (fun _ _ ⟨v,e,h1,h2,h3,h4⟩=>⟨v,e,h1,h2,h3,h4.next hb⟩) hb.size fun _ hp=>hb.cell hp
structure Out where
 to_:Int
 session:Int
 interest:List Ad
 at_:Int
 seq:Int
 deriving DecidableEq
def B17 (w:World) (B:Nat) (cs:List Value) (x:Out):Prop :=
 ∃ v,cs=[.int .i64 x.to_,.int .i64 x.session,v,.int .i64 x.at_,.int .i64 x.seq]/\I64 x.to_/\I64 x.session/\I64 x.at_/\I64 x.seq/\Dl w B v x.interest
theorem By8 {w:World} : Hv Tryz.prog w 94 5 (B17 w w.heap.size):=by
 intro H enc fuel cs x h
 obtain ⟨hl,n,hf⟩:=Dj Tryz.underlying94 h
 have hk:Tryz.prog.cellsOf 94=5:=by kernel_rfl
 have hs:Tryz.prog.cellsOf 35=1:=by kernel_rfl
 have hi:Tryz.prog.cellsOf 3=1:=by kernel_rfl
 rw [hk] at hl
 refine ⟨hl,?_⟩
 match cs,hl with
 | [v0,v1,v2,v3,v4],_ =>
  obtain ⟨y0,h0⟩:=hf 0 3 0 1 rfl hi
  obtain ⟨y1,h1⟩:=hf 1 3 1 1 rfl hi
  obtain ⟨y2,h2⟩:=hf 2 35 2 1 rfl hs
  obtain ⟨y3,h3⟩:=hf 3 3 3 1 rfl hi
  obtain ⟨y4,h4⟩:=hf 4 3 4 1 rfl hi
  obtain ⟨_,a,e0,i0⟩:=Dw (w:=w) Tryz.underlying3 H enc n _ _ h0
  obtain ⟨_,b,e1,i1⟩:=Dw (w:=w) Tryz.underlying3 H enc n _ _ h1
  obtain ⟨_,l,v,e2,hv⟩:=Lt (w:=w) H enc n _ _ h2
  obtain ⟨_,c,e3,i3⟩:=Dw (w:=w) Tryz.underlying3 H enc n _ _ h3
  obtain ⟨_,d,e4,i4⟩:=Dw (w:=w) Tryz.underlying3 H enc n _ _ h4
  simp at e0 e1 e2 e3 e4
  subst e0 e1 e2 e3 e4
  exact ⟨⟨a,b,l,c,d⟩,_,rfl,i0,i1,i3,i4,hv⟩
abbrev Ab2 (w:World) (B:Nat):=Sl (B17 w B) 5 w B
theorem Ab2.next {w w':World} {v:Value} {l:List Out} (h:Ab2 w w.heap.size v l) (hb:Below w.heap.size w w'):Ab2 w' w'.heap.size v l :=
 h.keep (fun _ _ ⟨v,e,h1,h2,h3,h4,h5⟩=>⟨v,e,h1,h2,h3,h4,h5.next hb⟩) hb.size fun _ hp=>hb.cell hp
theorem Bl5 {w:World} : Hv Tryz.prog w 80 1 (fun cs l=>∃ v,cs=[v]/\Ab2 w w.heap.size v l) :=
 Gj Tryz.underlying80 (by kernel_rfl) (by omega) By8
structure Msg where
 kind:Int
 from_:Int
 to_:Int
 session:Int
 seq:Int
 interest:List Ad
 vector:List Ab
 notes:List At
 body:Cg
 deriving DecidableEq
structure Ao3 (w:World) (B:Nat) (vi vv vn vb:Value) (x:Msg):Prop where
 interest:Dl w B vi x.interest
 vector:Co w B vv x.vector
 notes:A17 w B vn x.notes
 value:Bg2 w B vb x.body.value
theorem Ao3.next {w w':World} {v0 v1 v2 v3:Value} {x:Msg} (h:Ao3 w w.heap.size v0 v1 v2 v3 x) (hb:Below w.heap.size w w'):Ao3 w' w'.heap.size v0 v1 v2 v3 x :=
 ⟨h.interest.next hb,h.vector.next hb,h.notes.next hb,h.value.next hb⟩
def Zs (vi vv vn vb:Value) (x:Msg):Array Value :=
 #[.int .i64 x.kind,.int .i64 x.from_,.int .i64 x.to_,.int .i64 x.session,.int .i64 x.seq,vi,vv,vn,.int .i64 x.body.object,.int .i64 x.body.stamp.count,.int .i64 x.body.stamp.node,vb]
structure C49 (x:Msg):Prop where
 kind:I64 x.kind
 from_:I64 x.from_
 to_:I64 x.to_
 session:I64 x.session
 seq:I64 x.seq
 object:I64 x.body.object
def E77 (w:World) (B:Nat) (cs:List Value) (x:Msg):Prop:=∃ vi vv vn vb,cs=(Zs vi vv vn vb x).toList/\C49 x/\Ao3 w B vi vv vn vb x
end Go.Proofs.YthlgnjlpakimaaaGreatDoor
