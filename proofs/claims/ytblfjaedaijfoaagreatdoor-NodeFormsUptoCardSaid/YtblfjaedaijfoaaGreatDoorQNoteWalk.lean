/- Contract of the program's test whether a note is formed. -/
import Derived.Test.YtblfjaedaijfoaaGreatDoorQSpanSet
import Derived.Test.YtblfjaedaijfoaaGreatDoorQCovers
set_option linter.all false
set_option linter.unnecessarySimpa false
set_option linter.unusedSimpArgs false
set_option linter.unusedVariables false
namespace Go.Proofs.YtblfjaedaijfoaaGreatDoor
open Go.ChangeShapes Go.WideShapes Go.ChangeAt Go.RowKit
theorem Nf (l:List Ao) (v:Value) (w:World) (h:Dz w w.heap.size v l) :
  Calls Tryz.prog 81 #[v] w fun e w'=>e=.returned (.bool (Br l))/\Below w.heap.size w w':=by
 have hle:=h.len_le
 obtain ⟨A,c,rfl,_⟩:=id h
 by_cases hlt:l.length<=128
 ·have hres:decide (l=Fa fun o=>Bm l o)=Br l:=by
   rw [Bool.eq_iff_iff,E9,decide_eq_true_eq]
   exact ⟨fun h=>⟨hlt,h⟩,fun h=>h.2⟩
  have Hres:=Lib.hid hres
  have hi:(l.length:Int)<=128:=by omega
  clear hres
  go_enter Tryz.func81,Tryz.ntmps81
  go_wp2_with fail
  refine (Bx1 l _ _ h).mono ?_
  rintro e w1 ⟨rfl,hb1⟩
  go_wp2_with fail
  refine (D59 _ _).mono ?_
  rintro e w2 ⟨⟨v2,rfl,hown⟩,hb2⟩
  go_wp2_with fail
  refine (Qw l _ _ _ _ ((h.next hb1).next hb2) hown.sl).mono ?_
  rintro e w3 ⟨rfl,hb3⟩
  have k3:=Av (Av hb1 hb2) hb3
  clear hown hb1 hb2 hb3 h
  rw [Hres.out]
  go_wp2_with fail
  go_ret
  exact ⟨rfl,k3⟩
 ·have Hres:Hid (Br l=false):=by
   rw [Bool.eq_false_iff]
   intro h
   exact hlt ((E9 l).1 h).1
  have hi:128 < (l.length:Int):=by omega
  go_enter Tryz.func81,Tryz.ntmps81
  go_wp2_with fail
  go_ret
  exact ⟨Ad Hres.out.symm,Below.refl _ _⟩
def Er (l:List Ao) (o:Int):Bool:=decide (0<=o/\o<=255)&&Bm l o
set_option maxRecDepth 100000 in
theorem B70 (l:List Ao) (o:Int) (v:Value) (w:World) (h:Dz w w.heap.size v l) :
  Calls Tryz.prog 171 #[v,.int .i64 o] w fun e w'=>e=.returned (.bool (Er l o))/\Below w.heap.size w w':=by
 obtain ⟨A,c,rfl,_⟩:=id h
 by_cases h0:0<=o/\o<=255
 ·obtain ⟨h1,h2⟩:=h0
  have Hres:=Lib.hid (show Er l o=Bm l o by rw [Er,decide_eq_true ⟨h1,h2⟩,Bool.true_and])
  obtain ⟨n,rfl⟩ : ∃ n:Nat,o=n:=⟨o.toNat,by omega⟩
  have hX:∀ u:World,(Instr.index 197 (.agg (setRow fun o=>Bm l o)) (.int .i64 n)).run Tryz.prog u=.ok (.bool (Bm l n)) u :=
   T6 Tryz.underlying197 Tryz.underlying4 rfl (by kernel_rfl) (by omega) (F3 (by omega))
  go_enter Tryz.func171,Tryz.ntmps171
  go_wp2_with fail
  refine (Bx1 l _ _ h).mono ?_
  rintro e w1 ⟨rfl,hb1⟩
  go_wp2_with fail
  go_ret
  exact ⟨Ad Hres.out.symm,hb1⟩
 ·have Hres:=Lib.hid (show Er l o=false by rw [Er,decide_eq_false h0,Bool.false_and])
  have hc:o < 0\/(0<=o/\255 < o):=by omega
  clear h0
  rcases hc with h1 | ⟨h1,h2⟩
  all_goals
   go_enter Tryz.func171,Tryz.ntmps171
   go_wp2_with fail
   go_ret
   exact ⟨Ad Hres.out.symm,Below.refl _ _⟩
theorem Aq4 (w:World):Ah Ei 2 (w.alloc (.cells #[] 121)) w.heap.size 121 (.slice (some ⟨w.heap.size,0,none⟩) 0 0) [] :=
 ⟨[],⟨rfl,.inr ⟨_,0,#[],rfl,Nat.le_refl _,heap_alloc_new w _,Nat.le_refl _,Nat.zero_le _,rfl,rfl⟩⟩,rfl,Nat.zero_le _⟩
theorem As5 (l:List Ao) (v:Value) (w:World) (h:Dz w w.heap.size v l) :
  Calls Tryz.prog 141 #[v] w fun e w'=>(∃ v',e=.returned v'/\Ah Ei 2 w' w.heap.size 121 v' l)/\Below w.heap.size w w':=by
 have hle:=h.len_le
 obtain ⟨i0,hi,hz0,hz1,hz2⟩:=info_parts A37
 obtain ⟨A,c,rfl,_⟩:=id h
 go_enter Tryz.func141,Tryz.ntmps141
 go_wp2_with (at_builtin;refine Cb _ Jy rfl (.tmp 3) (.tmp 4) 48 rfl w.heap.size 121 i0 _ 16 Tryz.underlying48 hi hz0 hz1 hz2 rfl (by omega) _ [] rfl (Aq4 w) w.heap.size _ l rfl (h.keep (fun _ _ h=>h) (Nat.le_refl _) (fun p hp=>World.cell?_alloc_lt _ _ _ hp)) (by simp only [List.length_nil];omega) (by omega) (by simp) ?_;intro v1 w1 hown hgr hat)
 simp only [List.nil_append] at hown
 have hb1:Below w.heap.size w w1:=(Ai (Below.refl _ _)).grown hgr (by simp) (fun k hk=>Nat.le_of_eq (Option.some.inj hk))
 have H1:=Lib.hid hown
 clear hown hgr hat hi hz0 hz1 hz2
 go_wp2_with fail
 go_ret
 exact ⟨⟨_,rfl,H1.out⟩,hb1⟩
def N5 {α:Type} (p:α->Bool):Nat->List α->Int
 | _,[]=>-1
 | i,x :: l=>if p x then i else N5 p (i+1) l
theorem Y7 {α:Type} (p:α->Bool):∀ (l:List α) (i:Nat),decide (0<=N5 p i l)=l.any p
 | [],_=>rfl
 | x :: l,i=>by
  rw [N5,List.any_cons]
  cases h:p x with
  | true=>rw [if_pos rfl,Bool.true_or,decide_eq_true (by omega)]
  | false=>rw [if_neg (by simp),Bool.false_or];exact Y7 p l (i+1)
def Q5 (o:Int) (s:Ao):Bool:=decide (s.lo<=o)&&decide (o<=s.hi)
theorem C04 (l:List Ao) (o:Int):Bm l o=l.any (Q5 o):=rfl
theorem Bv6 (o:Int) (s:Ao) (B:Nat) (w:World) (h:w.cell? ⟨B,0,none⟩=some (.int .i64 o)) :
  Calls Tryz.prog 242 #[.agg #[.int .i64 s.lo,.int .i64 s.hi],.pointer (some ⟨B,0,none⟩)] w fun e w'=>e=.returned (.bool (Q5 o s))/\Below w.heap.size w w':=by
 obtain ⟨lo,hi⟩:=s
 have c0:=As (Ai (o:=.cells #[.int .i64 lo,.int .i64 hi] 121) (Below.refl _ w)) h
 have hB:=World.block_lt_of_cell? _ _ h
 simp only at hB
 go_enter Tryz.func242,Tryz.ntmps242
 go_wp2_with fail
 all_goals
  go_ret
  refine ⟨Ad ?_,Ai (Below.refl _ _)⟩
  simp [Q5]<;>omega
def Ax4 (B:Nat):Value:=.func (.func 242) #[] #[.pointer (some ⟨B,0,none⟩)]
theorem A72 (o:Int) (l:List Ao) (B:Nat) (v:Value) (w:World) (h:Dz w w.heap.size v l) (ho:w.cell? ⟨B,0,none⟩=some (.int .i64 o)) :
  Calls Tryz.prog 305 #[v,Ax4 B] w fun e w'=>e=.returned (.int .i64 (N5 (Q5 o) 0 l))/\Below w.heap.size w w':=by
 have hle:=h.len_le
 obtain ⟨A,c,rfl,_⟩:=id h
 have Ho:=Lib.hid ho
 clear ho
 unfold Ax4
 go_enter Tryz.func305,Tryz.ntmps305
 go_wp2_with fail
 go_loopw [8] (fun k wr=>∃ m:Nat,m<=l.length/\k=.int .i64 m/\N5 (Q5 o) 0 l=N5 (Q5 o) m (l.drop m)/\Below w.heap.size w wr) (fun k _=>l.length - (intOf k).toNat)
 case atStart=>exact ⟨0,Nat.zero_le _,rfl,rfl,Below.refl _ _⟩
 case round =>
  obtain ⟨m,hm,rfl,hv,hb⟩:=hrel
  by_cases hlt:m < l.length
  ·obtain ⟨x,hx⟩ : ∃ x,l[m]? = some x:=⟨l[m],List.getElem?_eq_getElem hlt⟩
   obtain ⟨b,off,c',hv',hbb,e0,e1,_,_⟩:=Lf h hx
   injection hv' with hv1 hv2 hv3
   subst hv1
   have f0:=(hb.cell (p:=⟨b,off+m*2,none⟩) hbb).trans e0
   have f1:=(hb.cell (p:=⟨b,off+m*2+1,none⟩) hbb).trans e1
   rw [Eh hx,N5] at hv
   have HC:=Lib.hid (Bv6 o x B wr (As hb Ho.out))
   generalize Q5 o x=r at hv HC
   obtain ⟨lo,hi⟩:=x
   simp only at f0 f1 HC
   have HV:=Lib.hid hv
   clear hv hv2 hv3 e0 e1 hx
   go_wp2_with fail
   refine HC.out.mono ?_
   rintro e w1 ⟨rfl,hb1⟩
   have k1:=Av hb hb1
   clear hb1 HC f0 f1
   cases r<;>go_wp2_with fail
   ·refine ⟨⟨m+1,by omega,by go_num,?_,k1⟩,by simp [intOf];omega⟩
    rw [HV.out,if_neg (by simp)]
   ·go_ret
    exact ⟨S1 (by rw [HV.out];simp),k1⟩
  ·obtain rfl:m=l.length:=by omega
   rw [List.drop_length] at hv
   have HV:=Lib.hid hv
   clear hv
   go_wp2_with fail
   go_ret
   exact ⟨S1 HV.out.symm,hb⟩
theorem Wl (o:Int) (l:List Ao) (B:Nat) (v:Value) (w:World) (h:Dz w w.heap.size v l) (ho:w.cell? ⟨B,0,none⟩=some (.int .i64 o)) :
  Calls Tryz.prog 241 #[v,Ax4 B] w fun e w'=>e=.returned (.bool (Bm l o))/\Below w.heap.size w w':=by
 obtain ⟨A,c,rfl,_⟩:=id h
 have hany:=Y7 (Q5 o) l 0
 rw [<-C04] at hany
 have HC:=Lib.hid (A72 o l B _ w h ho)
 generalize N5 (Q5 o) 0 l=k at hany HC
 rw [<-hany]
 clear hany ho h
 unfold Ax4 at *
 go_enter Tryz.func241,Tryz.ntmps241
 go_wp2_with fail
 refine HC.out.mono ?_
 rintro e w1 ⟨rfl,hb1⟩
 go_wp2_with fail
 go_ret
 exact ⟨rfl,hb1⟩
theorem Xq (l:List Ao) (o:Int) (v:Value) (w:World) (h:Dz w w.heap.size v l) :
  Calls Tryz.prog 167 #[v,.int .i64 o] w fun e w'=>e=.returned (.bool (Er l o))/\Below w.heap.size w w':=by
 obtain ⟨A,c,rfl,_⟩:=id h
 have B0:=Blk.new w 3 #[.int .i64 o]
 have c0:=B0.cell 0
 simp only [List.getElem?_toArray,List.getElem?_cons_zero] at c0
 by_cases h0:0<=o/\o<=255
 ·obtain ⟨h1,h2⟩:=h0
  have Hres:=Lib.hid (show Er l o=Bm l o by rw [Er,decide_eq_true ⟨h1,h2⟩,Bool.true_and])
  have HC:=Lib.hid (Wl o l w.heap.size _ _ (h.next (Ai (o:=.cells #[.int .i64 o] 3) (Below.refl _ _))) c0)
  unfold Ax4 at HC
  clear h B0
  go_enter Tryz.func167,Tryz.ntmps167
  go_wp2_with fail
  refine HC.out.mono ?_
  rintro e w1 ⟨rfl,hb1⟩
  go_wp2_with fail
  go_ret
  exact ⟨Ad Hres.out.symm,Av (Ai (Below.refl _ _)) hb1⟩
 ·have Hres:=Lib.hid (show Er l o=false by rw [Er,decide_eq_false h0,Bool.false_and])
  have hc:o < 0\/(0<=o/\255 < o):=by omega
  clear h0 h B0
  rcases hc with h1 | ⟨h1,h2⟩
  all_goals
   go_enter Tryz.func167,Tryz.ntmps167
   go_wp2_with fail
   go_ret
   exact ⟨Ad Hres.out.symm,Ai (Below.refl _ _)⟩
structure Ap where
 stamp:Ab
 object:Int
 gone:Bool
 deriving DecidableEq
def Ud (cs:List Value) (x:Ap):Prop:=cs=[.int .i64 x.stamp.count,.int .i64 x.stamp.node,.int .i64 x.object,.bool x.gone]/\I64 x.stamp.count/\I64 x.stamp.node/\I64 x.object
theorem Au0 {w:World} : F7 Tryz.prog w 102 4 Ud:=by
 intro H enc fuel cs x h
 obtain ⟨hl,n,hf⟩:=Ce Tryz.underlying102 h
 have hk:Tryz.prog.cellsOf 102=4:=by kernel_rfl
 have hs:Tryz.prog.cellsOf 53=2:=by kernel_rfl
 have hi:Tryz.prog.cellsOf 3=1:=by kernel_rfl
 have hb:Tryz.prog.cellsOf 4=1:=by kernel_rfl
 rw [hk] at hl
 refine ⟨hl,?_⟩
 match cs,hl with
 | [v0,v1,v2,v3],_ =>
  obtain ⟨y0,h0⟩:=hf 0 53 0 2 rfl hs
  obtain ⟨y1,h1⟩:=hf 1 3 2 1 rfl hi
  obtain ⟨y2,h2⟩:=hf 2 4 3 1 rfl hb
  obtain ⟨_,a,e0,i1,i2⟩:=Qz (w:=w) H enc n _ _ h0
  obtain ⟨_,b,e1,i3⟩:=C3 (w:=w) Tryz.underlying3 H enc n _ _ h1
  obtain ⟨_,g,e2⟩:=Mk (w:=w) Tryz.underlying4 H enc n _ _ h2
  simp at e0 e1 e2
  obtain ⟨rfl,rfl⟩:=e0
  subst e1 e2
  exact ⟨⟨a,b,g⟩,rfl,i1,i2,i3⟩
abbrev Mu:=Sl Ud 4
theorem Vb {w:World} : F7 Tryz.prog w 24 1 (fun cs l=>∃ v,cs=[v]/\Mu w w.heap.size v l) :=
 Ea Tryz.underlying24 (by kernel_rfl) (by omega) Au0
theorem Nq {w:World} {B:Nat} {v:Value} {l:List Ap} (h:Mu w B v l) {m:Nat} {x:Ap} (hx:l[m]? = some x) :
  ∃ b off c,v=.slice (some ⟨b,off,none⟩) l.length c/\b < B/\w.cell? ⟨b,off+m*4,none⟩=some (.int .i64 x.stamp.count)/\w.cell? ⟨b,off+m*4+1,none⟩=some (.int .i64 x.stamp.node) /\
   w.cell? ⟨b,off+m*4+2,none⟩=some (.int .i64 x.object)/\w.cell? ⟨b,off+m*4+3,none⟩=some (.bool x.gone)/\I64 x.object:=by
 obtain ⟨A,c,rfl,_,_,h3⟩:=h
 obtain ⟨b,off,rfl,hb,h4⟩:=h3 (by rintro rfl;simp at hx)
 obtain ⟨cs,⟨rfl,i1,i2,i3⟩,_,h5⟩:=h4 m x hx
 exact ⟨b,off,c,rfl,hb,h5 0 _ rfl,h5 1 _ rfl,h5 2 _ rfl,h5 3 _ rfl,i3⟩
structure Bc where
 start:List Ab
 end_ : List Ab
 blur:List Ao
 writes:List Ap
 deriving DecidableEq
structure Qg (w:World) (B:Nat) (v0 v1 v2 v3:Value) (x:Bc):Prop where
 start:C8 w B v0 x.start
 end_ : C8 w B v1 x.end_
 blur:Dz w B v2 x.blur
 writes:Mu w B v3 x.writes
theorem Qg.next {w w':World} {v0 v1 v2 v3:Value} {x:Bc} (h:Qg w w.heap.size v0 v1 v2 v3 x) (hb:Below w.heap.size w w'):Qg w' w'.heap.size v0 v1 v2 v3 x :=
 ⟨h.start.next hb,h.end_.next hb,h.blur.next hb,h.writes.next hb⟩
def B19 (w:World) (B:Nat) (cs:List Value) (x:Bc):Prop:=∃ v0 v1 v2 v3,cs=[v0,v1,v2,v3]/\Qg w B v0 v1 v2 v3 x
theorem B81 {w:World} : F7 Tryz.prog w 98 4 (B19 w w.heap.size):=by
 intro H enc fuel cs x h
 obtain ⟨hl,n,hf⟩:=Ce Tryz.underlying98 h
 have hk:Tryz.prog.cellsOf 98=4:=by kernel_rfl
 have hs:Tryz.prog.cellsOf 22=1:=by kernel_rfl
 have hi:Tryz.prog.cellsOf 48=1:=by kernel_rfl
 have hb:Tryz.prog.cellsOf 24=1:=by kernel_rfl
 rw [hk] at hl
 refine ⟨hl,?_⟩
 match cs,hl with
 | [v0,v1,v2,v3],_ =>
  obtain ⟨y0,h0⟩:=hf 0 22 0 1 rfl hs
  obtain ⟨y1,h1⟩:=hf 1 22 1 1 rfl hs
  obtain ⟨y2,h2⟩:=hf 2 48 2 1 rfl hi
  obtain ⟨y3,h3⟩:=hf 3 24 3 1 rfl hb
  obtain ⟨_,a,_,e0,s0⟩:=J1 (w:=w) H enc n _ _ h0
  obtain ⟨_,b,_,e1,s1⟩:=J1 (w:=w) H enc n _ _ h1
  obtain ⟨_,c,_,e2,s2⟩:=N1 (w:=w) H enc n _ _ h2
  obtain ⟨_,d,_,e3,s3⟩:=Vb (w:=w) H enc n _ _ h3
  simp at e0 e1 e2 e3
  subst e0 e1 e2 e3
  exact ⟨⟨a,b,c,d⟩,_,_,_,_,rfl,s0,s1,s2,s3⟩
abbrev Tg (w:World) (B:Nat):=Sl (B19 w B) 4 w B
theorem Tg.next {w w':World} {v:Value} {l:List Bc} (h:Tg w w.heap.size v l) (hb:Below w.heap.size w w'):Tg w' w'.heap.size v l :=
 h.keep (fun _ _ ⟨v0,v1,v2,v3,e,hn⟩=>⟨v0,v1,v2,v3,e,hn.next hb⟩) hb.size fun _ hp=>hb.cell hp
theorem Y1 {w:World} : F7 Tryz.prog w 28 1 (fun cs l=>∃ v,cs=[v]/\Tg w w.heap.size v l) :=
 Ea Tryz.underlying28 (by kernel_rfl) (by omega) B81
theorem Av2 {w:World} {B:Nat} {v:Value} {l:List Bc} (h:Tg w B v l) {m:Nat} {x:Bc} (hx:l[m]? = some x) :
  ∃ b off c v0 v1 v2 v3,v=.slice (some ⟨b,off,none⟩) l.length c/\b < B/\w.cell? ⟨b,off+m*4,none⟩=some v0/\w.cell? ⟨b,off+m*4+1,none⟩=some v1 /\
   w.cell? ⟨b,off+m*4+2,none⟩=some v2/\w.cell? ⟨b,off+m*4+3,none⟩=some v3/\Qg w B v0 v1 v2 v3 x:=by
 obtain ⟨A,c,rfl,_,_,h3⟩:=h
 obtain ⟨b,off,rfl,hb,h4⟩:=h3 (by rintro rfl;simp at hx)
 obtain ⟨cs,⟨v0,v1,v2,v3,rfl,hn⟩,_,h5⟩:=h4 m x hx
 exact ⟨b,off,c,v0,v1,v2,v3,rfl,hb,h5 0 _ rfl,h5 1 _ rfl,h5 2 _ rfl,h5 3 _ rfl,hn⟩
def Dj (x:Bc):Int->List Ap->Bool
 | _,[]=>true
 | e,y :: l=>(decide (e < y.object/\0<=y.object/\y.object<=255)&&!Er x.blur y.object&&E4 x.end_ y.stamp)&&Dj x y.object l
def Ax (x:Bc):Bool:=Ak x.start&&Ak x.end_&&Aw x.end_ x.start&&Br x.blur&&Dj x (-1) x.writes
theorem B91 (o:Int) (w:World) :
  Calls Tryz.prog 201 #[.int .i64 o] w fun e w'=>e=.returned (.bool (decide (0<=o/\o<=255)))/\w=w':=by
 go_enter Tryz.func201,Tryz.ntmps201
 go_wp2_with fail
 all_goals (go_ret;refine ⟨Ad ?_,rfl⟩;first | (rw [eq_comm,decide_eq_true_eq];omega) | (rw [eq_comm,decide_eq_false_iff_not];omega) | (rw [Bool.eq_iff_iff];simp<;>omega))
set_option maxHeartbeats 1600000 in
theorem R3 (x:Bc) (v0 v1 v2 v3:Value) (w:World) (h:Qg w w.heap.size v0 v1 v2 v3 x) (hT:A8 w) :
  Calls Tryz.prog 112 #[.agg #[v0,v1,v2,v3]] w fun e w'=>e=.returned (.bool (Ax x))/\Below w.heap.size w w':=by
 have hle:=h.writes.len_le
 obtain ⟨A0,c0,rfl,_⟩:=id h.start
 obtain ⟨A1,c1,rfl,_⟩:=id h.end_
 obtain ⟨A2,c2,rfl,_⟩:=id h.blur
 obtain ⟨A3,c3,rfl,_⟩:=id h.writes
 unfold Ax
 generalize hr0:Ak x.start=r0
 generalize hr1:Ak x.end_=r1
 generalize hr2:Aw x.end_ x.start=r2
 generalize hr3:Br x.blur=r3
 have H0:=Lib.hid hr0
 have H1:=Lib.hid hr1
 have H2:=Lib.hid hr2
 have H3:=Lib.hid hr3
 have HT:=Lib.hid hT
 clear hr0 hr1 hr2 hr3 hT
 go_enter Tryz.func112,Tryz.ntmps112
 go_wp2_with fail
 generalize hv0:Value.slice A0 x.start.length c0=v0 at *
 generalize hv1:Value.slice A1 x.end_.length c1=v1 at *
 generalize hv2:Value.slice A2 x.blur.length c2=v2 at *
 generalize hv3:Value.slice A3 x.writes.length c3=v3 at *
 have Hv3:=Lib.hid hv3
 clear hv0 hv1 hv2 hv3
 have k:=Ai (o:=.cells #[v0,v1,v2,v3] 98) (Below.refl _ w)
 have B:=Blk.new w 98 #[v0,v1,v2,v3]
 generalize hW0:w.alloc (.cells #[v0,v1,v2,v3] 98)=W0 at *
 clear hW0
 have hn:=h.next k
 have hT:=Lib.hid (HT.out.next k)
 refine (Lw x.start _ _ hn.start).mono ?_
 rw [H0.out]
 rintro e w1 ⟨rfl,hb1⟩
 replace k:=Av k hb1
 replace B:=B.next hb1
 replace hn:=hn.next hb1
 replace hT:=Lib.hid (hT.out.next hb1)
 clear hb1
 have b0:=B.cell 0
 have b1:=B.cell 1
 have b2:=B.cell 2
 have b3:=B.cell 3
 simp only [List.getElem?_toArray,List.getElem?_cons_zero,List.getElem?_cons_succ] at b0 b1 b2 b3
 cases r0
 ·go_wp2_with fail
  go_ret
  exact ⟨rfl,k⟩
 go_wp2_with fail
 refine (Lw x.end_ _ _ hn.end_).mono ?_
 rw [H1.out]
 rintro e w2 ⟨rfl,hb1⟩
 replace k:=Av k hb1
 replace B:=B.next hb1
 replace hn:=hn.next hb1
 replace hT:=Lib.hid (hT.out.next hb1)
 replace b0:=As hb1 b0
 replace b1:=As hb1 b1
 replace b2:=As hb1 b2
 replace b3:=As hb1 b3
 clear hb1
 cases r1
 ·go_wp2_with fail
  go_ret
  exact ⟨rfl,k⟩
 go_wp2_with fail
 refine (Pm x.end_ x.start _ _ _ hn.end_ hn.start hT.out).mono ?_
 rw [H2.out]
 rintro e w3 ⟨rfl,hb1⟩
 replace k:=Av k hb1
 replace B:=B.next hb1
 replace hn:=hn.next hb1
 replace hT:=Lib.hid (hT.out.next hb1)
 replace b0:=As hb1 b0
 replace b1:=As hb1 b1
 replace b2:=As hb1 b2
 replace b3:=As hb1 b3
 clear hb1
 cases r2
 ·go_wp2_with fail
  go_ret
  exact ⟨rfl,k⟩
 go_wp2_with fail
 refine (Ka x.blur _ _ hn.blur).mono ?_
 rw [H3.out]
 rintro e w4 ⟨rfl,hb1⟩
 replace k:=Av k hb1
 replace B:=B.next hb1
 replace hn:=hn.next hb1
 replace hT:=Lib.hid (hT.out.next hb1)
 replace b0:=As hb1 b0
 replace b1:=As hb1 b1
 replace b2:=As hb1 b2
 replace b3:=As hb1 b3
 clear hb1
 cases r3
 ·go_wp2_with fail
  go_ret
  exact ⟨rfl,k⟩
 rw [<-Hv3.out] at b3
 go_wp2_with fail
 have HB:=Lib.hid B
 have HN:=Lib.hid hn
 clear b0 b1 b2 b3 B hn HT H0 H1 H2 H3 h
 go_loopw [3,33] (fun a i wr=>∃ (m:Nat) (e:Int),m<=x.writes.length/\i=.int .i64 m/\a=.int .i64 e/\Dj x (-1) x.writes=Dj x e (x.writes.drop m)/\Below w4.heap.size w4 wr) (fun _ i _=>x.writes.length - (intOf i).toNat)
 case atStart=>exact ⟨0,-1,Nat.zero_le _,rfl,rfl,rfl,Below.refl _ _⟩
 case round =>
  obtain ⟨m,e,hm,rfl,rfl,hv,hb⟩:=hrel
  have hn:=HN.out.next hb
  have B:=HB.out.next hb
  replace k:=Av k hb
  by_cases hlt:m < x.writes.length
  ·obtain ⟨y,hy⟩ : ∃ y,x.writes[m]? = some y:=⟨x.writes[m],List.getElem?_eq_getElem hlt⟩
   obtain ⟨b,off,c',hv',hbb,e0,e1,e2,e3,_⟩:=Nq hn.writes hy
   rw [<-Hv3.out] at hv'
   injection hv' with hv1 hv2 hv3
   rw [Eh hy,Dj] at hv
   obtain ⟨⟨yc,yn⟩,yo,yg⟩:=y
   simp only at e0 e1 e2 e3 hv
   have HV:=Lib.hid hv
   subst hv1
   have b1:=B.cell 1
   have b2:=B.cell 2
   simp only [List.getElem?_toArray,List.getElem?_cons_zero,List.getElem?_cons_succ] at b1 b2
   clear hv hv2 hv3 hy hbb
   by_cases p1:yo<=e
   ·go_wp2_with fail
    go_ret
    refine ⟨Ad ?_,Ai k⟩
    rw [HV.out,decide_eq_false (p:=e < yo/\0<=yo/\yo<=255) (by omega)]
    rfl
   ·go_wp2_with fail
    have kB:=Ai (o:=.cells #[.int .i64 yc,.int .i64 yn,.int .i64 yo,.bool yg] 102) (Below.refl _ wr)
    have B5:=Blk.new wr 102 #[.int .i64 yc,.int .i64 yn,.int .i64 yo,.bool yg]
    replace hn:=hn.next kB
    replace B:=B.next kB
    have hT2:=Lib.hid ((hT.out.next hb).next kB)
    replace k:=Av k kB
    replace hb:=Av hb kB
    clear e0 e1 e2 e3 b1 b2
    have HVn:=Lib.hid hn
    clear hn
    refine (B91 yo _).mono ?_
    by_cases p2:0<=yo/\yo<=255
    ·rw [decide_eq_true p2]
     rintro e' w5 ⟨rfl,rfl⟩
     have hd:decide (e < yo/\0<=yo/\yo<=255)=true:=decide_eq_true (by omega)
     have HD:=Lib.hid hd
     clear hd
     generalize hW5:wr.alloc (.cells #[.int .i64 yc,.int .i64 yn,.int .i64 yo,.bool yg] 102)=w5 at *
     have d0:=B5.cell 0
     have d1:=B5.cell 1
     have d2:=B5.cell 2
     have b1:=B.cell 1
     have b2:=B.cell 2
     simp only [List.getElem?_toArray,List.getElem?_cons_zero,List.getElem?_cons_succ] at b1 b2 d0 d1 d2
     clear hW5 kB
     go_wp2_with fail
     refine (Xq x.blur yo _ _ HVn.out.blur).mono ?_
     generalize hq:Er x.blur yo=q at HV ⊢
     clear hq
     rintro e' w6 ⟨rfl,hb1⟩
     replace k:=Av k hb1
     replace hb:=Av hb hb1
     replace HVn:=Lib.hid (HVn.out.next hb1)
     replace B5:=B5.next hb1
     replace b1:=As hb1 b1
     replace b2:=As hb1 b2
     replace d0:=As hb1 d0
     replace d1:=As hb1 d1
     replace d2:=As hb1 d2
     clear hb1
     cases q with
     | true =>
      go_wp2_with fail
      go_ret
      refine ⟨Ad ?_,k⟩
      rw [HV.out,HD.out]
      rfl
     | false =>
      go_wp2_with fail
      refine (A91 x.end_ ⟨yc,yn⟩ _ _ HVn.out.end_).mono ?_
      generalize hq:E4 x.end_ ⟨yc,yn⟩=q at HV ⊢
      clear hq
      rintro e' w7 ⟨rfl,hb1⟩
      replace k:=Av k hb1
      replace hb:=Av hb hb1
      replace d2:=As hb1 d2
      clear hb1
      cases q with
      | false =>
       go_wp2_with fail
       go_ret
       refine ⟨Ad ?_,k⟩
       rw [HV.out,HD.out]
       rfl
      | true =>
       go_wp2_with fail
       refine ⟨⟨m+1,yo,by omega,by go_num,rfl,?_,hb⟩,by simp [intOf];omega⟩
       rw [HV.out,HD.out]
       rfl
    ·rw [decide_eq_false p2]
     rintro e' w5 ⟨rfl,rfl⟩
     go_wp2_with fail
     go_ret
     refine ⟨Ad ?_,k⟩
     rw [HV.out,decide_eq_false (p:=e < yo/\0<=yo/\yo<=255) (by omega)]
     rfl
  ·obtain rfl:m=x.writes.length:=by omega
   rw [List.drop_length] at hv
   have HV:=Lib.hid hv
   clear hv
   go_wp2_with fail
   go_ret
   exact ⟨Ad (by rw [HV.out];rfl),k⟩
end Go.Proofs.YtblfjaedaijfoaaGreatDoor
