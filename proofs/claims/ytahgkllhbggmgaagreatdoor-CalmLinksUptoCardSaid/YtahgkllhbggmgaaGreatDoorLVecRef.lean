/- Contracts of the reference's vectors: the same one, a copy, the vector of counts, the join. -/
import Derived.Test.YtahgkllhbggmgaaGreatDoorLVecLaw
import Derived.Test.YtahgkllhbggmgaaGreatDoorLSortWorld
set_option linter.all false
set_option linter.unnecessarySimpa false
set_option linter.unusedSimpArgs false
set_option linter.unusedVariables false
namespace Go.Proofs.YtahgkllhbggmgaaGreatDoor
open Go.ChangeShapes Go.WideShapes Go.ChangeAt Go.RowKit
theorem Xg (l m:List Ad) (v u:Value) (w:World) (h:Bx w w.heap.size v l) (h':Bx w w.heap.size u m) :
  Calls Tryz.prog 78 #[v,u] w fun e w'=>e=.returned (.bool (decide (l=m)))/\Below w.heap.size w w':=by
 have hle:=h.len_le
 have hle':=h'.len_le
 obtain ⟨A,c,rfl,_⟩:=id h
 obtain ⟨A',c',rfl,_⟩:=id h'
 by_cases hlen:l.length=m.length
 ·have Hlen:=Lib.hid hlen
  have ht:((l.length:Int) != (m.length:Int))=false:=by rw [hlen];simp
  clear hlen
  go_enter Tryz.func78,Tryz.ntmps78
  go_wp2_with fail
  go_loopw [5] (fun k wr=>∃ n:Nat,n<=l.length/\k=.int .i64 n/\l.take n=m.take n/\Below w.heap.size w wr) (fun k _=>l.length - (intOf k).toNat)
  case atStart=>exact ⟨0,Nat.zero_le _,rfl,rfl,Below.refl _ _⟩
  case round =>
   obtain ⟨n,hn,rfl,ht2,hb⟩:=hrel
   have Ht:=Lib.hid ht2
   clear ht2 ht
   by_cases hlt:n < l.length
   ·obtain ⟨x,hx⟩ : ∃ x,l[n]? = some x:=⟨l[n],List.getElem?_eq_getElem hlt⟩
    obtain ⟨y,hy⟩ : ∃ y,m[n]? = some y:=⟨m[n]'(by have:=Hlen.out;omega),List.getElem?_eq_getElem (by have:=Hlen.out;omega)⟩
    obtain ⟨b,off,_,hv,hbb,e0,e1,_,_⟩:=Ev h hx
    obtain ⟨b',off',_,hv',hbb',e0',e1',_,_⟩:=Ev h' hy
    injection hv with hv1 hv2 hv3
    injection hv' with hv1' hv2' hv3'
    subst hv1 hv1'
    have f0:=(hb.cell (p:=⟨b,off+n*2,none⟩) hbb).trans e0
    have f1:=(hb.cell (p:=⟨b,off+n*2+1,none⟩) hbb).trans e1
    have f0':=(hb.cell (p:=⟨b',off'+n*2,none⟩) hbb').trans e0'
    have f1':=(hb.cell (p:=⟨b',off'+n*2+1,none⟩) hbb').trans e1'
    have Hx:=Lib.hid hx
    have Hy:=Lib.hid hy
    have i1:(n:Int) < (l.length:Int):=by omega
    have i2:(n:Int) < (m.length:Int):=by have:=Hlen.out;omega
    clear hv2 hv3 hv2' hv3' e0 e1 e0' e1' hx hy
    obtain ⟨xl,xh⟩:=x
    obtain ⟨yl,yh⟩:=y
    simp only at f0 f1 f0' f1'
    by_cases p1:xl=yl
    ·subst p1
     by_cases p2:xh=yh
     ·subst p2
      go_wp2_with fail
      go_quiet (fail)
      go_wp2_with fail
      refine ⟨⟨n+1,by omega,by go_num,?_,Jb hb _⟩,by simp [intOf];omega⟩
      rw [Eh Hx.out,Eh Hy.out,Ht.out]
     ·have Hres:Hid (decide (l=m)=false):=by
       refine decide_eq_false fun e=>?_
       have:=Hx.out
       rw [e,Hy.out] at this
       simp at this
       exact p2 this.symm
      go_wp2_with fail
      go_quiet (fail)
      go_wp2_with fail
      go_ret
      exact ⟨Ak Hres.out.symm,Jb hb _⟩
    ·have Hres:Hid (decide (l=m)=false):=by
      refine decide_eq_false fun e=>?_
      have:=Hx.out
      rw [e,Hy.out] at this
      simp at this
      exact p1 this.1.symm
     go_wp2_with fail
     go_quiet (fail)
     go_wp2_with fail
     go_ret
     exact ⟨Ak Hres.out.symm,Jb hb _⟩
   ·obtain rfl:n=l.length:=by omega
    have Hres:Hid (decide (l=m)=true):=by
     refine decide_eq_true ?_
     have:=Ht.out
     rwa [List.take_length,Hlen.out,List.take_length] at this
    go_wp2_with fail
    go_ret
    exact ⟨Ak Hres.out.symm,hb⟩
 ·have ht:((l.length:Int) != (m.length:Int))=true:=by simp;omega
  have Hres:Hid (decide (l=m)=false):=decide_eq_false fun e=>hlen (by rw [e])
  clear hlen
  go_enter Tryz.func78,Tryz.ntmps78
  go_wp2_with fail
  go_ret
  exact ⟨Ak Hres.out.symm,Below.refl _ _⟩
theorem Wz:∀ cs x,Fs cs x->∀ u∈cs,u.oneCell'=true:=by
 rintro cs x ⟨rfl,_⟩ u hu;simp at hu;rcases hu with rfl | rfl<;>rfl
theorem Rr:(Tryz.prog.info? 38).map (fun i=>(i.zero.map (·.cells.size),i.size,i.bytes))=some (some 2,2,16):=by kernel_rfl
theorem A49 (w:World):Ai Fs 2 (w.alloc (.cells #[] 38)) w.heap.size 38 (.slice (some ⟨w.heap.size,0,none⟩) 0 0) [] :=
 ⟨[],⟨rfl,.inr ⟨_,0,#[],rfl,Nat.le_refl _,heap_alloc_new w _,Nat.le_refl _,Nat.zero_le _,rfl,rfl⟩⟩,rfl,Nat.zero_le _⟩
theorem At6 (l:List Ad) (v:Value) (w:World) (h:Bx w w.heap.size v l) :
  Calls Tryz.prog 165 #[v] w fun e w'=>(∃ v',e=.returned v'/\Ai Fs 2 w' w.heap.size 38 v' l)/\Below w.heap.size w w':=by
 have hle:=h.len_le
 obtain ⟨A,c,rfl,_⟩:=id h
 go_enter Tryz.func165,Tryz.ntmps165
 go_wp2_with (at_builtin;refine A36 Rr Tryz.underlying51 (by omega) (by omega) Wz rfl (.tmp 3) (.tmp 4) rfl w.heap.size _ [] rfl (A49 w) w.heap.size _ l rfl (h.keep (fun _ _ h=>h) (Nat.le_refl _) (fun p hp=>World.cell?_alloc_lt _ _ _ hp)) (by simp only [List.length_nil];omega) (by simp) ?_;intro v1 w1 hown hgr hat)
 simp only [List.nil_append] at hown
 have hb1:Below w.heap.size w w1:=(Ap (Below.refl _ _)).grown hgr (by simp) (fun k hk=>Nat.le_of_eq (Option.some.inj hk))
 have H1:=Lib.hid hown
 clear hown hgr hat
 go_wp2_with fail
 go_ret
 exact ⟨⟨_,rfl,H1.out⟩,hb1⟩
set_option maxRecDepth 100000 in
theorem Bj6 (c:Nat->Int) (hc:∀ n,n < 64->I64 (c n)) (w:World) :
  Calls Tryz.prog 358 #[.agg (Dj c)] w fun e w'=>(∃ v',e=.returned v'/\Ai Fs 2 w' w.heap.size 38 v' (Ji c))/\Below w.heap.size w w':=by
 have HC:=Lib.hid hc
 clear hc
 go_enter Tryz.func358,Tryz.ntmps358
 go_wp2_with fail
 go_loopw [3,4] (fun v k wr=>∃ n:Nat,n<=64/\k=.int .i64 n/\Ai Fs 2 wr (w.heap.size+1) 38 v (D4 c n)/\Blk wr w.heap.size 136 (Dj c)/\Below w.heap.size w wr) (fun _ k _=>64 - (intOf k).toNat)
 case atStart=>exact ⟨0,by omega,rfl,Ai.nil_ _ _ _,Blk.new _ _ _,Ap (Below.refl _ _)⟩
 case round =>
  rename_i v0 k0
  obtain ⟨n,hn,rfl,hown,hB,hb⟩:=hrel
  by_cases hlt:n < 64
  ·have c0:=(hB.cell n).trans (Dv hlt)
   have hi:=HC.out n hlt
   have HS:=Lib.hid (show D4 c (n+1)=if 0 < c n then D4 c n++[⟨c n,n⟩] else D4 c n from rfl)
   have HL:=Lib.hid (Us c n)
   generalize c n=q at *
   have i1:(n:Int) < 64:=by omega
   have HO:=Lib.hid hown
   have hs:=hb.size
   have hB1:=hB.lt
   have hlt0:=hown.lt
   by_cases h0:0 < q
   ·have HS2:=Lib.hid (HS.out.trans (if_pos h0))
    have hf0:(decide (0 < q))=true:=decide_eq_true h0
    clear hown HS
    go_wp2_with (at_builtin;refine Lp Rr Tryz.underlying51 (by omega) (by omega) Wz rfl (.tmp 13) (.tmp 19) rfl (w.heap.size+1) _ _ rfl HO.out #[.int .i64 q,.int .i64 n] ⟨q,n⟩ rfl ⟨rfl,hi,I64.of (by simp only;omega) (by simp only;omega)⟩ rfl (by have:=HL.out;omega) (by omega) ?_;intro v1 w1 ha)
    have HA:=Lib.hid ha
    clear ha HO
    go_wp2_with fail
    refine ⟨⟨n+1,by omega,by go_num,by rw [HS2.out];exact HA.out.own,HA.out.blk (fun e=>?_) hB.alloc,HA.out.low w (by omega) (Ap hb)⟩,by simp [intOf];omega⟩
    have:=(hlt0 _ e).1
    omega
   ·have HS2:=Lib.hid (HS.out.trans (if_neg h0))
    have hf0:(decide (0 < q))=false:=decide_eq_false h0
    clear hown HS
    go_wp2_with fail
    refine ⟨⟨n+1,by omega,by go_num,by rw [HS2.out];exact HO.out,hB,hb⟩,by simp [intOf];omega⟩
  ·obtain rfl:n=64:=by omega
   obtain ⟨A0,c0,rfl⟩:=hown.form
   have HO:=Lib.hid hown
   clear hown
   go_wp2_with fail
   go_ret
   exact ⟨⟨_,rfl,HO.out.base (by omega)⟩,hb⟩
def Wh (w:World) (B:Nat) (cs:List Value) (l:List Ad):Prop:=∃ v,cs=[v]/\Bx w B v l
abbrev Gy (w:World) (B:Nat):=Sl (Wh w B) 1 w B
theorem Bc6:Cg2 (fun w=>Wh w w.heap.size):=fun _ _ _ _ he ⟨v,e,h⟩=>⟨v,e,h.ext (fun _ _ h=>h) he⟩
theorem Gy.next {w w':World} {v:Value} {ls:List (List Ad)} (h:Gy w w.heap.size v ls) (hb:Below w.heap.size w w'):Gy w' w'.heap.size v ls :=
 h.ext (fun cs x hx=>Bc6 _ _ cs x (Ext.of_below hb) hx) (Ext.of_below hb)
theorem Vx {w:World} {B:Nat} {v:Value} {ls:List (List Ad)} (h:Gy w B v ls) {m:Nat} {x:List Ad} (hx:ls[m]? = some x) :
  ∃ b off c vi,v=.slice (some ⟨b,off,none⟩) ls.length c/\b < B/\w.cell? ⟨b,off+m,none⟩=some vi/\Bx w B vi x:=by
 obtain ⟨A,c,rfl,_,_,h3⟩:=h
 obtain ⟨b,off,rfl,hb,h4⟩:=h3 (by rintro rfl;simp at hx)
 obtain ⟨cs,⟨vi,rfl,hs⟩,_,h5⟩:=h4 m x hx
 have:=h5 0 vi rfl
 rw [Nat.mul_one,Nat.add_zero] at this
 exact ⟨b,off,c,vi,rfl,hb,this,hs⟩
def He (f d:Nat->Int) (k n:Nat):Int:=if n < k then max (f n) (d n) else f n
theorem B81 (f d:Nat->Int) {k:Nat} (_hk:k < 64):(Dj (He f d k)).setIfInBounds k (.int .i64 (max (f k) (d k)))=Dj (He f d (k+1)):=by
 rw [Dj,Dj,M9]
 refine F9 fun i _=>?_
 by_cases hi:i=k
 ·subst hi;simp [He]
 ·have e:(i < k+1)=(i < k):=by simp;omega
  simp [He,hi,e]
theorem C58:∀ w,(zeroValue 136).run Tryz.prog w=.ok (.agg (Dj fun _=>0)) w:=(zero_of_info (n:=64) (by kernel_rfl)).1
theorem A85 (f d:Nat->Int):He f d 0=f:=by funext n;simp [He]
theorem Bx2 {a b:Int} (h1:I64 a) (h2:I64 b):I64 (max a b):=by
 rcases Int.le_total a b with h | h
 ·rw [Int.max_eq_right h];exact h2
 ·rw [Int.max_eq_left h];exact h1
def Tf (l:List Ad):Prop:=∀ n:Nat,n < 64->I64 (A9 l n)
theorem Yi {w:World} {B:Nat} {v:Value} {l:List Ad} (h:Bx w B v l):Tf l:=by
 intro n _
 have key:∀ m:List Ad,(∀ s∈m,I64 s.count)->I64 (A9 m n):=by
  intro m
  induction m with
  | nil=>exact fun _=>I64.of (by simp [A9]) (by simp [A9])
  | cons s m ih =>
   intro hm
   rw [A9]
   split
   ·exact hm s (List.mem_cons_self ..)
   ·exact ih fun t ht=>hm t (List.mem_cons_of_mem _ ht)
 refine key l fun s hs=>?_
 obtain ⟨i,hi⟩:=List.mem_iff_getElem?.1 hs
 obtain ⟨b,off,c,_,_,_,_,h1,_⟩:=Ev h hi
 exact h1
theorem A20 {ls:List (List Ad)} (h:∀ l∈ls,Tf l) (n:Nat) (hn:n < 64):I64 (Ew ls n):=by
 have key:∀ (ls:List (List Ad)) (a:Int),I64 a->(∀ l∈ls,Tf l)->I64 (ls.foldl (fun a l=>max a (A9 l n)) a):=by
  intro ls
  induction ls with
  | nil=>exact fun a h _=>h
  | cons l ls ih=>exact fun a ha hl=>ih _ (Bx2 ha (hl l (List.mem_cons_self ..) n hn)) fun m hm=>hl m (List.mem_cons_of_mem _ hm)
 exact key ls 0 (I64.of (by omega) (by omega)) h
set_option maxRecDepth 100000 in
theorem At5 (ls:List (List Ad)) (v:Value) (w:World) (h:Gy w w.heap.size v ls) :
  Calls Tryz.prog 284 #[v] w fun e w'=>(∃ v',e=.returned v'/\Ai Fs 2 w' w.heap.size 38 v' (Dw ls))/\Below w.heap.size w w':=by
 have hle:=h.len_le
 have HH:=Lib.hid h
 have hI:∀ l∈ls,Tf l:=fun l hl=>by
  obtain ⟨i,hi⟩:=List.mem_iff_getElem?.1 hl
  obtain ⟨_,_,_,vi,_,_,_,hs⟩:=Vx h hi
  exact Yi hs
 have HI:=Lib.hid hI
 obtain ⟨A,c,rfl,-⟩:=id h
 have hz:=C58
 clear h hI
 go_enter Tryz.func284,Tryz.ntmps284
 go_wp2_with fail
 go_loopw [4] (fun k wr=>∃ m:Nat,m<=ls.length/\k=.int .i64 m/\Below w.heap.size w wr/\Blk wr w.heap.size 136 (Dj (Ew (ls.take m)))) (fun k _=>ls.length - (intOf k).toNat)
 case atStart=>exact ⟨0,Nat.zero_le _,rfl,Ap (Below.refl _ _),Blk.new _ _ _⟩
 case round =>
  obtain ⟨m,hm,rfl,hb,hB⟩:=hrel
  by_cases hlt:m < ls.length
  ·obtain ⟨x,hx⟩ : ∃ x,ls[m]? = some x:=⟨ls[m],List.getElem?_eq_getElem hlt⟩
   obtain ⟨b,off,_,vi,hv',hbb,e0,hs⟩:=Vx (HH.out.next hb) hx
   injection hv' with hv1 hv2 hv3
   subst hv1
   have HT:=Lib.hid (Eh hx)
   have HBB:=Lib.hid hB
   have HSS:=Lib.hid hs
   obtain ⟨A1,c1,rfl,-⟩:=id hs
   have hws:=hb.size
   clear hv2 hv3 hs hB hx
   go_wp2_with fail
   refine (Q5 x _ _ HSS.out).mono ?_
   rintro e w1 ⟨rfl,hb1⟩
   have hB1:=HBB.out.next hb1
   have hb1s:=hb1.size
   have hBlt:=HBB.out.lt
   have Hb1:=Lib.hid (B6 hb hb1)
   clear hb hb1 HBB e0
   generalize hf:Ew (ls.take m)=f at *
   have HF:=Lib.hid hf
   clear hf
   go_wp2_with (refine wpList_store_row rfl 136 (.tmp 5) (.tmp 17) rfl w1.heap.size _ rfl rfl 136 _ (Blk.new w1 136 _).raw (Rs _) (J6 _).symm (Q2 _) ?_)
   have hD:Blk ((w1.alloc (.cells (Dj fun _=>0) 136)).setRow w1.heap.size (Dj fun n=>A9 x n)) w1.heap.size 136 (Dj fun n=>A9 x n):=(Blk.new w1 136 (Dj fun _=>0)).setRow
   have hB2:Blk ((w1.alloc (.cells (Dj fun _=>0) 136)).setRow w1.heap.size (Dj fun n=>A9 x n)) w.heap.size 136 (Dj f):=hB1.alloc.farRow (by omega)
   have hb2:Below w.heap.size w ((w1.alloc (.cells (Dj fun _=>0) 136)).setRow w1.heap.size (Dj fun n=>A9 x n)):=Ln (Ap Hb1.out) (by omega)
   generalize (w1.alloc _).setRow _ _=W at *
   generalize hg:w1.heap.size=g at *
   have HN:=Lib.hid (show ∀ n,Ew (ls.take (m+1)) n=max (f n) (A9 x n) from fun n=>by rw [HT.out,Rq];rw [HF.out])
   generalize hd:(fun n:Nat=>A9 x n)=d at *
   have HD:=Lib.hid hd
   have hne:w.heap.size≠g:=by omega
   clear hd hg hb1s hws
   go_loopw [6] (fun j w2=>∃ n:Nat,n<=64/\j=.int .i64 n/\Below w.heap.size w w2/\Blk w2 w.heap.size 136 (Dj (He f d n))/\Blk w2 g 136 (Dj d)) (fun j _=>64 - (intOf j).toNat)
   case atStart=>exact ⟨0,by omega,rfl,hb2,by rw [A85];exact hB2,hD⟩
   case round =>
    obtain ⟨n,hn,rfl,hb3,hB3,hD3⟩:=hrel
    by_cases hn64:n < 64
    ·have c0:=(hB3.cell n).trans (Dv hn64)
     have d0:=(hD3.cell n).trans (Dv hn64)
     have z0:=hB3.frozen n
     have hq:He f d n n=f n:=by simp [He]
     rw [hq] at c0
     have HMX:=Lib.hid (hB3.set_ n (.int .i64 (max (f n) (d n))))
     rw [B81 f d hn64] at HMX
     have i1:(n:Int) < 64:=by omega
     clear hq
     generalize hp:f n=p at *
     generalize hq2:d n=q at *
     clear hp hq2
     go_wp2_with fail
     go_still_tail 9,(by kernel_rfl)
     go_wp2_with fail
     have hmx:(if p < q then q else p)=max p q:=by split<;>omega
     try rw [hmx]
     exact ⟨⟨n+1,by omega,by go_num,(Yu hb3 (p:=⟨w.heap.size,n,none⟩) (Nat.le_refl _)).drew,HMX.out.drew,(hD3.far (by simpa using hne.symm) _).drew⟩,by simp [intOf];omega⟩
    ·obtain rfl:n=64:=by omega
     have hB4:Blk wr w.heap.size 136 (Dj (Ew (ls.take (m+1)))):=by
      rw [show Dj (Ew (ls.take (m+1)))=Dj (He f d 64) from F9 fun i hi=>by rw [HN.out i,He,if_pos hi,<-HD.out]]
      exact hB3
     have HB4:=Lib.hid hB4
     clear hB3 hB4 hD3
     go_wp2_with fail
     exact ⟨⟨m+1,by omega,by go_num,hb3,HB4.out⟩,by simp [intOf];omega⟩
  ·obtain rfl:m=ls.length:=by omega
   rw [List.take_length] at hB
   have HC:=Lib.hid (fun z=>Bj6 (Ew ls) (A20 HI.out) z)
   have HB:=Lib.hid hB
   clear hB
   go_wp2_with (with_reducible refine wpList_load_row rfl 136 (.tmp 3) rfl w.heap.size rfl 136 _ (0,0) _ HB.out.raw Tryz.underlying136 rfl (Rs _) ?_)
   refine (HC.out _).mono ?_
   rintro e w1 ⟨⟨v',rfl,hown⟩,hb1⟩
   have hbs:=hb.size
   obtain ⟨A0,c0,rfl⟩:=hown.form
   have HO:=Lib.hid hown
   clear hown
   go_wp2_with fail
   go_ret
   exact ⟨⟨_,rfl,HO.out.base hbs⟩,B6 hb hb1⟩
theorem B87 (a b:List Ad) (v u:Value) (w:World) (h:Bx w w.heap.size v a) (h':Bx w w.heap.size u b) :
  Calls Tryz.prog 164 #[v,u] w fun e w'=>(∃ v',e=.returned v'/\Ai Fs 2 w' w.heap.size 38 v' (Dw [a,b]))/\Below w.heap.size w w':=by
 obtain ⟨A,c,rfl,-⟩:=id h
 obtain ⟨A',c',rfl,-⟩:=id h'
 have ha:=Ap (o:=.cells #[.slice A a.length c,.slice A' b.length c'] 51) (Below.refl _ w)
 have hB:=Blk.new w 51 #[.slice A a.length c,.slice A' b.length c']
 have hsl:Gy (w.alloc (.cells #[.slice A a.length c,.slice A' b.length c'] 51)) (w.alloc (.cells #[.slice A a.length c,.slice A' b.length c'] 51)).heap.size (.slice (some ⟨w.heap.size,0,none⟩) 2 2) [a,b] :=
  (Ai.of_blk (R:=Wh _ _) (k:=1) (l:=[a,b]) hB ⟨_,_,rfl,rfl,⟨_,rfl,h.next ha⟩,_,[],rfl,rfl,⟨_,rfl,h'.next ha⟩,rfl⟩ (by simp)).sl
 have HC:=Lib.hid (At5 [a,b] _ _ hsl)
 clear h h' hB hsl
 go_enter Tryz.func164,Tryz.ntmps164
 go_wp2_with fail
 refine HC.out.mono ?_
 rintro e w1 ⟨⟨v',rfl,hown⟩,hb1⟩
 have has:=ha.size
 obtain ⟨A0,c0,rfl⟩:=hown.form
 have HO:=Lib.hid hown
 clear hown HC
 go_wp2_with fail
 go_ret
 exact ⟨⟨_,rfl,HO.out.base has⟩,B6 ha hb1⟩
end Go.Proofs.YtahgkllhbggmgaaGreatDoor
