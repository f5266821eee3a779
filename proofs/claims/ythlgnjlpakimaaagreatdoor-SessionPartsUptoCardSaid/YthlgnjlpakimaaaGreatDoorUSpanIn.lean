/- Contracts of the program's membership in a set: the closure, the library's IndexFunc and ContainsFunc at spans. -/
import Derived.Test.YthlgnjlpakimaaaGreatDoorUSpanSet
set_option linter.all false
set_option linter.unnecessarySimpa false
set_option linter.unusedSimpArgs false
set_option linter.unusedVariables false
namespace Go.Proofs.YthlgnjlpakimaaaGreatDoor
open Go.ChangeShapes Go.WideShapes Go.ChangeAt Go.RowKit
theorem Rj (l:List Ad) (v:Value) (w:World) (h:Co w w.heap.size v l) :
  Calls Tryz.prog 94 #[v] w fun e w'=>e=.returned (.bool (Ci l))/\Below w.heap.size w w':=by
 have hle:=h.len_le
 obtain ⟨A,c,rfl,_⟩:=id h
 by_cases hlt:l.length<=128
 ·have hres:decide (l=C1 fun o=>Ak l o)=Ci l:=by
   rw [Bool.eq_iff_iff,Ea,decide_eq_true_eq]
   exact ⟨fun h=>⟨hlt,h⟩,fun h=>h.2⟩
  have Hres:=Lib.hid hres
  have hi:(l.length:Int)<=128:=by omega
  clear hres
  go_enter Tryz.func94,Tryz.ntmps94
  go_wp2_with fail
  refine (Uh l _ _ h).mono ?_
  rintro e w1 ⟨rfl,hb1⟩
  go_wp2_with fail
  refine (Av6 _ _).mono ?_
  rintro e w2 ⟨⟨v2,rfl,hown⟩,hb2⟩
  go_wp2_with fail
  refine (Q1 l _ _ _ _ ((h.next hb1).next hb2) hown.sl).mono ?_
  rintro e w3 ⟨rfl,hb3⟩
  have k3:=As (As hb1 hb2) hb3
  clear hown hb1 hb2 hb3 h
  rw [Hres.out]
  go_wp2_with fail
  go_ret
  exact ⟨rfl,k3⟩
 ·have Hres:Hid (Ci l=false):=by
   rw [Bool.eq_false_iff]
   intro h
   exact hlt ((Ea l).1 h).1
  have hi:128 < (l.length:Int):=by omega
  go_enter Tryz.func94,Tryz.ntmps94
  go_wp2_with fail
  go_ret
  exact ⟨Ag Hres.out.symm,Below.refl _ _⟩
def Bv (l:List Ad) (o:Int):Bool:=decide (0<=o/\o<=255)&&Ak l o
set_option maxRecDepth 100000 in
theorem Ap2 (l:List Ad) (o:Int) (v:Value) (w:World) (h:Co w w.heap.size v l) :
  Calls Tryz.prog 29 #[v,.int .i64 o] w fun e w'=>e=.returned (.bool (Bv l o))/\Below w.heap.size w w':=by
 obtain ⟨A,c,rfl,_⟩:=id h
 by_cases h0:0<=o/\o<=255
 ·obtain ⟨h1,h2⟩:=h0
  have Hres:=Lib.hid (show Bv l o=Ak l o by rw [Bv,decide_eq_true ⟨h1,h2⟩,Bool.true_and])
  obtain ⟨n,rfl⟩ : ∃ n:Nat,o=n:=⟨o.toNat,by omega⟩
  have hX:∀ u:World,(Instr.index 99 (.agg (setRow fun o=>Ak l o)) (.int .i64 n)).run Tryz.prog u=.ok (.bool (Ak l n)) u :=
   Rh Tryz.underlying99 Tryz.underlying4 rfl (by kernel_rfl) (by omega) (Cv (by omega))
  go_enter Tryz.func29,Tryz.ntmps29
  go_wp2_with fail
  refine (Uh l _ _ h).mono ?_
  rintro e w1 ⟨rfl,hb1⟩
  go_wp2_with fail
  go_ret
  exact ⟨Ag Hres.out.symm,hb1⟩
 ·have Hres:=Lib.hid (show Bv l o=false by rw [Bv,decide_eq_false h0,Bool.false_and])
  have hc:o < 0\/(0<=o/\255 < o):=by omega
  clear h0
  rcases hc with h1 | ⟨h1,h2⟩
  all_goals
   go_enter Tryz.func29,Tryz.ntmps29
   go_wp2_with fail
   go_ret
   exact ⟨Ag Hres.out.symm,Below.refl _ _⟩
theorem Ad3 (w:World):Ae Df 2 (w.alloc (.cells #[] 66)) w.heap.size 66 (.slice (some ⟨w.heap.size,0,none⟩) 0 0) [] :=
 ⟨[],⟨rfl,.inr ⟨_,0,#[],rfl,Nat.le_refl _,heap_alloc_new w _,Nat.le_refl _,Nat.zero_le _,rfl,rfl⟩⟩,rfl,Nat.zero_le _⟩
theorem Af9 (l:List Ad) (v:Value) (w:World) (h:Co w w.heap.size v l) :
  Calls Tryz.prog 86 #[v] w fun e w'=>(∃ v',e=.returned v'/\Ae Df 2 w' w.heap.size 66 v' l)/\Below w.heap.size w w':=by
 have hle:=h.len_le
 obtain ⟨i0,hi,hz0,hz1,hz2⟩:=info_parts Yf
 obtain ⟨A,c,rfl,_⟩:=id h
 go_enter Tryz.func86,Tryz.ntmps86
 go_wp2_with (at_builtin;refine Dh _ Hr rfl (.tmp 3) (.tmp 4) 35 rfl w.heap.size 66 i0 _ 16 Tryz.underlying35 hi hz0 hz1 hz2 rfl (by omega) _ [] rfl (Ad3 w) w.heap.size _ l rfl (h.keep (fun _ _ h=>h) (Nat.le_refl _) (fun p hp=>World.cell?_alloc_lt _ _ _ hp)) (by simp only [List.length_nil];omega) (by omega) (by simp) ?_;intro v1 w1 hown hgr hat)
 simp only [List.nil_append] at hown
 have hb1:Below w.heap.size w w1:=(Af (Below.refl _ _)).grown hgr (by simp) (fun k hk=>Nat.le_of_eq (Option.some.inj hk))
 have H1:=Lib.hid hown
 clear hown hgr hat hi hz0 hz1 hz2
 go_wp2_with fail
 go_ret
 exact ⟨⟨_,rfl,H1.out⟩,hb1⟩
def Dx {α:Type} (p:α->Bool):Nat->List α->Int
 | _,[]=>-1
 | i,x :: l=>if p x then i else Dx p (i+1) l
theorem Vy {α:Type} (p:α->Bool):∀ (l:List α) (i:Nat),decide (0<=Dx p i l)=l.any p
 | [],_=>rfl
 | x :: l,i=>by
  rw [Dx,List.any_cons]
  cases h:p x with
  | true=>rw [if_pos rfl,Bool.true_or,decide_eq_true (by omega)]
  | false=>rw [if_neg (by simp),Bool.false_or];exact Vy p l (i+1)
def P7 (o:Int) (s:Ad):Bool:=decide (s.lo<=o)&&decide (o<=s.hi)
theorem Bb9 (l:List Ad) (o:Int):Ak l o=l.any (P7 o):=rfl
theorem B85 (o:Int) (s:Ad) (B:Nat) (w:World) (h:w.cell? ⟨B,0,none⟩=some (.int .i64 o)) :
  Calls Tryz.prog 145 #[.agg #[.int .i64 s.lo,.int .i64 s.hi],.pointer (some ⟨B,0,none⟩)] w fun e w'=>e=.returned (.bool (P7 o s))/\Below w.heap.size w w':=by
 obtain ⟨lo,hi⟩:=s
 have c0:=Am (Af (o:=.cells #[.int .i64 lo,.int .i64 hi] 66) (Below.refl _ w)) h
 have hB:=World.block_lt_of_cell? _ _ h
 simp only at hB
 go_enter Tryz.func145,Tryz.ntmps145
 go_wp2_with fail
 all_goals
  go_ret
  refine ⟨Ag ?_,Af (Below.refl _ _)⟩
  simp [P7]<;>omega
def Aj2 (B:Nat):Value:=.func (.func 145) #[] #[.pointer (some ⟨B,0,none⟩)]
theorem Z8 (o:Int) (l:List Ad) (B:Nat) (v:Value) (w:World) (h:Co w w.heap.size v l) (ho:w.cell? ⟨B,0,none⟩=some (.int .i64 o)) :
  Calls Tryz.prog 199 #[v,Aj2 B] w fun e w'=>e=.returned (.int .i64 (Dx (P7 o) 0 l))/\Below w.heap.size w w':=by
 have hle:=h.len_le
 obtain ⟨A,c,rfl,_⟩:=id h
 have Ho:=Lib.hid ho
 clear ho
 unfold Aj2
 go_enter Tryz.func199,Tryz.ntmps199
 go_wp2_with fail
 go_loopw [8] (fun k wr=>∃ m:Nat,m<=l.length/\k=.int .i64 m/\Dx (P7 o) 0 l=Dx (P7 o) m (l.drop m)/\Below w.heap.size w wr) (fun k _=>l.length - (intOf k).toNat)
 case atStart=>exact ⟨0,Nat.zero_le _,rfl,rfl,Below.refl _ _⟩
 case round =>
  obtain ⟨m,hm,rfl,hv,hb⟩:=hrel
  by_cases hlt:m < l.length
  ·obtain ⟨x,hx⟩ : ∃ x,l[m]? = some x:=⟨l[m],List.getElem?_eq_getElem hlt⟩
   obtain ⟨b,off,c',hv',hbb,e0,e1,_,_⟩:=Gr h hx
   injection hv' with hv1 hv2 hv3
   subst hv1
   have f0:=(hb.cell (p:=⟨b,off+m*2,none⟩) hbb).trans e0
   have f1:=(hb.cell (p:=⟨b,off+m*2+1,none⟩) hbb).trans e1
   rw [E6 hx,Dx] at hv
   have HC:=Lib.hid (B85 o x B wr (Am hb Ho.out))
   generalize P7 o x=r at hv HC
   obtain ⟨lo,hi⟩:=x
   simp only at f0 f1 HC
   have HV:=Lib.hid hv
   clear hv hv2 hv3 e0 e1 hx
   go_wp2_with fail
   refine HC.out.mono ?_
   rintro e w1 ⟨rfl,hb1⟩
   have k1:=As hb hb1
   clear hb1 HC f0 f1
   cases r<;>go_wp2_with fail
   ·refine ⟨⟨m+1,by omega,by go_num,?_,k1⟩,by simp [intOf];omega⟩
    rw [HV.out,if_neg (by simp)]
   ·go_ret
    exact ⟨Mc (by rw [HV.out];simp),k1⟩
  ·obtain rfl:m=l.length:=by omega
   rw [List.drop_length] at hv
   have HV:=Lib.hid hv
   clear hv
   go_wp2_with fail
   go_ret
   exact ⟨Mc HV.out.symm,hb⟩
theorem Ua (o:Int) (l:List Ad) (B:Nat) (v:Value) (w:World) (h:Co w w.heap.size v l) (ho:w.cell? ⟨B,0,none⟩=some (.int .i64 o)) :
  Calls Tryz.prog 144 #[v,Aj2 B] w fun e w'=>e=.returned (.bool (Ak l o))/\Below w.heap.size w w':=by
 obtain ⟨A,c,rfl,_⟩:=id h
 have hany:=Vy (P7 o) l 0
 rw [<-Bb9] at hany
 have HC:=Lib.hid (Z8 o l B _ w h ho)
 generalize Dx (P7 o) 0 l=k at hany HC
 rw [<-hany]
 clear hany ho h
 unfold Aj2 at *
 go_enter Tryz.func144,Tryz.ntmps144
 go_wp2_with fail
 refine HC.out.mono ?_
 rintro e w1 ⟨rfl,hb1⟩
 go_wp2_with fail
 go_ret
 exact ⟨rfl,hb1⟩
theorem Vg (l:List Ad) (o:Int) (v:Value) (w:World) (h:Co w w.heap.size v l) :
  Calls Tryz.prog 67 #[v,.int .i64 o] w fun e w'=>e=.returned (.bool (Bv l o))/\Below w.heap.size w w':=by
 obtain ⟨A,c,rfl,_⟩:=id h
 have B0:=Blk.new w 3 #[.int .i64 o]
 have c0:=B0.cell 0
 simp only [List.getElem?_toArray,List.getElem?_cons_zero] at c0
 by_cases h0:0<=o/\o<=255
 ·obtain ⟨h1,h2⟩:=h0
  have Hres:=Lib.hid (show Bv l o=Ak l o by rw [Bv,decide_eq_true ⟨h1,h2⟩,Bool.true_and])
  have HC:=Lib.hid (Ua o l w.heap.size _ _ (h.next (Af (o:=.cells #[.int .i64 o] 3) (Below.refl _ _))) c0)
  unfold Aj2 at HC
  clear h B0
  go_enter Tryz.func67,Tryz.ntmps67
  go_wp2_with fail
  refine HC.out.mono ?_
  rintro e w1 ⟨rfl,hb1⟩
  go_wp2_with fail
  go_ret
  exact ⟨Ag Hres.out.symm,As (Af (Below.refl _ _)) hb1⟩
 ·have Hres:=Lib.hid (show Bv l o=false by rw [Bv,decide_eq_false h0,Bool.false_and])
  have hc:o < 0\/(0<=o/\255 < o):=by omega
  clear h0 h B0
  rcases hc with h1 | ⟨h1,h2⟩
  all_goals
   go_enter Tryz.func67,Tryz.ntmps67
   go_wp2_with fail
   go_ret
   exact ⟨Ag Hres.out.symm,Af (Below.refl _ _)⟩
end Go.Proofs.YthlgnjlpakimaaaGreatDoor
