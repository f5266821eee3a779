/- Contracts of the program's membership in a set: the closure, the library's IndexFunc and ContainsFunc at spans. -/
import Derived.Test.YthlgnjlpakimaaaGreatDoorVSpanSet
set_option linter.all false
set_option linter.unnecessarySimpa false
set_option linter.unusedSimpArgs false
set_option linter.unusedVariables false
namespace Go.Proofs.YthlgnjlpakimaaaGreatDoor
open Go.ChangeShapes Go.WideShapes Go.ChangeAt Go.RowKit
theorem A58 (l:List Ad) (v:Value) (w:World) (h:E5 w w.heap.size v l) :
  Calls Tryz.prog 94 #[v] w fun e w'=>e=.returned (.bool (E9 l))/\Below w.heap.size w w':=by
 have hle:=h.len_le
 obtain ⟨A,c,rfl,_⟩:=id h
 by_cases hlt:l.length<=128
 ·have hres:decide (l=C8 fun o=>Ae l o)=E9 l:=by
   rw [Bool.eq_iff_iff,Ei,decide_eq_true_eq]
   exact ⟨fun h=>⟨hlt,h⟩,fun h=>h.2⟩
  have Hres:=Lib.hid hres
  have hi:(l.length:Int)<=128:=by omega
  clear hres
  go_enter Tryz.func94,Tryz.ntmps94
  go_wp2_with fail
  refine (X7 l _ _ h).mono ?_
  rintro e w1 ⟨rfl,hb1⟩
  go_wp2_with fail
  refine (B35 _ _).mono ?_
  rintro e w2 ⟨⟨v2,rfl,hown⟩,hb2⟩
  go_wp2_with fail
  refine (Rv l _ _ _ _ ((h.next hb1).next hb2) hown.sl).mono ?_
  rintro e w3 ⟨rfl,hb3⟩
  have k3:=Bp (Bp hb1 hb2) hb3
  clear hown hb1 hb2 hb3 h
  rw [Hres.out]
  go_wp2_with fail
  go_ret
  exact ⟨rfl,k3⟩
 ·have Hres:Hid (E9 l=false):=by
   rw [Bool.eq_false_iff]
   intro h
   exact hlt ((Ei l).1 h).1
  have hi:128 < (l.length:Int):=by omega
  go_enter Tryz.func94,Tryz.ntmps94
  go_wp2_with fail
  go_ret
  exact ⟨Bc Hres.out.symm,Below.refl _ _⟩
def By (l:List Ad) (o:Int):Bool:=decide (0<=o/\o<=255)&&Ae l o
set_option maxRecDepth 100000 in
theorem Aw7 (l:List Ad) (o:Int) (v:Value) (w:World) (h:E5 w w.heap.size v l) :
  Calls Tryz.prog 29 #[v,.int .i64 o] w fun e w'=>e=.returned (.bool (By l o))/\Below w.heap.size w w':=by
 obtain ⟨A,c,rfl,_⟩:=id h
 by_cases h0:0<=o/\o<=255
 ·obtain ⟨h1,h2⟩:=h0
  have Hres:=Lib.hid (show By l o=Ae l o by rw [By,decide_eq_true ⟨h1,h2⟩,Bool.true_and])
  obtain ⟨n,rfl⟩ : ∃ n:Nat,o=n:=⟨o.toNat,by omega⟩
  have hX:∀ u:World,(Instr.index 99 (.agg (setRow fun o=>Ae l o)) (.int .i64 n)).run Tryz.prog u=.ok (.bool (Ae l n)) u :=
   Tn Tryz.underlying99 Tryz.underlying4 rfl (by kernel_rfl) (by omega) (Dd (by omega))
  go_enter Tryz.func29,Tryz.ntmps29
  go_wp2_with fail
  refine (X7 l _ _ h).mono ?_
  rintro e w1 ⟨rfl,hb1⟩
  go_wp2_with fail
  go_ret
  exact ⟨Bc Hres.out.symm,hb1⟩
 ·have Hres:=Lib.hid (show By l o=false by rw [By,decide_eq_false h0,Bool.false_and])
  have hc:o < 0\/(0<=o/\255 < o):=by omega
  clear h0
  rcases hc with h1 | ⟨h1,h2⟩
  all_goals
   go_enter Tryz.func29,Tryz.ntmps29
   go_wp2_with fail
   go_ret
   exact ⟨Bc Hres.out.symm,Below.refl _ _⟩
def Nk {α:Type} (p:α->Bool):Nat->List α->Int
 | _,[]=>-1
 | i,x :: l=>if p x then i else Nk p (i+1) l
theorem Yi {α:Type} (p:α->Bool):∀ (l:List α) (i:Nat),decide (0<=Nk p i l)=l.any p
 | [],_=>rfl
 | x :: l,i=>by
  rw [Nk,List.any_cons]
  cases h:p x with
  | true=>rw [if_pos rfl,Bool.true_or,decide_eq_true (by omega)]
  | false=>rw [if_neg (by simp),Bool.false_or];exact Yi p l (i+1)
def Qx (o:Int) (s:Ad):Bool:=decide (s.lo<=o)&&decide (o<=s.hi)
theorem Bj8 (l:List Ad) (o:Int):Ae l o=l.any (Qx o):=rfl
theorem Bg3 (o:Int) (s:Ad) (B:Nat) (w:World) (h:w.cell? ⟨B,0,none⟩=some (.int .i64 o)) :
  Calls Tryz.prog 145 #[.agg #[.int .i64 s.lo,.int .i64 s.hi],.pointer (some ⟨B,0,none⟩)] w fun e w'=>e=.returned (.bool (Qx o s))/\Below w.heap.size w w':=by
 obtain ⟨lo,hi⟩:=s
 have c0:=Av (Ax (o:=.cells #[.int .i64 lo,.int .i64 hi] 66) (Below.refl _ w)) h
 have hB:=World.block_lt_of_cell? _ _ h
 simp only at hB
 go_enter Tryz.func145,Tryz.ntmps145
 go_wp2_with fail
 all_goals
  go_ret
  refine ⟨Bc ?_,Ax (Below.refl _ _)⟩
  simp [Qx]<;>omega
def Ap8 (B:Nat):Value:=.func (.func 145) #[] #[.pointer (some ⟨B,0,none⟩)]
theorem A52 (o:Int) (l:List Ad) (B:Nat) (v:Value) (w:World) (h:E5 w w.heap.size v l) (ho:w.cell? ⟨B,0,none⟩=some (.int .i64 o)) :
  Calls Tryz.prog 199 #[v,Ap8 B] w fun e w'=>e=.returned (.int .i64 (Nk (Qx o) 0 l))/\Below w.heap.size w w':=by
 have hle:=h.len_le
 obtain ⟨A,c,rfl,_⟩:=id h
 have Ho:=Lib.hid ho
 clear ho
 unfold Ap8
 go_enter Tryz.func199,Tryz.ntmps199
 go_wp2_with fail
 go_loopw [8] (fun k wr=>∃ m:Nat,m<=l.length/\k=.int .i64 m/\Nk (Qx o) 0 l=Nk (Qx o) m (l.drop m)/\Below w.heap.size w wr) (fun k _=>l.length - (intOf k).toNat)
 case atStart=>exact ⟨0,Nat.zero_le _,rfl,rfl,Below.refl _ _⟩
 case round =>
  obtain ⟨m,hm,rfl,hv,hb⟩:=hrel
  by_cases hlt:m < l.length
  ·obtain ⟨x,hx⟩ : ∃ x,l[m]? = some x:=⟨l[m],List.getElem?_eq_getElem hlt⟩
   obtain ⟨b,off,c',hv',hbb,e0,e1,_,_⟩:=J5 h hx
   injection hv' with hv1 hv2 hv3
   subst hv1
   have f0:=(hb.cell (p:=⟨b,off+m*2,none⟩) hbb).trans e0
   have f1:=(hb.cell (p:=⟨b,off+m*2+1,none⟩) hbb).trans e1
   rw [Jy hx,Nk] at hv
   have HC:=Lib.hid (Bg3 o x B wr (Av hb Ho.out))
   generalize Qx o x=r at hv HC
   obtain ⟨lo,hi⟩:=x
   simp only at f0 f1 HC
   have HV:=Lib.hid hv
   clear hv hv2 hv3 e0 e1 hx
   go_wp2_with fail
   refine HC.out.mono ?_
   rintro e w1 ⟨rfl,hb1⟩
   have k1:=Bp hb hb1
   clear hb1 HC f0 f1
   cases r<;>go_wp2_with fail
   ·refine ⟨⟨m+1,by omega,by go_num,?_,k1⟩,by simp [intOf];omega⟩
    rw [HV.out,if_neg (by simp)]
   ·go_ret
    exact ⟨Sr (by rw [HV.out];simp),k1⟩
  ·obtain rfl:m=l.length:=by omega
   rw [List.drop_length] at hv
   have HV:=Lib.hid hv
   clear hv
   go_wp2_with fail
   go_ret
   exact ⟨Sr HV.out.symm,hb⟩
theorem Wu (o:Int) (l:List Ad) (B:Nat) (v:Value) (w:World) (h:E5 w w.heap.size v l) (ho:w.cell? ⟨B,0,none⟩=some (.int .i64 o)) :
  Calls Tryz.prog 144 #[v,Ap8 B] w fun e w'=>e=.returned (.bool (Ae l o))/\Below w.heap.size w w':=by
 obtain ⟨A,c,rfl,_⟩:=id h
 have hany:=Yi (Qx o) l 0
 rw [<-Bj8] at hany
 have HC:=Lib.hid (A52 o l B _ w h ho)
 generalize Nk (Qx o) 0 l=k at hany HC
 rw [<-hany]
 clear hany ho h
 unfold Ap8 at *
 go_enter Tryz.func144,Tryz.ntmps144
 go_wp2_with fail
 refine HC.out.mono ?_
 rintro e w1 ⟨rfl,hb1⟩
 go_wp2_with fail
 go_ret
 exact ⟨rfl,hb1⟩
theorem Y6 (l:List Ad) (o:Int) (v:Value) (w:World) (h:E5 w w.heap.size v l) :
  Calls Tryz.prog 67 #[v,.int .i64 o] w fun e w'=>e=.returned (.bool (By l o))/\Below w.heap.size w w':=by
 obtain ⟨A,c,rfl,_⟩:=id h
 have B0:=Blk.new w 3 #[.int .i64 o]
 have c0:=B0.cell 0
 simp only [List.getElem?_toArray,List.getElem?_cons_zero] at c0
 by_cases h0:0<=o/\o<=255
 ·obtain ⟨h1,h2⟩:=h0
  have Hres:=Lib.hid (show By l o=Ae l o by rw [By,decide_eq_true ⟨h1,h2⟩,Bool.true_and])
  have HC:=Lib.hid (Wu o l w.heap.size _ _ (h.next (Ax (o:=.cells #[.int .i64 o] 3) (Below.refl _ _))) c0)
  unfold Ap8 at HC
  clear h B0
  go_enter Tryz.func67,Tryz.ntmps67
  go_wp2_with fail
  refine HC.out.mono ?_
  rintro e w1 ⟨rfl,hb1⟩
  go_wp2_with fail
  go_ret
  exact ⟨Bc Hres.out.symm,Bp (Ax (Below.refl _ _)) hb1⟩
 ·have Hres:=Lib.hid (show By l o=false by rw [By,decide_eq_false h0,Bool.false_and])
  have hc:o < 0\/(0<=o/\255 < o):=by omega
  clear h0 h B0
  rcases hc with h1 | ⟨h1,h2⟩
  all_goals
   go_enter Tryz.func67,Tryz.ntmps67
   go_wp2_with fail
   go_ret
   exact ⟨Bc Hres.out.symm,Ax (Below.refl _ _)⟩
end Go.Proofs.YthlgnjlpakimaaaGreatDoor
