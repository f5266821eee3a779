/- Contract of the program's test of subscriptions. -/
import Derived.Test.YtahgkllhbggmgaaGreatDoorLClone
import Derived.Test.YtahgkllhbggmgaaGreatDoorLBridge
import Derived.Test.YtahgkllhbggmgaaGreatDoorLViewEnc
import Derived.Test.YtahgkllhbggmgaaGreatDoorLMarks
set_option linter.all false
set_option linter.unnecessarySimpa false
set_option linter.unusedSimpArgs false
set_option linter.unusedVariables false
namespace Go.Proofs.YtahgkllhbggmgaaGreatDoor
open Go.ChangeShapes Go.WideShapes Go.ChangeAt Go.RowKit
def Np (n:Int):Bool:=decide (0<=n/\n < 1099511627776)
def Dk (n:Int):Bool:=decide (0<=n/\n < 64)
def Qn (l:List Ah):Bool:=decide (0 < l.length)&&C1 l
theorem V1 (n:Int) (w:World):Calls Tryz.prog 140 #[.int .i64 n] w fun e w'=>e=.returned (.bool (Dk n))/\w=w':=by
 go_enter Tryz.func140,Tryz.ntmps140
 go_wp2_with fail
 all_goals (go_ret;refine ⟨Ak (Bool.eq_iff_iff.2 ?_),rfl⟩;(simp [Dk]<;>omega))
theorem Je (n:Int) (w:World):Calls Tryz.prog 141 #[.int .i64 n] w fun e w'=>e=.returned (.bool (Np n))/\w=w':=by
 go_enter Tryz.func141,Tryz.ntmps141
 go_wp2_with fail
 all_goals (go_ret;refine ⟨Ak (Bool.eq_iff_iff.2 ?_),rfl⟩;(simp [Np]<;>omega))
theorem Lh (n:Int) (w:World):Calls Tryz.prog 167 #[.int .i64 n] w fun e w'=>e=.returned (.bool (Np n))/\w=w':=by
 go_enter Tryz.func167,Tryz.ntmps167
 go_wp2_with fail
 all_goals (go_ret;refine ⟨Ak (Bool.eq_iff_iff.2 ?_),rfl⟩;(simp [Np]<;>omega))
def Bl6 (n:Int):Int:=(n+1) % 1099511627776
theorem Qs (l:List Ah) (v:Value) (w:World) (h:F6 w w.heap.size v l) :
  Calls Tryz.prog 142 #[v] w fun e w'=>e=.returned (.bool (Qn l))/\Below w.heap.size w w':=by
 obtain ⟨A,c,rfl,_⟩:=id h
 have HC:=Lib.hid (Ko l _ _ h)
 unfold Qn
 generalize C1 l=r at HC
 by_cases hp:0 < l.length
 ·have hi:(0:Int) < (l.length:Int):=by omega
  rw [decide_eq_true hp,Bool.true_and]
  clear h
  go_enter Tryz.func142,Tryz.ntmps142
  go_wp2_with fail
  refine HC.out.mono ?_
  rintro e w1 ⟨rfl,hb1⟩
  go_wp2_with fail
  go_ret
  exact ⟨rfl,hb1⟩
 ·have hi:(l.length:Int)<=0:=by omega
  rw [decide_eq_false hp,Bool.false_and]
  clear h hp
  go_enter Tryz.func142,Tryz.ntmps142
  go_wp2_with fail
  go_ret
  exact ⟨rfl,Below.refl _ _⟩
theorem Xh (n:Int) (l:List Ah) (v:Value) (w:World) (h:F6 w w.heap.size v l) :
  Calls Tryz.prog 166 #[.int .i64 n,v] w fun e w'=>e=.returned (.bool (Dk n&&Qn l))/\Below w.heap.size w w':=by
 obtain ⟨A,c,rfl,_⟩:=id h
 have HC:=Lib.hid (Lr l _ _ h)
 unfold Qn
 generalize C1 l=r at HC
 by_cases hn:0<=n/\n < 64
 ·have Hn:=Lib.hid (show Dk n=true from decide_eq_true hn)
  obtain ⟨n1,n2⟩:=hn
  rw [Hn.out,Bool.true_and]
  by_cases hp:0 < l.length
  ·have hi:(0:Int) < (l.length:Int):=by omega
   rw [decide_eq_true hp,Bool.true_and]
   clear h
   go_enter Tryz.func166,Tryz.ntmps166
   go_wp2_with fail
   refine HC.out.mono ?_
   rintro e w1 ⟨rfl,hb1⟩
   go_wp2_with fail
   go_ret
   exact ⟨rfl,hb1⟩
  ·have hi:(l.length:Int)<=0:=by omega
   rw [decide_eq_false hp,Bool.false_and]
   clear h hp
   go_enter Tryz.func166,Tryz.ntmps166
   go_wp2_with fail
   go_ret
   exact ⟨rfl,Below.refl _ _⟩
 ·have Hn:=Lib.hid (show Dk n=false from decide_eq_false hn)
  rw [Hn.out,Bool.false_and]
  have hc:n < 0\/(0<=n/\63 < n):=by omega
  clear hn h
  rcases hc with h1 | ⟨h1,h2⟩
  all_goals
   go_enter Tryz.func166,Tryz.ntmps166
   go_wp2_with fail
   go_ret
   exact ⟨rfl,Below.refl _ _⟩
attribute [local irreducible] AW AWY Be As vop Az Aq Ax qop Bd Bv Aj Ag Ay A7 Aw
def A31 (m:Msg):List IV:=[.val (.int .i64 m.kind),.val (.int .i64 m.from_),.val (.int .i64 m.to_),.val (.int .i64 m.session),.val (.int .i64 m.seq),spI m.interest,stI m.vector,noI m.notes,.val (.int .i64 m.body.object),.val (.int .i64 m.body.stamp.count),.val (.int .i64 m.body.stamp.node),byI m.body.value]
def msI (l:List Msg):IV:=.sl 12 (l.map A31)
def msA (m:Msg):AV:=.agg [.val (.int .i64 m.kind),.val (.int .i64 m.from_),.val (.int .i64 m.to_),.val (.int .i64 m.session),.val (.int .i64 m.seq),.iv (spI m.interest),.iv (stI m.vector),.iv (noI m.notes),.val (.int .i64 m.body.object),.val (.int .i64 m.body.stamp.count),.val (.int .i64 m.body.stamp.node),.iv (byI m.body.value)]
theorem L6 (m:Msg):A31 m=[.val (.int .i64 m.kind),.val (.int .i64 m.from_),.val (.int .i64 m.to_),.val (.int .i64 m.session),.val (.int .i64 m.seq),spI m.interest,stI m.vector,noI m.notes,.val (.int .i64 m.body.object),.val (.int .i64 m.body.stamp.count),.val (.int .i64 m.body.stamp.node),byI m.body.value]:=rfl
theorem Lu (l:List Msg):msI l=.sl 12 (l.map A31):=rfl
theorem Ro (m:Msg):msA m=.agg [.val (.int .i64 m.kind),.val (.int .i64 m.from_),.val (.int .i64 m.to_),.val (.int .i64 m.session),.val (.int .i64 m.seq),.iv (spI m.interest),.iv (stI m.vector),.iv (noI m.notes),.val (.int .i64 m.body.object),.val (.int .i64 m.body.stamp.count),.val (.int .i64 m.body.stamp.node),.iv (byI m.body.value)]:=rfl
end Go.Proofs.YtahgkllhbggmgaaGreatDoor
namespace Go.Proofs.YtahgkllhbggmgaaGreatDoor
open Go.ChangeShapes Go.WideShapes Go.ChangeAt Go.RowKit
def Gt (x:Cr):Bool:=decide (0<=x.object/\x.object<=255)&&Bj x.stamp.count x.stamp.node&&decide (x.value.length<=256)
def Ey (x:Cr):Bool:=decide (x.stamp.count=0/\x.stamp.node=0)&&decide (x.value.length=0)
def Lj (m:Msg):Bool:=decide (m.interest.length=0/\m.vector.length=0/\m.notes.length=0/\m.session=0/\m.seq=0)
def Cs (m:Msg):Bool :=
  Dk m.from_&&Dk m.to_ &&
  (if m.kind=1 then decide (0<=m.session/\m.seq=0/\m.notes.length=0/\m.body.object=0/\0 < m.interest.length)&&Ey m.body&&C1 m.interest&&B7 m.vector
   else if m.kind=3 then decide (m.notes.length<=257/\0<=m.session/\0<=m.seq/\m.interest.length=0/\m.vector.length=0/\m.body.object=0)&&Ey m.body&&m.notes.all Bt
   else Lj m&&(if m.kind=2 then decide (m.body.object=0)&&Ey m.body else if m.kind=4 then decide (0<=m.body.object/\m.body.object<=255)&&Ey m.body else if m.kind=5 then Gt m.body else false))
def Em:Int->List Sub->Bool
 | _,[]=>true
 | e,s :: l=>(decide (e < s.from_)&&(Dk s.from_&&Qn s.interest)&&Np s.session&&Np s.seq)&&Em s.from_ l
def D6 (l:List Sub):Bool:=Em (-1) l&&decide (l.length<=16)
theorem A48 {w:World} {B:Nat} {v:Value} {l:List Sub} (h:Qm w B v l) {m:Nat} {x:Sub} (hx:l[m]? = some x) :
  ∃ b off c vi,v=.slice (some ⟨b,off,none⟩) l.length c/\b < B/\w.cell? ⟨b,off+m*7,none⟩=some (.int .i64 x.from_)/\w.cell? ⟨b,off+m*7+1,none⟩=some vi /\
   w.cell? ⟨b,off+m*7+2,none⟩=some (.int .i64 x.session)/\w.cell? ⟨b,off+m*7+3,none⟩=some (.int .i64 x.seq)/\w.cell? ⟨b,off+m*7+4,none⟩=some (.bool x.live) /\
   w.cell? ⟨b,off+m*7+5,none⟩=some (.bool x.heard)/\w.cell? ⟨b,off+m*7+6,none⟩=some (.bool x.idle)/\F6 w B vi x.interest/\I64 x.from_/\I64 x.session/\I64 x.seq:=by
 obtain ⟨A,c,rfl,_,_,h3⟩:=h
 obtain ⟨b,off,rfl,hb,h4⟩:=h3 (by rintro rfl;simp at hx)
 obtain ⟨cs,⟨vi,rfl,i1,i2,i3,hv⟩,_,h5⟩:=h4 m x hx
 exact ⟨b,off,c,vi,rfl,hb,h5 0 _ rfl,h5 1 _ rfl,h5 2 _ rfl,h5 3 _ rfl,h5 4 _ rfl,h5 5 _ rfl,h5 6 _ rfl,hv,i1,i2,i3⟩
set_option maxHeartbeats 1600000 in
theorem Sc (l:List Sub) (v:Value) (w:World) (h:Qm w w.heap.size v l) :
  Calls Tryz.prog 68 #[v] w fun e w'=>e=.returned (.bool (D6 l))/\Below w.heap.size w w':=by
 have hle:=h.len_le
 obtain ⟨A,c,rfl,_⟩:=id h
 unfold D6
 go_enter Tryz.func68,Tryz.ntmps68
 go_wp2_with fail
 go_loopw [3,8] (fun a i wr=>∃ (m:Nat) (e:Int),m<=l.length/\i=.int .i64 m/\a=.int .i64 e/\Em (-1) l=Em e (l.drop m)/\Below w.heap.size w wr) (fun _ i _=>l.length - (intOf i).toNat)
 case atStart=>exact ⟨0,-1,Nat.zero_le _,rfl,rfl,rfl,Below.refl _ _⟩
 case round =>
  obtain ⟨m,e,hm,rfl,rfl,hv,hb⟩:=hrel
  have hn:=h.next hb
  by_cases hlt:m < l.length
  ·obtain ⟨y,hy⟩ : ∃ y,l[m]? = some y:=⟨l[m],List.getElem?_eq_getElem hlt⟩
   obtain ⟨b,off,c',vi,hv',hbb,e0,e1,e2,e3,e4,e5,e6,hs,_,_,_⟩:=A48 hn hy
   injection hv' with hv1 hv2 hv3
   rw [Ek hy,Em] at hv
   obtain ⟨yf,yi,ys,yq,yl,yh,yd⟩:=y
   simp only at e0 e1 e2 e3 e4 e5 e6 hv hs
   subst hv1
   generalize hr1:Dk yf=r1 at hv
   generalize hr2:Np ys=r2 at hv
   generalize hr3:Np yq=r3 at hv
   generalize hr4:Qn yi=r4 at hv
   have HV:=Lib.hid hv
   have H1:=Lib.hid hr1
   have H2:=Lib.hid hr2
   have H3:=Lib.hid hr3
   have H4:=Lib.hid hr4
   obtain ⟨A4,c4,rfl,_⟩:=id hs
   have HS:=Lib.hid hs
   clear hv hv2 hv3 hy hbb hr1 hr2 hr3 hr4 hn hs
   by_cases p1:yf<=e
   ·go_wp2_with fail
    go_ret
    refine ⟨Ak ?_,Ap hb⟩
    rw [HV.out,decide_eq_false (p:=e < yf) (by omega)]
    rfl
   ·have Hp:=Lib.hid (decide_eq_true (p:=e < yf) (by omega))
    go_wp2_with fail
    have kB:=Ap (o:=.cells #[.int .i64 yf,.slice A4 yi.length c4,.int .i64 ys,.int .i64 yq,.bool yl,.bool yh,.bool yd] 92) (Below.refl _ wr)
    refine (V1 _ _).mono ?_
    rw [H1.out]
    rintro e' w' ⟨rfl,rfl⟩
    cases r1
    ·go_wp2_with fail
     go_ret
     refine ⟨Ak ?_,Ap hb⟩
     rw [HV.out]
     simp
    go_wp2_with fail
    refine (Je _ _).mono ?_
    rw [H2.out]
    rintro e' w' ⟨rfl,rfl⟩
    cases r2
    ·go_wp2_with fail
     go_ret
     refine ⟨Ak ?_,Ap hb⟩
     rw [HV.out]
     simp
    go_wp2_with fail
    refine (Je _ _).mono ?_
    rw [H3.out]
    rintro e' w' ⟨rfl,rfl⟩
    cases r3
    ·go_wp2_with fail
     go_ret
     refine ⟨Ak ?_,Ap hb⟩
     rw [HV.out]
     simp
    go_wp2_with fail
    refine (Qs _ _ _ (HS.out.next kB)).mono ?_
    rw [H4.out]
    rintro e' w1 ⟨rfl,hb1⟩
    have k1:=B6 (Ap hb) hb1
    have d0:=Ao hb1 ((Blk.new wr 92 #[.int .i64 yf,.slice A4 yi.length c4,.int .i64 ys,.int .i64 yq,.bool yl,.bool yh,.bool yd]).cell 0)
    clear hb1 kB e0 e1 e2 e3 e4 e5 e6
    cases r4
    ·go_wp2_with fail
     go_ret
     refine ⟨Ak ?_,k1⟩
     rw [HV.out]
     simp
    go_wp2_with fail
    refine ⟨⟨m+1,yf,by omega,by go_num,rfl,?_,k1⟩,by simp [intOf];omega⟩
    rw [HV.out,Hp.out]
    simp
  ·obtain rfl:m=l.length:=by omega
   rw [List.drop_length] at hv
   have HV:=Lib.hid hv
   clear hv
   go_wp2_with fail
   go_ret
   refine ⟨Ak ?_,hb⟩
   rw [HV.out,Em,Bool.true_and]
   exact decide_eq_decide.2 (by omega)
end Go.Proofs.YtahgkllhbggmgaaGreatDoor
