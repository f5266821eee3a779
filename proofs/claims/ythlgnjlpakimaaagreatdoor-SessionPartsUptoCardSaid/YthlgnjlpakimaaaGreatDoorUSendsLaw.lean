/- The law SessionSends. -/
import Derived.Test.YthlgnjlpakimaaaGreatDoorUMsg
import Derived.Test.YthlgnjlpakimaaaGreatDoorUBridge
import Derived.Test.YthlgnjlpakimaaaGreatDoorUViewEnc
import Derived.Test.YthlgnjlpakimaaaGreatDoorUClone
import Derived.Test.YthlgnjlpakimaaaGreatDoorURefThr
import Derived.Test.YthlgnjlpakimaaaGreatDoorUGoes
import Derived.Test.YthlgnjlpakimaaaGreatDoorULogAll
import Derived.Test.YthlgnjlpakimaaaGreatDoorUNoteThrough
import Derived.Test.YthlgnjlpakimaaaGreatDoorUNoteMerge
import Derived.Test.YthlgnjlpakimaaaGreatDoorURefMrg
import Derived.Test.YthlgnjlpakimaaaGreatDoorURefTouch
import Derived.Test.YthlgnjlpakimaaaGreatDoorURefSum13
import Derived.Test.YthlgnjlpakimaaaGreatDoorUByte
import Derived.Test.YthlgnjlpakimaaaGreatDoorUBodies
import Derived.Test.YthlgnjlpakimaaaGreatDoorUSpanIn
import Derived.Test.YthlgnjlpakimaaaGreatDoorUMarks
import Derived.Test.YthlgnjlpakimaaaGreatDoorUNoteWalk
set_option linter.all false
set_option linter.unnecessarySimpa false
set_option linter.unusedSimpArgs false
set_option linter.unusedVariables false
namespace Go.Proofs.YthlgnjlpakimaaaGreatDoor
open Go.ChangeShapes Go.WideShapes Go.ChangeAt Go.RowKit
def M2 (n:Int):Bool:=decide (0<=n/\n < 1099511627776)
def Dk (n:Int):Bool:=decide (0<=n/\n < 64)
def Ph (l:List Ad):Bool:=decide (0 < l.length)&&Ci l
theorem Pw (n:Int) (w:World):Calls Tryz.prog 87 #[.int .i64 n] w fun e w'=>e=.returned (.bool (Dk n))/\w=w':=by
 go_enter Tryz.func87,Tryz.ntmps87
 go_wp2_with fail
 all_goals (go_ret;refine ⟨Ag (Bool.eq_iff_iff.2 ?_),rfl⟩;(simp [Dk]<;>omega))
theorem K7 (n:Int) (w:World):Calls Tryz.prog 163 #[.int .i64 n] w fun e w'=>e=.returned (.bool (M2 n))/\w=w':=by
 go_enter Tryz.func163,Tryz.ntmps163
 go_wp2_with fail
 all_goals (go_ret;refine ⟨Ag (Bool.eq_iff_iff.2 ?_),rfl⟩;(simp [M2]<;>omega))
theorem Vr (n:Int) (w:World):Calls Tryz.prog 99 #[.int .i64 n] w fun e w'=>e=.returned (.bool (M2 n))/\w=w':=by
 go_enter Tryz.func99,Tryz.ntmps99
 go_wp2_with fail
 all_goals (go_ret;refine ⟨Ag (Bool.eq_iff_iff.2 ?_),rfl⟩;(simp [M2]<;>omega))
def Fk (n:Int):Int:=(n+1) % 1099511627776
theorem B09 (n:Int) (w:World) (h0:0<=n) (h1:n < 9223372036854775807):Calls Tryz.prog 90 #[.int .i64 n] w fun e w'=>e=.returned (.int .i64 (Fk n))/\w=w':=by
 go_enter Tryz.func90,Tryz.ntmps90
 go_wp2_with fail
 go_ret
 exact ⟨rfl,rfl⟩
theorem Rf (l:List Ad) (v:Value) (w:World) (h:Co w w.heap.size v l) :
  Calls Tryz.prog 164 #[v] w fun e w'=>e=.returned (.bool (Ph l))/\Below w.heap.size w w':=by
 obtain ⟨A,c,rfl,_⟩:=id h
 have HC:=Lib.hid (Ln l _ _ h)
 unfold Ph
 generalize Ci l=r at HC
 by_cases hp:0 < l.length
 ·have hi:(0:Int) < (l.length:Int):=by omega
  rw [decide_eq_true hp,Bool.true_and]
  clear h
  go_enter Tryz.func164,Tryz.ntmps164
  go_wp2_with fail
  refine HC.out.mono ?_
  rintro e w1 ⟨rfl,hb1⟩
  go_wp2_with fail
  go_ret
  exact ⟨rfl,hb1⟩
 ·have hi:(l.length:Int)<=0:=by omega
  rw [decide_eq_false hp,Bool.false_and]
  clear h hp
  go_enter Tryz.func164,Tryz.ntmps164
  go_wp2_with fail
  go_ret
  exact ⟨rfl,Below.refl _ _⟩
theorem Ap3 (n:Int) (l:List Ad) (v:Value) (w:World) (h:Co w w.heap.size v l) :
  Calls Tryz.prog 98 #[.int .i64 n,v] w fun e w'=>e=.returned (.bool (Dk n&&Ph l))/\Below w.heap.size w w':=by
 obtain ⟨A,c,rfl,_⟩:=id h
 have HC:=Lib.hid (Rj l _ _ h)
 unfold Ph
 generalize Ci l=r at HC
 by_cases hn:0<=n/\n < 64
 ·have Hn:=Lib.hid (show Dk n=true from decide_eq_true hn)
  obtain ⟨n1,n2⟩:=hn
  rw [Hn.out,Bool.true_and]
  by_cases hp:0 < l.length
  ·have hi:(0:Int) < (l.length:Int):=by omega
   rw [decide_eq_true hp,Bool.true_and]
   clear h
   go_enter Tryz.func98,Tryz.ntmps98
   go_wp2_with fail
   refine HC.out.mono ?_
   rintro e w1 ⟨rfl,hb1⟩
   go_wp2_with fail
   go_ret
   exact ⟨rfl,hb1⟩
  ·have hi:(l.length:Int)<=0:=by omega
   rw [decide_eq_false hp,Bool.false_and]
   clear h hp
   go_enter Tryz.func98,Tryz.ntmps98
   go_wp2_with fail
   go_ret
   exact ⟨rfl,Below.refl _ _⟩
 ·have Hn:=Lib.hid (show Dk n=false from decide_eq_false hn)
  rw [Hn.out,Bool.false_and]
  have hc:n < 0\/(0<=n/\63 < n):=by omega
  clear hn h
  rcases hc with h1 | ⟨h1,h2⟩
  all_goals
   go_enter Tryz.func98,Tryz.ntmps98
   go_wp2_with fail
   go_ret
   exact ⟨rfl,Below.refl _ _⟩
attribute [local irreducible] AW AWY Bw Bc vop Bj Az Bi qop By Ce Ar Ap Bo A7 Bd
theorem B24 (n:Int):A7 Tryz.prog A8 87 [.val (.int .i64 n)] (.val (.bool (Dk n))) [] :=
 Bq Tryz.func87 rfl (by kernel_rfl) fun V w E vs hV hG hr=>by
  obtain ⟨v,rfl,hv⟩:=Fy hr
  cases hv
  exact (Pw n w).mono fun _ w' h=>⟨h.1,h.2 ▸ Below.refl _ _⟩
theorem Ao3 (n:Int) (h0:0<=n) (h1:n < 9223372036854775807):A7 Tryz.prog A8 90 [.val (.int .i64 n)] (.val (.int .i64 (Fk n))) [] :=
 Bq Tryz.func90 rfl (by kernel_rfl) fun V w E vs hV hG hr=>by
  obtain ⟨v,rfl,hv⟩:=Fy hr
  cases hv
  exact (B09 n w h0 h1).mono fun _ w' h=>⟨h.1,h.2 ▸ Below.refl _ _⟩
def Tv (m:Msg):List IV:=[.val (.int .i64 m.kind),.val (.int .i64 m.from_),.val (.int .i64 m.to_),.val (.int .i64 m.session),.val (.int .i64 m.seq),spI m.interest,stI m.vector,noI m.notes,.val (.int .i64 m.body.object),.val (.int .i64 m.body.stamp.count),.val (.int .i64 m.body.stamp.node),byI m.body.value]
def msI (l:List Msg):IV:=.sl 12 (l.map Tv)
def msA (m:Msg):AV:=.agg [.val (.int .i64 m.kind),.val (.int .i64 m.from_),.val (.int .i64 m.to_),.val (.int .i64 m.session),.val (.int .i64 m.seq),.iv (spI m.interest),.iv (stI m.vector),.iv (noI m.notes),.val (.int .i64 m.body.object),.val (.int .i64 m.body.stamp.count),.val (.int .i64 m.body.stamp.node),.iv (byI m.body.value)]
theorem Tu (m:Msg):Tv m=[.val (.int .i64 m.kind),.val (.int .i64 m.from_),.val (.int .i64 m.to_),.val (.int .i64 m.session),.val (.int .i64 m.seq),spI m.interest,stI m.vector,noI m.notes,.val (.int .i64 m.body.object),.val (.int .i64 m.body.stamp.count),.val (.int .i64 m.body.stamp.node),byI m.body.value]:=rfl
theorem A77 (l:List Msg):msI l=.sl 12 (l.map Tv):=rfl
theorem Bb7 (m:Msg):msA m=.agg [.val (.int .i64 m.kind),.val (.int .i64 m.from_),.val (.int .i64 m.to_),.val (.int .i64 m.session),.val (.int .i64 m.seq),.iv (spI m.interest),.iv (stI m.vector),.iv (noI m.notes),.val (.int .i64 m.body.object),.val (.int .i64 m.body.stamp.count),.val (.int .i64 m.body.stamp.node),.iv (byI m.body.value)]:=rfl
end Go.Proofs.YthlgnjlpakimaaaGreatDoor
namespace Go.Proofs.YthlgnjlpakimaaaGreatDoor
open Go.ChangeShapes Go.WideShapes Go.ChangeAt Go.RowKit
def Ez (n:Int):Int->List Out->Bool
 | _,[]=>true
 | e,s :: l=>(decide (e < s.to_)&&(Dk s.to_&&Ph s.interest)&&M2 s.session&&M2 s.seq&&decide (-1<=s.at_/\s.at_<=n))&&Ez n s.to_ l
def Di (n:Int) (l:List Out):Bool:=Ez n (-1) l
set_option maxRecDepth 100000 in
set_option maxHeartbeats 1600000 in
theorem T7 (l:List Out) (n:Int) (v:Value) (w:World) (h:Wl w w.heap.size v l) :
  Calls Tryz.prog 88 #[v,.int .i64 n] w fun e w'=>e=.returned (.bool (Di n l))/\Below w.heap.size w w':=by
 have hle:=h.len_le
 have HH:=Lib.hid h
 obtain ⟨A,c,rfl,-⟩:=id h
 unfold Di
 generalize hr:Ez n (-1) l=V
 have HV0:=Lib.hid hr
 clear h hr
 go_enter Tryz.func88,Tryz.ntmps88
 go_wp2_with fail
 go_loopw [5,10] (fun a i wr=>∃ (m:Nat) (e:Int) (z:BW w),m<=l.length/\i=.int .i64 m/\a=.int .i64 e/\V=Ez n e (l.drop m)/\wr=z.val) (fun _ i _=>l.length - (intOf i).toNat)
 case atStart=>exact ⟨0,-1,BW.self w,Nat.zero_le _,rfl,rfl,HV0.out.symm,rfl⟩
 case round =>
  obtain ⟨m,e,z,hm,rfl,rfl,hv,rfl⟩:=hrel
  by_cases hlt:m < l.length
  ·obtain ⟨y,hy⟩ : ∃ y,l[m]? = some y:=⟨l[m],List.getElem?_eq_getElem hlt⟩
   obtain ⟨b,off,_,vi,hv',hbb,e0,e1,e2,e3,e4,hs,-,-,-,-⟩:=A72 (HH.out.next z.below) hy
   injection hv' with hv1 hv2 hv3
   subst hv1
   rw [E6 hy,Ez] at hv
   obtain ⟨yf,ys,yi,ya,yq⟩:=y
   simp only at e0 e1 e2 e3 e4 hv hs
   generalize hr1:Dk yf=r1 at hv
   generalize hr2:M2 ys=r2 at hv
   generalize hr3:M2 yq=r3 at hv
   generalize hr4:Ph yi=r4 at hv
   have HV:=Lib.hid hv
   have H1:=Lib.hid hr1
   have H2:=Lib.hid hr2
   have H3:=Lib.hid hr3
   have H4:=Lib.hid hr4
   obtain ⟨A4,c4,rfl,-⟩:=id hs
   have HS:=Lib.hid hs
   clear hv hv2 hv3 hy hr1 hr2 hr3 hr4 hs
   by_cases p1:yf<=e
   ·have HD:=Lib.hid (decide_eq_false (p:=e < yf) (by omega))
    go_wp2_with fail
    go_ret
    exact ⟨Ag (by rw [HV.out,HD.out];rfl),Af z.below⟩
   ·have HD:=Lib.hid (decide_eq_true (p:=e < yf) (by omega))
    go_wp2_with fail
    have kB:=Af (o:=.cells #[.int .i64 yf,.int .i64 ys,.slice A4 yi.length c4,.int .i64 ya,.int .i64 yq] 94) (Below.refl _ z.val)
    have B:=Blk.new z.val 94 #[.int .i64 yf,.int .i64 ys,.slice A4 yi.length c4,.int .i64 ya,.int .i64 yq]
    generalize hW:z.val.alloc _=W at *
    have HB:=Lib.hid B
    clear hW B e0 e1 e2 e3 e4
    have q1:∀ z':BW W,z'.val.cell? ⟨z.val.heap.size,1,none⟩=some (.int .i64 ys):=fun z'=>z'.cell (HB.out.cell 1)
    have q2:∀ z':BW W,z'.val.cell? ⟨z.val.heap.size,2,none⟩=some (.slice A4 yi.length c4):=fun z'=>z'.cell (HB.out.cell 2)
    have q3:∀ z':BW W,z'.val.cell? ⟨z.val.heap.size,3,none⟩=some (.int .i64 ya):=fun z'=>z'.cell (HB.out.cell 3)
    have q4:∀ z':BW W,z'.val.cell? ⟨z.val.heap.size,4,none⟩=some (.int .i64 yq):=fun z'=>z'.cell (HB.out.cell 4)
    have q0:∀ z':BW W,z'.val.cell? ⟨z.val.heap.size,0,none⟩=some (.int .i64 yf):=fun z'=>z'.cell (HB.out.cell 0)
    refine BW.start (w:=W) ?_
    intro z1
    refine BW.sameR (Pw _ _) (congrArg Value.bool H1.out) ?_
    cases r1
    ·go_wp2_with fail
     go_ret
     exact ⟨Ag (by rw [HV.out];simp),As z.below (As kB z1.below)⟩
    go_wp2_with fail
    refine BW.sameR (K7 _ _) (congrArg Value.bool H2.out) ?_
    cases r2
    ·go_wp2_with fail
     go_ret
     exact ⟨Ag (by rw [HV.out];simp),As z.below (As kB z1.below)⟩
    go_wp2_with fail
    refine BW.sameR (K7 _ _) (congrArg Value.bool H3.out) ?_
    cases r3
    ·go_wp2_with fail
     go_ret
     exact ⟨Ag (by rw [HV.out];simp),As z.below (As kB z1.below)⟩
    go_wp2_with fail
    refine BW.callR (z:=z1) (Rf _ _ _ ((HS.out.next kB).next z1.below)) (congrArg Value.bool H4.out) ?_
    intro z2
    cases r4
    ·go_wp2_with fail
     go_ret
     exact ⟨Ag (by rw [HV.out];simp),As z.below (As kB z2.below)⟩
    by_cases p2:ya < -1
    ·have HD2:=Lib.hid (decide_eq_false (p:=-1<=ya/\ya<=n) (by omega))
     go_wp2_with fail
     go_ret
     exact ⟨Ag (by rw [HV.out,HD2.out];simp),As z.below (As kB z2.below)⟩
    by_cases p3:n < ya
    ·have HD2:=Lib.hid (decide_eq_false (p:=-1<=ya/\ya<=n) (by omega))
     have p4:-1<=ya:=by omega
     go_wp2_with fail
     go_ret
     exact ⟨Ag (by rw [HV.out,HD2.out];simp),As z.below (As kB z2.below)⟩
    have HD2:=Lib.hid (decide_eq_true (p:=-1<=ya/\ya<=n) (by omega))
    have p4:-1<=ya:=by omega
    have p5:ya<=n:=by omega
    go_wp2_with fail
    refine ⟨⟨m+1,yf,z.to (As kB z2.below),by omega,by go_num,rfl,?_,rfl⟩,by simp [intOf];omega⟩
    rw [HV.out,HD.out,HD2.out]
    simp
  ·obtain rfl:m=l.length:=by omega
   rw [List.drop_length,Ez] at hv
   have HV:=Lib.hid hv
   clear hv
   go_wp2_with fail
   go_ret
   exact ⟨Ag HV.out.symm,z.below⟩
set_option maxRecDepth 100000 in
set_option maxHeartbeats 3200000 in
theorem Zf (l : List Out) (n : Int) (v : Value) (w : World) (h : Wl w w.heap.size v l) :
    Calls Tryz.prog 38 #[v, .int .i64 n] w fun e w' => e = .returned (.bool (Di n l)) /\ Below w.heap.size w w' := by
  have hle := h.len_le
  have HH := Lib.hid h
  obtain ⟨A, c, rfl, -⟩ := id h
  unfold Di
  generalize hr : Ez n (-1) l = V
  have HV0 := Lib.hid hr
  clear h hr
  go_enter Tryz.func38, Tryz.ntmps38
  go_wp2_with fail
  go_loopw [5] (fun i wr => ∃ (m : Nat) (e : Int) (z : BW w), m <= l.length /\ i = .int .i64 m /\ (m = 0 -> e = -1) /\ (∀ i y, m = i + 1 -> l[i]? = some y -> e = y.to_) /\ V = Ez n e (l.drop m) /\ wr = z.val) (fun i _ => l.length - (intOf i).toNat)
  case atStart => exact ⟨0, -1, BW.self w, Nat.zero_le _, rfl, fun _ => rfl, fun i _ hi => by omega, HV0.out.symm, rfl⟩
  case round =>
    obtain ⟨m, e, z, hm, rfl, he0, he1, hv, rfl⟩ := hrel
    by_cases hlt : m < l.length
    · obtain ⟨y, hy⟩ : ∃ y, l[m]? = some y := ⟨l[m], List.getElem?_eq_getElem hlt⟩
      obtain ⟨b, off, _, vi, hv', hbb, e0, e1, e2, e3, e4, hs, -, -, -, -⟩ := A72 (HH.out.next z.below) hy
      injection hv' with hv1 hv2 hv3
      subst hv1
      rw [E6 hy, Ez] at hv
      have Hy := Lib.hid hy
      obtain ⟨yf, ys, yi, ya, yq⟩ := y
      simp only at e0 e1 e2 e3 e4 hv hs
      generalize hr1 : (Dk yf && Ph yi) = r1 at hv
      generalize hr2 : M2 ys = r2 at hv
      generalize hr3 : M2 yq = r3 at hv
      have HV := Lib.hid hv
      have He0 := Lib.hid he0
      have He1 := Lib.hid he1
      obtain ⟨A4, c4, rfl, -⟩ := id hs
      have HS := Lib.hid hs
      have hf0 : Dk yf = true -> 0 <= yf := fun h => by simp only [Dk, decide_eq_true_eq] at h; exact h.1
      have HF := Lib.hid (fun h : r1 = true => hf0 (by rw [h] at hr1; simp only [Bool.and_eq_true] at hr1; exact hr1.1))
      have H1 := Lib.hid hr1
      have H2 := Lib.hid hr2
      have H3 := Lib.hid hr3
      have i2 : (m : Int) < (l.length : Int) := by omega
      clear hv hv2 hv3 hy hr1 hr2 hr3 hs he0 he1 hf0
      go_wp2_with fail
      have kB := Af (o := .cells #[.int .i64 yf, .int .i64 ys, .slice A4 yi.length c4, .int .i64 ya, .int .i64 yq] 94) (Below.refl _ z.val)
      have B := Blk.new z.val 94 #[.int .i64 yf, .int .i64 ys, .slice A4 yi.length c4, .int .i64 ya, .int .i64 yq]
      generalize hW : z.val.alloc _ = W at *
      have HB := Lib.hid B
      clear hW B e0 e1 e2 e3 e4
      have q0 : ∀ z' : BW W, z'.val.cell? ⟨z.val.heap.size, 0, none⟩ = some (.int .i64 yf) := fun z' => z'.cell (HB.out.cell 0)
      have q1 : ∀ z' : BW W, z'.val.cell? ⟨z.val.heap.size, 1, none⟩ = some (.int .i64 ys) := fun z' => z'.cell (HB.out.cell 1)
      have q2 : ∀ z' : BW W, z'.val.cell? ⟨z.val.heap.size, 2, none⟩ = some (.slice A4 yi.length c4) := fun z' => z'.cell (HB.out.cell 2)
      have q3 : ∀ z' : BW W, z'.val.cell? ⟨z.val.heap.size, 3, none⟩ = some (.int .i64 ya) := fun z' => z'.cell (HB.out.cell 3)
      have q4 : ∀ z' : BW W, z'.val.cell? ⟨z.val.heap.size, 4, none⟩ = some (.int .i64 yq) := fun z' => z'.cell (HB.out.cell 4)
      have HC1 := Lib.hid (fun z' : BW W => H1.out ▸ Ap3 yf yi (.slice A4 yi.length c4) z'.val ((HS.out.next kB).next z'.below))
      have HC2 := Lib.hid (fun z' : BW W => H2.out ▸ Vr ys z'.val)
      have HC3 := Lib.hid (fun z' : BW W => H3.out ▸ Vr yq z'.val)
      have kz := Lib.hid (As z.below kB)
      have hat : (ya < -1 /\ decide (ya < -1) = true /\ Hid (decide (-1 <= ya /\ ya <= n) = false)) \/ (-1 <= ya /\ n < ya /\ decide (ya < -1) = false /\ decide (n < ya) = true /\ Hid (decide (-1 <= ya /\ ya <= n) = false)) \/ (-1 <= ya /\ ya <= n /\ decide (ya < -1) = false /\ decide (n < ya) = false /\ Hid (decide (-1 <= ya /\ ya <= n) = true)) := by
        by_cases p : ya < -1
        · exact .inl ⟨p, by simpa using p, decide_eq_false (by omega)⟩
        · by_cases p2 : n < ya
          · exact .inr (.inl ⟨by omega, p2, by simpa using p, by simpa using p2, decide_eq_false (by omega)⟩)
          · exact .inr (.inr ⟨by omega, by omega, by simpa using p, by simpa using p2, decide_eq_true (by omega)⟩)
      cases m with
      | zero =>
        have hcs : r1 = false \/ (r1 = true /\ r2 = false) \/ (r1 = true /\ r2 = true /\ r3 = false) \/ (r1 = true /\ r2 = true /\ r3 = true) := by cases r1 <;> cases r2 <;> cases r3 <;> simp
        rcases hcs with rfl | ⟨rfl, rfl⟩ | ⟨rfl, rfl, rfl⟩ | ⟨rfl, rfl, rfl⟩
        all_goals (try (rcases hat with ⟨a1, a2, HA⟩ | ⟨a1, a2, a3, a4, HA⟩ | ⟨a1, a2, a3, a4, HA⟩))
        all_goals
          refine Cb (by kernel_rfl) (by kernel_rfl) ?_
          repeat (go_big_quiet_step (first | (go_at_call 98; exact Fo (HC1.out _)) | (go_at_call 99; first | (with_reducible exact Kc (HC2.out _)) | (with_reducible exact Kc (HC3.out _)))))
          refine wpQuiet_nil ?_
          intro w2 hb2
          go_wp2_with fail
        all_goals first
          | (go_ret
             exact ⟨Ag (by rw [HV.out]; first | (simp; done) | (rw [HA.out]; simp; done)), (As kz.out hb2)⟩)
          | (refine ⟨⟨1, yf, z.to (As kB hb2), by omega, by go_num, fun h => by omega, fun i' y hi hyi => ?_, ?_, rfl⟩, by simp [intOf]; omega⟩
             · obtain rfl : i' = 0 := by omega
               rw [Hy.out] at hyi
               injection hyi with hyi
               subst hyi
               rfl
             · rw [HV.out, HA.out, decide_eq_true (p := e < yf) (by have := HF.out rfl; have := He0.out rfl; omega)]
               simp)
      | succ i =>
        obtain ⟨y', hy'⟩ : ∃ y', l[i]? = some y' := ⟨l[i], List.getElem?_eq_getElem (by omega)⟩
        obtain rfl := He1.out i y' rfl hy'
        obtain ⟨b', off', _, vi', hv', hbb', e2, -⟩ := A72 (HH.out.next z.below) hy'
        injection hv' with hv1 hv2 hv3
        injection hv1 with hv1
        injection hv1 with hv4 hv5
        subst hv4 hv5
        have q6 : ∀ z' : BW W, z'.val.cell? ⟨b, off + i * 5, none⟩ = some (.int .i64 y'.to_) := fun z' => z'.cell (Am kB e2)
        have i1 : (0 : Int) < (i : Int) + 1 := by omega
        have i3 : (i : Int) < (l.length : Int) := by omega
        have s1 : IntKind.i64.wrap ((i : Int) + 1) = (i : Int) + 1 := IntWalk.i64_in _ (by omega)
        have s2 : IntKind.i64.wrap (i : Int) = (i : Int) := IntWalk.i64_in _ (by omega)
        clear hv2 hv3 hy' e2 hbb'
        have hcs : r1 = false \/ (r1 = true /\ yf <= y'.to_ /\ decide (yf <= y'.to_) = true /\ Hid (decide (y'.to_ < yf) = false)) \/ (r1 = true /\ r2 = false /\ y'.to_ < yf /\ decide (yf <= y'.to_) = false) \/ (r1 = true /\ r2 = true /\ r3 = false /\ y'.to_ < yf /\ decide (yf <= y'.to_) = false) \/ (r1 = true /\ r2 = true /\ r3 = true /\ y'.to_ < yf /\ decide (yf <= y'.to_) = false) := by
          by_cases p : yf <= y'.to_
          · have h1 : decide (yf <= y'.to_) = true := decide_eq_true p
            have h2 : Hid (decide (y'.to_ < yf) = false) := decide_eq_false (by omega)
            cases r1
            · exact .inl rfl
            · exact .inr (.inl ⟨rfl, p, h1, h2⟩)
          · have h1 : decide (yf <= y'.to_) = false := decide_eq_false p
            have h2 : y'.to_ < yf := by omega
            cases r1 <;> cases r2 <;> cases r3 <;> simp [h1, h2]
        rcases hcs with rfl | ⟨rfl, h1, g1, HD⟩ | ⟨rfl, rfl, h1, g1⟩ | ⟨rfl, rfl, rfl, h1, g1⟩ | ⟨rfl, rfl, rfl, h1, g1⟩
        all_goals (try (rcases hat with ⟨a1, a2, HA⟩ | ⟨a1, a2, a3, a4, HA⟩ | ⟨a1, a2, a3, a4, HA⟩))
        all_goals
          refine Cb (by kernel_rfl) (by kernel_rfl) ?_
          repeat (go_big_quiet_step (first | (go_at_call 98; exact Fo (HC1.out _)) | (go_at_call 99; first | (with_reducible exact Kc (HC2.out _)) | (with_reducible exact Kc (HC3.out _)))))
          refine wpQuiet_nil ?_
          intro w2 hb2
          clear s1 s2
          go_wp2_with fail
        all_goals first
          | (go_ret
             exact ⟨Ag (by rw [HV.out]; first | (simp; done) | (rw [HA.out]; simp; done) | (rw [HD.out]; simp; done)), (As kz.out hb2)⟩)
          | (refine ⟨⟨i + 1 + 1, yf, z.to (As kB hb2), by omega, by go_num, fun h => by omega, fun i' y hi hyi => ?_, ?_, rfl⟩, by simp [intOf]; omega⟩
             · obtain rfl : i' = i + 1 := by omega
               rw [Hy.out] at hyi
               injection hyi with hyi
               subst hyi
               rfl
             · rw [HV.out, HA.out, decide_eq_true (p := y'.to_ < yf) (by omega)]
               simp)
    · obtain rfl : m = l.length := by omega
      rw [List.drop_length, Ez] at hv
      have HV := Lib.hid hv
      clear hv he0 he1
      go_wp2_with fail
      go_ret
      exact ⟨Ag HV.out.symm, z.below⟩
def Fx (x:Out):List IV:=[.val (.int .i64 x.to_),.val (.int .i64 x.session),spI x.interest,.val (.int .i64 x.at_),.val (.int .i64 x.seq)]
def ouI (l:List Out):IV:=.sl 5 (l.map Fx)
theorem Yo (x:Out):Fx x=[.val (.int .i64 x.to_),.val (.int .i64 x.session),spI x.interest,.val (.int .i64 x.at_),.val (.int .i64 x.seq)]:=rfl
theorem Ap6 (l:List Out):ouI l=.sl 5 (l.map Fx):=rfl
theorem Aw1 {X:World} {cs:List Value} {s:Out} (h:Ab0 X X.heap.size cs s):Bl X cs (Fx s):=by
 obtain ⟨v,rfl,h1,h2,h3,h4,hv⟩:=h
 exact ⟨.val h1,.val h2,U9 hv (Nat.le_refl _),.val h3,.val h4,trivial⟩
theorem Bg8 {X:World} {cs:List Value} {s:Out} (h:Bl X cs (Fx s)):Ab0 X X.heap.size cs s:=by
 match cs,h with
 | [a,b,c,d,e],⟨h1,h2,h3,h4,h5,_⟩=>cases h1 with | val i1=>cases h2 with | val i2=>cases h4 with | val i4=>cases h5 with | val i5=>exact ⟨_,rfl,i1,i2,i4,i5,h3.spans⟩
theorem A83 {E:Env} {V:World} {v:Value} {l:List Out} (h:Bb E V v (.iv (ouI l))):Wl V V.heap.size v l:=by
 cases h with
 | iv h=>exact Cs.to_typed (R:=Ab0 V V.heap.size) (l:=l) (enc:=Fx) h fun cs x _ hx=>Bg8 hx
theorem Ag5 {w w':World} {v:Value} {l:List Out} (h:Wl w w.heap.size v l) (he:Ext w w'):Wl w' w'.heap.size v l:=Sl.ext h (fun cs x hx=>Bq5 _ _ cs x he hx) he
theorem Az2 {α:Type} {l:List α} {i:Nat} {x:α} (h:l[i]? = some x):l.set i x=l:=by
 obtain ⟨hi,rfl⟩:=List.getElem?_eq_some_iff.1 h
 exact List.set_getElem_self hi
theorem Ak9 (l:List Out):A7 Tryz.prog A8 165 [.iv (ouI l)] (.own 0) [.row 0 94 5 (l.map Fx)] :=
 ⟨Tt Tryz.func165 rfl (by kernel_rfl),fun V w E vs hV hG hr=>by
  obtain ⟨v0,rfl,hv0⟩:=Fy hr
  refine (B58 l v0 V w hV (A83 hv0)).mono fun _ w' ⟨⟨v,he,hO⟩,hb⟩=>?_
  obtain ⟨A,n,cc,hv⟩ : ∃ A n cc,v=.slice A n cc:=by
   obtain ⟨A,cc,hv,_⟩:=hO.sl
   exact ⟨A,_,cc,hv⟩
  have ho:Ac ⟨fun _=>(v.ownBlock).getD 0,fun _=>v⟩ [.row 0 94 5 (l.map Fx)]=v.ownBlock.toList:=by simp [Ac,BA.owned]
  refine ⟨v,⟨fun _=>(v.ownBlock).getD 0,fun _=>v⟩,he,hb,by rw [ho];cases v.ownBlock<;>simp,fun g hg=>by rw [ho,Option.mem_toList] at hg;exact (hO.lt g hg).1,fun b hb'=>?_,?_⟩
  ·simp only [List.mem_singleton] at hb'
   subst hb'
   refine ⟨hO.map_ fun cs x h=>?_,fun g hg=>by simp [hg]⟩
   rw [ho]
   exact Bl.ext (M6 hV hb) (Aw1 h)
  ·rw [hv]
   exact .own rfl⟩
attribute [local irreducible] AW AWY Bw Bc vop Bj Az Bi qop By Ce Ar Ap Bo A7 Bd C5
attribute [local go_sem] Yo Ap6 Ai An
theorem As6 (l:List Out) (n:Int):A7 Tryz.prog A8 88 [.iv (ouI l),.val (.int .i64 n)] (.val (.bool (Di n l))) [] :=
 Bq Tryz.func88 rfl (by kernel_rfl) fun V w E vs hV hG hr=>by
  obtain ⟨v,u,rfl,hv,hu⟩:=J4 hr
  cases hu
  exact T7 l n v w (Ag5 (A83 hv) hV)
theorem Vp (l:List Out) (n:Int):A7 Tryz.prog A8 38 [.iv (ouI l),.val (.int .i64 n)] (.val (.bool (Di n l))) [] :=
 Bq Tryz.func38 rfl (by kernel_rfl) fun V w E vs hV hG hr=>by
  obtain ⟨v,u,rfl,hv,hu⟩:=J4 hr
  cases hu
  exact Zf l n v w (Ag5 (A83 hv) hV)
set_option maxRecDepth 100000 in
theorem B15 (l:List Out):A7 Tryz.prog A8 89 [.iv (ouI l)] (.own 0) [.row 0 94 5 (l.map Fx)]:=by
 refine A7.ofS (n:=24) (rs:=[.tmp 2]) Tryz.func89 rfl (by kernel_rfl) Tryz.ntmps89 (by kernel_rfl) (by simp) (fun _ _=>A8.later) ?_
 intro hok V w0
 have hlen:l.length<=1073741824:=by simpa [ouI] using hok.1.1
 refine g ?_
 repeat' (first | refine st_ rfl (g ?_) | refine Aa (Ak9 l) rfl (g ?_))
 refine AW.loop (fun i:{i:Nat // i<=l.length}=>⟨[(3,.own 700),(8,.val (.int .i64 (l.length:Nat))),(9,.val (.int .i64 (i.1:Nat)))],[.row 700 94 5 (l.map Fx)]⟩) (fun i=>l.length - i.1) ⟨0,Nat.zero_le _⟩ id ⟨⟨rfl,rfl,rfl,trivial⟩,⟨rfl,trivial⟩,by simp [Ay,BA.id]⟩ fun ⟨i,hi⟩=>?_
 simp only
 repeat (refine AW.seq ?_)
 refine AW.reg rfl fun KK hKK=>?_
 refine g ?_
 repeat' (refine hKK _ (g ?_);clear hKK KK)
 repeat (refine AW.seq ?_)
 refine st_ rfl ?_
 refine g ?_
 refine Bk (fun h=>?_) (fun h=>?_)
 ·have hlt:i < l.length:=by omega
  have hrow:(l.map Fx)[i]? = some (Fx l[i]):=Cg (f:=Fx) (List.getElem?_eq_getElem hlt)
  refine st_ rfl (g ?_)
  refine g ?_
  repeat' refine st_ rfl (g ?_)
  refine ⟨by omega,hlt,?_⟩
  refine g ?_
  repeat' refine Aj (g ?_)
  refine ⟨_,hrow,?_⟩
  refine g ?_
  repeat' (first | refine Aj (g ?_) | refine Aa (Ak8 _) rfl (g ?_))
  refine ⟨by omega,hlt,?_⟩
  refine g ?_
  repeat' refine Aj (g ?_)
  refine ⟨_,_,rfl,⟨trivial,trivial⟩,hrow,?_⟩
  refine g ?_
  repeat' (first | refine st_ rfl (g ?_) | refine Aj (g ?_))
  refine ⟨⟨i+1,hlt⟩,id,⟨⟨rfl,rfl,rfl,trivial⟩,⟨?_,trivial⟩,by simp [Ay,BA.id]⟩,by show l.length - (i+1) < l.length - i;omega⟩
  exact congrArg (fun C=>some (BA.row 700 _ 5 C)) (Az2 hrow)
 ·obtain rfl:i=l.length:=by omega
  refine AW.exit ?_
  simp only [reduceIte]
  refine g ?_
  repeat' refine st_ rfl (g ?_)
  exact ⟨fun b=>if b=0 then 700 else b,fun _ _ _ h=>h,rfl,by simp⟩
set_option maxRecDepth 100000 in
theorem Xu (l:List Out):A7 Tryz.prog A8 31 [.iv (ouI l)] (.own 0) [.row 0 94 5 (l.map Fx)]:=by
 refine A7.ofS (n:=25) (rs:=[.tmp 2]) Tryz.func31 rfl (by kernel_rfl) Tryz.ntmps31 (by kernel_rfl) (by simp) (fun _ _=>A8.later) ?_
 intro hok V w0
 have hlen:l.length<=1073741824:=by simpa [ouI] using hok.1.1
 refine g ?_
 repeat' refine st_ rfl (g ?_)
 refine AW.adopt 3 9900 94 5 rfl rfl ?_
 refine AW.loop (fun i:{i:Nat // i<=l.length}=>⟨[(0,.iv (ouI l)),(3,.own 9900),(4,.val (.int .i64 (i.1:Nat)))],[.row 9900 94 5 ((l.take i.1).map Fx)]⟩) (fun i=>l.length - i.1) ⟨0,Nat.zero_le _⟩ id ⟨⟨rfl,rfl,rfl,trivial⟩,⟨rfl,trivial⟩,by simp [Ay,BA.id]⟩ fun ⟨i,hi⟩=>?_
 simp only
 repeat (refine AW.seq ?_)
 refine AW.reg rfl fun KK hKK=>?_
 refine g ?_
 repeat' (refine hKK _ (g ?_);clear hKK KK)
 repeat (refine AW.seq ?_)
 refine st_ rfl ?_
 refine g ?_
 refine Bk (fun h=>?_) (fun h=>?_)
 ·have hlt:i < l.length:=by omega
  obtain ⟨-,o1,o2,o3,o4,o5,-⟩:=Gc (by simpa [ouI] using hok.1.2) (Fx l[i]) (List.mem_map_of_mem (List.getElem_mem hlt))
  refine st_ rfl (g ?_)
  refine g ?_
  repeat' (first | refine st_ rfl (g ?_) | refine ix_ (by omega) (g ?_) | refine Aa (Bg6 _) rfl (g ?_))
  refine bs1 (by omega) rfl rfl rfl ⟨o1,o2,trivial,o4,o5,trivial⟩ ?_
  refine g ?_
  refine C6 rfl (by kernel_rfl) (by omega) (by kernel_rfl) rfl (by simp;omega) ?_
  refine g ?_
  repeat' refine st_ rfl (g ?_)
  refine ⟨⟨i+1,hlt⟩,fun b=>if b=9900 then 2400 else b,⟨⟨rfl,rfl,rfl,trivial⟩,⟨?_,trivial⟩,by simp [Ay,BA.id]⟩,by show l.length - (i+1) < l.length - i;omega⟩
  show some (BA.row _ _ _ _)=some (BA.row _ _ _ ((l.take (i+1)).map Fx))
  rw [List.take_succ_eq_append_getElem hlt,List.map_append]
  rfl
 ·obtain rfl:i=l.length:=by omega
  refine AW.exit ?_
  simp only [reduceIte]
  rw [List.take_length]
  refine g ?_
  repeat' refine st_ rfl (g ?_)
  exact ⟨fun b=>if b=0 then 9900 else b,fun _ _ _ h=>h,rfl,by simp⟩
set_option maxRecDepth 100000 in
theorem A63 (l:List Out):A7 Tryz.prog A8 34 [.iv (ouI l),.iv (ouI l)] (.val (.bool true)) []:=by
 refine A7.of (n:=61) (rs:=[.tmp 4]) Tryz.func34 rfl (by kernel_rfl) Tryz.ntmps34 (by kernel_rfl) (by simp) (fun _ _=>A8.later) ?_
 intro hok V w0
 have hlen:l.length<=1073741824:=by simpa [ouI] using hok.1.1
 refine g ?_
 repeat' refine st_ rfl (g ?_)
 refine AW.loop (fun i:{i:Nat // i<=l.length}=>⟨[(0,.iv (ouI l)),(1,.iv (ouI l)),(5,.val (.int .i64 (i.1:Nat)))],[]⟩) (fun i=>l.length - i.1) ⟨0,Nat.zero_le _⟩ id ⟨⟨rfl,rfl,rfl,trivial⟩,trivial,List.nodup_nil⟩ fun ⟨i,hi⟩=>?_
 simp only
 repeat (refine AW.seq ?_)
 refine AW.reg rfl fun KK hKK=>?_
 refine g ?_
 repeat' (refine hKK _ (g ?_);clear hKK KK)
 repeat (refine AW.seq ?_)
 refine st_ rfl ?_
 refine g ?_
 refine Bk (fun h=>?_) (fun h=>?_)
 ·have hlt:i < l.length:=by omega
  have hg:=Cg (f:=Fx) (List.getElem?_eq_getElem hlt)
  refine st_ rfl (g ?_)
  refine AW.seq ?_
  refine AW.block ?_
  repeat (refine AW.seq ?_)
  refine AW.drawn (ds:=[19,20,21,22,23,24,25,26,6,7]) (fin:=[2,3]) (bs:=[0,0,0,0,0,0,0,0,0,1,2,3]) [⟨[],[],[],[],0⟩,⟨[],[],[],[],0⟩,⟨[(19,0),(20,1)],[],[],[],0⟩,⟨[(21,2)],[],[],[],0⟩,⟨[],[],[],[],0⟩,⟨[],[],[],[],0⟩,⟨[(23,4),(24,5)],[],[],[],0⟩,⟨[(25,6)],[],[],[],0⟩,⟨[],[],[],[],1⟩,⟨[],[],[],[],1⟩,⟨[(6,8),(22,3)],[],[],[0],1⟩,⟨[(7,9),(26,7)],[],[],[1],1⟩] (by kernel_rfl) rfl (by kernel_rfl) rfl rfl rfl fun KD hKD=>?_
  refine g ?_
  repeat' (first | refine st_ rfl (g ?_) | (refine hKD _ _ ⟨rfl,g ?_⟩;clear hKD KD) | refine ix_ (by omega) (g ?_) | refine Aa (Py _ _) rfl (g ?_))
  exact ⟨⟨i+1,hlt⟩,id,⟨⟨rfl,rfl,rfl,trivial⟩,trivial,List.nodup_nil⟩,by show l.length - (i+1) < l.length - i;omega⟩
 ·refine AW.exit ?_
  simp only [reduceIte]
  refine g ?_
  repeat' (first | refine st_ rfl (g ?_) | exact trivial)
end Go.Proofs.YthlgnjlpakimaaaGreatDoor
namespace Go.Proofs.YthlgnjlpakimaaaGreatDoor
open Go.ChangeShapes Go.WideShapes Go.ChangeAt Go.RowKit
attribute [local irreducible] AW AWY Bw Bc vop Bj Az Bi qop By Ce Ar Ap Bo A7 Bd
attribute [local go_sem] Jh Kq Gy C3 Ai An
theorem Bo8 (l m:List Ab):A7 Tryz.prog A8 28 [.iv (stI l),.iv (stI m)] (.iv (stI (Eb [l,m]))) []:=(Xr l m).frz trivial
set_option maxHeartbeats 1600000 in
set_option maxRecDepth 100000 in
theorem K9 (l:Log) (iS:I64 l.sure):A7 Tryz.prog A8 37 [Qb l] (.val (.bool (B4 l))) []:=by
 refine A7.of (n:=56) (rs:=[.tmp 2]) Tryz.func37 rfl (by kernel_rfl) Tryz.ntmps37 (by kernel_rfl) (by simp) (fun _ _=>A8.later) ?_
 intro hok V w0
 have hlen:l.notes.length<=1073741824:=by simpa using hok.1.2.1.1
 obtain ⟨B,hB⟩ : ∃ B,B4 l=B:=⟨_,rfl⟩
 rw [hB]
 unfold B4 Ra at hB
 refine g ?_
 refine AW.seq ?_
 refine AW.reg rfl fun KK hKK=>?_
 refine g ?_
 repeat' (refine hKK _ (g ?_);clear hKK KK)
 refine AW.freeze 200 _ rfl ⟨trivial,trivial,iS,trivial⟩ ?_
 simp only [go_sem,reduceIte,Nat.reduceEqDiff]
 refine g ?_
 repeat' refine st_ rfl (g ?_)
 refine Aa (K8 l.base) rfl ?_
 cases hb:Av l.base
 ·obtain rfl:B=false:=by rw [<-hB,hb];rfl
  refine g ?_
  repeat' refine st_ rfl (g ?_)
  first | exact trivial | exact ⟨.inl trivial,id,List.nodup_nil⟩ | exact ⟨.inl trivial,id,rfl,List.nodup_nil⟩ | rfl
 refine g ?_
 by_cases h0:l.sure < 0
 ·obtain rfl:B=false:=by rw [<-hB,decide_eq_false (p:=0<=l.sure) (by omega)];simp
  simp only [decide_eq_true h0]
  refine g ?_
  repeat' refine st_ rfl (g ?_)
  first | exact trivial | exact ⟨.inl trivial,id,List.nodup_nil⟩ | exact ⟨.inl trivial,id,rfl,List.nodup_nil⟩ | rfl
 simp only [decide_eq_false h0]
 refine g ?_
 repeat' (first | refine st_ rfl (g ?_) | refine Cl (fun h=>g ?_) (fun h=>g ?_))
 ·obtain rfl:B=false:=by
   have:=of_decide_eq_true h
   rw [<-hB,decide_eq_false (p:=l.sure<=l.notes.length) (by omega)];simp
  first | exact trivial | exact ⟨.inl trivial,id,List.nodup_nil⟩ | exact ⟨.inl trivial,id,rfl,List.nodup_nil⟩ | rfl
 have h1:l.sure<=l.notes.length:=by have:=of_decide_eq_false h;omega
 rw [hb,decide_eq_true h1,decide_eq_true (p:=0<=l.sure) (by omega),Bool.true_and,Bool.true_and,Bool.true_and] at hB
 refine AW.loop (fun m:{m:Nat // m<=l.notes.length/\Cp l.base (l.notes.take m)=true}=>⟨[(1,.ip [stI l.base,noI l.notes,.val (.int .i64 l.sure)]),(3,.iv (stI (Db l.base (l.notes.take m.1)))),(4,.val (.int .i64 (m.1:Nat)))],[]⟩) (fun m=>l.notes.length - m.1) ⟨0,Nat.zero_le _,rfl⟩ id ⟨⟨rfl,rfl,rfl,trivial⟩,trivial,List.nodup_nil⟩ fun ⟨m,hm,ht⟩=>?_
 have hsp:∀ (hlt:m < l.notes.length),l.notes=l.notes.take m++l.notes[m] :: l.notes.drop (m+1):=fun hlt=>by rw [<-List.drop_eq_getElem_cons hlt,List.take_append_drop]
 clear h
 refine g ?_
 repeat' (first | refine st_ rfl (g ?_) | refine Cl (fun h=>g ?_) (fun h=>g ?_))
 ·have hlt:m < l.notes.length:=by simpa using h
  have hs2:Cp l.base l.notes=((Al l.notes[m]&&Ba (Db l.base (l.notes.take m)) l.notes[m].start)&&Cp (Eb [Db l.base (l.notes.take m),l.notes[m].end_]) (l.notes.drop (m+1))):=by
   conv=>lhs;rw [hsp hlt]
   rw [F1,ht,Bool.true_and];rfl
  refine ⟨by omega,_,Cg (List.getElem?_eq_getElem hlt),?_⟩
  refine g ?_
  repeat' refine Aj (g ?_)
  refine Aa (Gt l.notes[m]) rfl ?_
  cases hf:Al l.notes[m]
  ·refine g ?_
   repeat' refine st_ rfl (g ?_)
   obtain rfl:B=false:=by rw [<-hB,hs2,hf];rfl
   first | exact trivial | exact ⟨.inl trivial,id,List.nodup_nil⟩ | exact ⟨.inl trivial,id,rfl,List.nodup_nil⟩ | rfl
  refine g ?_
  refine ⟨by omega,_,Cg (List.getElem?_eq_getElem hlt),?_⟩
  refine g ?_
  repeat' refine Aj (g ?_)
  refine Aa (Af2 l.notes[m] _) rfl ?_
  cases hc:Ba (Db l.base (l.notes.take m)) l.notes[m].start
  ·refine g ?_
   repeat' refine st_ rfl (g ?_)
   obtain rfl:B=false:=by rw [<-hB,hs2,hf,hc];rfl
   first | exact trivial | exact ⟨.inl trivial,id,List.nodup_nil⟩ | exact ⟨.inl trivial,id,rfl,List.nodup_nil⟩ | rfl
  refine g ?_
  repeat' refine st_ rfl (g ?_)
  refine ⟨by omega,_,Cg (List.getElem?_eq_getElem hlt),?_⟩
  refine g ?_
  repeat' refine Aj (g ?_)
  refine Aa (Bo8 (Db l.base (l.notes.take m)) l.notes[m].end_) rfl ?_
  refine g ?_
  repeat' refine st_ rfl (g ?_)
  refine ⟨⟨m+1,hlt,?_⟩,id,⟨⟨rfl,?_,rfl,trivial⟩,trivial,List.nodup_nil⟩,by show l.notes.length - (m+1) < l.notes.length - m;omega⟩
  ·rw [List.take_succ_eq_append_getElem hlt,F1,ht,Bool.true_and]
   simp [Cp,hf,hc]
  ·rw [List.take_succ_eq_append_getElem hlt,Qc]
   rfl
 ·have:m=l.notes.length:=by simp at h;omega
  subst this
  rw [List.take_length] at ht
  rw [ht] at hB
  subst hB
  first | exact trivial | exact ⟨.inl trivial,id,List.nodup_nil⟩ | exact ⟨.inl trivial,id,rfl,List.nodup_nil⟩ | rfl
end Go.Proofs.YthlgnjlpakimaaaGreatDoor
namespace Go.Proofs.YthlgnjlpakimaaaGreatDoor
open Go.ChangeShapes Go.WideShapes Go.ChangeAt Go.RowKit
attribute [local irreducible] AW AWY Bw Bc vop Bj Az Bi qop By Ce Ar Ap Bo A7 Bd
attribute [local go_sem] Jh Kq Gy C3 Ai An To
theorem B00 (l:Log) (a:Int) (it:List Ad) (iS:I64 l.sure) (iA:I64 a):A7 Tryz.prog A8 105 [Qb l,.val (.int .i64 a),.iv (spI it)] (.fn 171 [Wg l,.ip [.val (.int .i64 a)],.ip [spI it]]) []:=by
 have h:A7 Tryz.prog A8 105 [Qb l,.val (.int .i64 a),.iv (spI it)] (.fn 171 [.bp 0 0,.bp 1 0,.bp 2 0]) [.box 0 [.iv (stI l.base),.iv (noI l.notes),.val (.int .i64 l.sure)],.box 1 [.val (.int .i64 a)],.box 2 [.iv (spI it)]]:=by
  refine A7.of (n:=8) (rs:=[.tmp 6]) Tryz.func105 rfl (by kernel_rfl) Tryz.ntmps105 (by kernel_rfl) (by simp) (fun _ _=>A8.later) ?_
  intro hok V w0
  refine g ?_
  refine g ?_
  repeat' refine st_ rfl (g ?_)
  first | exact ⟨.inl trivial,fun b=>400+100*b,rfl,⟨rfl,rfl,rfl⟩,by simp⟩ | exact ⟨fun b=>400+100*b,rfl,⟨rfl,rfl,rfl⟩,by simp⟩
 exact ((h.frz ⟨trivial,trivial,iS,trivial⟩).frz ⟨iA,trivial⟩).frz ⟨trivial,trivial⟩
theorem A8.calm:Cf7 A8:=fun w r o' h ⟨o,ho,hc⟩ =>
 fun j hj=>K1 (h j hj) (grownBy_putObj' w r o') fun r' e=>by cases e;exact ⟨o,ho,hc⟩
def thr (it:List Ad) (p:B7×Nat):B7×Nat:=(G1 p.1 it,p.2)
def R9 (l:Log) (a:Nat) (it:List Ad):List (B7×Nat):=Qq (Dq l it) a
theorem U7 (l:Log) (a:Nat) (it:List Ad):R9 l a it=(H7 l.notes a l.sure.toNat).map (thr it):=by
 unfold R9 Dq Qq H7
 rw [<-List.map_drop,List.zipIdx_map]
 rfl
set_option maxHeartbeats 1600000 in
set_option maxRecDepth 100000 in
theorem Az9 (l:Log) (a:Nat) (it:List Ad) (iS:I64 l.sure) (iA:I64 a) (hF:B4 l=true):Bd Tryz.prog A8 171 [Wg l,.ip [.val (.int .i64 (a:Nat))],.ip [spI it]] enL (fun ys=>ys=R9 l a it) (fun pre=>pre <+: R9 l a it):=by
 refine Bd.ofR (n:=29) Tryz.func171 rfl (by kernel_rfl) Tryz.ntmps171 (by kernel_rfl) (by simp) (fun _ _=>A8.later) ?_
 intro hok Y hro
 have he:Aj5 l a=Qq l.notes a:=by unfold Aj5;rw [if_pos hF]
 refine g ?_
 refine g ?_
 repeat' refine Kg rfl (g ?_)
 refine Aa (B34 l a iS iA) rfl ?_
 refine g ?_
 repeat' refine Kg rfl (g ?_)
 refine AWY.freeze 500 _ rfl ⟨trivial,trivial⟩ ?_
 simp only [go_sem,reduceIte,Nat.reduceEqDiff]
 refine AWY.le (S:=⟨[(1,Wg l),(2,.ip [.val (.int .i64 (a:Nat))]),(3,.ip [spI it]),(4,.ip [.val (.func (.yield Y.l) #[] #[])]),(11,.fn 210 [Wg l,.ip [.val (.int .i64 (a:Nat))]])],[]⟩) (ρ:=id) ⟨⟨rfl,rfl,rfl,rfl,rfl,trivial⟩,trivial,List.nodup_nil⟩ ?_
 refine AWY.range (B33 l a iS) A8.calm (fun pre q=>q=pre.map (thr it)/\(pre=[]\/a+pre.length<=l.sure)) ⟨rfl,.inl rfl⟩ hro rfl rfl rfl (fun x=>⟨rfl,rfl⟩) (fun Y1 hY1 pre x q hsp hI=>?_) (fun xs q hS hI=>?_)
 ·obtain ⟨hp1,hp2,hp3⟩:=Ag4 (he ▸ hsp)
  obtain ⟨n,i⟩:=x
  simp only at hp2 hp3
  obtain ⟨hlt,hn⟩:=List.getElem?_eq_some_iff.1 hp3
  have hfn:Al n=true:=Ms hF n (hn ▸ List.getElem_mem hlt)
  obtain ⟨hq,hI⟩:=hI
  refine AWY.frzEnd 700 ?_
  simp only [Tf,enL,List.cons_append,List.nil_append]
  refine g ?_
  refine g ?_
  repeat' refine Kg rfl (g ?_)
  refine ⟨rfl,_,rfl,⟨trivial,trivial,trivial,trivial,trivial⟩,?_⟩
  simp only [go_sem,reduceIte,Nat.reduceEqDiff]
  intro Y2 hY2
  refine g ?_
  repeat' (first | refine Kg rfl (g ?_) | refine Cl (fun h=>g ?_) (fun h=>g ?_))
  ·have hge:l.sure<=(i:Int):=by simpa using h
   show (Exit.ret=Exit.ret\/_)/\q=R9 l a it
   refine ⟨.inl rfl,?_⟩
   rw [hq,U7]
   congr 1
   rcases hI with rfl | hI
   ·simp only [List.length_nil,Nat.add_zero] at hp2
    unfold H7
    rw [List.drop_of_length_le (by rw [List.length_take];omega)]
    rfl
   ·rw [hp1]
    congr 1
    omega
  ·have hls:(i:Int) < l.sure:=by simpa using h
   refine Aa (A50 n it hfn) rfl ?_
   refine g ?_
   repeat' refine Kg rfl (g ?_)
   have hnx:(pre++[(n,i)]).map (thr it)=q++[(G1 n it,i)]:=by rw [List.map_append,<-hq];rfl
   have hpx:pre++[(n,i)]=H7 l.notes a (a+pre.length+1):=by rw [Uj (by omega) hlt,hn,<-hp1,hp2]
   refine Wn (x:=(G1 n it,i)) ?_ ?_ ?_ ?_
   ·rw [hY2];rfl
   ·exact Sbs.rfl_ _
   ·rw [<-hnx,U7,hpx]
    have:H7 l.notes a (a+pre.length+1) <+: H7 l.notes a l.sure.toNat:=by
     have h1:l.notes.take (a+pre.length+1) <+: l.notes.take l.sure.toNat:=List.take_prefix_take_left (by omega)
     obtain ⟨t,ht⟩:=h1
     unfold H7
     rw [<-ht,List.drop_append]
     exact X5 (List.prefix_append _ _) a
    obtain ⟨t,ht⟩:=this
    exact ⟨t.map (thr it),by rw [<-ht,List.map_append]⟩
   simp only [go_sem]
   refine ⟨by simp [Ft,okA],?_,?_⟩
   ·refine g ?_
    repeat' refine Kg rfl (g ?_)
    exact ⟨hnx.symm,.inr (by rw [List.length_append,List.length_singleton];omega)⟩
   ·refine g ?_
    repeat' refine Kg rfl (g ?_)
    exact ⟨.inl rfl,trivial⟩
 ·simp only [go_sem,reduceIte]
  refine ⟨.inr trivial,?_⟩
  have hS:xs=Qq l.notes a:=hS.trans he
  rw [hI.1,U7]
  congr 1
  rcases hI.2 with h | h
  ·have:=Me l.notes a l.sure.toNat
   rw [<-hS,h,List.prefix_nil] at this
   rw [h,this]
  ·have hl:xs.length=l.notes.length - a:=by rw [hS];simp [Qq]
   rw [hS,<-Q3 (i:=max a l.notes.length) (by omega)]
   by_cases ha:a<=l.notes.length
   ·rw [Q3 (by omega),Q3 (by omega)]
   ·rw [Q3 (by omega)]
    have h0:xs=[]:=List.length_eq_zero_iff.1 (by omega)
    have:=Me l.notes a l.sure.toNat
    rw [<-hS,h0,List.prefix_nil] at this
    rw [<-hS,h0,this]
end Go.Proofs.YthlgnjlpakimaaaGreatDoor
namespace Go.Proofs.YthlgnjlpakimaaaGreatDoor
variable {it : List Ad} {m : Int} {X : List B7} {a : Nat} {pre : List (B7 × Nat)}
def Lr (it:List Ad) (pre:List (B7×Nat)):List B7:=Pj it [] (pre.map (·.1))
structure Fg (it:List Ad) (m:Int) (X:List B7) (a:Nat) (pre:List (B7×Nat)):Prop where
 goes:El it m [] a (X.drop a)=El it m (Lr it pre) (a+pre.length) (X.drop (a+pre.length))
 formed:∀ n∈Lr it pre,Al n=true
 len:(Lr it pre).length<=pre.length
theorem Fg.nil:Fg it m X a []:=⟨rfl,fun n hn=>by simp [Lr,Pj] at hn,Nat.le_refl _⟩
theorem N8 (x:B7×Nat):Lr it (pre++[x])=Hm it (Lr it pre) x.1:=by
 unfold Lr Pj
 rw [List.map_append,List.foldl_append]
 rfl
theorem Fg.here (h:Fg it m X a pre) {x:B7×Nat} (hx:X[a+pre.length]? = some x.1):El it m [] a (X.drop a)=if Ll it m (Lr it pre) x.1=true then (Lr it pre,a+pre.length) else El it m (Hm it (Lr it pre) x.1) (a+pre.length+1) (X.drop (a+pre.length+1)):=by
 obtain ⟨hl,e⟩:=List.getElem?_eq_some_iff.1 hx
 rw [h.goes,List.drop_eq_getElem_cons hl,e,El]
theorem Fg.stop (h:Fg it m X a pre) {x:B7×Nat} (hx:X[a+pre.length]? = some x.1) (hs:Ll it m (Lr it pre) x.1=true):El it m [] a (X.drop a)=(Lr it pre,a+pre.length):=by rw [h.here hx,if_pos hs]
theorem Fg.step (h:Fg it m X a pre) {x:B7×Nat} (hx:X[a+pre.length]? = some x.1) (hf:Al x.1=true) (hs:Ll it m (Lr it pre) x.1=false):Fg it m X a (pre++[x]):=by
 refine ⟨?_,?_,?_⟩
 ·rw [h.here hx,hs,if_neg (by decide),N8,List.length_append,List.length_singleton,Nat.add_assoc]
 ·rw [N8];exact Sw h.formed hf
 ·rw [N8,List.length_append,List.length_singleton]
  have:=(Zy (it:=it) (most:=m) (Lr it pre) x.1).2.1
  have:=h.len
  omega
theorem Fg.done (h:Fg it m X a pre) (hl:X.length<=a+pre.length):El it m [] a (X.drop a)=(Lr it pre,a+pre.length):=by
 rw [h.goes,List.drop_of_length_le hl,El]
theorem Zx {out:List B7} {z x:B7} (hl:out.getLast? = some z) (hg:Mj it z x=true):Hm it out x=out.set (out.length - 1) (Yc z x)/\Ll it m out x=false:=by
 unfold Hm Ll
 rw [hl]
 simp only [hg,if_true,Bool.not_true,Bool.false_and,and_true]
 obtain ⟨d,rfl⟩ : ∃ d,out=d++[z]:=⟨out.dropLast,by
  have hne:out≠[]:=by rintro rfl;simp at hl
  rw [List.getLast?_eq_some_getLast hne] at hl
  rw [<-Option.some.inj hl,List.dropLast_concat_getLast hne]⟩
 simp
theorem Ad2 {out:List B7} {z x:B7} (hl:out.getLast? = some z) (hg:Mj it z x=false):Hm it out x=out++[x]/\Ll it m out x=decide ((out.length:Int)=m):=by
 unfold Hm Ll
 rw [hl]
 simp [hg]
theorem Xh {x:B7} (hm:1<=m):Hm it [] x=[x]/\Ll it m [] x=false:=by
 unfold Hm Ll
 simp
 omega
end Go.Proofs.YthlgnjlpakimaaaGreatDoor
namespace Go.Proofs.YthlgnjlpakimaaaGreatDoor
open Go.ChangeShapes Go.WideShapes Go.ChangeAt Go.RowKit
attribute [local irreducible] AW AWY Bw Bc vop Bj Az Bi qop By Ce Ar Ap Bo A7 Bd
attribute [local go_sem] Jh Kq Gy C3 Ai An To
theorem Bd0 (x:B7×Nat):(enL x).length=2/\Md.pures (enL x)=true:=⟨rfl,rfl⟩
end Go.Proofs.YthlgnjlpakimaaaGreatDoor
namespace Go.Proofs.YthlgnjlpakimaaaGreatDoor
open Go.ChangeShapes Go.WideShapes Go.ChangeAt Go.RowKit
attribute [local irreducible] AW AWY Bw Bc vop Bj Az Bi qop By Ce Ar Ap Bo A7 Bd
attribute [local go_sem] Jh Kq Gy C3 Ai An To
def Sg (l:Log) (a:Int) (it:List Ad) (m:Int):AV:=.tup [.iv (noI (K3 l a it m).1),.val (.int .i64 (K3 l a it m).2.1),.val (.int .i64 (K3 l a it m).2.2)]
def bkB (o:List B7) (next:Int):List BA:=[.box 1200 [.own 9900],.row 9900 37 4 (o.map enN),.box 1300 [.val (.int .i64 next)]]
set_option maxHeartbeats 3200000 in
set_option maxRecDepth 100000 in
theorem Au0 (l:Log) (a:Int) (it:List Ad) (m:Int) (iS:I64 l.sure) (iA:I64 a) (iM:I64 m):A7 Tryz.prog A8 42 [Qb l,.val (.int .i64 a),.iv (spI it),.val (.int .i64 m)] (Sg l a it m) []:=by
 refine A7.ofS (n:=80) (rs:=[.tmp 8,.tmp 9,.tmp 10]) Tryz.func42 rfl (by kernel_rfl) Tryz.ntmps42 (by kernel_rfl) (by simp) (fun _ _=>A8.later) ?_
 intro hok V w0
 have hlen:l.notes.length<=1073741824:=by simpa using hok.1.2.1.1
 obtain ⟨⟨O,k,e⟩,hq⟩ : ∃ q,K3 l a it m=q:=⟨_,rfl⟩
 unfold Sg
 rw [hq]
 unfold K3 Aa4 at hq
 refine g ?_
 refine AW.seq ?_
 refine AW.reg rfl fun KK hKK=>?_
 refine g ?_
 repeat' (refine hKK _ (g ?_);clear hKK KK)
 refine AW.freeze 500 _ rfl ⟨trivial,trivial,iS,trivial⟩ ?_
 simp only [go_sem,reduceIte,Nat.reduceEqDiff]
 refine AW.freeze 700 _ rfl ⟨trivial,trivial⟩ ?_
 simp only [go_sem,reduceIte,Nat.reduceEqDiff]
 refine AW.freeze 800 _ rfl ⟨iM,trivial⟩ ?_
 simp only [go_sem,reduceIte,Nat.reduceEqDiff]
 refine g ?_
 repeat' refine st_ rfl (g ?_)
 refine Aa (L1 l iS) rfl ?_
 cases hF:B4 l
 ·rw [if_neg (by simp [hF])] at hq
  cases hq
  refine g ?_
  repeat' refine st_ rfl (g ?_)
  first | exact ⟨.inl trivial,id,Ev,List.nodup_nil⟩ | exact Ev
 refine g ?_
 by_cases h0:a < 0
 ·rw [if_neg fun h=>by simp only [Bool.and_eq_true,decide_eq_true_eq] at h;omega] at hq
  cases hq
  simp only [decide_eq_true h0]
  refine g ?_
  repeat' refine st_ rfl (g ?_)
  first | exact ⟨.inl trivial,id,Ev,List.nodup_nil⟩ | exact Ev
 simp only [decide_eq_false h0]
 refine g ?_
 by_cases h1:l.sure < a
 ·rw [if_neg fun h=>by simp only [Bool.and_eq_true,decide_eq_true_eq] at h;omega] at hq
  cases hq
  simp only [decide_eq_true h1]
  refine g ?_
  repeat' refine st_ rfl (g ?_)
  first | exact ⟨.inl trivial,id,Ev,List.nodup_nil⟩ | exact Ev
 simp only [decide_eq_false h1]
 refine g ?_
 repeat' (first | refine st_ rfl (g ?_) | refine Cl (fun h=>g ?_) (fun h=>g ?_))
 ·have h2:m < 1:=of_decide_eq_true h
  rw [if_neg fun h=>by simp only [Bool.and_eq_true,decide_eq_true_eq] at h;omega] at hq
  cases hq
  first | exact ⟨.inl trivial,id,Ev,List.nodup_nil⟩ | exact Ev
 have h2:¬ m < 1:=by simpa using h
 rw [if_pos (by simp [hF];omega)] at hq
 obtain ⟨a,rfl⟩ : ∃ n:Nat,a=n:=⟨a.toNat,by omega⟩
 unfold Qo at hq
 simp only [Int.toNat_natCast] at hq
 refine Aa (B00 l a it iS iA) rfl ?_
 refine g ?_
 repeat' refine st_ rfl (g ?_)
 refine AW.adoptB 1200 9900 37 4 rfl rfl ?_
 refine AW.le (S:=⟨[(11,.bp 1200 0),(12,.bp 1300 0),(1,.val (.int .i64 (a:Nat))),(4,Wg l),(6,.ip [spI it]),(7,.ip [.val (.int .i64 m)]),(38,.fn 171 [Wg l,.ip [.val (.int .i64 (a:Nat))],.ip [spI it]])],bkB [] l.sure⟩) (ρ:=id) ⟨⟨rfl,rfl,rfl,rfl,rfl,rfl,rfl,trivial⟩,⟨rfl,rfl,rfl,trivial⟩,by simp [Ay,bkB,BA.id]⟩ ?_
 have hX:(Dq l it).length=l.sure.toNat:=by
  have:=(G7 hF).2
  unfold Dq
  rw [List.length_map,List.length_take];omega
 refine AW.range (Az9 l a it iS iA hF) [(11,.bp 1200 0),(12,.bp 1300 0)] [(1,.val (.int .i64 (a:Nat))),(4,Wg l),(6,.ip [spI it]),(7,.ip [.val (.int .i64 m)]),(38,.fn 171 [Wg l,.ip [.val (.int .i64 (a:Nat))],.ip [spI it]])] (fun pre=>bkB (Lr it pre) l.sure) (fun pre=>Fg it m (Dq l it) a pre/\pre.length<=l.notes.length) rfl ⟨Fg.nil,Nat.zero_le _⟩ rfl rfl rfl rfl Bd0 (fun c pre x hsp hI=>?_) (fun xs hS hI=>?_)
 ·obtain ⟨hp1,hp2,hp3⟩:=Ag4 hsp
  obtain ⟨n,i⟩:=x
  simp only at hp2 hp3
  obtain ⟨hI,hpl⟩:=hI
  have hol:=hI.len
  obtain ⟨o,ho⟩ : ∃ o,Lr it pre=o:=⟨_,rfl⟩
  have hos:Lr it (pre++[(n,i)])=Hm it o n:=by rw [N8,ho]
  rw [ho] at hol
  have hfn:Al n=true:=by
   have hm:=List.mem_of_getElem? hp3
   unfold Dq at hm
   obtain ⟨y,hy,rfl⟩:=List.mem_map.1 hm
   exact Lj it (Ms hF y (List.mem_of_mem_take hy))
  have hpl2:(pre++[(n,i)]).length<=l.notes.length:=by
   have:=(List.getElem?_eq_some_iff.1 hp3).1
   have:=(G7 hF).2
   rw [List.length_append,List.length_singleton]
   omega
  have hpl3:pre.length+1<=l.notes.length:=by simpa using hpl2
  simp only [Tf,enL,List.cons_append,List.nil_append,ho,hos,bkB]
  refine g ?_
  refine g ?_
  repeat' refine st_ rfl (g ?_)
  rcases List.eq_nil_or_concat o with rfl | ⟨d,z,rfl⟩
  ·obtain ⟨g1,g2⟩:=Xh (it:=it) (m:=m) (x:=n) (by omega)
   rw [g1]
   refine AW.drawn (ds:=[45,46,47,48,49,50,51,52,53,54,55,44]) (fin:=[0,1,2,3]) (bs:=[4,4,4,4,4,4,4,4,4,4,4,4]) [⟨[],[],[],[],0⟩,⟨[(45,0)],[],[],[],0⟩,⟨[(46,1)],[],[],[],0⟩,⟨[],[],[0,1,2,3],[],0⟩,⟨[],[],[],[],0⟩,⟨[(48,3),(49,4)],[],[0,1,2,3],[],0⟩,⟨[(50,5)],[],[0,1,2,3],[],0⟩,⟨[],[],[0,1,2,3],[],0⟩,⟨[],[],[0,1,2,3],[],0⟩,⟨[(51,6),(52,7),(53,8)],[],[0,1,2,3],[],0⟩,⟨[(47,2),(54,9)],[],[],[],0⟩,⟨[(55,10)],[],[],[],0⟩] (by kernel_rfl) rfl (by kernel_rfl) rfl rfl rfl fun KD hKD=>?_
   refine g ?_
   repeat' (refine hKD _ _ ⟨rfl,g ?_⟩;clear hKD KD)
   refine g ?_
   repeat' (first | refine st_ rfl (g ?_) | refine Cl (fun h=>g ?_) (fun h=>g ?_))
   ·exfalso
    have:=of_decide_eq_true h
    try simp at this
    omega
   refine bs1 (by omega) rfl rfl rfl ⟨trivial,trivial,trivial,trivial,trivial⟩ ?_
   refine g ?_
   refine C6 rfl (by kernel_rfl) (by omega) (by kernel_rfl) rfl (by first | (simp;done) | (simp at hol ⊢;omega)) ?_
   refine g ?_
   refine ⟨⟨hI.step hp3 hfn (by rw [ho];exact g2),hpl2⟩,fun b=>if b=9900 then 7800 else b,⟨rfl,rfl,trivial⟩,⟨rfl,rfl,rfl,trivial⟩,by simp [Ay,BA.id]⟩
  ·rw [List.concat_eq_append] at *
   have hlast:(((d++[z]).length:Nat):Int) - 1=(d.length:Nat):=by simp
   have hgl:(d++[z]).getLast? = some z:=by simp
   have hfz:Al z=true:=hI.formed z (by rw [ho];simp)
   have hix:(d++[z])[d.length]? = some z:=by simp
   simp only [hlast]
   refine AW.drawn (ds:=[45,46,47,48,49,50,51,52,53,54,55,44]) (fin:=[0,1,2,3]) (bs:=[4,4,4,4,4,4,4,4,4,4,4,4]) [⟨[],[],[],[],0⟩,⟨[(45,0)],[],[],[],0⟩,⟨[(46,1)],[],[],[],0⟩,⟨[],[],[0,1,2,3],[],0⟩,⟨[],[],[],[],0⟩,⟨[(48,3),(49,4)],[],[0,1,2,3],[],0⟩,⟨[(50,5)],[],[0,1,2,3],[],0⟩,⟨[],[],[0,1,2,3],[],0⟩,⟨[],[],[0,1,2,3],[],0⟩,⟨[(51,6),(52,7),(53,8)],[],[0,1,2,3],[],0⟩,⟨[(47,2),(54,9)],[],[],[],0⟩,⟨[(55,10)],[],[],[],0⟩] (by kernel_rfl) rfl (by kernel_rfl) rfl rfl rfl fun KD hKD=>?_
   refine g ?_
   refine ⟨by omega,by simp,?_⟩
   refine g ?_
   repeat' refine Aj (g ?_)
   refine ⟨_,Cg hix,?_⟩
   refine g ?_
   repeat' refine Aj (g ?_)
   refine Aa (B42 z n it) rfl ?_
   cases hg:Mj it z n
   ·obtain ⟨g1,g2⟩:=Ad2 (m:=m) hgl hg
    refine g ?_
    repeat' (refine hKD _ _ ⟨rfl,g ?_⟩;clear hKD KD)
    refine g ?_
    repeat' (first | refine st_ rfl (g ?_) | refine Cl (fun h=>g ?_) (fun h=>g ?_))
    ·refine ⟨id,bkB (d++[z]) (i:Nat),⟨⟨rfl,rfl,trivial⟩,⟨rfl,rfl,rfl,trivial⟩,by simp [Ay,bkB,BA.id]⟩,?_⟩
     rw [hI.stop (x:=(n,i)) hp3 (by rw [ho,g2];exact h),ho,<-hp2] at hq
     cases hq
     unfold bkB
     simp only [go_sem,List.cons_append,List.nil_append,reduceIte,Nat.reduceEqDiff]
     refine AW.freeze 9900 _ rfl trivial ?_
     simp only [go_sem,reduceIte,Nat.reduceEqDiff]
     refine g ?_
     repeat' refine st_ rfl (g ?_)
     refine AW.drawn (ds:=[78,79,8,9,10]) (fin:=[0,1]) (bs:=[2,2,2,2,2]) [⟨[],[],[0,1],[],0⟩,⟨[],[],[0,1],[],0⟩,⟨[(78,0)],[],[],[],0⟩,⟨[(79,1)],[],[],[],0⟩,⟨[],[],[],[],0⟩] (by kernel_rfl) rfl (by kernel_rfl) rfl rfl rfl fun KD hKD=>?_
     refine g ?_
     repeat' (first | refine st_ rfl (g ?_) | (refine hKD _ _ ⟨rfl,g ?_⟩;clear hKD KD))
     first | exact ⟨.inl trivial,id,fun _ _ _ h=>h,List.nodup_nil⟩ | exact fun _ _ _ h=>h
    ·refine bs1 (by omega) rfl rfl rfl ⟨trivial,trivial,trivial,trivial,trivial⟩ ?_
     refine g ?_
     refine C6 rfl (by kernel_rfl) (by omega) (by kernel_rfl) rfl (by first | (simp;done) | (simp at hol ⊢;omega)) ?_
     refine g ?_
     refine ⟨⟨hI.step hp3 hfn (by rw [ho,g2];exact h),hpl2⟩,fun b=>if b=9900 then 7800 else b,⟨rfl,rfl,trivial⟩,⟨rfl,?_,rfl,trivial⟩,by simp [Ay,BA.id]⟩
     rw [g1,List.map_append]
     rfl
   ·obtain ⟨g1,g2⟩:=Zx (m:=m) hgl hg
    obtain ⟨⟨⟨w1,w2⟩,w3⟩,-⟩ : ((z.writes=[]/\n.writes=[])/\z.end_=n.start)/\_:=by
     have:=hg
     unfold Mj at this
     simpa only [Bool.and_eq_true,decide_eq_true_eq] using this
    refine g ?_
    repeat' (refine hKD _ _ ⟨rfl,g ?_⟩;clear hKD KD)
    refine g ?_
    repeat' refine st_ rfl (g ?_)
    refine AW.drawn (ds:=[57,58,59,60,61,62,63,64,56,65,66,67]) (fin:=[0,1,3,4]) (bs:=[4,4,4,4,4,4,4,4,4,4,4,4,4]) [⟨[],[],[0,1,2,3],[],0⟩,⟨[],[],[],[],0⟩,⟨[],[],[0,1,2,3],[],0⟩,⟨[],[],[],[],0⟩,⟨[(59,2),(60,3)],[],[0,1,2,3],[],0⟩,⟨[(61,4)],[],[0,1,2,3],[],0⟩,⟨[],[],[0,1,2,3],[],0⟩,⟨[(62,5),(63,6)],[],[0,1,2,3],[],0⟩,⟨[(64,7)],[],[],[],0⟩,⟨[(56,8)],[],[],[],0⟩,⟨[(56,8)],[],[],[],0⟩,⟨[(57,0),(58,1)],[],[0,1,2,3],[],0⟩,⟨[(67,11),(65,9)],[],[],[2],1⟩] (by kernel_rfl) rfl (by kernel_rfl) rfl rfl rfl fun KD hKD=>?_
    refine g ?_
    refine ⟨by omega,by simp,?_⟩
    refine g ?_
    repeat' refine Aj (g ?_)
    refine ⟨_,Cg hix,?_⟩
    refine g ?_
    repeat' refine Aj (g ?_)
    refine Aa (Ar2 z n hfz hfn w1 w2 w3) rfl ?_
    refine g ?_
    refine ⟨by omega,by simp,?_⟩
    refine g ?_
    repeat' refine Aj (g ?_)
    refine ⟨_,_,rfl,by simp [Ft,okA],Cg hix,?_⟩
    refine g ?_
    repeat' (first | refine Aj (g ?_) | (refine hKD _ _ ⟨rfl,g ?_⟩;clear hKD KD))
    refine g ?_
    repeat' refine st_ rfl (g ?_)
    refine ⟨⟨hI.step hp3 hfn (by rw [ho];exact g2),hpl2⟩,id,⟨rfl,rfl,trivial⟩,⟨rfl,?_,rfl,trivial⟩,by simp [Ay,BA.id]⟩
    rw [g1,List.map_set,List.length_append,List.length_singleton,Nat.add_sub_cancel]
    rfl
 ·obtain rfl:xs=R9 l a it:=hS
  have hdone:=hI.1.done (by unfold R9 Qq;rw [List.length_zipIdx,List.length_drop];omega)
  rw [hdone] at hq
  have hk:a+(R9 l a it).length=l.sure.toNat:=by
   unfold R9 Qq;rw [List.length_zipIdx,List.length_drop];omega
  rw [hk] at hq
  have hs0:=(G7 hF).1
  rw [show ((l.sure.toNat:Nat):Int)=l.sure by omega] at hq
  generalize Lr it (R9 l a it)=o at hq ⊢
  cases hq
  unfold bkB
  simp only [go_sem,List.cons_append,List.nil_append,reduceIte,Nat.reduceEqDiff]
  refine AW.freeze 9900 _ rfl trivial ?_
  simp only [go_sem,reduceIte,Nat.reduceEqDiff]
  refine g ?_
  repeat' refine st_ rfl (g ?_)
  refine AW.drawn (ds:=[78,79,8,9,10]) (fin:=[0,1]) (bs:=[2,2,2,2,2]) [⟨[],[],[0,1],[],0⟩,⟨[],[],[0,1],[],0⟩,⟨[(78,0)],[],[],[],0⟩,⟨[(79,1)],[],[],[],0⟩,⟨[],[],[],[],0⟩] (by kernel_rfl) rfl (by kernel_rfl) rfl rfl rfl fun KD hKD=>?_
  refine g ?_
  repeat' (first | refine st_ rfl (g ?_) | (refine hKD _ _ ⟨rfl,g ?_⟩;clear hKD KD))
  first | exact ⟨.inl trivial,id,fun _ _ _ h=>h,List.nodup_nil⟩ | exact fun _ _ _ h=>h
end Go.Proofs.YthlgnjlpakimaaaGreatDoor
namespace Go.Proofs.YthlgnjlpakimaaaGreatDoor
open Go.ChangeShapes Go.WideShapes Go.ChangeAt Go.RowKit
attribute [local irreducible] AW AWY Bw Bc vop Bj Az Bi qop By Ce Ar Ap Bo A7 Bd
attribute [local go_sem] Jh Kq Gy C3 Ai An To
set_option maxHeartbeats 3200000 in
set_option maxRecDepth 100000 in
theorem Vt (l:Log) (a:Int) (it:List Ad) (m:Int) (iS:I64 l.sure) (iA:I64 a) (iM:I64 m):A7 Tryz.prog A8 39 [Qb l,.val (.int .i64 a),.iv (spI it),.val (.int .i64 m)] (Sg l a it m) []:=by
 refine A7.ofS (n:=89) (rs:=[.tmp 8,.tmp 9,.tmp 10]) Tryz.func39 rfl (by kernel_rfl) Tryz.ntmps39 (by kernel_rfl) (by simp) (fun _ _=>A8.later) ?_
 intro hok V w0
 have hlen:l.notes.length<=1073741824:=by simpa using hok.1.2.1.1
 obtain ⟨⟨O,k,e⟩,hq⟩ : ∃ q,K3 l a it m=q:=⟨_,rfl⟩
 unfold Sg
 rw [hq]
 unfold K3 Aa4 at hq
 refine g ?_
 refine AW.seq ?_
 refine AW.reg rfl fun KK hKK=>?_
 refine g ?_
 repeat' (refine hKK _ (g ?_);clear hKK KK)
 refine AW.freeze 500 _ rfl ⟨trivial,trivial,iS,trivial⟩ ?_
 simp only [go_sem,reduceIte,Nat.reduceEqDiff]
 refine g ?_
 repeat' refine st_ rfl (g ?_)
 refine Aa (K9 l iS) rfl ?_
 cases hF:B4 l
 ·rw [if_neg (by simp [hF])] at hq
  cases hq
  refine g ?_
  repeat' refine st_ rfl (g ?_)
  first | exact ⟨.inl trivial,id,Ev,List.nodup_nil⟩ | exact Ev
 refine g ?_
 by_cases h0:a < 0
 ·rw [if_neg fun h=>by simp only [Bool.and_eq_true,decide_eq_true_eq] at h;omega] at hq
  cases hq
  simp only [decide_eq_true h0]
  refine g ?_
  repeat' refine st_ rfl (g ?_)
  first | exact ⟨.inl trivial,id,Ev,List.nodup_nil⟩ | exact Ev
 simp only [decide_eq_false h0]
 refine g ?_
 by_cases h1:l.sure < a
 ·rw [if_neg fun h=>by simp only [Bool.and_eq_true,decide_eq_true_eq] at h;omega] at hq
  cases hq
  simp only [decide_eq_true h1]
  refine g ?_
  repeat' refine st_ rfl (g ?_)
  first | exact ⟨.inl trivial,id,Ev,List.nodup_nil⟩ | exact Ev
 simp only [decide_eq_false h1]
 refine g ?_
 repeat' (first | refine st_ rfl (g ?_) | refine Cl (fun h=>g ?_) (fun h=>g ?_))
 ·have h2:m < 1:=of_decide_eq_true h
  rw [if_neg fun h=>by simp only [Bool.and_eq_true,decide_eq_true_eq] at h;omega] at hq
  cases hq
  first | exact ⟨.inl trivial,id,Ev,List.nodup_nil⟩ | exact Ev
 have h2:¬ m < 1:=by simpa using h
 rw [if_pos (by simp [hF];omega)] at hq
 obtain ⟨a,rfl⟩ : ∃ n:Nat,a=n:=⟨a.toNat,by omega⟩
 unfold Qo at hq
 simp only [Int.toNat_natCast] at hq
 have hX:(Dq l it).length=l.sure.toNat:=by
  have:=(G7 hF).2
  unfold Dq
  rw [List.length_map,List.length_take];omega
 refine AW.adopt 11 9900 37 4 rfl rfl ?_
 have hs1:=(G7 hF).2
 refine AW.loop (fun i:{i:Nat // a<=i/\(i:Int)<=l.sure/\Fg it m (Dq l it) a (H7 (Dq l it) a i)}=>⟨[(2,.iv (spI it)),(3,.val (.int .i64 m)),(4,.ip [stI l.base,noI l.notes,.val (.int .i64 l.sure)]),(11,.own 9900),(12,.val (.int .i64 (i.1:Nat)))],[.row 9900 37 4 ((Lr it (H7 (Dq l it) a i.1)).map enN)]⟩) (fun i=>l.sure.toNat - i.1) ⟨a,Nat.le_refl _,by omega,by rw [Uk];exact Fg.nil⟩ id ⟨⟨rfl,rfl,rfl,rfl,rfl,trivial⟩,⟨by rw [Uk];rfl,trivial⟩,by simp [Ay]⟩ fun ⟨i,hi1,hi2,hI⟩=>?_
 clear h
 repeat (refine AW.seq ?_)
 refine AW.reg rfl fun KK hKK=>?_
 refine g ?_
 repeat' (refine hKK _ (g ?_);clear hKK KK)
 repeat (refine AW.seq ?_)
 refine st_ rfl ?_
 refine g ?_
 refine Cl (fun h=>?_) (fun h=>?_)
 ·have hlt:(i:Int) < l.sure:=of_decide_eq_true h
  have hin:i < l.notes.length:=by omega
  have hfn0:Al l.notes[i]=true:=Ms hF _ (List.getElem_mem hin)
  obtain ⟨n,hn⟩ : ∃ n,G1 l.notes[i] it=n:=⟨_,rfl⟩
  have hfn:Al n=true:=hn ▸ Lj it hfn0
  have hiX:i < (Dq l it).length:=by omega
  have hXs:(Dq l it)[i]? = some n:=by
   unfold Dq
   rw [List.getElem?_map,List.getElem?_take_of_lt (by omega),List.getElem?_eq_getElem hin,Option.map_some,hn]
  have hXi:(Dq l it)[i]=n:=(List.getElem?_eq_some_iff.1 hXs).2
  have hpl:(H7 (Dq l it) a i).length=i - a:=Xy (by omega)
  have hp3:(Dq l it)[a+(H7 (Dq l it) a i).length]? = some ((n,i):B7×Nat).1:=by
   rw [hpl,show a+(i - a)=i by omega];exact hXs
  have hnx:H7 (Dq l it) a (i+1)=H7 (Dq l it) a i++[(n,i)]:=by rw [Uj hi1 hiX,hXi]
  have hai:a+(H7 (Dq l it) a i).length=i:=by omega
  have hol:=hI.len
  rw [hpl] at hol
  obtain ⟨o,ho⟩ : ∃ o,Lr it (H7 (Dq l it) a i)=o:=⟨_,rfl⟩
  have hos:Lr it (H7 (Dq l it) a (i+1))=Hm it o n:=by rw [hnx,N8,ho]
  rw [ho] at hol
  have hthr:=Zb l.notes[i] it hfn0
  rw [hn] at hthr
  refine g ?_
  repeat' refine st_ rfl (g ?_)
  refine ⟨by omega,_,Cg (List.getElem?_eq_getElem hin),?_⟩
  refine g ?_
  repeat' refine Aj (g ?_)
  refine Aa hthr rfl ?_
  rw [ho]
  refine g ?_
  repeat' refine st_ rfl (g ?_)
  rcases List.eq_nil_or_concat o with rfl | ⟨d,z,rfl⟩
  ·obtain ⟨g1,g2⟩:=Xh (it:=it) (m:=m) (x:=n) (by omega)
   refine AW.drawn (ds:=[53,54,55,56,57,58,59,60,61,62,63]) (fin:=[0,1]) (bs:=[2,2,2,2,2,2,2,2,2,2,2]) [⟨[],[],[],[],0⟩,⟨[(53,0)],[],[],[],0⟩,⟨[(54,1)],[],[],[],0⟩,⟨[],[],[],[],0⟩,⟨[],[],[],[],0⟩,⟨[(56,3),(57,4)],[],[0,1],[],0⟩,⟨[(58,5)],[],[0,1],[],0⟩,⟨[],[],[0,1],[],0⟩,⟨[],[],[],[],0⟩,⟨[(59,6),(60,7),(61,8)],[],[0,1],[],0⟩,⟨[(55,2),(62,9)],[],[],[],0⟩] (by kernel_rfl) rfl (by kernel_rfl) rfl rfl rfl fun KD hKD=>?_
   refine g ?_
   repeat' (refine hKD _ _ ⟨rfl,g ?_⟩;clear hKD KD)
   refine g ?_
   repeat' (first | ((fail_if_success refine AW.ret ?_);refine st_ rfl (g ?_)) | refine Cl (fun h=>g ?_) (fun h=>g ?_))
   ·exfalso
    have:=of_decide_eq_true h
    try simp at this
    omega
   refine bs1 (by omega) rfl rfl rfl ⟨trivial,trivial,trivial,trivial,trivial⟩ ?_
   refine g ?_
   refine C6 rfl (by kernel_rfl) (by omega) (by kernel_rfl) rfl (by first | (simp;done) | (simp at hol ⊢;omega)) ?_
   refine g ?_
   repeat' refine st_ rfl (g ?_)
   refine ⟨⟨i+1,by omega,by omega,?_⟩,fun b=>if b=9900 then 8600 else b,⟨⟨rfl,rfl,rfl,rfl,rfl,trivial⟩,⟨?_,trivial⟩,by simp [Ay]⟩,by show l.sure.toNat - (i+1) < l.sure.toNat - i;omega⟩
   ·rw [hnx];exact hI.step hp3 hfn (by rw [ho];exact g2)
   ·rw [hos,g1];rfl
  ·rw [List.concat_eq_append] at *
   have hlast:(((d++[z]).length:Nat):Int) - 1=(d.length:Nat):=by simp
   have hgl:(d++[z]).getLast? = some z:=by simp
   have hfz:Al z=true:=hI.formed z (by rw [ho];simp)
   have hix:(d++[z])[d.length]? = some z:=by simp
   simp only [hlast]
   refine AW.drawn (ds:=[53,54,55,56,57,58,59,60,61,62,63]) (fin:=[0,1]) (bs:=[2,2,2,2,2,2,2,2,2,2,2]) [⟨[],[],[],[],0⟩,⟨[(53,0)],[],[],[],0⟩,⟨[(54,1)],[],[],[],0⟩,⟨[],[],[],[],0⟩,⟨[],[],[],[],0⟩,⟨[(56,3),(57,4)],[],[0,1],[],0⟩,⟨[(58,5)],[],[0,1],[],0⟩,⟨[],[],[0,1],[],0⟩,⟨[],[],[],[],0⟩,⟨[(59,6),(60,7),(61,8)],[],[0,1],[],0⟩,⟨[(55,2),(62,9)],[],[],[],0⟩] (by kernel_rfl) rfl (by kernel_rfl) rfl rfl rfl fun KD hKD=>?_
   refine g ?_
   refine ⟨by omega,by simp,?_⟩
   refine g ?_
   repeat' refine Aj (g ?_)
   refine ⟨_,Cg hix,?_⟩
   refine g ?_
   repeat' refine Aj (g ?_)
   refine Aa (Ao6 z n it) rfl ?_
   cases hg:Mj it z n
   ·obtain ⟨g1,g2⟩:=Ad2 (m:=m) hgl hg
    refine g ?_
    repeat' (refine hKD _ _ ⟨rfl,g ?_⟩;clear hKD KD)
    refine g ?_
    repeat' (first | ((fail_if_success refine AW.ret ?_);refine st_ rfl (g ?_)) | refine Cl (fun h=>g ?_) (fun h=>g ?_))
    ·refine AW.freeze 9900 _ rfl trivial ?_
     simp only [go_sem,reduceIte,Nat.reduceEqDiff]
     refine g ?_
     repeat' refine st_ rfl (g ?_)
     rw [hI.stop (x:=(n,i)) hp3 (by rw [ho,g2];exact h),ho,hai] at hq
     cases hq
     first | exact ⟨.inl trivial,id,fun _ _ _ h=>h,List.nodup_nil⟩ | exact fun _ _ _ h=>h
    ·refine bs1 (by omega) rfl rfl rfl ⟨trivial,trivial,trivial,trivial,trivial⟩ ?_
     refine g ?_
     refine C6 rfl (by kernel_rfl) (by omega) (by kernel_rfl) rfl (by first | (simp;done) | (simp at hol ⊢;omega)) ?_
     refine g ?_
     repeat' refine st_ rfl (g ?_)
     refine ⟨⟨i+1,by omega,by omega,?_⟩,fun b=>if b=9900 then 8600 else b,⟨⟨rfl,rfl,rfl,rfl,rfl,trivial⟩,⟨?_,trivial⟩,by simp [Ay]⟩,by show l.sure.toNat - (i+1) < l.sure.toNat - i;omega⟩
     ·rw [hnx];exact hI.step hp3 hfn (by rw [ho,g2];exact h)
     ·rw [hos,g1,List.map_append];rfl
   ·obtain ⟨g1,g2⟩:=Zx (m:=m) hgl hg
    obtain ⟨⟨⟨w1,w2⟩,w3⟩,-⟩ : ((z.writes=[]/\n.writes=[])/\z.end_=n.start)/\_:=by
     have:=hg
     unfold Mj at this
     simpa only [Bool.and_eq_true,decide_eq_true_eq] using this
    refine g ?_
    repeat' (refine hKD _ _ ⟨rfl,g ?_⟩;clear hKD KD)
    refine g ?_
    repeat' ((fail_if_success refine AW.ret ?_);refine st_ rfl (g ?_))
    refine AW.drawn (ds:=[65,66,67,68,69,70,71,72,64,73,74,75]) (fin:=[0,2]) (bs:=[2,2,2,2,2,2,2,2,2,2,2,2,2]) [⟨[],[],[],[],0⟩,⟨[],[],[],[],0⟩,⟨[],[],[],[],0⟩,⟨[],[],[],[],0⟩,⟨[(67,2),(68,3)],[],[0,1],[],0⟩,⟨[(69,4)],[],[0,1],[],0⟩,⟨[],[],[0,1],[],0⟩,⟨[(70,5),(71,6)],[],[0,1],[],0⟩,⟨[(72,7)],[],[],[],0⟩,⟨[(64,8)],[],[],[],0⟩,⟨[(64,8)],[],[],[],0⟩,⟨[(65,0),(66,1)],[],[0,1],[],0⟩,⟨[(75,11),(73,9)],[],[],[1],1⟩] (by kernel_rfl) rfl (by kernel_rfl) rfl rfl rfl fun KD hKD=>?_
    refine g ?_
    refine ⟨by omega,by simp,?_⟩
    refine g ?_
    repeat' refine Aj (g ?_)
    refine ⟨_,Cg hix,?_⟩
    refine g ?_
    repeat' refine Aj (g ?_)
    refine Aa (Af4 z n hfz hfn w1 w2 w3) rfl ?_
    refine g ?_
    refine ⟨by omega,by simp,?_⟩
    refine g ?_
    repeat' refine Aj (g ?_)
    refine ⟨_,_,rfl,by simp [Ft,okA],Cg hix,?_⟩
    refine g ?_
    repeat' (first | refine Aj (g ?_) | (refine hKD _ _ ⟨rfl,g ?_⟩;clear hKD KD))
    refine g ?_
    repeat' ((fail_if_success refine AW.ret ?_);refine st_ rfl (g ?_))
    refine ⟨⟨i+1,by omega,by omega,?_⟩,id,⟨⟨rfl,rfl,rfl,rfl,rfl,trivial⟩,⟨?_,trivial⟩,by simp [Ay]⟩,by show l.sure.toNat - (i+1) < l.sure.toNat - i;omega⟩
    ·rw [hnx];exact hI.step hp3 hfn (by rw [ho];exact g2)
    ·rw [hos,g1,List.map_set,List.length_append,List.length_singleton,Nat.add_sub_cancel]
     rfl
 ·have hge:¬ (i:Int) < l.sure:=of_decide_eq_false h
  obtain rfl:i=l.sure.toNat:=by omega
  have hpl:(H7 (Dq l it) a l.sure.toNat).length=l.sure.toNat - a:=Xy (by omega)
  rw [hI.done (by omega),show a+(H7 (Dq l it) a l.sure.toNat).length=l.sure.toNat by omega,show ((l.sure.toNat:Nat):Int)=l.sure by omega] at hq
  generalize Lr it (H7 (Dq l it) a l.sure.toNat)=o at hq ⊢
  cases hq
  refine AW.freeze 9900 _ rfl trivial ?_
  simp only [go_sem,reduceIte,Nat.reduceEqDiff]
  refine g ?_
  repeat' refine st_ rfl (g ?_)
  refine AW.drawn (ds:=[86,87,88,8,9,10]) (fin:=[]) (bs:=[0,0,0,0,0,0]) [⟨[],[],[],[],0⟩,⟨[],[],[],[],0⟩,⟨[(87,1)],[],[],[],0⟩,⟨[(86,0)],[],[],[],0⟩,⟨[(88,2)],[],[],[],0⟩,⟨[],[],[],[],0⟩] (by kernel_rfl) rfl (by kernel_rfl) rfl rfl rfl fun KD hKD=>?_
  refine g ?_
  repeat' (refine hKD _ _ ⟨rfl,g ?_⟩;clear hKD KD)
  refine g ?_
  repeat' refine st_ rfl (g ?_)
  first | exact ⟨.inl trivial,id,fun _ _ _ h=>h,List.nodup_nil⟩ | exact fun _ _ _ h=>h
end Go.Proofs.YthlgnjlpakimaaaGreatDoor
namespace Go.Proofs.YthlgnjlpakimaaaGreatDoor
open Go.ChangeShapes Go.WideShapes Go.ChangeAt Go.RowKit
attribute [local irreducible] AW AWY Bw Bc vop Bj Az Bi qop By Ce Ar Ap Bo A7 Bd
attribute [local go_sem] Gy Eh C3 Ai An
def Er (l:Log) (v:Bz) (a:Int) (it:List Ad) (m:Int):List B7×Int×Int :=
 if B4 l=true/\Ao v=true then (if a=-1 then (Am8 v it,l.sure,0) else K3 l a it m) else ([],0,1)
def V2 (l:Log) (v:Bz) (a:Int) (it:List Ad) (m:Int):AV:=.tup [.iv (noI (Er l v a it m).1),.val (.int .i64 (Er l v a it m).2.1),.val (.int .i64 (Er l v a it m).2.2)]
theorem Ty {q:List B7×Int×Int} {k e:Int} (h:q=([],k,e)):Dz (.tup [.val (.slice none 0 0),.val (.int .i64 k),.val (.int .i64 e)]) (.tup [.iv (noI q.1),.val (.int .i64 q.2.1),.val (.int .i64 q.2.2)]):=by
 subst h
 refine Ns rfl fun p hp=>?_
 simp only [List.zip_cons_cons,List.zip_nil_right,List.mem_cons,List.not_mem_nil,or_false] at hp
 rcases hp with rfl | rfl | rfl
 ·exact D6 4
 ·exact Dz.rfl_ _
 ·exact Dz.rfl_ _
set_option maxRecDepth 100000 in
set_option maxHeartbeats 1600000 in
theorem At6 (l:Log) (v:Bz) (a:Int) (it:List Ad) (m:Int) (iS:I64 l.sure) (iR:I64 v.room) (iA:I64 a) (iM:I64 m):A7 Tryz.prog A8 21 [Qb l,vwA v,.val (.int .i64 a),.iv (spI it),.val (.int .i64 m)] (V2 l v a it m) []:=by
 refine A7.ofS (n:=43) (rs:=[.tmp 10,.tmp 11,.tmp 12]) Tryz.func21 rfl (by kernel_rfl) Tryz.ntmps21 (by kernel_rfl) (by simp) (fun _ _=>A8.later) ?_
 intro hok V w0
 have hs:=Ay2 v it iR
 have hb:=Au0 l a it m iS iA iM
 unfold Sg at hb
 unfold Z5 at hs
 obtain ⟨R,hR⟩ : ∃ R,Er l v a it m=R:=⟨_,rfl⟩
 unfold V2
 rw [hR]
 unfold Er at hR
 refine g ?_
 refine AW.seq ?_
 refine AW.reg rfl fun KK hKK=>?_
 refine g ?_
 repeat' (refine hKK _ (g ?_);clear hKK KK)
 refine AW.freeze 600 _ rfl ⟨trivial,trivial,iS,trivial⟩ ?_
 simp only [go_sem,reduceIte,Nat.reduceEqDiff]
 refine AW.freeze 700 _ rfl ⟨trivial,trivial,trivial,trivial,iR,trivial⟩ ?_
 simp only [go_sem,reduceIte,Nat.reduceEqDiff]
 refine g ?_
 repeat' (first | refine st_ rfl (g ?_) | refine Bk (fun h=>g ?_) (fun h=>g ?_) | refine Cl (fun h=>g ?_) (fun h=>g ?_) | (refine Eu rfl rfl (fun h=>?_) (fun h=>?_)<;>simp only [h]<;>refine g ?_) | refine Aa (L1 l iS) rfl (g ?_) | refine Aa (Rt v iR) rfl (g ?_))
 ·rw [if_neg fun q=>by rw [q.1] at h;cases h] at hR
  exact Ty hR.symm
 ·rw [if_neg fun q=>by rw [q.2] at h;cases h] at hR
  exact Ty hR.symm
 ·rw [if_pos ⟨by simpa using ‹(!B4 l)=false›,by simpa using ‹(!Ao v)=false›⟩,if_neg h] at hR
  refine g ?_
  repeat' (first | refine st_ rfl (g ?_) | refine Aa (hb) rfl (g ?_))
  rw [hR]
  exact Dz.rfl_ _
 ·have hF:Ao v=true:=by simpa using ‹(!Ao v)=false›
  have ha:a=-1:=Decidable.of_not_not h
  rw [if_pos ⟨by simpa using ‹(!B4 l)=false›,hF⟩,if_pos ha] at hR
  rw [if_pos hF] at hs
  refine g ?_
  repeat' (first | refine st_ rfl (g ?_) | refine Aa (hs) rfl (g ?_))
  refine AW.drawn (ds:=[39,40,41,42,10,11,12]) (fin:=[]) (bs:=[0,0,0,0,0,0,0]) [⟨[],[],[],[],0⟩,⟨[],[],[],[],0⟩,⟨[(40,1)],[],[],[],0⟩,⟨[],[],[],[],0⟩,⟨[(39,0)],[],[],[],0⟩,⟨[(41,2)],[],[],[],0⟩,⟨[(42,3)],[],[],[],0⟩] (by kernel_rfl) rfl (by kernel_rfl) rfl rfl rfl fun KD hKD=>?_
  refine g ?_
  repeat' (first | refine st_ rfl (g ?_) | (refine hKD _ _ ⟨rfl,g ?_⟩;clear hKD KD))
  subst hR
  exact Dz.rfl_ _
set_option maxRecDepth 100000 in
set_option maxHeartbeats 1600000 in
theorem Ag1 (l:Log) (v:Bz) (a:Int) (it:List Ad) (m:Int) (iS:I64 l.sure) (iR:I64 v.room) (iA:I64 a) (iM:I64 m):A7 Tryz.prog A8 22 [Qb l,vwA v,.val (.int .i64 a),.iv (spI it),.val (.int .i64 m)] (V2 l v a it m) []:=by
 refine A7.ofS (n:=42) (rs:=[.tmp 10,.tmp 11,.tmp 12]) Tryz.func22 rfl (by kernel_rfl) Tryz.ntmps22 (by kernel_rfl) (by simp) (fun _ _=>A8.later) ?_
 intro hok V w0
 have hs:=An8 v it iR
 have hb:=Vt l a it m iS iA iM
 unfold Sg at hb
 unfold Z5 at hs
 obtain ⟨R,hR⟩ : ∃ R,Er l v a it m=R:=⟨_,rfl⟩
 unfold V2
 rw [hR]
 unfold Er at hR
 refine g ?_
 refine AW.seq ?_
 refine AW.reg rfl fun KK hKK=>?_
 refine g ?_
 repeat' (refine hKK _ (g ?_);clear hKK KK)
 refine AW.freeze 600 _ rfl ⟨trivial,trivial,iS,trivial⟩ ?_
 simp only [go_sem,reduceIte,Nat.reduceEqDiff]
 refine AW.freeze 700 _ rfl ⟨trivial,trivial,trivial,trivial,iR,trivial⟩ ?_
 simp only [go_sem,reduceIte,Nat.reduceEqDiff]
 refine g ?_
 repeat' (first | refine st_ rfl (g ?_) | refine Bk (fun h=>g ?_) (fun h=>g ?_) | refine Cl (fun h=>g ?_) (fun h=>g ?_) | (refine Eu rfl rfl (fun h=>?_) (fun h=>?_)<;>simp only [h]<;>refine g ?_) | refine Aa (K9 l iS) rfl (g ?_) | refine Aa (S3 v iR) rfl (g ?_))
 ·rw [if_neg fun q=>by rw [q.1] at h;cases h] at hR
  exact Ty hR.symm
 ·rw [if_neg fun q=>by rw [q.2] at h;cases h] at hR
  exact Ty hR.symm
 ·have hF:Ao v=true:=by simpa using ‹(!Ao v)=false›
  rw [if_pos ⟨by simpa using ‹(!B4 l)=false›,hF⟩,if_pos h] at hR
  rw [if_pos hF] at hs
  refine g ?_
  repeat' (first | refine st_ rfl (g ?_) | refine Aa (hs) rfl (g ?_))
  refine AW.drawn (ds:=[31,32,33,10,11,12]) (fin:=[]) (bs:=[0,0,0,0,0,0]) [⟨[],[],[],[],0⟩,⟨[],[],[],[],0⟩,⟨[(32,1)],[],[],[],0⟩,⟨[(31,0)],[],[],[],0⟩,⟨[(33,2)],[],[],[],0⟩,⟨[],[],[],[],0⟩] (by kernel_rfl) rfl (by kernel_rfl) rfl rfl rfl fun KD hKD=>?_
  refine g ?_
  repeat' (first | refine st_ rfl (g ?_) | (refine hKD _ _ ⟨rfl,g ?_⟩;clear hKD KD))
  subst hR
  exact Dz.rfl_ _
 ·rw [if_pos ⟨by simpa using ‹(!B4 l)=false›,by simpa using ‹(!Ao v)=false›⟩,if_neg h] at hR
  refine g ?_
  repeat' (first | refine st_ rfl (g ?_) | refine Aa (hb) rfl (g ?_))
  rw [hR]
  exact Dz.rfl_ _
end Go.Proofs.YthlgnjlpakimaaaGreatDoor
namespace Go.Proofs.YthlgnjlpakimaaaGreatDoor
open Go.ChangeShapes Go.WideShapes Go.ChangeAt Go.RowKit
attribute [local irreducible] AW AWY Bw Bc vop Bj Az Bi qop By Ce Ar Ap Bo A7 Bd
attribute [local go_sem] Yo Ap6 Gy Eh Jh Ai An
def Ma (g:Log) (v:Bz) (o:Out):Out:=⟨o.to_,o.session,o.interest,(Er g v o.at_ o.interest 8).2.1,Fk o.seq⟩
def Ew (g:Log) (v:Bz) (me:Int) (o:Out):Msg:=⟨3,me,o.to_,o.session,o.seq,[],[],(Er g v o.at_ o.interest 8).1,⟨0,⟨0,0⟩,[]⟩⟩
def Jb (l:List Out) (me:Int) (g:Log) (v:Bz):List Out×List Msg×Int :=
 if (Dk me&&B4 g&&Ao v&&Di g.sure l)=true then (l.map (Ma g v),l.map (Ew g v me),0) else ([],[],1)
theorem Jd {n:Int} : ∀ {l:List Out} {e:Int},Ez n e l=true->∀ o∈l,Dk o.to_=true/\Ph o.interest=true/\M2 o.session=true/\M2 o.seq=true/\-1<=o.at_/\o.at_<=n
 | [],_,_=>fun o ho=>by cases ho
 | s :: l,e,h=>fun o ho=>by
  simp only [Ez,Bool.and_eq_true,decide_eq_true_eq] at h
  rcases List.mem_cons.1 ho with rfl | ho
  ·exact ⟨h.1.1.1.1.2.1,h.1.1.1.1.2.2,h.1.1.1.2,h.1.1.2,h.1.2.1,h.1.2.2⟩
  ·exact Jd h.2 o ho
theorem Al2 {g:Log} {v:Bz} (hg:B4 g=true) (hv:Ao v=true) {a:Int} (h0:-1<=a) (h1:a<=g.sure) (it:List Ad) (iS:I64 g.sure):(Er g v a it 8).2.2=0/\I64 (Er g v a it 8).2.1:=by
 have hg':=hg
 simp only [B4,Bool.and_eq_true,Ra,decide_eq_true_eq] at hg'
 unfold Er
 rw [if_pos ⟨hg,hv⟩]
 split
 ·exact ⟨rfl,iS⟩
 ·have ha:Aa4 g a 8=true:=by
   simp only [Aa4,Bool.and_eq_true,decide_eq_true_eq]
   exact ⟨⟨⟨hg,by omega⟩,h1⟩,by omega⟩
  unfold K3
  rw [if_pos ha]
  refine ⟨rfl,?_⟩
  have:(Qo g a it 8).2<=a.toNat+((Dq g it).drop a.toNat).length:=by
   unfold Qo
   obtain ⟨k,h1,h2,-⟩:=L6 (it:=it) (most:=8) ((Dq g it).drop a.toNat) [] a.toNat
   rw [h2]
   simp only
   omega
  have hl:(Dq g it).length<=g.sure.toNat:=by
   unfold Dq
   rw [List.length_map,List.length_take]
   omega
  rw [List.length_drop] at this
  have hi:=iS.hi
  exact I64.of (by simp only;omega) (by simp only;omega)
theorem Kx {q:List Out×List Msg×Int} (h:q=([],[],1)):Dz (.tup [.val (.slice none 0 0),.val (.slice none 0 0),.val (.int .i64 1)]) (.tup [.iv (ouI q.1),.iv (msI q.2.1),.val (.int .i64 q.2.2)]):=by
 subst h
 refine Ns rfl fun p hp=>?_
 simp only [List.zip_cons_cons,List.zip_nil_right,List.mem_cons,List.not_mem_nil,or_false] at hp
 rcases hp with rfl | rfl | rfl
 ·exact D6 5
 ·exact D6 12
 ·exact Dz.rfl_ _
theorem Au9 {me t s q:Int} {O:List B7} (w0:I64 me) (w1:I64 t) (w2:I64 s) (w3:I64 q) :
  AsI [.val (.int .i64 3),.val (.int .i64 me),.val (.int .i64 t),.val (.int .i64 s),.val (.int .i64 q),.val (.slice none 0 0),.val (.slice none 0 0),.iv (noI O),.val (.int .i64 0),.val (.int .i64 0),.val (.int .i64 0),.val (.slice none 0 0)] (Tv ⟨3,me,t,s,q,[],[],O,⟨0,⟨0,0⟩,[]⟩⟩):=by
 refine AsI.sub (ds:=Bh (msA ⟨3,me,t,s,q,[],[],O,⟨0,⟨0,0⟩,[]⟩⟩)) ?_ rfl ⟨rfl,w0,w1,w2,w3,trivial,trivial,trivial,rfl,rfl,rfl,trivial,trivial⟩
 exact Sbs.cons_ (Sbs.cons_ (Sbs.cons_ (Sbs.cons_ (Sbs.cons_ (Sbs.of_ Wr (Sbs.of_ Wr (Sbs.cons_ (Sbs.cons_ (Sbs.cons_ (Sbs.cons_ (Sbs.of_ Wr (Sbs.rfl_ _))))))))))))
theorem B07 {x y:Operand} {t:Int} (h0:0<=t) (w:World):(do eqGuard .rem 3 x y (.int .i64 (t+1)) (.int .i64 1099511627776);binOp .rem 3 (.int .i64 (t+1)) (.int .i64 1099511627776):Sem Value).run Tryz.prog w=.ok (.int .i64 (Fk t)) w:=by
 go_simp
 unfold Fk
 exact Int.tmod_eq_emod_of_nonneg (by omega)
def Fc (g:Log) (v:Bz) (l:List Out) (i:Nat):List Out:=(l.take i).map (Ma g v)++l.drop i
theorem Ae3 {g:Log} {v:Bz} {l:List Out} {i:Nat} (h:i<=l.length):(Fc g v l i).length=l.length:=by
 unfold Fc
 rw [List.length_append,List.length_map,List.length_take,List.length_drop]
 omega
theorem Xp {g:Log} {v:Bz} {l:List Out} {i:Nat} (h:i < l.length):(Fc g v l i)[i]? = some l[i]/\(Fc g v l i).length=l.length:=by
 have e:((l.take i).map (Ma g v)).length=i:=by rw [List.length_map,List.length_take];omega
 refine ⟨?_,?_⟩
 ·unfold Fc
  rw [List.getElem?_append_right (by omega),e,Nat.sub_self,List.getElem?_drop,Nat.add_zero]
  exact List.getElem?_eq_getElem h
 ·unfold Fc
  rw [List.length_append,e,List.length_drop]
  omega
theorem Vl {g:Log} {v:Bz} {l:List Out} {i:Nat} (h:i < l.length):(Fc g v l i).set i (Ma g v l[i])=Fc g v l (i+1):=by
 have e:((l.take i).map (Ma g v)).length=i:=by rw [List.length_map,List.length_take];omega
 unfold Fc
 rw [List.set_append_right _ _ (by omega),e,Nat.sub_self,List.drop_eq_getElem_cons h,List.set_cons_zero,List.take_succ_eq_append_getElem h,List.map_append,List.append_assoc]
 rfl
set_option maxRecDepth 100000 in
set_option maxHeartbeats 1600000 in
theorem Ue (l:List Out) (me:Int) (g0:Log) (v:Bz) (iM:I64 me) (iS:I64 g0.sure) (iR:I64 v.room):A7 Tryz.prog A8 32 [.iv (ouI l),.val (.int .i64 me),Qb g0,vwA v] (.tup [.iv (ouI (Jb l me g0 v).1),.iv (msI (Jb l me g0 v).2.1),.val (.int .i64 (Jb l me g0 v).2.2)]) []:=by
 refine A7.ofS (n:=100) (rs:=[.tmp 8,.tmp 9,.tmp 10]) Tryz.func32 rfl (by kernel_rfl) Tryz.ntmps32 (by kernel_rfl) (by simp) (fun _ _=>A8.later) ?_
 intro hok V w0
 have hlen:l.length<=1073741824:=by simpa [ouI] using hok.1.1
 obtain ⟨q,hq⟩ : ∃ q,Jb l me g0 v=q:=⟨_,rfl⟩
 rw [hq]
 unfold Jb at hq
 refine g ?_
 refine AW.seq ?_
 refine AW.reg rfl fun KK hKK=>?_
 refine g ?_
 repeat' (refine hKK _ (g ?_);clear hKK KK)
 refine AW.freeze 700 _ rfl ⟨trivial,trivial,iS,trivial⟩ ?_
 simp only [go_sem,reduceIte,Nat.reduceEqDiff]
 refine AW.freeze 800 _ rfl ⟨trivial,trivial,trivial,trivial,iR,trivial⟩ ?_
 simp only [go_sem,reduceIte,Nat.reduceEqDiff]
 refine g ?_
 repeat' (first | refine st_ rfl (g ?_) | refine Cl (fun h=>g ?_) (fun h=>g ?_) | (refine Eu rfl rfl (fun h=>?_) (fun h=>?_)<;>simp only [h]<;>refine g ?_) | refine Aa (B24 _) rfl (g ?_) | refine Aa (L1 _ iS) rfl (g ?_) | refine Aa (Rt _ iR) rfl (g ?_) | refine Aa (As6 _ _) rfl (g ?_) | refine Aa (B15 _) rfl (g ?_))
 ·rw [if_neg (by simp at h;simp [h])] at hq
  exact Kx hq.symm
 ·rw [if_neg (by simp at h;simp [h])] at hq
  exact Kx hq.symm
 ·rw [if_neg (by simp at h;simp [h])] at hq
  exact Kx hq.symm
 ·rw [if_neg (by simp at h;simp [h])] at hq
  exact Kx hq.symm
 rename_i h1 h2 h3
 have hg:B4 g0=true:=by simpa using h2
 have hv:Ao v=true:=by simpa using h3
 have ho:Di g0.sure l=true:=by simpa using h
 rw [if_pos (by simp at *;simp [*])] at hq
 refine AW.adopt 12 9900 89 12 rfl rfl ?_
 refine AW.loop (fun i:{i:Nat // i<=l.length}=>⟨[(1,.val (.int .i64 me)),(6,.ip [stI g0.base,.sl 4 (g0.notes.map enN),.val (.int .i64 g0.sure)]),(7,.ip [stI v.known,znI v.zones,wrI v.held,boI v.bodies,.val (.int .i64 v.room)]),(11,.own 4000),(12,.own 9900),(41,.val (.int .i64 (l.length:Nat))),(42,.val (.int .i64 (i.1:Nat)))],[.row 4000 94 5 ((Fc g0 v l i.1).map Fx),.row 9900 89 12 (((l.take i.1).map (Ew g0 v me)).map Tv)]⟩) (fun i=>l.length - i.1) ⟨0,Nat.zero_le _⟩ id ⟨⟨rfl,rfl,rfl,rfl,rfl,rfl,rfl,trivial⟩,⟨rfl,rfl,trivial⟩,by simp [Ay,BA.id]⟩ fun ⟨i,hi⟩=>?_
 simp only
 repeat (refine AW.seq ?_)
 refine AW.reg rfl fun KK hKK=>?_
 refine g ?_
 repeat' (refine hKK _ (g ?_);clear hKK KK)
 repeat (refine AW.seq ?_)
 refine st_ rfl ?_
 refine g ?_
 refine Bk (fun h=>?_) (fun h=>?_)
 ·have hlt:i < l.length:=by omega
  obtain ⟨hrow,hln⟩:=Xp (g:=g0) (v:=v) hlt
  have hset:=Vl (g:=g0) (v:=v) hlt
  obtain ⟨-,o1,o2,o3,o4,o5,-⟩:=Gc (by simpa [ouI] using hok.1.2) (Fx l[i]) (List.mem_map_of_mem (List.getElem_mem hlt))
  obtain ⟨b1,b2,b3,b4,b5,b6⟩:=Jd ho l[i] (List.getElem_mem hlt)
  obtain ⟨x,hx⟩ : ∃ x,l[i]=x:=⟨_,rfl⟩
  have hm1:(l.take (i+1)).map (Ew g0 v me)=(l.take i).map (Ew g0 v me)++[Ew g0 v me x]:=by rw [List.take_succ_eq_append_getElem hlt,List.map_append,hx];rfl
  have hml:((l.take i).map (Ew g0 v me)).length<=i:=by rw [List.length_map,List.length_take];omega
  rw [hx] at hrow hset o1 o2 o3 o4 o5 b1 b2 b3 b4 b5 b6
  obtain ⟨c1,c2⟩:=Al2 hg hv b5 b6 x.interest iS
  have hc:=At6 g0 v x.at_ x.interest 8 iS iR o4 rfl
  obtain ⟨n0,n1⟩ : 0<=x.seq/\x.seq < 1099511627776:=of_decide_eq_true b4
  have hn2:0<=Fk x.seq/\Fk x.seq < 1099511627776:=by unfold Fk;omega
  have iN:I64 (Fk x.seq):=I64.of (by omega) (by omega)
  have hrow2:=Cg (f:=Fx) hrow
  obtain ⟨R,hR⟩ : ∃ R,Fc g0 v l i=R:=⟨_,rfl⟩
  rw [hR] at hrow hset hln hrow2 ⊢
  unfold Ma at hset
  have hmx:Ew g0 v me x=⟨3,me,x.to_,x.session,x.seq,[],[],(Er g0 v x.at_ x.interest 8).1,⟨0,⟨0,0⟩,[]⟩⟩:=rfl
  unfold V2 at hc
  generalize Er g0 v x.at_ x.interest 8=T at hc c1 c2 hset hmx
  obtain ⟨O,k,e⟩:=T
  simp only at hc c1 c2 hset hmx
  subst c1
  refine st_ rfl (g ?_)
  refine g ?_
  repeat' refine st_ rfl (g ?_)
  refine ⟨by omega,by omega,?_⟩
  refine g ?_
  repeat' (first | refine st_ rfl (g ?_) | refine Aj (g ?_))
  refine AW.drawn (ds:=[49,50,51,52,53,54,55,56,57,58,59,48,60,61,62,15,16,17]) (fin:=[0,1]) (bs:=[2,2,2,2,2,2,2,2,2,2,2,2,2,2,2,2,2,2]) [⟨[],[],[0,1],[],0⟩,⟨[],[],[0,1],[],0⟩,⟨[],[],[],[],0⟩,⟨[(51,2)],[],[],[],0⟩,⟨[(52,3)],[],[],[],0⟩,⟨[(53,4)],[],[0,1],[],0⟩,⟨[],[],[],[],0⟩,⟨[(55,6)],[],[],[],0⟩,⟨[(56,7)],[],[],[],0⟩,⟨[(57,8)],[],[0,1],[],0⟩,⟨[(49,0),(50,1),(54,5),(58,9)],[],[0,1],[],0⟩,⟨[(59,10)],[],[],[],0⟩,⟨[(48,11)],[],[],[],0⟩,⟨[(48,11)],[],[],[],0⟩,⟨[(48,11)],[],[],[],0⟩,⟨[(60,12)],[],[],[],0⟩,⟨[(61,13)],[],[],[],0⟩,⟨[(62,14)],[],[],[],0⟩] (by kernel_rfl) rfl (by kernel_rfl) rfl rfl rfl fun KD hKD=>?_
  refine g ?_
  refine ⟨_,hrow2,?_⟩
  refine g ?_
  repeat' refine Aj (g ?_)
  refine ⟨_,hrow2,?_⟩
  refine g ?_
  repeat' (first | refine st_ rfl (g ?_) | refine Aj (g ?_) | (refine hKD _ _ ⟨rfl,g ?_⟩;clear hKD KD) | refine Aa (hc) rfl (g ?_))
  refine AW.drawn (ds:=[66,67,68,69,70,71,72,73,74,75,76,77,78,79,80,81,82,83,12]) (fin:=[0,2,3]) (bs:=[2,2,2,2,2,2,2,2,2,2,2,2,2,2,2,2,2,3,4]) [⟨[],[12],[],[],0⟩,⟨[],[],[],[],0⟩,⟨[],[],[],[],0⟩,⟨[(68,2)],[],[],[],0⟩,⟨[(69,3)],[],[],[],0⟩,⟨[(70,4)],[],[0,1],[],0⟩,⟨[],[],[],[],0⟩,⟨[(72,6)],[],[],[],0⟩,⟨[(73,7)],[],[],[],0⟩,⟨[(74,8)],[],[0,1],[],0⟩,⟨[],[],[],[],0⟩,⟨[(76,10)],[],[],[],0⟩,⟨[(77,11)],[],[],[],0⟩,⟨[(78,12)],[],[0,1],[],0⟩,⟨[],[],[],[],0⟩,⟨[(67,1),(71,5),(75,9),(79,13),(80,14)],[],[],[],0⟩,⟨[(81,15)],[],[],[],1⟩,⟨[(66,0),(82,16)],[],[0,2],[1],1⟩,⟨[(83,17)],[],[],[],0⟩] (by kernel_rfl) rfl (by kernel_rfl) rfl rfl rfl fun KD hKD=>?_
  refine g ?_
  refine ⟨_,hrow2,?_⟩
  refine g ?_
  repeat' refine Aj (g ?_)
  refine ⟨_,hrow2,?_⟩
  refine g ?_
  repeat' refine Aj (g ?_)
  refine ⟨_,hrow2,?_⟩
  refine g ?_
  repeat' refine Aj (g ?_)
  refine bn1 (by omega) rfl (Au9 iM o1 o2 o5) rfl ?_
  refine g ?_
  refine C6 rfl (by kernel_rfl) (by omega) (by kernel_rfl) rfl (by simp;omega) ?_
  refine g ?_
  repeat' (first | refine st_ rfl (g ?_) | (refine hKD _ _ ⟨rfl,g ?_⟩;clear hKD KD))
  refine ⟨_,hrow2,?_⟩
  refine g ?_
  repeat' refine Aj (g ?_)
  refine ⟨_,B07 (x:=.tmp 91) (y:=.const (.int .i64 1099511627776)) n0,?_⟩
  refine g ?_
  repeat' refine Aj (g ?_)
  refine ⟨_,_,rfl,⟨c2,trivial⟩,hrow2,?_⟩
  refine g ?_
  repeat' refine Aj (g ?_)
  refine ⟨_,_,rfl,⟨iN,trivial⟩,List.getElem?_set_self (by rw [List.length_map];omega),?_⟩
  refine g ?_
  repeat' (first | refine st_ rfl (g ?_) | refine Aj (g ?_))
  rw [List.set_set]
  refine ⟨⟨i+1,hlt⟩,fun b=>if b=9900 then 8400 else b,⟨⟨rfl,rfl,rfl,rfl,rfl,rfl,rfl,trivial⟩,⟨?_,?_,trivial⟩,by simp [Ay,BA.id]⟩,by show l.length - (i+1) < l.length - i;omega⟩
  ·refine congrArg (fun C=>some (BA.row 4000 _ 5 C)) ?_
   rw [<-hset,List.map_set]
   rfl
  ·refine congrArg (fun C=>some (BA.row 8400 _ 12 C)) ?_
   show _=((l.take (i+1)).map (Ew g0 v me)).map Tv
   rw [hm1,hmx,List.map_append]
   rfl
 ·obtain rfl:i=l.length:=by omega
  refine AW.exit ?_
  simp only [reduceIte]
  refine AW.freeze 4000 _ rfl trivial ?_
  simp only [go_sem,reduceIte,Nat.reduceEqDiff]
  refine AW.freeze 9900 _ rfl trivial ?_
  simp only [go_sem,reduceIte,Nat.reduceEqDiff]
  subst hq
  unfold Fc
  rw [List.take_length,List.drop_length,List.append_nil]
  refine g ?_
  repeat' refine st_ rfl (g ?_)
  exact Dz.rfl_ _
set_option maxRecDepth 100000 in
set_option maxHeartbeats 1600000 in
theorem Ao2 (l:List Out) (me:Int) (g0:Log) (v:Bz) (iM:I64 me) (iS:I64 g0.sure) (iR:I64 v.room):A7 Tryz.prog A8 33 [.iv (ouI l),.val (.int .i64 me),Qb g0,vwA v] (.tup [.iv (ouI (Jb l me g0 v).1),.iv (msI (Jb l me g0 v).2.1),.val (.int .i64 (Jb l me g0 v).2.2)]) []:=by
 refine A7.ofS (n:=90) (rs:=[.tmp 8,.tmp 9,.tmp 10]) Tryz.func33 rfl (by kernel_rfl) Tryz.ntmps33 (by kernel_rfl) (by simp) (fun _ _=>A8.later) ?_
 intro hok V w0
 have hlen:l.length<=1073741824:=by simpa [ouI] using hok.1.1
 obtain ⟨q,hq⟩ : ∃ q,Jb l me g0 v=q:=⟨_,rfl⟩
 rw [hq]
 unfold Jb at hq
 refine g ?_
 refine AW.seq ?_
 refine AW.reg rfl fun KK hKK=>?_
 refine g ?_
 repeat' (refine hKK _ (g ?_);clear hKK KK)
 refine AW.freeze 700 _ rfl ⟨trivial,trivial,iS,trivial⟩ ?_
 simp only [go_sem,reduceIte,Nat.reduceEqDiff]
 refine AW.freeze 800 _ rfl ⟨trivial,trivial,trivial,trivial,iR,trivial⟩ ?_
 simp only [go_sem,reduceIte,Nat.reduceEqDiff]
 refine g ?_
 repeat' (first | refine st_ rfl (g ?_) | refine Cl (fun h=>g ?_) (fun h=>g ?_) | (refine Cz rfl rfl (fun h e=>?_) (fun h e=>?_)<;>simp only [e]<;>clear e<;>refine g ?_) | (refine Eu rfl rfl (fun h=>?_) (fun h=>?_)<;>simp only [h]<;>refine g ?_) | refine Aa (K9 _ iS) rfl (g ?_) | refine Aa (S3 _ iR) rfl (g ?_) | refine Aa (Vp _ _) rfl (g ?_) | refine Aa (Xu _) rfl (g ?_))
 ·rw [if_neg (by simp only [Bool.and_eq_true];intro hh;have:=of_decide_eq_true hh.1.1.1;omega)] at hq
  exact Kx hq.symm
 ·rw [if_neg (by simp only [Bool.and_eq_true];intro hh;have:=of_decide_eq_true hh.1.1.1;omega)] at hq
  exact Kx hq.symm
 ·rw [if_neg (by simp at h;simp [h])] at hq
  exact Kx hq.symm
 ·rw [if_neg (by simp at h;simp [h])] at hq
  exact Kx hq.symm
 ·rw [if_neg (by simp at h;simp [h])] at hq
  exact Kx hq.symm
 rename_i h0 h1 h2 h3
 have hme:Dk me=true:=decide_eq_true ⟨by omega,by omega⟩
 have hg:B4 g0=true:=by simpa using h2
 have hv:Ao v=true:=by simpa using h3
 have ho:Di g0.sure l=true:=by simpa using h
 rw [if_pos (by rw [hme,hg,hv,ho];rfl)] at hq
 refine AW.adopt 12 9900 89 12 rfl rfl ?_
 refine AW.loop (fun i:{i:Nat // i<=l.length}=>⟨[(1,.val (.int .i64 me)),(6,.ip [stI g0.base,.sl 4 (g0.notes.map enN),.val (.int .i64 g0.sure)]),(7,.ip [stI v.known,znI v.zones,wrI v.held,boI v.bodies,.val (.int .i64 v.room)]),(11,.own 4300),(12,.own 9900),(13,.val (.int .i64 (i.1:Nat)))],[.row 4300 94 5 ((Fc g0 v l i.1).map Fx),.row 9900 89 12 (((l.take i.1).map (Ew g0 v me)).map Tv)]⟩) (fun i=>l.length - i.1) ⟨0,Nat.zero_le _⟩ id ⟨⟨rfl,rfl,rfl,rfl,rfl,rfl,trivial⟩,⟨rfl,rfl,trivial⟩,by simp [Ay,BA.id]⟩ fun ⟨i,hi⟩=>?_
 simp only
 have hrl:=Ae3 (g:=g0) (v:=v) hi
 repeat (refine AW.seq ?_)
 refine AW.reg rfl fun KK hKK=>?_
 refine g ?_
 repeat' (refine hKK _ (g ?_);clear hKK KK)
 repeat (refine AW.seq ?_)
 refine st_ rfl ?_
 refine g ?_
 refine Bk (fun h=>?_) (fun h=>?_)
 ·have hlt:i < l.length:=by omega
  obtain ⟨hrow,hln⟩:=Xp (g:=g0) (v:=v) hlt
  have hset:=Vl (g:=g0) (v:=v) hlt
  obtain ⟨-,o1,o2,o3,o4,o5,-⟩:=Gc (by simpa [ouI] using hok.1.2) (Fx l[i]) (List.mem_map_of_mem (List.getElem_mem hlt))
  obtain ⟨b1,b2,b3,b4,b5,b6⟩:=Jd ho l[i] (List.getElem_mem hlt)
  obtain ⟨x,hx⟩ : ∃ x,l[i]=x:=⟨_,rfl⟩
  have hm1:(l.take (i+1)).map (Ew g0 v me)=(l.take i).map (Ew g0 v me)++[Ew g0 v me x]:=by rw [List.take_succ_eq_append_getElem hlt,List.map_append,hx];rfl
  have hml:((l.take i).map (Ew g0 v me)).length<=i:=by rw [List.length_map,List.length_take];omega
  rw [hx] at hrow hset o1 o2 o3 o4 o5 b1 b2 b3 b4 b5 b6
  obtain ⟨c1,c2⟩:=Al2 hg hv b5 b6 x.interest iS
  have hc:=Ag1 g0 v x.at_ x.interest 8 iS iR o4 rfl
  obtain ⟨n0,n1⟩ : 0<=x.seq/\x.seq < 1099511627776:=of_decide_eq_true b4
  have hn2:0<=Fk x.seq/\Fk x.seq < 1099511627776:=by unfold Fk;omega
  have iN:I64 (Fk x.seq):=I64.of (by omega) (by omega)
  have hrow2:=Cg (f:=Fx) hrow
  obtain ⟨R,hR⟩ : ∃ R,Fc g0 v l i=R:=⟨_,rfl⟩
  rw [hR] at hrow hset hln hrow2 ⊢
  unfold Ma at hset
  have hmx:Ew g0 v me x=⟨3,me,x.to_,x.session,x.seq,[],[],(Er g0 v x.at_ x.interest 8).1,⟨0,⟨0,0⟩,[]⟩⟩:=rfl
  unfold V2 at hc
  generalize Er g0 v x.at_ x.interest 8=T at hc c1 c2 hset hmx
  obtain ⟨O,k,e⟩:=T
  simp only at hc c1 c2 hset hmx
  subst c1
  refine st_ rfl (g ?_)
  refine g ?_
  repeat' refine st_ rfl (g ?_)
  refine ⟨by omega,by omega,?_⟩
  refine g ?_
  repeat' refine Aj (g ?_)
  refine ⟨_,hrow2,?_⟩
  refine g ?_
  repeat' (first | refine st_ rfl (g ?_) | refine Aj (g ?_) | refine Aa (hc) rfl (g ?_))
  refine bn1 (by omega) rfl (Au9 iM o1 o2 o5) rfl ?_
  refine g ?_
  refine C6 rfl (by kernel_rfl) (by omega) (by kernel_rfl) rfl (by simp;omega) ?_
  refine g ?_
  repeat' refine st_ rfl (g ?_)
  refine ⟨by omega,by omega,?_⟩
  refine g ?_
  repeat' refine Aj (g ?_)
  refine ⟨_,_,rfl,⟨c2,trivial⟩,hrow2,?_⟩
  refine g ?_
  repeat' (first | refine st_ rfl (g ?_) | refine Aj (g ?_) | refine Aa (Ao3 x.seq n0 (by omega)) rfl (g ?_))
  refine ⟨by omega,by simp only [List.length_set,List.length_map];omega,?_⟩
  refine g ?_
  repeat' refine Aj (g ?_)
  refine ⟨_,_,rfl,⟨iN,trivial⟩,List.getElem?_set_self (by rw [List.length_map];omega),?_⟩
  refine g ?_
  repeat' (first | refine st_ rfl (g ?_) | refine Aj (g ?_))
  rw [List.set_set]
  refine ⟨⟨i+1,hlt⟩,fun b=>if b=9900 then 7600 else b,⟨⟨rfl,rfl,rfl,rfl,rfl,rfl,trivial⟩,⟨?_,?_,trivial⟩,by simp [Ay,BA.id]⟩,by show l.length - (i+1) < l.length - i;omega⟩
  ·refine congrArg (fun C=>some (BA.row 4300 _ 5 C)) ?_
   rw [<-hset,List.map_set]
   rfl
  ·refine congrArg (fun C=>some (BA.row 7600 _ 12 C)) ?_
   show _=((l.take (i+1)).map (Ew g0 v me)).map Tv
   rw [hm1,hmx,List.map_append]
   rfl
 ·obtain rfl:i=l.length:=by omega
  refine AW.exit ?_
  simp only [reduceIte]
  refine AW.freeze 4300 _ rfl trivial ?_
  simp only [go_sem,reduceIte,Nat.reduceEqDiff]
  refine AW.freeze 9900 _ rfl trivial ?_
  simp only [go_sem,reduceIte,Nat.reduceEqDiff]
  subst hq
  unfold Fc
  rw [List.take_length,List.drop_length,List.append_nil]
  refine g ?_
  repeat' refine st_ rfl (g ?_)
  exact Dz.rfl_ _
end Go.Proofs.YthlgnjlpakimaaaGreatDoor
namespace Go.Proofs.YthlgnjlpakimaaaGreatDoor
open Go.ChangeShapes Go.WideShapes Go.ChangeAt Go.RowKit
attribute [local irreducible] AW AWY Bw Bc vop Bj Az Bi qop By Ce Ar Ap Bo A7 Bd C5
attribute [local go_sem] Tu A77 Bb7 Ff Gl Ai An
set_option maxRecDepth 100000 in
set_option maxHeartbeats 1600000 in
theorem Ao5 (x y:Msg) (e:x=y):A7 Tryz.prog A8 92 [msA x,msA y] (.val (.bool true)) []:=by
 refine A7.of (n:=66) (rs:=[.tmp 4]) Tryz.func92 rfl (by kernel_rfl) Tryz.ntmps92 (by kernel_rfl) (by simp) (fun _ _=>A8.later) ?_
 intro hok V w0
 have h3:=A71 x.body y.body
 rw [decide_eq_true (congrArg Msg.body e)] at h3
 obtain ⟨a1,a2,a3,a4,a5,a6,a7,a8,⟨a9,⟨b1,b2⟩,b3⟩⟩:=x
 obtain ⟨c1,c2,c3,c4,c5,c6,c7,c8,⟨c9,⟨d1,d2⟩,d3⟩⟩:=y
 injection e with e1 e2 e3 e4 e5 e6 e7 e8 e9
 subst e8
 refine g ?_
 repeat' (first | refine st_ rfl (g ?_) | exact trivial | (refine Cz rfl rfl (fun h e=>?_) (fun h e=>?_)<;>simp only [e]<;>clear e<;>refine g ?_) | refine Aa (Py _ _) rfl (g ?_) | refine Aa (Mb _ _) rfl (g ?_) | refine Aa (A19 _) rfl (g ?_) | refine Aa (h3) rfl (g ?_))
 all_goals contradiction
theorem Af3 (x:Msg):A7 Tryz.prog A8 92 [msA x,msA x] (.val (.bool true)) []:=Ao5 x x rfl
set_option maxRecDepth 100000 in
set_option maxHeartbeats 800000 in
theorem Ao4 (l:List Msg):A7 Tryz.prog A8 35 [.iv (msI l),.iv (msI l)] (.val (.bool true)) []:=by
 refine A7.of (n:=27) (rs:=[.tmp 4]) Tryz.func35 rfl (by kernel_rfl) Tryz.ntmps35 (by kernel_rfl) (by simp) (fun _ _=>A8.later) ?_
 intro hok V w0
 have hlen:l.length<=1073741824:=by simpa [msI] using hok.1.1
 refine g ?_
 repeat' refine st_ rfl (g ?_)
 refine AW.loop (fun i:{i:Nat // i<=l.length}=>⟨[(0,.iv (msI l)),(1,.iv (msI l)),(5,.val (.int .i64 (i.1:Nat)))],[]⟩) (fun i=>l.length - i.1) ⟨0,Nat.zero_le _⟩ id ⟨⟨rfl,rfl,rfl,trivial⟩,trivial,List.nodup_nil⟩ fun ⟨i,hi⟩=>?_
 refine g ?_
 repeat' (first | refine st_ rfl (g ?_) | exact trivial | refine Bk (fun h=>g ?_) (fun h=>g ?_))
 have hlt:i < l.length:=by omega
 have hg:=Cg (f:=Tv) (List.getElem?_eq_getElem hlt)
 refine AW.drawn (ds:=[17,18,19,20,21,22,23,24,25,26]) (fin:=[]) (bs:=[0,0,0,0,0,0,0,0,0,0]) [⟨[],[],[],[],0⟩,⟨[],[],[],[],0⟩,⟨[(17,0),(18,1)],[],[],[],0⟩,⟨[(19,2)],[],[],[],0⟩,⟨[],[],[],[],0⟩,⟨[],[],[],[],0⟩,⟨[(21,4),(22,5)],[],[],[],0⟩,⟨[(23,6)],[],[],[],0⟩,⟨[(20,3),(24,7)],[],[],[],0⟩,⟨[(25,8)],[],[],[],0⟩] (by kernel_rfl) rfl (by kernel_rfl) rfl rfl rfl fun KD hKD=>?_
 refine g ?_
 repeat' (first | refine st_ rfl (g ?_) | (refine hKD _ _ ⟨rfl,g ?_⟩;clear hKD KD) | refine ix_ (by omega) (g ?_) | refine Aa (Af3 _) rfl (g ?_))
 exact ⟨⟨i+1,hlt⟩,id,⟨⟨rfl,rfl,rfl,trivial⟩,trivial,List.nodup_nil⟩,by show l.length - (i+1) < l.length - i;omega⟩
end Go.Proofs.YthlgnjlpakimaaaGreatDoor
namespace Go.Proofs.YthlgnjlpakimaaaGreatDoor
open Go.ChangeShapes Go.WideShapes Go.ChangeAt Go.RowKit
attribute [local irreducible] AW AWY Bw Bc vop Bj Az Bi qop By Ce Ar Ap Bo A7 Bd C5
attribute [local go_sem] Tu A77 Bb7 Ff Gl Jh C3 Kq Ai An
theorem Bg1:spI []=.sl 2 []:=rfl
theorem Bg0:stI []=.sl 2 []:=rfl
attribute [local go_sem] Bg1 Bg0
theorem Af5:A7 Tryz.prog A8 93 [boA ⟨0,⟨0,0⟩,[]⟩] (.val (.bool true)) []:=by
 refine A7.of (n:=13) (rs:=[.tmp 2]) Tryz.func93 rfl (by kernel_rfl) Tryz.ntmps93 (by kernel_rfl) (by simp) (fun _ _=>A8.later) ?_
 intro hok V w0
 refine g ?_
 repeat' refine st_ rfl (g ?_)
 refine ⟨_,fun u=>Sx _ _ _ _ _ _ u,?_⟩
 refine g ?_
 repeat' (first | refine st_ rfl (g ?_) | refine Aj (g ?_))
 exact decide_eq_true trivial
set_option maxRecDepth 100000 in
set_option maxHeartbeats 1600000 in
theorem A64 (f t s q:Int) (O:List B7) (f0:0<=f/\f<=63) (t0:0<=t/\t<=63) (s0:0<=s/\s < 1099511627776) (q0:0<=q/\q < 1099511627776) (hl:O.length<=257) (hO:∀ n∈O,Al n=true) :
  A7 Tryz.prog A8 36 [msA ⟨3,f,t,s,q,[],[],O,⟨0,⟨0,0⟩,[]⟩⟩] (.val (.bool true)) []:=by
 refine A7.of (n:=169) (rs:=[.tmp 2]) Tryz.func36 rfl (by kernel_rfl) Tryz.ntmps36 (by kernel_rfl) (by simp) (fun _ _=>A8.later) ?_
 intro hok V w0
 have he:=Af5
 simp only [Ff,Gl] at he
 refine g ?_
 refine AW.seq ?_
 refine AW.reg rfl fun KK hKK=>?_
 refine g ?_
 repeat' (refine hKK _ (g ?_);clear hKK KK)
 refine AW.freeze 200 _ rfl ⟨rfl,I64.of (by omega) (by omega),I64.of (by omega) (by omega),I64.of (by omega) (by omega),I64.of (by omega) (by omega),trivial,trivial,trivial,rfl,rfl,rfl,trivial,trivial⟩ ?_
 simp only [go_sem,reduceIte,Nat.reduceEqDiff]
 refine g ?_
 repeat' (first | refine st_ rfl (g ?_) | refine Bk (fun h=>g ?_) (fun h=>g ?_) | (refine Cz rfl rfl (fun h e=>?_) (fun h e=>?_)<;>simp only [e]<;>clear e<;>refine g ?_) | refine Aa (he) rfl (g ?_))
 all_goals try (exfalso;omega)
 all_goals
  refine AW.loop (fun i:{i:Nat // i<=O.length}=>⟨[(1,.ip [.val (.int .i64 3),.val (.int .i64 f),.val (.int .i64 t),.val (.int .i64 s),.val (.int .i64 q),spI [],stI [],.sl 4 (O.map enN),.val (.int .i64 0),.val (.int .i64 0),.val (.int .i64 0),.sl 1 []]),(3,.val (.bool true)),(5,.val (.bool true)),(6,.val (.int .i64 (i.1:Nat)))],[]⟩) (fun i=>O.length - i.1) ⟨0,Nat.zero_le _⟩ id ⟨⟨rfl,rfl,rfl,rfl,trivial⟩,trivial,List.nodup_nil⟩ fun ⟨i,hi⟩=>?_
  simp only
  repeat (refine AW.seq ?_)
  refine AW.reg rfl fun KK hKK=>?_
  refine g ?_
  repeat' (refine hKK _ (g ?_);clear hKK KK)
  repeat (refine AW.seq ?_)
  refine st_ rfl ?_
  refine g ?_
  refine Bk (fun h=>?_) (fun h=>?_)
  ·have hlt:i < O.length:=by omega
   have hfm:=Gt O[i]
   rw [hO _ (List.getElem_mem hlt)] at hfm
   refine st_ rfl (g ?_)
   refine g ?_
   repeat' (first | refine st_ rfl (g ?_) | refine ix_ (by omega) (g ?_) | refine Aa (hfm) rfl (g ?_))
   exact ⟨⟨i+1,hlt⟩,id,⟨⟨rfl,rfl,rfl,rfl,trivial⟩,trivial,List.nodup_nil⟩,by show O.length - (i+1) < O.length - i;omega⟩
  ·refine AW.exit ?_
   simp only [reduceIte]
   refine g ?_
   repeat' (first | refine st_ rfl (g ?_) | exact trivial)
end Go.Proofs.YthlgnjlpakimaaaGreatDoor
namespace Go.Proofs.YthlgnjlpakimaaaGreatDoor
open Go.ChangeShapes Go.WideShapes Go.ChangeAt Go.RowKit
def Fh:Int->List Sub->Bool
 | _,[]=>true
 | e,s :: l=>(decide (e < s.from_)&&(Dk s.from_&&Ph s.interest)&&M2 s.session&&M2 s.seq)&&Fh s.from_ l
def Fa (l:List Sub):Bool:=Fh (-1) l&&decide (l.length<=16)
theorem Wo {w:World} {B:Nat} {v:Value} {l:List Sub} (h:M4 w B v l) {m:Nat} {x:Sub} (hx:l[m]? = some x) :
  ∃ b off c vi,v=.slice (some ⟨b,off,none⟩) l.length c/\b < B/\w.cell? ⟨b,off+m*7,none⟩=some (.int .i64 x.from_)/\w.cell? ⟨b,off+m*7+1,none⟩=some vi /\
   w.cell? ⟨b,off+m*7+2,none⟩=some (.int .i64 x.session)/\w.cell? ⟨b,off+m*7+3,none⟩=some (.int .i64 x.seq)/\w.cell? ⟨b,off+m*7+4,none⟩=some (.bool x.live) /\
   w.cell? ⟨b,off+m*7+5,none⟩=some (.bool x.heard)/\w.cell? ⟨b,off+m*7+6,none⟩=some (.bool x.idle)/\Co w B vi x.interest/\I64 x.from_/\I64 x.session/\I64 x.seq:=by
 obtain ⟨A,c,rfl,_,_,h3⟩:=h
 obtain ⟨b,off,rfl,hb,h4⟩:=h3 (by rintro rfl;simp at hx)
 obtain ⟨cs,⟨vi,rfl,i1,i2,i3,hv⟩,_,h5⟩:=h4 m x hx
 exact ⟨b,off,c,vi,rfl,hb,h5 0 _ rfl,h5 1 _ rfl,h5 2 _ rfl,h5 3 _ rfl,h5 4 _ rfl,h5 5 _ rfl,h5 6 _ rfl,hv,i1,i2,i3⟩
set_option maxHeartbeats 1600000 in
theorem T6 (l:List Sub) (v:Value) (w:World) (h:M4 w w.heap.size v l) :
  Calls Tryz.prog 159 #[v] w fun e w'=>e=.returned (.bool (Fa l))/\Below w.heap.size w w':=by
 have hle:=h.len_le
 obtain ⟨A,c,rfl,_⟩:=id h
 unfold Fa
 go_enter Tryz.func159,Tryz.ntmps159
 go_wp2_with fail
 go_loopw [3,8] (fun a i wr=>∃ (m:Nat) (e:Int),m<=l.length/\i=.int .i64 m/\a=.int .i64 e/\Fh (-1) l=Fh e (l.drop m)/\Below w.heap.size w wr) (fun _ i _=>l.length - (intOf i).toNat)
 case atStart=>exact ⟨0,-1,Nat.zero_le _,rfl,rfl,rfl,Below.refl _ _⟩
 case round =>
  obtain ⟨m,e,hm,rfl,rfl,hv,hb⟩:=hrel
  have hn:=h.next hb
  by_cases hlt:m < l.length
  ·obtain ⟨y,hy⟩ : ∃ y,l[m]? = some y:=⟨l[m],List.getElem?_eq_getElem hlt⟩
   obtain ⟨b,off,c',vi,hv',hbb,e0,e1,e2,e3,e4,e5,e6,hs,_,_,_⟩:=Wo hn hy
   injection hv' with hv1 hv2 hv3
   rw [E6 hy,Fh] at hv
   obtain ⟨yf,yi,ys,yq,yl,yh,yd⟩:=y
   simp only at e0 e1 e2 e3 e4 e5 e6 hv hs
   subst hv1
   generalize hr1:Dk yf=r1 at hv
   generalize hr2:M2 ys=r2 at hv
   generalize hr3:M2 yq=r3 at hv
   generalize hr4:Ph yi=r4 at hv
   have HV:=Lib.hid hv
   have H1:=Lib.hid hr1
   have H2:=Lib.hid hr2
   have H3:=Lib.hid hr3
   have H4:=Lib.hid hr4
   obtain ⟨A4,c4,rfl,_⟩:=id hs
   have HS:=Lib.hid hs
   clear hv hv2 hv3 hy hbb hr1 hr2 hr3 hr4 hn hs
   by_cases p1:yf<=e
   ·go_wp2_with fail
    go_ret
    refine ⟨Ag ?_,Af hb⟩
    rw [HV.out,decide_eq_false (p:=e < yf) (by omega)]
    rfl
   ·have Hp:=Lib.hid (decide_eq_true (p:=e < yf) (by omega))
    go_wp2_with fail
    have kB:=Af (o:=.cells #[.int .i64 yf,.slice A4 yi.length c4,.int .i64 ys,.int .i64 yq,.bool yl,.bool yh,.bool yd] 149) (Below.refl _ wr)
    refine (Pw _ _).mono ?_
    rw [H1.out]
    rintro e' w' ⟨rfl,rfl⟩
    cases r1
    ·go_wp2_with fail
     go_ret
     refine ⟨Ag ?_,Af hb⟩
     rw [HV.out]
     simp
    go_wp2_with fail
    refine (K7 _ _).mono ?_
    rw [H2.out]
    rintro e' w' ⟨rfl,rfl⟩
    cases r2
    ·go_wp2_with fail
     go_ret
     refine ⟨Ag ?_,Af hb⟩
     rw [HV.out]
     simp
    go_wp2_with fail
    refine (K7 _ _).mono ?_
    rw [H3.out]
    rintro e' w' ⟨rfl,rfl⟩
    cases r3
    ·go_wp2_with fail
     go_ret
     refine ⟨Ag ?_,Af hb⟩
     rw [HV.out]
     simp
    go_wp2_with fail
    refine (Rf _ _ _ (HS.out.next kB)).mono ?_
    rw [H4.out]
    rintro e' w1 ⟨rfl,hb1⟩
    have k1:=As (Af hb) hb1
    have d0:=Am hb1 ((Blk.new wr 149 #[.int .i64 yf,.slice A4 yi.length c4,.int .i64 ys,.int .i64 yq,.bool yl,.bool yh,.bool yd]).cell 0)
    clear hb1 kB e0 e1 e2 e3 e4 e5 e6
    cases r4
    ·go_wp2_with fail
     go_ret
     refine ⟨Ag ?_,k1⟩
     rw [HV.out]
     simp
    go_wp2_with fail
    refine ⟨⟨m+1,yf,by omega,by go_num,rfl,?_,k1⟩,by simp [intOf];omega⟩
    rw [HV.out,Hp.out]
    simp
  ·obtain rfl:m=l.length:=by omega
   rw [List.drop_length] at hv
   have HV:=Lib.hid hv
   clear hv
   go_wp2_with fail
   go_ret
   refine ⟨Ag ?_,hb⟩
   rw [HV.out,Fh,Bool.true_and]
   exact decide_eq_decide.2 (by omega)
theorem B88 {α:Type} {l:List α} {m:Nat} {x:α} (h:l[m]? = some x):l.set m x=l:=by
 obtain ⟨h1,rfl⟩:=List.getElem?_eq_some_iff.1 h
 simp
theorem M4.ext {w w':World} {v:Value} {l:List Sub} (h:M4 w w.heap.size v l) (he:Ext w w'):M4 w' w'.heap.size v l:=Sl.ext h (fun cs x hx=>A95 _ _ cs x he hx) he
abbrev Ke:=Po (fun w=>Aa8 w w.heap.size) 7
theorem Ae0 (l:List Sub) (v:Value) (V w:World) (hV:Ext V w) (h:M4 V V.heap.size v l) :
  Calls Tryz.prog 162 #[v] w fun e w'=>(∃ v',e=.returned v'/\Ke V w w' w.heap.size 149 v' l)/\Below w.heap.size w w':=by
 have hle:=h.len_le
 have HC:=Lib.hid (B57 l v V w hV h)
 obtain ⟨A,c,rfl,-⟩:=id h
 clear h
 go_enter Tryz.func162,Tryz.ntmps162
 go_wp2_with fail
 refine HC.out.mono ?_
 rintro e w1 ⟨⟨v1,rfl,hown⟩,hb1⟩
 have hn:Ke V w w1 w.heap.size 149 v1 l:=Po.of_sl hown A95 hV hb1.size (Nat.le_refl _)
 rcases hown.forms with ⟨rfl,rfl⟩ | ⟨g,c1,rfl,hg1,hg2⟩
 ·clear hown
  have HN:=Lib.hid hn
  clear hn HC
  go_wp2_with fail
  go_loopw [9] (fun i wr=>i=.int .i64 0/\wr=w1) (fun _ _=>0)
  case atStart=>exact ⟨rfl,rfl⟩
  case round =>
   obtain ⟨rfl,rfl⟩:=hrel
   go_wp2_with fail
   go_ret
   exact ⟨⟨_,rfl,HN.out⟩,hb1⟩
 ·clear hown
  have HN:=Lib.hid hn
  clear hn HC
  go_wp2_with fail
  go_loopw [9] (fun i wr=>∃ m:Nat,m<=l.length/\i=.int .i64 m/\Ke V w wr w.heap.size 149 (.slice (some ⟨g,0,none⟩) l.length c1) l/\Below w.heap.size w wr) (fun i _=>l.length - (intOf i).toNat)
  case atStart=>exact ⟨0,Nat.zero_le _,rfl,HN.out,hb1⟩
  case round =>
   obtain ⟨m,hm,rfl,hn,hb⟩:=hrel
   have hgw:=(hn.lt g rfl).2
   by_cases hlt:m < l.length
   ·obtain ⟨y,hy⟩ : ∃ y,l[m]? = some y:=⟨l[m],List.getElem?_eq_getElem hlt⟩
    obtain ⟨cs,⟨vi,rfl,i1,i2,i3,hs⟩,_,hc⟩:=Ae.at_ hn hy
    have e1:=hc 1 vi rfl
    have hs1:Co wr wr.heap.size vi y.interest:=hs.ext (fun _ _ h=>h) ((Yb _ (.slice (some ⟨g,0,none⟩) l.length c1)).trans (A26 hV hb))
    have HN2:=Lib.hid hn
    have HY:=Lib.hid hy
    obtain ⟨A2,c2,rfl,-⟩:=id hs1
    have HC:=Lib.hid (Yy _ _ _ hs1)
    clear hc hs hs1 hn hy HN
    go_wp2_with fail
    refine HC.out.mono ?_
    rintro e w2 ⟨⟨v2,rfl,hown2⟩,hb2⟩
    obtain ⟨A3,c3,rfl⟩:=hown2.form
    have hn2:=HN2.out.next A95 hb2
    have f1:=Am hb2 e1
    have z1:=Ae.frozen hn2 (m*7+1)
    have hap:Co (Mf (H8 V w w2) g) (Mf (H8 V w w2) g).heap.size (.slice A3 y.interest.length c3) y.interest:=Ae.apart (V:=V) (w0:=w) (v:=.slice (some ⟨g,0,none⟩) l.length c1) hown2 hb.size (fun g' hg'=>by simp [Value.ownBlock] at hg';omega)
    have hn3:=Po.set_ (j:=1) (u:=.slice A3 y.interest.length c3) (x':=y) hn2 HY.out (by omega) (by
     rintro cs ⟨v',rfl,k1,k2,k3,_⟩ _
     exact ⟨_,rfl,k1,k2,k3,hap⟩)
    rw [B88 HY.out] at hn3
    have HN3:=Lib.hid hn3
    have hb3:=Se (u:=.slice A3 y.interest.length c3) (As hb hb2) (p:=⟨g,m*7+1,none⟩) hg1
    clear hn3 hn2 hap hown2 e1 HC HN2
    go_wp2_with fail
    refine ⟨⟨m+1,by omega,by go_num,HN3.out,hb3⟩,by simp [intOf];omega⟩
   ·obtain rfl:m=l.length:=by omega
    have HN2:=Lib.hid hn
    clear hn
    go_wp2_with fail
    go_ret
    exact ⟨⟨_,rfl,HN2.out⟩,hb⟩
def Lw (n:Int) (s:Sub):Bool:=decide (s.from_=n)
theorem Tq {α:Type} (p:α->Bool):∀ (l:List α) (i:Nat),(Dx p i l=-1/\∀ x∈l,p x=false)\/∃ j x,l[j]? = some x/\p x=true/\Dx p i l=((i+j:Nat):Int)/\∀ k y,k < j->l[k]? = some y->p y=false
 | [],i=>.inl ⟨rfl,fun x h=>by cases h⟩
 | x :: l,i=>by
  by_cases h:p x=true
  ·refine .inr ⟨0,x,rfl,h,by simp [Dx,h],fun k y hk=>by omega⟩
  ·have h':p x=false:=by simpa using h
   rcases Tq p l (i+1) with ⟨h1,h2⟩ | ⟨j,y,h1,h2,h3,h4⟩
   ·refine .inl ⟨by simp [Dx,h',h1],fun y hy=>?_⟩
    rcases List.mem_cons.1 hy with rfl | hy
    ·exact h'
    ·exact h2 y hy
   ·refine .inr ⟨j+1,y,by simpa using h1,h2,by simp [Dx,h',h3];omega,fun k z hk hz=>?_⟩
    cases k with
    | zero=>simp at hz;subst hz;exact h'
    | succ k=>exact h4 k z (by omega) (by simpa using hz)
theorem A59 (n yf ys yq:Int) (A:Option Addr) (k cp:Nat) (yl yh yd:Bool) (B:Nat) (w:World) (h:w.cell? ⟨B,0,none⟩=some (.int .i64 n)) :
  Calls Tryz.prog 206 #[.agg #[.int .i64 yf,.slice A k cp,.int .i64 ys,.int .i64 yq,.bool yl,.bool yh,.bool yd],.pointer (some ⟨B,0,none⟩)] w fun e w'=>e=.returned (.bool (decide (yf=n)))/\Below w.heap.size w w':=by
 have c0:=Am (Af (o:=.cells #[.int .i64 yf,.slice A k cp,.int .i64 ys,.int .i64 yq,.bool yl,.bool yh,.bool yd] 149) (Below.refl _ w)) h
 have hB:=World.block_lt_of_cell? _ _ h
 simp only at hB
 go_enter Tryz.func206,Tryz.ntmps206
 go_wp2_with fail
 all_goals
  go_ret
  refine ⟨Ag (Bool.eq_iff_iff.2 ?_),Af (Below.refl _ _)⟩
  simp
def As4 (B:Nat):Value:=.func (.func 206) #[] #[.pointer (some ⟨B,0,none⟩)]
set_option maxRecDepth 100000 in
theorem Z6 (n:Int) (l:List Sub) (B:Nat) (v:Value) (w:World) (h:M4 w w.heap.size v l) (ho:w.cell? ⟨B,0,none⟩=some (.int .i64 n)) :
  Calls Tryz.prog 205 #[v,As4 B] w fun e w'=>e=.returned (.int .i64 (Dx (Lw n) 0 l))/\Below w.heap.size w w':=by
 have hle:=h.len_le
 obtain ⟨A,c,rfl,-⟩:=id h
 have Ho:=Lib.hid ho
 have HH:=Lib.hid h
 clear ho h
 unfold As4
 go_enter Tryz.func205,Tryz.ntmps205
 go_wp2_with fail
 go_loopw [8] (fun k wr=>∃ (m:Nat) (z:BW w),m<=l.length/\k=.int .i64 m/\Dx (Lw n) 0 l=Dx (Lw n) m (l.drop m)/\wr=z.val) (fun k _=>l.length - (intOf k).toNat)
 case atStart=>exact ⟨0,BW.self w,Nat.zero_le _,rfl,rfl,rfl⟩
 case round =>
  obtain ⟨m,z,hm,rfl,hv,rfl⟩:=hrel
  by_cases hlt:m < l.length
  ·obtain ⟨y,hy⟩ : ∃ y,l[m]? = some y:=⟨l[m],List.getElem?_eq_getElem hlt⟩
   obtain ⟨b,off,_,vi,hv',hbb,e0,e1,e2,e3,e4,e5,e6,hs,-,-,-⟩:=Wo (HH.out.next z.below) hy
   injection hv' with hv1 hv2 hv3
   subst hv1
   rw [E6 hy,Dx] at hv
   obtain ⟨yf,yi,ys,yq,yl,yh,yd⟩:=y
   obtain ⟨A4,c4,rfl,-⟩:=id hs
   unfold Lw at hv
   simp only at e0 e1 e2 e3 e4 e5 e6 hv
   have HC:=Lib.hid (A59 n yf ys yq A4 yi.length c4 yl yh yd B z.val (z.cell Ho.out))
   generalize decide (yf=n)=r at hv HC
   have HV:=Lib.hid hv
   clear hv hv2 hv3 hy hs
   go_wp2_with fail
   refine BW.call (z:=z) HC.out ?_
   clear HC e0 e1 e2 e3 e4 e5 e6
   intro z1
   cases r<;>go_wp2_with fail
   ·refine ⟨⟨m+1,z1,by omega,by go_num,?_,rfl⟩,by simp [intOf];omega⟩
    exact HV.out.trans (by rw [if_neg (by simp)];rfl)
   ·go_ret
    exact ⟨Mc (HV.out.trans (by simp)).symm,z1.below⟩
  ·obtain rfl:m=l.length:=by omega
   rw [List.drop_length] at hv
   have HV:=Lib.hid hv
   clear hv
   go_wp2_with fail
   go_ret
   exact ⟨Mc HV.out.symm,z.below⟩
theorem Ae2 (n:Int) (l:List Sub) (v:Value) (w:World) (h:M4 w w.heap.size v l) :
  Calls Tryz.prog 161 #[v,.int .i64 n] w fun e w'=>e=.returned (.int .i64 (Dx (Lw n) 0 l))/\Below w.heap.size w w':=by
 have kB:=Af (o:=.cells #[.int .i64 n] 3) (Below.refl _ w)
 have HC:=Lib.hid (Z6 n l w.heap.size v _ (h.next kB) ((Blk.new w 3 #[.int .i64 n]).cell 0))
 generalize Dx (Lw n) 0 l=k at HC ⊢
 unfold As4 at HC
 obtain ⟨A,c,rfl,-⟩:=id h
 clear h
 go_enter Tryz.func161,Tryz.ntmps161
 go_wp2_with fail
 refine BW.call (z:=(BW.self w).alloc _) HC.out ?_
 intro z
 go_wp2_with fail
 go_ret
 exact ⟨rfl,z.below⟩
def Pf (x:Dc):Bool:=decide (0<=x.object/\x.object<=255)&&Bm x.stamp.count x.stamp.node&&decide (x.value.length<=256)
def K2 (x:Dc):Bool:=decide (x.stamp.count=0/\x.stamp.node=0)&&decide (x.value.length=0)
def Wu (m:Msg):Bool:=decide (m.interest.length=0/\m.vector.length=0/\m.notes.length=0/\m.session=0/\m.seq=0)
def Gd (m:Msg):Bool :=
  Dk m.from_&&Dk m.to_ &&
  (if m.kind=1 then decide (0<=m.session/\m.seq=0/\m.notes.length=0/\m.body.object=0/\0 < m.interest.length)&&K2 m.body&&Ci m.interest&&Av m.vector
   else if m.kind=3 then decide (m.notes.length<=257/\0<=m.session/\0<=m.seq/\m.interest.length=0/\m.vector.length=0/\m.body.object=0)&&K2 m.body&&m.notes.all Al
   else Wu m&&(if m.kind=2 then decide (m.body.object=0)&&K2 m.body else if m.kind=4 then decide (0<=m.body.object/\m.body.object<=255)&&K2 m.body else if m.kind=5 then Pf m.body else false))
theorem Mw (n:Int) (w:World):Calls Tryz.prog 203 #[.int .i64 n] w fun e w'=>e=.returned (.bool (Dk n))/\w=w':=by
 go_enter Tryz.func203,Tryz.ntmps203
 go_wp2_with fail
 all_goals (go_ret;refine ⟨Ag (Bool.eq_iff_iff.2 ?_),rfl⟩;(simp [Dk]<;>omega))
theorem Ay1 (o c n:Int) (A:Option Addr) (k cp:Nat) (w:World) (hk:k<=1073741824) :
  Calls Tryz.prog 204 #[.agg #[.int .i64 o,.int .i64 c,.int .i64 n,.slice A k cp]] w fun e w'=>e=.returned (.bool (decide (0<=o/\o<=255)&&Bm c n&&decide (k<=256)))/\Below w.heap.size w w':=by
 generalize hr:Bm c n=r
 have HR:=Lib.hid hr
 clear hr
 by_cases ho:0<=o/\o<=255
 ·rw [decide_eq_true ho]
  obtain ⟨h1,h2⟩:=ho
  have h3:o < 256:=by omega
  go_enter Tryz.func204,Tryz.ntmps204
  go_wp2_with fail
  have kB:=Af (o:=.cells #[.int .i64 o,.int .i64 c,.int .i64 n,.slice A k cp] 44) (Below.refl _ w)
  have B:=Blk.new w 44 #[.int .i64 o,.int .i64 c,.int .i64 n,.slice A k cp]
  generalize hW:w.alloc _=W at *
  have B3:=Lib.hid (B.cell 3)
  have q3:∀ z:BW W,z.val.cell? ⟨w.heap.size,3,none⟩=some (.slice A k cp):=fun z=>z.cell B3.out
  clear hW B
  refine BW.start (w:=W) ?_
  intro z
  refine BW.callR (z:=z) (Ry _ _ _) (congrArg Value.bool HR.out) ?_
  clear z
  intro z
  cases r
  ·go_wp2_with fail
   go_ret
   exact ⟨rfl,As kB z.below⟩
  ·go_wp2_with fail
   go_ret
   exact ⟨Ag (Bool.eq_iff_iff.2 (by simp<;>omega)),As kB z.below⟩
 ·rw [decide_eq_false ho]
  go_enter Tryz.func204,Tryz.ntmps204
  go_wp2_with fail
  all_goals first | (go_ret;exact ⟨Ag (Bool.eq_iff_iff.2 (by simp<;>omega)),Af (Below.refl _ _)⟩) | (exfalso;simp at *;omega)
theorem A93 {α:Type} {p:α->Bool} {l:List α} {i:Nat} {x:α} (h:l[i]? = some x) (hp:p x=true) (hn:∀ k y,k < i->l[k]? = some y->p y=false):l.findIdx? p=some i:=by
 obtain ⟨h1,h2⟩:=List.getElem?_eq_some_iff.1 h
 rw [List.findIdx?_eq_some_iff_getElem]
 refine ⟨h1,by rw [h2];exact hp,fun j hj=>?_⟩
 rw [hn j l[j] hj (List.getElem?_eq_getElem (by omega))]
 simp
theorem A94 {α:Type} {p:α->Bool} {l:List α} (h:∀ x∈l,p x=false):l.findIdx? p=none:=by
 rw [List.findIdx?_eq_none_iff]
 exact h
def Bf9 (s:Sub):Sub:={ s with live:=false,heard:=false }
def D18 (l:List Sub) (n:Int):List Sub×Int :=
 if Fa l=true then (match l.findIdx? (Lw n) with
  | none=>([],16)
  | some i=>match l[i]? with
   | none=>([],16)
   | some s=>(l.set i (Bf9 s),0)) else ([],1)
def Mt (m:Msg) (s:Sub):Bool:=decide (s.from_=m.from_)&&decide (s.session=m.session)
def A52 (m:Msg) (s:Sub):Sub:={ s with seq:=Fk m.seq,live:=true,heard:=true,idle:=decide (m.notes.length=0) }
def P9 (l:List Sub) (m:Msg):Bool:=Fa l&&Gd m&&decide (m.kind=3)
def Qe (l:List Sub) (m:Msg) (i:Nat) (s:Sub):List Sub×Int:=if m.seq < s.seq then ([],13) else if s.seq < m.seq then ([],3) else (l.set i (A52 m s),0)
def Rl (l:List Sub) (m:Msg):List Sub×Int :=
 if P9 l m=true then (match l.findIdx? (Mt m) with
  | none=>([],13)
  | some i=>match l[i]? with
   | none=>([],13)
   | some s=>Qe l m i s) else ([],1)
theorem Uv {l:List Sub} {m:Msg} (h:P9 l m=false):Rl l m=([],1):=by rw [Rl,if_neg (by simp [h])]
theorem Bc4 {l:List Sub} {m:Msg} {i:Nat} {x:Sub} (hf:P9 l m=true) (h:l[i]? = some x) (hp:Mt m x=true) (hn:∀ k y,k < i->l[k]? = some y->Mt m y=false):Rl l m=Qe l m i x:=by
 rw [Rl,if_pos hf,A93 h hp hn]
 simp only [h]
theorem Yh {l:List Sub} {m:Msg} (hf:P9 l m=true) (h:∀ x∈l,Mt m x=false):Rl l m=([],13):=by
 rw [Rl,if_pos hf,A94 h]
theorem Lk:∀ {l:List Sub} {e:Int},Fh e l=true->∀ {x:Sub},x∈l->e < x.from_
 | [],_,_,_,hx=>by cases hx
 | y :: l,e,h,x,hx=>by
  simp only [Fh,Bool.and_eq_true,decide_eq_true_eq] at h
  rcases List.mem_cons.1 hx with rfl | hx
  ·exact h.1.1.1.1
  ·have:=Lk h.2 hx
   omega
theorem Rb:∀ {l:List Sub} {e:Int},Fh e l=true->∀ {i j:Nat} {x y:Sub},l[i]? = some x->l[j]? = some y->x.from_=y.from_->i=j
 | [],_,_,i,_,_,_,h,_,_=>by simp at h
 | z :: l,e,h,i,j,x,y,hx,hy,he=>by
  simp only [Fh,Bool.and_eq_true,decide_eq_true_eq] at h
  cases i with
  | zero =>
   cases j with
   | zero=>rfl
   | succ j =>
    simp at hx hy
    subst hx
    have:=Lk h.2 (List.mem_of_getElem? hy)
    omega
  | succ i =>
   cases j with
   | zero =>
    simp at hx hy
    subst hy
    have:=Lk h.2 (List.mem_of_getElem? hx)
    omega
   | succ j=>exact congrArg (·+1) (Rb h.2 (i:=i) (j:=j) (x:=x) (y:=y) (by simpa using hx) (by simpa using hy) he)
theorem Xg {l:List Sub} (h:Fa l=true) {x:Sub} (hx:x∈l):M2 x.seq=true/\M2 x.session=true/\Dk x.from_=true:=by
 have:∀ {l:List Sub} {e:Int},Fh e l=true->x∈l->M2 x.seq=true/\M2 x.session=true/\Dk x.from_=true:=by
  intro l
  induction l with
  | nil=>intro e _ hx;cases hx
  | cons y l ih =>
   intro e h hx
   simp only [Fh,Bool.and_eq_true] at h
   rcases List.mem_cons.1 hx with rfl | hx
   ·exact ⟨h.1.2,h.1.1.2,h.1.1.1.2.1⟩
   ·exact ih h.2 hx
 simp only [Fa,Bool.and_eq_true] at h
 exact this h.1 hx
theorem Az6 {l:List Sub} {m:Msg} {i:Nat} {x:Sub} (hf:Fa l=true) (h:l[i]? = some x) (h1:x.from_=m.from_) (h2:¬ x.session=m.session):∀ y∈l,Mt m y=false:=by
 intro y hy
 simp only [Fa,Bool.and_eq_true] at hf
 obtain ⟨j,hj⟩:=List.mem_iff_getElem?.1 hy
 by_cases e:y.from_=m.from_
 ·have:=Rb hf.1 h hj (by rw [h1,e])
  subst this
  rw [h] at hj
  injection hj with hj
  subst hj
  simp [Mt,h2]
 ·simp [Mt,e]
def Kd (r:List Sub×Int) (V w:World) (e:Ending) (w':World):Prop:=∃ v,e=.returned (.tuple #[v,.int .i64 r.2])/\M4 (H8 V w w') (H8 V w w').heap.size v r.1/\Below w.heap.size w w'
theorem Kd.nil_ {n:Int} {r:List Sub×Int} {V w w':World} (hr:r=([],n)) (hb:Below w.heap.size w w'):Kd r V w (.returned (.tuple #[.slice none 0 0,.int .i64 n])) w':=by
 subst hr
 exact ⟨_,rfl,Sl.nil_ (by unfold maxLen;omega) _,hb⟩
theorem Ke.setB {V w0 w:World} {base:Nat} {e:TypeId} {g c i j:Nat} {l:List Sub} {u:Value} {x x':Sub} (h:Ke V w0 w base e (.slice (some ⟨g,0,none⟩) l.length c) l) (hi:l[i]? = some x) (hj:j < 7)
  (hR:∀ W cs,Aa8 W W.heap.size cs x->cs.length=7->Aa8 W W.heap.size (cs.set j u) x'):Ke V w0 (w.setCell ⟨g,i*7+j,none⟩ u) base e (.slice (some ⟨g,0,none⟩) (l.set i x').length c) (l.set i x') :=
 Po.set_ h hi hj fun cs=>hR _ cs
set_option maxRecDepth 100000 in
set_option maxHeartbeats 1600000 in
theorem Ab7 (x:Msg) (vi vv vn vb:Value) (w:World) (hI:B65 x) (h:Zn w w.heap.size vi vv vn vb x) (hT:A8 w) (k1:x.kind=1) :
  Calls Tryz.prog 160 #[.agg #[.int .i64 x.kind,.int .i64 x.from_,.int .i64 x.to_,.int .i64 x.session,.int .i64 x.seq,vi,vv,vn,.int .i64 x.body.object,.int .i64 x.body.stamp.count,.int .i64 x.body.stamp.node,vb]] w fun e w'=>e=.returned (.bool (Gd x))/\Below w.heap.size w w':=by
 have hl1:=h.interest.len_le
 have hl2:=h.vector.len_le
 have hl3:=h.notes.len_le
 have hl4:=h.value.len_le
 obtain ⟨A1,c1,rfl,-⟩:=id h.interest
 obtain ⟨A2,c2,rfl,-⟩:=id h.vector
 obtain ⟨A3,c3,rfl,-⟩:=id h.notes
 obtain ⟨A4,c4,rfl,-⟩:=id h.value
 have HH:=Lib.hid h
 have HT:=Lib.hid hT
 clear h hT
 obtain ⟨kd,fr,tt,se,sq,li,lv,ln,⟨bo,⟨bc,bn⟩,lb⟩⟩:=x
 dsimp only at *
 unfold Gd
 dsimp only
 generalize hv:(Dk fr&&Dk tt&&_:Bool)=V
 unfold Wu Pf K2 at hv
 dsimp only at hv
 generalize hr1:Dk fr=r1 at hv
 generalize hr2:Dk tt=r2 at hv
 have HE:=Lib.hid (rfl:ln=ln)
 generalize hn1:li.length=n1 at *
 generalize hn2:lv.length=n2 at *
 generalize hn3:ln.length=n3 at *
 generalize hn4:lb.length=n4 at *
 have HV:=Lib.hid hv
 have HN1:=Lib.hid hn1
 have HN2:=Lib.hid hn2
 have HN3:=Lib.hid hn3
 have H1:=Lib.hid hr1
 have H2:=Lib.hid hr2
 clear hr1 hr2 hv hn1 hn2 hn3 hn4 hI
 subst k1
 go_enter Tryz.func160,Tryz.ntmps160
 go_wp2_with fail
 refine BW.sameR (Mw _ _) (congrArg Value.bool H1.out) ?_
 cases r1
 ·go_wp2_with fail
  go_ret
  exact ⟨Ag (by rw [<-HV.out];simp),Af (Below.refl _ _)⟩
 go_wp2_with fail
 refine BW.sameR (Mw _ _) (congrArg Value.bool H2.out) ?_
 cases r2
 ·go_wp2_with fail
  go_ret
  exact ⟨Ag (by rw [<-HV.out];simp),Af (Below.refl _ _)⟩
 clear H1 H2
 by_cases hok:0<=se/\sq=0/\n3=0/\bo=0/\0 < n1/\bc=0/\bn=0/\n4=0
 ·obtain ⟨q1,rfl,rfl,rfl,q2,rfl,rfl,rfl⟩:=hok
  generalize hr1:Ci li=r1 at HV
  generalize hr2:Av lv=r2 at HV
  have H1:=Lib.hid hr1
  have H2:=Lib.hid hr2
  have HW:=Lib.hid (show V=(r1&&r2) by rw [<-HV.out];simp [q1,q2])
  clear HV hr1 hr2
  go_wp2_with fail
  have kB:=Af (o:=.cells #[.int .i64 1,.int .i64 fr,.int .i64 tt,.int .i64 se,.int .i64 0,.slice A1 n1 c1,.slice A2 n2 c2,.slice A3 0 c3,.int .i64 0,.int .i64 0,.int .i64 0,.slice A4 0 c4] 89) (Below.refl _ w)
  have B:=Blk.new w 89 #[.int .i64 1,.int .i64 fr,.int .i64 tt,.int .i64 se,.int .i64 0,.slice A1 n1 c1,.slice A2 n2 c2,.slice A3 0 c3,.int .i64 0,.int .i64 0,.int .i64 0,.slice A4 0 c4]
  generalize hW:w.alloc _=W at *
  have B5:=Lib.hid (B.cell 5)
  have B6:=Lib.hid (B.cell 6)
  have q6:∀ z:BW W,z.val.cell? ⟨w.heap.size,6,none⟩=some (.slice A2 n2 c2):=fun z=>z.cell B6.out
  clear hW B
  refine BW.start (w:=W) ?_
  intro z
  refine BW.callR (z:=z) (Ln li _ _ ((HH.out.next kB).next z.below).interest) (congrArg Value.bool H1.out) ?_
  clear z
  intro z
  cases r1
  ·go_wp2_with fail
   go_ret
   exact ⟨Ag (by rw [HW.out];rfl),As kB z.below⟩
  go_wp2_with fail
  refine BW.callR (z:=z) (Kw lv _ _ ((HH.out.next kB).next z.below).vector) (congrArg Value.bool H2.out) ?_
  clear z
  intro z
  go_wp2_with fail
  go_ret
  exact ⟨Ag (by rw [HW.out];rfl),As kB z.below⟩
 ·obtain rfl:V=false:=by
   rw [<-HV.out]
   simp
   omega
  go_wp2_with fail
  all_goals first | (go_ret;exact ⟨rfl,Af (Below.refl _ _)⟩) | (exfalso;simp at *;omega)
set_option maxRecDepth 100000 in
set_option maxHeartbeats 1600000 in
theorem Ab6 (x:Msg) (vi vv vn vb:Value) (w:World) (hI:B65 x) (h:Zn w w.heap.size vi vv vn vb x) (hT:A8 w) (k3:x.kind=3) :
  Calls Tryz.prog 160 #[.agg #[.int .i64 x.kind,.int .i64 x.from_,.int .i64 x.to_,.int .i64 x.session,.int .i64 x.seq,vi,vv,vn,.int .i64 x.body.object,.int .i64 x.body.stamp.count,.int .i64 x.body.stamp.node,vb]] w fun e w'=>e=.returned (.bool (Gd x))/\Below w.heap.size w w':=by
 have hl1:=h.interest.len_le
 have hl2:=h.vector.len_le
 have hl3:=h.notes.len_le
 have hl4:=h.value.len_le
 obtain ⟨A1,c1,rfl,-⟩:=id h.interest
 obtain ⟨A2,c2,rfl,-⟩:=id h.vector
 obtain ⟨A3,c3,rfl,-⟩:=id h.notes
 obtain ⟨A4,c4,rfl,-⟩:=id h.value
 have HH:=Lib.hid h
 have HT:=Lib.hid hT
 clear h hT
 obtain ⟨kd,fr,tt,se,sq,li,lv,ln,⟨bo,⟨bc,bn⟩,lb⟩⟩:=x
 dsimp only at *
 unfold Gd
 dsimp only
 generalize hv:(Dk fr&&Dk tt&&_:Bool)=V
 unfold Wu Pf K2 at hv
 dsimp only at hv
 generalize hr1:Dk fr=r1 at hv
 generalize hr2:Dk tt=r2 at hv
 have HE:=Lib.hid (rfl:ln=ln)
 generalize hn1:li.length=n1 at *
 generalize hn2:lv.length=n2 at *
 generalize hn3:ln.length=n3 at *
 generalize hn4:lb.length=n4 at *
 have HV:=Lib.hid hv
 have HN1:=Lib.hid hn1
 have HN2:=Lib.hid hn2
 have HN3:=Lib.hid hn3
 have H1:=Lib.hid hr1
 have H2:=Lib.hid hr2
 clear hr1 hr2 hv hn1 hn2 hn3 hn4 hI
 subst k3
 go_enter Tryz.func160,Tryz.ntmps160
 go_wp2_with fail
 refine BW.sameR (Mw _ _) (congrArg Value.bool H1.out) ?_
 cases r1
 ·go_wp2_with fail
  go_ret
  exact ⟨Ag (by rw [<-HV.out];simp),Af (Below.refl _ _)⟩
 go_wp2_with fail
 refine BW.sameR (Mw _ _) (congrArg Value.bool H2.out) ?_
 cases r2
 ·go_wp2_with fail
  go_ret
  exact ⟨Ag (by rw [<-HV.out];simp),Af (Below.refl _ _)⟩
 clear H1 H2
 by_cases hok:n3<=257/\0<=se/\0<=sq/\n1=0/\n2=0/\bo=0/\bc=0/\bn=0/\n4=0
 ·obtain ⟨q1,q2,q3,rfl,rfl,rfl,rfl,rfl,rfl⟩:=hok
  have HW:=Lib.hid (show V=ln.all Al by rw [<-HV.out];simp [q1,q2,q3])
  clear HV
  have HB:=Lib.hid hl3
  go_wp2_with fail
  have kB:=Af (o:=.cells #[.int .i64 3,.int .i64 fr,.int .i64 tt,.int .i64 se,.int .i64 sq,.slice A1 0 c1,.slice A2 0 c2,.slice A3 n3 c3,.int .i64 0,.int .i64 0,.int .i64 0,.slice A4 0 c4] 89) (Below.refl _ w)
  go_loopw [115] (fun i wr=>∃ (m:Nat) (z:BW w),m<=n3/\i=.int .i64 m/\ln.all Al=(ln.drop m).all Al/\wr=z.val) (fun i _=>n3 - (intOf i).toNat)
  case atStart=>exact ⟨0,⟨_,kB⟩,Nat.zero_le _,rfl,rfl,rfl⟩
  case round =>
   obtain ⟨m,z,hm,rfl,hv,rfl⟩:=hrel
   by_cases hlt:m < n3
   ·obtain ⟨y,hy⟩ : ∃ y,ln[m]? = some y:=⟨ln[m]'(by rw [HN3.out];exact hlt),List.getElem?_eq_getElem (by rw [HN3.out];exact hlt)⟩
    obtain ⟨b,off,c',v0,v1,v2,v3,hv',hbb,e0,e1,e2,e3,hn⟩:=Bb2 HH.out.notes hy
    rw [HN3.out] at hv'
    injection hv' with hv1 hv2 hv3
    rw [E6 hy,List.all_cons] at hv
    subst hv1
    replace e0:=z.cell e0
    replace e1:=z.cell e1
    replace e2:=z.cell e2
    replace e3:=z.cell e3
    obtain ⟨a0,d0,rfl,-⟩:=id hn.start
    obtain ⟨a1,d1,rfl,-⟩:=id hn.end_
    obtain ⟨a2,d2,rfl,-⟩:=id hn.blur
    obtain ⟨a3,d3,rfl,-⟩:=id hn.writes
    generalize hr:Al y=r at hv
    have HR:=Lib.hid hr
    have HY:=Lib.hid hv
    have HQ:=Lib.hid hn
    clear hv hv2 hv3 hr hy hn kB
    generalize hs0:y.start.length=s0 at *
    generalize hs1:y.end_.length=s1 at *
    generalize hs2:y.blur.length=s2 at *
    generalize hs3:y.writes.length=s3 at *
    clear hs0 hs1 hs2 hs3
    go_wp2_with fail
    refine BW.callR (z:=z.alloc _) (Q7 y _ _ _ _ _ (HQ.out.next (z.alloc _).below) (HT.out.next (z.alloc _).below)) (congrArg Value.bool HR.out) ?_
    intro z1
    clear e0 e1 e2 e3
    cases r
    ·go_wp2_with fail
     go_ret
     exact ⟨Ag (by rw [HW.out,HY.out];rfl),z1.below⟩
    ·go_wp2_with fail
     refine ⟨⟨m+1,z1,by omega,by go_num,?_,rfl⟩,by simp [intOf];omega⟩
     rw [HY.out];rfl
   ·obtain rfl:m=n3:=by omega
    have HX:=Lib.hid (show V=true by rw [HW.out,hv,List.drop_of_length_le (by rw [HN3.out];exact Nat.le_refl _)];rfl)
    clear hv
    go_wp2_with fail
    go_ret
    exact ⟨Ag HX.out.symm,z.below⟩
 ·obtain rfl:V=false:=by
   rw [<-HV.out]
   simp
   omega
  go_wp2_with fail
  all_goals first | (go_ret;exact ⟨rfl,Af (Below.refl _ _)⟩) | (exfalso;simp at *;omega)
set_option maxRecDepth 100000 in
set_option maxHeartbeats 1600000 in
theorem Ab8 (x:Msg) (vi vv vn vb:Value) (w:World) (hI:B65 x) (h:Zn w w.heap.size vi vv vn vb x) (hT:A8 w) (k1:¬ x.kind=1) (k3:¬ x.kind=3) :
  Calls Tryz.prog 160 #[.agg #[.int .i64 x.kind,.int .i64 x.from_,.int .i64 x.to_,.int .i64 x.session,.int .i64 x.seq,vi,vv,vn,.int .i64 x.body.object,.int .i64 x.body.stamp.count,.int .i64 x.body.stamp.node,vb]] w fun e w'=>e=.returned (.bool (Gd x))/\Below w.heap.size w w':=by
 have hl1:=h.interest.len_le
 have hl2:=h.vector.len_le
 have hl3:=h.notes.len_le
 have hl4:=h.value.len_le
 obtain ⟨A1,c1,rfl,-⟩:=id h.interest
 obtain ⟨A2,c2,rfl,-⟩:=id h.vector
 obtain ⟨A3,c3,rfl,-⟩:=id h.notes
 obtain ⟨A4,c4,rfl,-⟩:=id h.value
 have HH:=Lib.hid h
 have HT:=Lib.hid hT
 clear h hT
 obtain ⟨kd,fr,tt,se,sq,li,lv,ln,⟨bo,⟨bc,bn⟩,lb⟩⟩:=x
 dsimp only at *
 unfold Gd
 dsimp only
 generalize hv:(Dk fr&&Dk tt&&_:Bool)=V
 unfold Wu Pf K2 at hv
 dsimp only at hv
 generalize hr1:Dk fr=r1 at hv
 generalize hr2:Dk tt=r2 at hv
 have HE:=Lib.hid (rfl:ln=ln)
 generalize hn1:li.length=n1 at *
 generalize hn2:lv.length=n2 at *
 generalize hn3:ln.length=n3 at *
 generalize hn4:lb.length=n4 at *
 have HV:=Lib.hid hv
 have HN1:=Lib.hid hn1
 have HN2:=Lib.hid hn2
 have HN3:=Lib.hid hn3
 have H1:=Lib.hid hr1
 have H2:=Lib.hid hr2
 clear hr1 hr2 hv hn1 hn2 hn3 hn4 hI
 go_enter Tryz.func160,Tryz.ntmps160
 go_wp2_with fail
 refine BW.sameR (Mw _ _) (congrArg Value.bool H1.out) ?_
 cases r1
 ·go_wp2_with fail
  go_ret
  exact ⟨Ag (by rw [<-HV.out];simp),Af (Below.refl _ _)⟩
 go_wp2_with fail
 refine BW.sameR (Mw _ _) (congrArg Value.bool H2.out) ?_
 cases r2
 ·go_wp2_with fail
  go_ret
  exact ⟨Ag (by rw [<-HV.out];simp),Af (Below.refl _ _)⟩
 clear H1 H2
 have k1':(kd==1)=false:=by simpa using k1
 have k3':(kd==3)=false:=by simpa using k3
 simp only [if_neg k1,if_neg k3] at HV
 by_cases hok:n1=0/\n2=0/\n3=0/\se=0/\sq=0
 ·obtain ⟨rfl,rfl,rfl,rfl,rfl⟩:=hok
  by_cases k2:kd=2
  ·subst k2
   by_cases hb:bc=0/\bn=0/\n4=0/\bo=0
   ·obtain ⟨rfl,rfl,rfl,rfl⟩:=hb
    obtain rfl:V=true:=by rw [<-HV.out];rfl
    go_wp2_with fail
    go_ret
    exact ⟨rfl,Af (Below.refl _ _)⟩
   ·obtain rfl:V=false:=by
     rw [<-HV.out]
     simp
     omega
    go_wp2_with fail
    all_goals first | (go_ret;exact ⟨rfl,Af (Below.refl _ _)⟩) | (go_ret;exact ⟨Ag (Bool.eq_iff_iff.2 (by simp<;>omega)),Af (Below.refl _ _)⟩) | (exfalso;simp at *;omega)
  have k2':(kd==2)=false:=by simpa using k2
  by_cases k4:kd=4
  ·subst k4
   by_cases hb:bc=0/\bn=0/\n4=0/\0<=bo/\bo<=255
   ·obtain ⟨rfl,rfl,rfl,g1,g2⟩:=hb
    have g3:bo < 256:=by omega
    obtain rfl:V=true:=by rw [<-HV.out];simp [g1,g2]
    go_wp2_with fail
    go_ret
    exact ⟨rfl,Af (Below.refl _ _)⟩
   ·obtain rfl:V=false:=by
     rw [<-HV.out]
     simp
     omega
    go_wp2_with fail
    all_goals first | (go_ret;exact ⟨rfl,Af (Below.refl _ _)⟩) | (go_ret;exact ⟨Ag (Bool.eq_iff_iff.2 (by simp<;>omega)),Af (Below.refl _ _)⟩) | (exfalso;simp at *;omega)
  have k4':(kd==4)=false:=by simpa using k4
  by_cases k5:kd=5
  ·subst k5
   have HW:=Lib.hid (show V=(decide (0<=bo/\bo<=255)&&Bm bc bn&&decide (n4<=256)) by rw [<-HV.out];simp)
   clear HV
   go_wp2_with fail
   all_goals
    refine BW.callR (z:=(BW.self w).alloc _) (Ay1 _ _ _ _ _ _ _ hl4) rfl ?_
    intro z
    go_wp2_with fail
    go_ret
    exact ⟨Ag (by rw [HW.out];simp [*]),z.below⟩
  ·have k5':(kd==5)=false:=by simpa using k5
   obtain rfl:V=false:=by
    rw [<-HV.out]
    simp [k2,k4,k5]
   go_wp2_with fail
   all_goals first | (go_ret;exact ⟨rfl,Af (Below.refl _ _)⟩) | (go_ret;exact ⟨Ag (Bool.eq_iff_iff.2 (by simp<;>omega)),Af (Below.refl _ _)⟩) | (exfalso;simp at *;omega)
 ·obtain rfl:V=false:=by
   rw [<-HV.out]
   simp
   omega
  have hcs:(0:Int) < (n1:Int)+n2\/(n1=0/\n2=0/\(0:Int) < (n3:Int))\/(n1=0/\n2=0/\n3=0/\¬ se=0)\/(n1=0/\n2=0/\n3=0/\se=0/\¬ sq=0):=by omega
  rcases hcs with g | ⟨rfl,rfl,g⟩ | ⟨rfl,rfl,rfl,g⟩ | ⟨rfl,rfl,rfl,rfl,g⟩
  ·go_wp2_with fail
   all_goals (go_ret;exact ⟨rfl,Af (Below.refl _ _)⟩)
  ·go_wp2_with fail
   all_goals (go_ret;exact ⟨rfl,Af (Below.refl _ _)⟩)
  ·have g':(se != 0)=true:=by simpa using g
   go_wp2_with fail
   all_goals (go_ret;exact ⟨rfl,Af (Below.refl _ _)⟩)
  ·have g':(sq != 0)=true:=by simpa using g
   go_wp2_with fail
   all_goals (go_ret;exact ⟨rfl,Af (Below.refl _ _)⟩)
theorem Am4 (x:Msg) (vi vv vn vb:Value) (w:World) (hI:B65 x) (h:Zn w w.heap.size vi vv vn vb x) (hT:A8 w) :
  Calls Tryz.prog 160 #[.agg (Tj vi vv vn vb x)] w fun e w'=>e=.returned (.bool (Gd x))/\Below w.heap.size w w':=by
 by_cases k3:x.kind=3
 ·exact Ab6 x vi vv vn vb w hI h hT k3
 ·by_cases k1:x.kind=1
  ·exact Ab7 x vi vv vn vb w hI h hT k1
  ·exact Ab8 x vi vv vn vb w hI h hT k1 k3
set_option maxRecDepth 100000 in
set_option maxHeartbeats 3200000 in
theorem Ae1 (m:Msg) (l:List Sub) (v vi vv vn vb:Value) (V w:World) (hV:Ext V w) (h:M4 V V.heap.size v l) (hI:B65 m) (hM:Zn w w.heap.size vi vv vn vb m) (hT:A8 w) :
  Calls Tryz.prog 85 #[v,.agg (Tj vi vv vn vb m)] w fun e w'=>Kd (Rl l m) V w e w':=by
 have hle:=h.len_le
 have HH0:=Lib.hid h
 have HH:=Lib.hid (M4.ext h hV)
 have HM:=Lib.hid hM
 have HT:=Lib.hid hT
 have HI:=Lib.hid hI
 obtain ⟨A,c,rfl,-⟩:=id h
 obtain ⟨A1,c1,rfl,-⟩:=id hM.interest
 obtain ⟨A2,c2,rfl,-⟩:=id hM.vector
 obtain ⟨A3,c3,rfl,-⟩:=id hM.notes
 obtain ⟨A4,c4,rfl,-⟩:=id hM.value
 have hl3:=hM.notes.len_le
 generalize hr1:Fa l=r1
 generalize hr2:Gd m=r2
 have H1:=Lib.hid hr1
 have H2:=Lib.hid hr2
 generalize hs:Rl l m=res
 have HS:=Lib.hid hs
 clear h hr1 hr2 hs hM hT hI
 have HC2:=Lib.hid (fun (W:World) (z:BW W) (kB:Below w.heap.size w W)=>Am4 m _ _ _ _ z.val HI.out ((HM.out.next kB).next z.below) ((HT.out.next kB).next z.below))
 rw [H2.out] at HC2
 obtain ⟨kd,fr,tt,se,sq,li,lv,ln,⟨bo,⟨bc,bn⟩,lb⟩⟩:=m
 dsimp only [Tj] at *
 go_enter Tryz.func85,Tryz.ntmps85
 go_wp2_with fail
 have kB:=Af (o:=.cells #[.int .i64 kd,.int .i64 fr,.int .i64 tt,.int .i64 se,.int .i64 sq,.slice A1 li.length c1,.slice A2 lv.length c2,.slice A3 ln.length c3,.int .i64 bo,.int .i64 bc,.int .i64 bn,.slice A4 lb.length c4] 89) (Below.refl _ w)
 have B:=Blk.new w 89 #[.int .i64 kd,.int .i64 fr,.int .i64 tt,.int .i64 se,.int .i64 sq,.slice A1 li.length c1,.slice A2 lv.length c2,.slice A3 ln.length c3,.int .i64 bo,.int .i64 bc,.int .i64 bn,.slice A4 lb.length c4]
 generalize hW:w.alloc _=W at *
 have HB:=Lib.hid B
 clear hW B
 have q0:∀ z:BW W,z.val.cell? ⟨w.heap.size,0,none⟩=some (.int .i64 kd):=fun z=>z.cell (HB.out.cell 0)
 have q1:∀ z:BW W,z.val.cell? ⟨w.heap.size,1,none⟩=some (.int .i64 fr):=fun z=>z.cell (HB.out.cell 1)
 have q2:∀ z:BW W,z.val.cell? ⟨w.heap.size,2,none⟩=some (.int .i64 tt):=fun z=>z.cell (HB.out.cell 2)
 have q3:∀ z:BW W,z.val.cell? ⟨w.heap.size,3,none⟩=some (.int .i64 se):=fun z=>z.cell (HB.out.cell 3)
 have q4:∀ z:BW W,z.val.cell? ⟨w.heap.size,4,none⟩=some (.int .i64 sq):=fun z=>z.cell (HB.out.cell 4)
 have q5:∀ z:BW W,z.val.cell? ⟨w.heap.size,5,none⟩=some (.slice A1 li.length c1):=fun z=>z.cell (HB.out.cell 5)
 have q6:∀ z:BW W,z.val.cell? ⟨w.heap.size,6,none⟩=some (.slice A2 lv.length c2):=fun z=>z.cell (HB.out.cell 6)
 have q7:∀ z:BW W,z.val.cell? ⟨w.heap.size,7,none⟩=some (.slice A3 ln.length c3):=fun z=>z.cell (HB.out.cell 7)
 have q8:∀ z:BW W,z.val.cell? ⟨w.heap.size,8,none⟩=some (.int .i64 bo):=fun z=>z.cell (HB.out.cell 8)
 have q9:∀ z:BW W,z.val.cell? ⟨w.heap.size,9,none⟩=some (.int .i64 bc):=fun z=>z.cell (HB.out.cell 9)
 have q10:∀ z:BW W,z.val.cell? ⟨w.heap.size,10,none⟩=some (.int .i64 bn):=fun z=>z.cell (HB.out.cell 10)
 have q11:∀ z:BW W,z.val.cell? ⟨w.heap.size,11,none⟩=some (.slice A4 lb.length c4):=fun z=>z.cell (HB.out.cell 11)
 refine BW.start (w:=W) ?_
 intro z
 refine BW.callR (z:=z) (T6 l _ _ ((HH.out.next kB).next z.below)) (congrArg Value.bool H1.out) ?_
 clear z
 intro z
 cases r1
 ·go_wp2_with fail
  go_ret2
  exact Kd.nil_ (by rw [<-HS.out];exact Uv (by simp [P9,H1.out])) (As kB z.below)
 by_cases k3:¬ kd=3
 ·have k3':(kd==3)=false:=by simpa using k3
  go_wp2_with fail
  go_ret2
  exact Kd.nil_ (by rw [<-HS.out];exact Uv (by simp [P9,k3])) (As kB z.below)
 obtain rfl:kd=3:=by omega
 clear k3
 go_wp2_with fail
 refine BW.call (z:=z) (HC2.out W z kB) ?_
 clear z
 intro z
 cases r2
 ·go_wp2_with fail
  go_ret2
  exact Kd.nil_ (by rw [<-HS.out];exact Uv (by simp [P9,H2.out])) (As kB z.below)
 have HOK:=Lib.hid (show P9 l ⟨3,fr,tt,se,sq,li,lv,ln,⟨bo,⟨bc,bn⟩,lb⟩⟩=true by simp [P9,H1.out,H2.out])
 clear HC2
 go_wp2_with fail
 refine BW.call (z:=z) (Ae2 fr l _ _ ((HH.out.next kB).next z.below)) ?_
 clear z
 intro z
 rcases Tq (Lw fr) l 0 with ⟨hk,hno⟩ | ⟨i,x,hx,hp,hk,hno⟩
 ·rw [hk]
  have HX:=Lib.hid (HS.out.symm.trans (Yh HOK.out fun x hx=>by have:=hno x hx;simp only [Lw,decide_eq_false_iff_not] at this;simp [Mt,this]))
  clear hk hno
  go_wp2_with fail
  go_ret2
  exact Kd.nil_ HX.out (As kB z.below)
 ·rw [hk,Nat.zero_add]
  have hil:=(List.getElem?_eq_some_iff.1 hx).1
  have HN:=Lib.hid hno
  have HX0:=Lib.hid hx
  simp only [Lw,decide_eq_true_eq] at hp
  obtain ⟨b,off,_,vi',hv,hbb,e0,e1,e2,e3,e4,e5,e6,hs,i1,i2,i3⟩:=Wo (HH.out.next kB) hx
  injection hv with hv1 hv2 hv3
  subst hv1
  have p2:∀ z:BW W,z.val.cell? ⟨b,off+i*7+2,none⟩=some (.int .i64 x.session):=fun z=>z.cell e2
  have p3:∀ z:BW W,z.val.cell? ⟨b,off+i*7+3,none⟩=some (.int .i64 x.seq):=fun z=>z.cell e3
  have hi3:(i:Int) < (l.length:Int):=by omega
  have hi4:(0:Int)<=(i:Int):=by omega
  clear hk hno hv2 hv3 e0 e1 e2 e3 e4 e5 e6 hs hx hbb
  by_cases g1:¬ x.session=se
  ·have HX:=Lib.hid (HS.out.symm.trans (Yh HOK.out (Az6 H1.out HX0.out hp g1)))
   have g2:(x.session != se)=true:=by simpa using g1
   go_wp2_with fail
   refine Gb (z0:=z) (by kernel_rfl) (by kernel_rfl) ?_
   repeat (go_big_quiet_step (fail))
   refine wpQuiet_nil ?_
   clear z
   intro z
   go_wp2_with fail
   go_ret2
   exact Kd.nil_ HX.out (As kB z.below)
  obtain rfl:se=x.session:=by omega
  clear g1
  have HX1:=Lib.hid (HS.out.symm.trans (Bc4 HOK.out HX0.out (by simp [Mt,hp]) fun k y hk hy=>by
   have:=HN.out k y hk hy
   simp only [Lw,decide_eq_false_iff_not] at this
   simp [Mt,this]))
  obtain ⟨n1,n2,n3⟩:=Xg H1.out (List.mem_of_getElem? HX0.out)
  simp only [M2,decide_eq_true_eq] at n1
  obtain ⟨n4,n5⟩:=n1
  clear n2 n3
  by_cases g1:sq < x.seq
  ·have HX:=Lib.hid (HX1.out.trans (show Qe _ _ _ _=([],13) by rw [Qe,if_pos g1]))
   go_wp2_with fail
   refine Gb (z0:=z) (by kernel_rfl) (by kernel_rfl) ?_
   repeat (go_big_quiet_step (fail))
   refine wpQuiet_nil ?_
   clear z
   intro z
   go_wp2_with fail
   refine Gb (z0:=z) (by kernel_rfl) (by kernel_rfl) ?_
   repeat (go_big_quiet_step (fail))
   refine wpQuiet_nil ?_
   clear z
   intro z
   go_wp2_with fail
   go_ret2
   exact Kd.nil_ HX.out (As kB z.below)
  by_cases g2:x.seq < sq
  ·have HX:=Lib.hid (HX1.out.trans (show Qe _ _ _ _=([],3) by rw [Qe,if_neg g1,if_pos g2]))
   go_wp2_with fail
   refine Gb (z0:=z) (by kernel_rfl) (by kernel_rfl) ?_
   repeat (go_big_quiet_step (fail))
   refine wpQuiet_nil ?_
   clear z
   intro z
   go_wp2_with fail
   refine Gb (z0:=z) (by kernel_rfl) (by kernel_rfl) ?_
   repeat (go_big_quiet_step (fail))
   refine wpQuiet_nil ?_
   clear z
   intro z
   go_wp2_with fail
   refine Gb (z0:=z) (by kernel_rfl) (by kernel_rfl) ?_
   repeat (go_big_quiet_step (fail))
   refine wpQuiet_nil ?_
   clear z
   intro z
   go_wp2_with fail
   go_ret2
   exact Kd.nil_ HX.out (As kB z.below)
  obtain rfl:sq=x.seq:=by omega
  have HX:=Lib.hid (HX1.out.trans (show Qe _ _ _ _=(l.set i (A52 _ x),0) by rw [Qe,if_neg g1,if_neg g2]))
  clear g1 g2
  go_wp2_with fail
  refine Gb (z0:=z) (by kernel_rfl) (by kernel_rfl) ?_
  repeat (go_big_quiet_step (fail))
  refine wpQuiet_nil ?_
  clear z
  intro z
  go_wp2_with fail
  refine Gb (z0:=z) (by kernel_rfl) (by kernel_rfl) ?_
  repeat (go_big_quiet_step (fail))
  refine wpQuiet_nil ?_
  clear z
  intro z
  go_wp2_with fail
  refine Gb (z0:=z) (by kernel_rfl) (by kernel_rfl) ?_
  repeat (go_big_quiet_step (fail))
  refine wpQuiet_nil ?_
  clear z
  intro z
  go_wp2_with fail
  refine (Ae0 l _ V _ ((hV.trans (Ext.of_below kB)).trans z.ext) HH0.out).mono ?_
  rintro e w2 ⟨⟨v2,rfl,hown⟩,hb2⟩
  rcases hown.forms with ⟨rfl,rfl⟩ | ⟨g,c5,rfl,hg1,hg2⟩
  ·simp at hil
  obtain ⟨cs,⟨vi,rfl,-,-,-,-⟩,-,hc⟩:=Ae.at_ hown HX0.out
  have e3:=hc 3 _ rfl
  have e4:=hc 4 _ rfl
  have e5:=hc 5 _ rfl
  have e6:=hc 6 _ rfl
  have z3:=Ae.frozen hown (i*7+3)
  have z4:=Ae.frozen hown (i*7+4)
  have z5:=Ae.frozen hown (i*7+5)
  have z6:=Ae.frozen hown (i*7+6)
  have HO:=Lib.hid hown
  have m4:=Am hb2 (q4 z)
  have m7:=Am hb2 (q7 z)
  clear hown hc q0 q1 q2 q3 q4 q5 q6 q7 q8 q9 q10 q11 p2 p3
  have hg3:¬ g=w.heap.size:=by have:=z.size;have:=(HB.out).lt;omega
  go_wp2_with fail
  go_region
  go_wp2_with fail
  have h3:=Ke.setB (j:=3) (u:=.int .i64 ((x.seq+1) % 1099511627776)) (x':={ x with seq:=Fk x.seq }) HO.out HX0.out (by omega) (by
   rintro W cs ⟨vi,rfl,i1,i2,i3,hs⟩ _
   exact ⟨vi,rfl,i1,i2,I64.of (by simp only [Fk];omega) (by simp only [Fk];omega),hs⟩)
  have h4:=Ke.setB (i:=i) (j:=4) (u:=.bool true) (x:={ x with seq:=Fk x.seq }) (x':={ x with seq:=Fk x.seq,live:=true }) h3 (by simp [hil]) (by omega) (by
   rintro W cs ⟨vi,rfl,i1,i2,i3,hs⟩ _
   exact ⟨vi,rfl,i1,i2,i3,hs⟩)
  have h5:=Ke.setB (i:=i) (j:=5) (u:=.bool true) (x:={ x with seq:=Fk x.seq,live:=true }) (x':={ x with seq:=Fk x.seq,live:=true,heard:=true }) h4 (by simp [hil]) (by omega) (by
   rintro W cs ⟨vi,rfl,i1,i2,i3,hs⟩ _
   exact ⟨vi,rfl,i1,i2,i3,hs⟩)
  have h6:=Ke.setB (i:=i) (j:=6) (u:=.bool ((ln.length:Int)==0)) (x:={ x with seq:=Fk x.seq,live:=true,heard:=true }) (x':={ x with seq:=Fk x.seq,live:=true,heard:=true,idle:=((ln.length:Int)==0) }) h5 (by simp [hil]) (by omega) (by
   rintro W cs ⟨vi,rfl,i1,i2,i3,hs⟩ _
   exact ⟨vi,rfl,i1,i2,i3,hs⟩)
  simp only [List.set_set] at h6
  have hbb:∀ {W':World} {j:Nat} {u:Value},Below w.heap.size w W'->Below w.heap.size w (W'.setCell ⟨g,j,none⟩ u):=fun h=>Se h (by have:=z.size;have:=kB.size;simp;omega)
  have hb6:=hbb (j:=i*7+6) (u:=.bool ((ln.length:Int)==0)) (hbb (j:=i*7+5) (u:=.bool true) (hbb (j:=i*7+4) (u:=.bool true) (hbb (j:=i*7+3) (u:=.int .i64 ((x.seq+1) % 1099511627776)) (As (As kB z.below) hb2))))
  have e7:((ln.length:Int)==0)=decide (ln.length=0):=by rw [Bool.eq_iff_iff];simp
  have H6:=Lib.hid (M4.ext (Po.sl h6 A95 (Nat.le_refl _)) (B25 hV (Nat.le_trans kB.size z.size)))
  clear h3 h4 h5 h6
  go_ret2
  refine ⟨.slice (some ⟨g,0,none⟩) l.length c5,by rw [HX.out];rfl,?_,hb6.drew⟩
  rw [HX.out]
  have:=H6.out
  rw [List.length_set] at this
  simp only [A52]
  rw [<-e7]
  exact M4.ext this (A27 (Below.refl _ _).drew)
theorem Gz {n:Int} (h:(-9223372036854775808<=n&&n<=9223372036854775807)=true):I64 n:=by
 simp only [Bool.and_eq_true,decide_eq_true_eq] at h
 exact I64.of h.1 h.2
def Qr:Sub:=⟨2,[⟨0,3⟩],5,0,false,false,false⟩
def Z1 (n:Int):Msg:=⟨3,2,0,5,n,[],[],[],⟨0,⟨0,0⟩,[]⟩⟩
theorem Bs1:Rl [Qr] (Z1 0)=([⟨2,[⟨0,3⟩],5,1,true,true,true⟩],0):=by decide +kernel
theorem Bs0:Rl [Qr] (Z1 1)=([],3):=by decide +kernel
theorem Bb6 {w:World} {B:Nat} {k f t s q o c n:Int} : Zn w B (.slice none 0 0) (.slice none 0 0) (.slice none 0 0) (.slice none 0 0) ⟨k,f,t,s,q,[],[],[],⟨o,⟨c,n⟩,[]⟩⟩ :=
 ⟨Sl.nil_ (by unfold maxLen;omega) _,Sl.nil_ (by unfold maxLen;omega) _,Sl.nil_ (by unfold maxLen;omega) _,Sl.nil_ (by unfold maxLen;omega) _⟩
set_option maxRecDepth 100000 in
set_option maxHeartbeats 1600000 in
theorem Bj9 (w:World) (hT:A8 w) :
  Calls Tryz.prog 30 #[] w fun e w'=>e=.returned (.bool true)/\Below w.heap.size w w':=by
 have HT:=Lib.hid hT
 clear hT
 go_enter Tryz.func30,Tryz.ntmps30
 go_wp2_with fail
 have hb:=Af (o:=.cells #[.int .i64 2,.slice (some ⟨w.heap.size,0,none⟩) 1 1,.int .i64 5,.int .i64 0,.bool false,.bool false,.bool false] 149) (Af (o:=.cells #[.int .i64 0,.int .i64 3] 66) (Below.refl _ w))
 have hsp:Co _ _ _ [⟨0,3⟩]:=((Ae.of_blk (R:=Df) (k:=2) (l:=[⟨0,3⟩]) (Blk.new w 66 #[.int .i64 0,.int .i64 3]) (Bu.one rfl ⟨rfl,Gz rfl,Gz rfl⟩) (by simp)).sl)
 have hsu:M4 _ _ _ [Qr]:=((Ae.of_blk (R:=Aa8 _ _) (k:=7) (l:=[Qr]) (Blk.new (w.alloc (.cells #[.int .i64 0,.int .i64 3] 66)) 149 #[.int .i64 2,.slice (some ⟨w.heap.size,0,none⟩) 1 1,.int .i64 5,.int .i64 0,.bool false,.bool false,.bool false]) (Bu.one rfl ⟨_,rfl,Gz rfl,Gz rfl,Gz rfl,hsp.next (Af (Below.refl _ _))⟩) (by simp)).sl)
 generalize hW:(w.alloc (.cells #[.int .i64 0,.int .i64 3] 66)).alloc _=W at *
 have hz:(w.alloc (.cells #[.int .i64 0,.int .i64 3] 66)).heap.size=w.heap.size+1:=by simp
 rw [hz] at hsu
 have HS:=Lib.hid hsu
 clear hW hsp hsu hz
 have HC:=Lib.hid (fun n (hi:I64 n) (z:BW W)=>Ae1 (Z1 n) [Qr] _ _ _ _ _ z.val z.val (Ext.refl _) (HS.out.next z.below) ⟨Gz rfl,Gz rfl,Gz rfl,Gz rfl,hi,Gz rfl⟩ Bb6 ((HT.out.next hb).next z.below))
 refine (HC.out 0 (Gz rfl) (BW.self W)).mono ?_
 rw [Bs1]
 rintro e w1 ⟨v1,rfl,hs1,hb1⟩
 replace hs1:=M4.ext hs1 (A26 (Ext.refl _) hb1)
 obtain ⟨A1,c1,rfl,-⟩:=id hs1
 have HS1:=Lib.hid hs1
 clear hs1
 go_wp2_with fail
 refine (HC.out 1 (Gz rfl) ((BW.self W).to hb1)).mono ?_
 rw [Bs0]
 rintro e w2 ⟨v2,rfl,hs2,hb2⟩
 obtain ⟨A2,c2,rfl,-⟩:=id hs2
 obtain ⟨b,off,_,vi,hv,hbb,e0,e1,e2,e3,e4,e5,e6,-⟩:=Wo (HS1.out.next hb2) (m:=0) rfl
 injection hv with hv1 hv2 hv3
 subst hv1
 simp only [Nat.zero_mul,Nat.add_zero] at e0 e1 e2 e3 e4 e5 e6
 clear hs2 hv2 hv3
 go_wp2_with fail
 go_ret
 exact ⟨rfl,As (As hb hb1) hb2⟩
theorem Ts {it:List Ad} : ∀ (l out:List B7),(∀ n∈out,Al n=true)->(∀ n∈l,Al n=true)->∀ n∈Pj it out l,Al n=true
 | [],_,h,_=>h
 | x :: l,_,h,h2=>Ts l _ (Sw h (h2 x (by simp))) fun n hn=>h2 n (by simp [hn])
theorem Ba5 {X:World} {v:Value} {l:List Out} (h:Wl X X.heap.size v l):Cs X v (ouI l):=Cs.of_typed (fun _ _ h=>Aw1 h) h (Nat.le_refl _)
theorem Al3 {g:Log} {v:Bz} (hg:B4 g=true) (hv:Ao v=true) {a:Int} (h0:-1<=a) (h1:a<=g.sure) (it:List Ad):(Er g v a it 8).1.length<=257/\∀ n∈(Er g v a it 8).1,Al n=true:=by
 have hg':=hg
 simp only [B4,Bool.and_eq_true,Ra,decide_eq_true_eq] at hg'
 unfold Er
 rw [if_pos ⟨hg,hv⟩]
 split
 ·refine ⟨?_,Ac9 (X8.1 hv) it⟩
  have:=M8 v it 256
  unfold Am8
  simp only [List.length_cons,List.length_map]
  omega
 ·have ha:Aa4 g a 8=true:=by
   simp only [Aa4,Bool.and_eq_true,decide_eq_true_eq]
   exact ⟨⟨⟨hg,by omega⟩,h1⟩,by omega⟩
  unfold K3
  rw [if_pos ha]
  unfold Qo
  obtain ⟨k,-,h2,-,h4,-⟩:=L6 (it:=it) (most:=8) ((Dq g it).drop a.toNat) [] a.toNat
  rw [h2]
  simp only
  refine ⟨by have:=h4 (by simp);omega,Ts _ _ (fun n hn=>by cases hn) fun n hn=>?_⟩
  have h5:=List.mem_of_mem_drop (List.mem_of_mem_take hn)
  unfold Dq at h5
  obtain ⟨m,hm,rfl⟩:=List.mem_map.1 h5
  exact Lj it (Mr hg'.2 m (List.mem_of_mem_take hm))
theorem Az7 {l:List Out} {me:Int} {g:Log} {v:Bz} (m0:0<=me/\me<=63):∀ m∈(Jb l me g v).2.1,∃ t s q O,m=⟨3,me,t,s,q,[],[],O,⟨0,⟨0,0⟩,[]⟩⟩/\(0<=t/\t<=63)/\(0<=s/\s < 1099511627776)/\(0<=q/\q < 1099511627776)/\O.length<=257/\∀ n∈O,Al n=true:=by
 unfold Jb
 split
 ·rename_i h
  simp only [Bool.and_eq_true] at h
  intro m hm
  obtain ⟨o,ho,rfl⟩:=List.mem_map.1 hm
  obtain ⟨b1,-,b3,b4,b5,b6⟩:=Jd h.2 o ho
  obtain ⟨c1,c2⟩:=Al3 h.1.1.2 h.1.2 b5 b6 o.interest
  have:=of_decide_eq_true b1
  exact ⟨_,_,_,_,rfl,by omega,of_decide_eq_true b3,of_decide_eq_true b4,c1,c2⟩
 ·exact fun m hm=>by cases hm
theorem B92 (l:List Out) (me:Int) (g:Log) (v:Bz):(Jb l me g v).2.1.length<=l.length:=by
 unfold Jb
 split
 ·simp
 ·simp
theorem Az8 (l:List Out) (g:Log) (v:Bz):Jb l 64 g v=([],[],1):=by
 unfold Jb
 rw [if_neg (by simp [Dk])]
attribute [local irreducible] AW AWY Bw Bc vop Bj Az Bi qop By Ce Ar Ap Bo A7 Bd
attribute [local go_sem] Tu A77 Gy Eh Gl Ai An
theorem U0:A7 Tryz.prog A8 30 [] (.val (.bool true)) [] :=
 Bq Tryz.func30 rfl (by kernel_rfl) fun V w E vs hV hG hr=>by
  obtain rfl:vs=#[]:=by
   have:=hr.1
   simpa using this
  exact Bj9 w hG
theorem Bp0 (l:List Out):A7 Tryz.prog A8 31 [.iv (ouI l)] (.iv (ouI l)) []:=(Xu l).frz trivial
set_option maxRecDepth 100000 in
set_option maxHeartbeats 1600000 in
theorem Bc1 (l:List Out) (g0:Log) (v:Bz) (iS:I64 g0.sure) (iR:I64 v.room):A7 Tryz.prog A8 7 [.iv (ouI l),Qb g0,vwA v] (.val (.bool true)) []:=by
 refine A7.of (n:=83) (rs:=[.tmp 6]) Tryz.func7 rfl (by kernel_rfl) Tryz.ntmps7 (by kernel_rfl) (by simp) (fun _ _=>A8.later) ?_
 intro hok V w0
 have hlen:l.length<=1073741824:=by simpa [ouI] using hok.1.1
 have hp:=Ue l 3 g0 v rfl iS iR
 have hr:=Ao2 l 3 g0 v rfl iS iR
 have h64:=Ue l 64 g0 v rfl iS iR
 rw [Az8] at h64
 have ht:=Az7 (l:=l) (me:=3) (g:=g0) (v:=v) (by omega)
 have hml:=B92 l 3 g0 v
 generalize Jb l 3 g0 v=T at hp hr ht hml
 obtain ⟨X,M,e⟩:=T
 simp only at hp hr ht hml h64
 refine g ?_
 refine AW.seq ?_
 refine AW.reg rfl fun KK hKK=>?_
 refine g ?_
 repeat' (refine hKK _ (g ?_);clear hKK KK)
 refine AW.freeze 500 _ rfl ⟨trivial,trivial,iS,trivial⟩ ?_
 simp only [go_sem,reduceIte,Nat.reduceEqDiff]
 refine AW.freeze 600 _ rfl ⟨trivial,trivial,trivial,trivial,iR,trivial⟩ ?_
 simp only [go_sem,reduceIte,Nat.reduceEqDiff]
 refine g ?_
 repeat' (first | refine st_ rfl (g ?_) | refine Aa (U0) rfl (g ?_) | refine Aa (Bp0 _) rfl (g ?_) | refine Aa (hp) rfl (g ?_) | refine Aa (hr) rfl (g ?_) | refine Aa (h64) rfl (g ?_) | refine Aa (A63 _) rfl (g ?_) | refine Aa (Ao4 _) rfl (g ?_))
 refine AW.loop (fun i:{i:Nat // i<=M.length}=>⟨[(9,.iv (msI M)),(17,.val (.int .i64 (i.1:Nat)))],[]⟩) (fun i=>M.length - i.1) ⟨0,Nat.zero_le _⟩ id ⟨⟨rfl,rfl,trivial⟩,trivial,List.nodup_nil⟩ fun ⟨i,hi⟩=>?_
 simp only
 repeat (refine AW.seq ?_)
 refine AW.reg rfl fun KK hKK=>?_
 refine g ?_
 repeat' (refine hKK _ (g ?_);clear hKK KK)
 repeat (refine AW.seq ?_)
 refine st_ rfl ?_
 refine g ?_
 refine Bk (fun h=>?_) (fun h=>?_)
 ·have hlt:i < M.length:=by omega
  obtain ⟨t,s,q,O,hm,t0,s0,q0,hO,hf⟩:=ht M[i] (List.getElem_mem hlt)
  have hgm:M[i]? = some ⟨3,3,t,s,q,[],[],O,⟨0,⟨0,0⟩,[]⟩⟩:=by rw [List.getElem?_eq_getElem hlt,hm]
  have hfm:=A64 3 t s q O (by omega) t0 s0 q0 hO hf
  refine st_ rfl (g ?_)
  refine g ?_
  repeat' (first | refine st_ rfl (g ?_) | refine ix_ (by omega) (g ?_))
  rw [hm]
  refine g ?_
  repeat' (first | refine st_ rfl (g ?_) | refine Aa (hfm) rfl (g ?_))
  exact ⟨⟨i+1,hlt⟩,id,⟨⟨rfl,rfl,trivial⟩,trivial,List.nodup_nil⟩,by show M.length - (i+1) < M.length - i;omega⟩
 ·refine AW.exit ?_
  simp only [reduceIte]
  refine g ?_
  repeat' (first | refine st_ rfl (g ?_) | exact trivial)
end Go.Proofs.YthlgnjlpakimaaaGreatDoor
