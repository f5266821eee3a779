/- What others subscribed to: tests, one's own copies, over abstract states. -/
import Derived.Test.YtahgkllhbggmgaaGreatDoorLSubsForm
import Derived.Test.YtahgkllhbggmgaaGreatDoorLClone
import Derived.Test.YtahgkllhbggmgaaGreatDoorLRefThr
set_option linter.all false
set_option linter.unnecessarySimpa false
set_option linter.unusedSimpArgs false
set_option linter.unusedVariables false
namespace Go.Proofs.YtahgkllhbggmgaaGreatDoor
open Go.ChangeShapes Go.WideShapes Go.ChangeAt Go.RowKit
def Gk (n:Int):Int->List Out->Bool
 | _,[]=>true
 | e,s :: l=>(decide (e < s.to_)&&(Dk s.to_&&Qn s.interest)&&Np s.session&&Np s.seq&&decide (-1<=s.at_/\s.at_<=n))&&Gk n s.to_ l
def Fc (n:Int) (l:List Out):Bool:=Gk n (-1) l
set_option maxRecDepth 100000 in
set_option maxHeartbeats 1600000 in
theorem Sd (l:List Out) (n:Int) (v:Value) (w:World) (h:Up w w.heap.size v l) :
  Calls Tryz.prog 67 #[v,.int .i64 n] w fun e w'=>e=.returned (.bool (Fc n l))/\Below w.heap.size w w':=by
 have hle:=h.len_le
 have HH:=Lib.hid h
 obtain ⟨A,c,rfl,-⟩:=id h
 unfold Fc
 generalize hr:Gk n (-1) l=V
 have HV0:=Lib.hid hr
 clear h hr
 go_enter Tryz.func67,Tryz.ntmps67
 go_wp2_with fail
 go_loopw [5,10] (fun a i wr=>∃ (m:Nat) (e:Int) (z:BW w),m<=l.length/\i=.int .i64 m/\a=.int .i64 e/\V=Gk n e (l.drop m)/\wr=z.val) (fun _ i _=>l.length - (intOf i).toNat)
 case atStart=>exact ⟨0,-1,BW.self w,Nat.zero_le _,rfl,rfl,HV0.out.symm,rfl⟩
 case round =>
  obtain ⟨m,e,z,hm,rfl,rfl,hv,rfl⟩:=hrel
  by_cases hlt:m < l.length
  ·obtain ⟨y,hy⟩ : ∃ y,l[m]? = some y:=⟨l[m],List.getElem?_eq_getElem hlt⟩
   obtain ⟨b,off,_,vi,hv',hbb,e0,e1,e2,e3,e4,hs,-,-,-,-⟩:=A73 (HH.out.next z.below) hy
   injection hv' with hv1 hv2 hv3
   subst hv1
   rw [Ek hy,Gk] at hv
   obtain ⟨yf,ys,yi,ya,yq⟩:=y
   simp only at e0 e1 e2 e3 e4 hv hs
   generalize hr1:Dk yf=r1 at hv
   generalize hr2:Np ys=r2 at hv
   generalize hr3:Np yq=r3 at hv
   generalize hr4:Qn yi=r4 at hv
   have HV:=Lib.hid hv
   have H1:=Lib.hid hr1
   have H2:=Lib.hid hr2
   have H3:=Lib.hid hr3
   have H4:=Lib.hid hr4
   obtain ⟨A4,c4,rfl,-⟩:=id hs
   have HS:=Lib.hid hs
   clear hv hv2 hv3 hy hr1 hr2 hr3 hr4 hs
   by_cases p1:yf<=e
   ·have HD:=Lib.hid (decide_eq_false (p:=e < yf) (by omega))
    go_wp2_with fail
    go_ret
    exact ⟨Ak (by rw [HV.out,HD.out];rfl),Ap z.below⟩
   ·have HD:=Lib.hid (decide_eq_true (p:=e < yf) (by omega))
    go_wp2_with fail
    have kB:=Ap (o:=.cells #[.int .i64 yf,.int .i64 ys,.slice A4 yi.length c4,.int .i64 ya,.int .i64 yq] 116) (Below.refl _ z.val)
    have B:=Blk.new z.val 116 #[.int .i64 yf,.int .i64 ys,.slice A4 yi.length c4,.int .i64 ya,.int .i64 yq]
    generalize hW:z.val.alloc _=W at *
    have HB:=Lib.hid B
    clear hW B e0 e1 e2 e3 e4
    have q1:∀ z':BW W,z'.val.cell? ⟨z.val.heap.size,1,none⟩=some (.int .i64 ys):=fun z'=>z'.cell (HB.out.cell 1)
    have q2:∀ z':BW W,z'.val.cell? ⟨z.val.heap.size,2,none⟩=some (.slice A4 yi.length c4):=fun z'=>z'.cell (HB.out.cell 2)
    have q3:∀ z':BW W,z'.val.cell? ⟨z.val.heap.size,3,none⟩=some (.int .i64 ya):=fun z'=>z'.cell (HB.out.cell 3)
    have q4:∀ z':BW W,z'.val.cell? ⟨z.val.heap.size,4,none⟩=some (.int .i64 yq):=fun z'=>z'.cell (HB.out.cell 4)
    have q0:∀ z':BW W,z'.val.cell? ⟨z.val.heap.size,0,none⟩=some (.int .i64 yf):=fun z'=>z'.cell (HB.out.cell 0)
    refine BW.start (w:=W) ?_
    intro z1
    refine BW.sameR (V1 _ _) (congrArg Value.bool H1.out) ?_
    cases r1
    ·go_wp2_with fail
     go_ret
     exact ⟨Ak (by rw [HV.out];simp),B6 z.below (B6 kB z1.below)⟩
    go_wp2_with fail
    refine BW.sameR (Je _ _) (congrArg Value.bool H2.out) ?_
    cases r2
    ·go_wp2_with fail
     go_ret
     exact ⟨Ak (by rw [HV.out];simp),B6 z.below (B6 kB z1.below)⟩
    go_wp2_with fail
    refine BW.sameR (Je _ _) (congrArg Value.bool H3.out) ?_
    cases r3
    ·go_wp2_with fail
     go_ret
     exact ⟨Ak (by rw [HV.out];simp),B6 z.below (B6 kB z1.below)⟩
    go_wp2_with fail
    refine BW.callR (z:=z1) (Qs _ _ _ ((HS.out.next kB).next z1.below)) (congrArg Value.bool H4.out) ?_
    intro z2
    cases r4
    ·go_wp2_with fail
     go_ret
     exact ⟨Ak (by rw [HV.out];simp),B6 z.below (B6 kB z2.below)⟩
    by_cases p2:ya < -1
    ·have HD2:=Lib.hid (decide_eq_false (p:=-1<=ya/\ya<=n) (by omega))
     go_wp2_with fail
     go_ret
     exact ⟨Ak (by rw [HV.out,HD2.out];simp),B6 z.below (B6 kB z2.below)⟩
    by_cases p3:n < ya
    ·have HD2:=Lib.hid (decide_eq_false (p:=-1<=ya/\ya<=n) (by omega))
     have p4:-1<=ya:=by omega
     go_wp2_with fail
     go_ret
     exact ⟨Ak (by rw [HV.out,HD2.out];simp),B6 z.below (B6 kB z2.below)⟩
    have HD2:=Lib.hid (decide_eq_true (p:=-1<=ya/\ya<=n) (by omega))
    have p4:-1<=ya:=by omega
    have p5:ya<=n:=by omega
    go_wp2_with fail
    refine ⟨⟨m+1,yf,z.to (B6 kB z2.below),by omega,by go_num,rfl,?_,rfl⟩,by simp [intOf];omega⟩
    rw [HV.out,HD.out,HD2.out]
    simp
  ·obtain rfl:m=l.length:=by omega
   rw [List.drop_length,Gk] at hv
   have HV:=Lib.hid hv
   clear hv
   go_wp2_with fail
   go_ret
   exact ⟨Ak HV.out.symm,z.below⟩
set_option maxRecDepth 100000 in
set_option maxHeartbeats 3200000 in
theorem Zd (l : List Out) (n : Int) (v : Value) (w : World) (h : Up w w.heap.size v l) :
    Calls Tryz.prog 80 #[v, .int .i64 n] w fun e w' => e = .returned (.bool (Fc n l)) /\ Below w.heap.size w w' := by
  have hle := h.len_le
  have HH := Lib.hid h
  obtain ⟨A, c, rfl, -⟩ := id h
  unfold Fc
  generalize hr : Gk n (-1) l = V
  have HV0 := Lib.hid hr
  clear h hr
  go_enter Tryz.func80, Tryz.ntmps80
  go_wp2_with fail
  go_loopw [5] (fun i wr => ∃ (m : Nat) (e : Int) (z : BW w), m <= l.length /\ i = .int .i64 m /\ (m = 0 -> e = -1) /\ (∀ i y, m = i + 1 -> l[i]? = some y -> e = y.to_) /\ V = Gk n e (l.drop m) /\ wr = z.val) (fun i _ => l.length - (intOf i).toNat)
  case atStart => exact ⟨0, -1, BW.self w, Nat.zero_le _, rfl, fun _ => rfl, fun i _ hi => by omega, HV0.out.symm, rfl⟩
  case round =>
    obtain ⟨m, e, z, hm, rfl, he0, he1, hv, rfl⟩ := hrel
    by_cases hlt : m < l.length
    · obtain ⟨y, hy⟩ : ∃ y, l[m]? = some y := ⟨l[m], List.getElem?_eq_getElem hlt⟩
      obtain ⟨b, off, _, vi, hv', hbb, e0, e1, e2, e3, e4, hs, -, -, -, -⟩ := A73 (HH.out.next z.below) hy
      injection hv' with hv1 hv2 hv3
      subst hv1
      rw [Ek hy, Gk] at hv
      have Hy := Lib.hid hy
      obtain ⟨yf, ys, yi, ya, yq⟩ := y
      simp only at e0 e1 e2 e3 e4 hv hs
      generalize hr1 : (Dk yf && Qn yi) = r1 at hv
      generalize hr2 : Np ys = r2 at hv
      generalize hr3 : Np yq = r3 at hv
      have HV := Lib.hid hv
      have He0 := Lib.hid he0
      have He1 := Lib.hid he1
      obtain ⟨A4, c4, rfl, -⟩ := id hs
      have HS := Lib.hid hs
      have hf0 : Dk yf = true -> 0 <= yf := fun h => by simp only [Dk, decide_eq_true_eq] at h; exact h.1
      have HF := Lib.hid (fun h : r1 = true => hf0 (by rw [h] at hr1; simp only [Bool.and_eq_true] at hr1; exact hr1.1))
      have H1 := Lib.hid hr1
      have H2 := Lib.hid hr2
      have H3 := Lib.hid hr3
      have i2 : (m : Int) < (l.length : Int) := by omega
      clear hv hv2 hv3 hy hr1 hr2 hr3 hs he0 he1 hf0
      go_wp2_with fail
      have kB := Ap (o := .cells #[.int .i64 yf, .int .i64 ys, .slice A4 yi.length c4, .int .i64 ya, .int .i64 yq] 116) (Below.refl _ z.val)
      have B := Blk.new z.val 116 #[.int .i64 yf, .int .i64 ys, .slice A4 yi.length c4, .int .i64 ya, .int .i64 yq]
      generalize hW : z.val.alloc _ = W at *
      have HB := Lib.hid B
      clear hW B e0 e1 e2 e3 e4
      have q0 : ∀ z' : BW W, z'.val.cell? ⟨z.val.heap.size, 0, none⟩ = some (.int .i64 yf) := fun z' => z'.cell (HB.out.cell 0)
      have q1 : ∀ z' : BW W, z'.val.cell? ⟨z.val.heap.size, 1, none⟩ = some (.int .i64 ys) := fun z' => z'.cell (HB.out.cell 1)
      have q2 : ∀ z' : BW W, z'.val.cell? ⟨z.val.heap.size, 2, none⟩ = some (.slice A4 yi.length c4) := fun z' => z'.cell (HB.out.cell 2)
      have q3 : ∀ z' : BW W, z'.val.cell? ⟨z.val.heap.size, 3, none⟩ = some (.int .i64 ya) := fun z' => z'.cell (HB.out.cell 3)
      have q4 : ∀ z' : BW W, z'.val.cell? ⟨z.val.heap.size, 4, none⟩ = some (.int .i64 yq) := fun z' => z'.cell (HB.out.cell 4)
      have HC1 := Lib.hid (fun z' : BW W => H1.out ▸ Xh yf yi (.slice A4 yi.length c4) z'.val ((HS.out.next kB).next z'.below))
      have HC2 := Lib.hid (fun z' : BW W => H2.out ▸ Lh ys z'.val)
      have HC3 := Lib.hid (fun z' : BW W => H3.out ▸ Lh yq z'.val)
      have kz := Lib.hid (B6 z.below kB)
      have hat : (ya < -1 /\ decide (ya < -1) = true /\ Hid (decide (-1 <= ya /\ ya <= n) = false)) \/ (-1 <= ya /\ n < ya /\ decide (ya < -1) = false /\ decide (n < ya) = true /\ Hid (decide (-1 <= ya /\ ya <= n) = false)) \/ (-1 <= ya /\ ya <= n /\ decide (ya < -1) = false /\ decide (n < ya) = false /\ Hid (decide (-1 <= ya /\ ya <= n) = true)) := by
        by_cases p : ya < -1
        · exact .inl ⟨p, by simpa using p, decide_eq_false (by omega)⟩
        · by_cases p2 : n < ya
          · exact .inr (.inl ⟨by omega, p2, by simpa using p, by simpa using p2, decide_eq_false (by omega)⟩)
          · exact .inr (.inr ⟨by omega, by omega, by simpa using p, by simpa using p2, decide_eq_true (by omega)⟩)
      cases m with
      | zero =>
        have hcs : r1 = false \/ (r1 = true /\ r2 = false) \/ (r1 = true /\ r2 = true /\ r3 = false) \/ (r1 = true /\ r2 = true /\ r3 = true) := by cases r1 <;> cases r2 <;> cases r3 <;> simp
        rcases hcs with rfl | ⟨rfl, rfl⟩ | ⟨rfl, rfl, rfl⟩ | ⟨rfl, rfl, rfl⟩
        all_goals (try (rcases hat with ⟨a1, a2, HA⟩ | ⟨a1, a2, a3, a4, HA⟩ | ⟨a1, a2, a3, a4, HA⟩))
        all_goals
          refine Cj (by kernel_rfl) (by kernel_rfl) ?_
          repeat (go_big_quiet_step (first | (go_at_call 166; exact En (HC1.out _)) | (go_at_call 167; first | (with_reducible exact E4 (HC2.out _)) | (with_reducible exact E4 (HC3.out _)))))
          refine wpQuiet_nil ?_
          intro w2 hb2
          go_wp2_with fail
        all_goals first
          | (go_ret
             exact ⟨Ak (by rw [HV.out]; first | (simp; done) | (rw [HA.out]; simp; done)), (B6 kz.out hb2)⟩)
          | (refine ⟨⟨1, yf, z.to (B6 kB hb2), by omega, by go_num, fun h => by omega, fun i' y hi hyi => ?_, ?_, rfl⟩, by simp [intOf]; omega⟩
             · obtain rfl : i' = 0 := by omega
               rw [Hy.out] at hyi
               injection hyi with hyi
               subst hyi
               rfl
             · rw [HV.out, HA.out, decide_eq_true (p := e < yf) (by have := HF.out rfl; have := He0.out rfl; omega)]
               simp)
      | succ i =>
        obtain ⟨y', hy'⟩ : ∃ y', l[i]? = some y' := ⟨l[i], List.getElem?_eq_getElem (by omega)⟩
        obtain rfl := He1.out i y' rfl hy'
        obtain ⟨b', off', _, vi', hv', hbb', e2, -⟩ := A73 (HH.out.next z.below) hy'
        injection hv' with hv1 hv2 hv3
        injection hv1 with hv1
        injection hv1 with hv4 hv5
        subst hv4 hv5
        have q6 : ∀ z' : BW W, z'.val.cell? ⟨b, off + i * 5, none⟩ = some (.int .i64 y'.to_) := fun z' => z'.cell (Ao kB e2)
        have i1 : (0 : Int) < (i : Int) + 1 := by omega
        have i3 : (i : Int) < (l.length : Int) := by omega
        have s1 : IntKind.i64.wrap ((i : Int) + 1) = (i : Int) + 1 := IntWalk.i64_in _ (by omega)
        have s2 : IntKind.i64.wrap (i : Int) = (i : Int) := IntWalk.i64_in _ (by omega)
        clear hv2 hv3 hy' e2 hbb'
        have hcs : r1 = false \/ (r1 = true /\ yf <= y'.to_ /\ decide (yf <= y'.to_) = true /\ Hid (decide (y'.to_ < yf) = false)) \/ (r1 = true /\ r2 = false /\ y'.to_ < yf /\ decide (yf <= y'.to_) = false) \/ (r1 = true /\ r2 = true /\ r3 = false /\ y'.to_ < yf /\ decide (yf <= y'.to_) = false) \/ (r1 = true /\ r2 = true /\ r3 = true /\ y'.to_ < yf /\ decide (yf <= y'.to_) = false) := by
          by_cases p : yf <= y'.to_
          · have h1 : decide (yf <= y'.to_) = true := decide_eq_true p
            have h2 : Hid (decide (y'.to_ < yf) = false) := decide_eq_false (by omega)
            cases r1
            · exact .inl rfl
            · exact .inr (.inl ⟨rfl, p, h1, h2⟩)
          · have h1 : decide (yf <= y'.to_) = false := decide_eq_false p
            have h2 : y'.to_ < yf := by omega
            cases r1 <;> cases r2 <;> cases r3 <;> simp [h1, h2]
        rcases hcs with rfl | ⟨rfl, h1, g1, HD⟩ | ⟨rfl, rfl, h1, g1⟩ | ⟨rfl, rfl, rfl, h1, g1⟩ | ⟨rfl, rfl, rfl, h1, g1⟩
        all_goals (try (rcases hat with ⟨a1, a2, HA⟩ | ⟨a1, a2, a3, a4, HA⟩ | ⟨a1, a2, a3, a4, HA⟩))
        all_goals
          refine Cj (by kernel_rfl) (by kernel_rfl) ?_
          repeat (go_big_quiet_step (first | (go_at_call 166; exact En (HC1.out _)) | (go_at_call 167; first | (with_reducible exact E4 (HC2.out _)) | (with_reducible exact E4 (HC3.out _)))))
          refine wpQuiet_nil ?_
          intro w2 hb2
          clear s1 s2
          go_wp2_with fail
        all_goals first
          | (go_ret
             exact ⟨Ak (by rw [HV.out]; first | (simp; done) | (rw [HA.out]; simp; done) | (rw [HD.out]; simp; done)), (B6 kz.out hb2)⟩)
          | (refine ⟨⟨i + 1 + 1, yf, z.to (B6 kB hb2), by omega, by go_num, fun h => by omega, fun i' y hi hyi => ?_, ?_, rfl⟩, by simp [intOf]; omega⟩
             · obtain rfl : i' = i + 1 := by omega
               rw [Hy.out] at hyi
               injection hyi with hyi
               subst hyi
               rfl
             · rw [HV.out, HA.out, decide_eq_true (p := y'.to_ < yf) (by omega)]
               simp)
    · obtain rfl : m = l.length := by omega
      rw [List.drop_length, Gk] at hv
      have HV := Lib.hid hv
      clear hv he0 he1
      go_wp2_with fail
      go_ret
      exact ⟨Ak HV.out.symm, z.below⟩
def Lm (x:Out):List IV:=[.val (.int .i64 x.to_),.val (.int .i64 x.session),spI x.interest,.val (.int .i64 x.at_),.val (.int .i64 x.seq)]
def ouI (l:List Out):IV:=.sl 5 (l.map Lm)
theorem Pp (x:Out):Lm x=[.val (.int .i64 x.to_),.val (.int .i64 x.session),spI x.interest,.val (.int .i64 x.at_),.val (.int .i64 x.seq)]:=rfl
theorem P6 (l:List Out):ouI l=.sl 5 (l.map Lm):=rfl
theorem B26 {X:World} {cs:List Value} {s:Out} (h:Ab9 X X.heap.size cs s):Av X cs (Lm s):=by
 obtain ⟨v,rfl,h1,h2,h3,h4,hv⟩:=h
 exact ⟨.val h1,.val h2,M7 hv (Nat.le_refl _),.val h3,.val h4,trivial⟩
theorem Bk7 {X:World} {v:Value} {l:List Out} (h:Up X X.heap.size v l):C7 X v (ouI l):=C7.of_typed (fun _ _ h=>B26 h) h (Nat.le_refl _)
theorem Bv5 {X:World} {cs:List Value} {s:Out} (h:Av X cs (Lm s)):Ab9 X X.heap.size cs s:=by
 match cs,h with
 | [a,b,c,d,e],⟨h1,h2,h3,h4,h5,_⟩=>cases h1 with | val i1=>cases h2 with | val i2=>cases h4 with | val i4=>cases h5 with | val i5=>exact ⟨_,rfl,i1,i2,i4,i5,h3.spans⟩
theorem A92 {E:Env} {V:World} {v:Value} {l:List Out} (h:Au E V v (.iv (ouI l))):Up V V.heap.size v l:=by
 cases h with
 | iv h=>exact C7.to_typed (R:=Ab9 V V.heap.size) (l:=l) (enc:=Lm) h fun cs x _ hx=>Bv5 hx
theorem Ai8 {w w':World} {v:Value} {l:List Out} (h:Up w w.heap.size v l) (he:Ext w w'):Up w' w'.heap.size v l:=Sl.ext h (fun cs x hx=>Cc5 _ _ cs x he hx) he
theorem B75 {α:Type} {l:List α} {i:Nat} {x:α} (h:l[i]? = some x):l.set i x=l:=by
 obtain ⟨hi,rfl⟩:=List.getElem?_eq_some_iff.1 h
 exact List.set_getElem_self hi
theorem An9 (l:List Out):A7 Tryz.prog A8 319 [.iv (ouI l)] (.own 0) [.row 0 116 5 (l.map Lm)] :=
 ⟨T0 Tryz.func319 rfl (by kernel_rfl),fun V w E vs hV hG hr=>by
  obtain ⟨v0,rfl,hv0⟩:=Hu hr
  refine (Bd5 l v0 V w hV (A92 hv0)).mono fun _ w' ⟨⟨v,he,hO⟩,hb⟩=>?_
  obtain ⟨A,n,cc,hv⟩ : ∃ A n cc,v=.slice A n cc:=by
   obtain ⟨A,cc,hv,_⟩:=hO.sl
   exact ⟨A,_,cc,hv⟩
  have ho:Ac ⟨fun _=>(v.ownBlock).getD 0,fun _=>v⟩ [.row 0 116 5 (l.map Lm)]=v.ownBlock.toList:=by simp [Ac,BA.owned]
  refine ⟨v,⟨fun _=>(v.ownBlock).getD 0,fun _=>v⟩,he,hb,by rw [ho];cases v.ownBlock<;>simp,fun g hg=>by rw [ho,Option.mem_toList] at hg;exact (hO.lt g hg).1,fun b hb'=>?_,?_⟩
  ·simp only [List.mem_singleton] at hb'
   subst hb'
   refine ⟨hO.map_ fun cs x h=>?_,fun g hg=>by simp [hg]⟩
   rw [ho]
   exact Av.ext (Ur hV hb) (B26 h)
  ·rw [hv]
   exact .own rfl⟩
attribute [local irreducible] AW AWY Be As vop Az Aq Ax qop Bd Bv Aj Ag Ay A7 Aw Du
attribute [local go_sem] Pp P6 Ae Af
theorem Ay3 (l:List Out) (n:Int):A7 Tryz.prog A8 67 [.iv (ouI l),.val (.int .i64 n)] (.val (.bool (Fc n l))) [] :=
 Bu Tryz.func67 rfl (by kernel_rfl) fun V w E vs hV hG hr=>by
  obtain ⟨v,u,rfl,hv,hu⟩:=Lo hr
  cases hu
  exact Sd l n v w (Ai8 (A92 hv) hV)
theorem Ah2 (l:List Out) (n:Int):A7 Tryz.prog A8 80 [.iv (ouI l),.val (.int .i64 n)] (.val (.bool (Fc n l))) [] :=
 Bu Tryz.func80 rfl (by kernel_rfl) fun V w E vs hV hG hr=>by
  obtain ⟨v,u,rfl,hv,hu⟩:=Lo hr
  cases hu
  exact Zd l n v w (Ai8 (A92 hv) hV)
set_option maxRecDepth 100000 in
theorem Ck9 (l:List Out):A7 Tryz.prog A8 299 [.iv (ouI l)] (.own 0) [.row 0 116 5 (l.map Lm)]:=by
 refine A7.ofS (n:=24) (rs:=[.tmp 2]) Tryz.func299 rfl (by kernel_rfl) Tryz.ntmps299 (by kernel_rfl) (by simp) (fun _ _=>A8.later) ?_
 intro hok V w0
 have hlen:l.length<=1073741824:=by simpa [ouI] using hok.1.1
 refine g ?_
 repeat' (first | refine st_ rfl (g ?_) | refine Aa (An9 l) rfl (g ?_))
 refine AW.loop (fun i:{i:Nat // i<=l.length}=>⟨[(3,.own 700),(8,.val (.int .i64 (l.length:Nat))),(9,.val (.int .i64 (i.1:Nat)))],[.row 700 116 5 (l.map Lm)]⟩) (fun i=>l.length - i.1) ⟨0,Nat.zero_le _⟩ id ⟨⟨rfl,rfl,rfl,trivial⟩,⟨rfl,trivial⟩,by simp [Bw,BA.id]⟩ fun ⟨i,hi⟩=>?_
 simp only
 repeat (refine AW.seq ?_)
 refine AW.reg rfl fun KK hKK=>?_
 refine g ?_
 repeat' (refine hKK _ (g ?_);clear hKK KK)
 repeat (refine AW.seq ?_)
 refine st_ rfl ?_
 refine g ?_
 refine Al (fun h=>?_) (fun h=>?_)
 ·have hlt:i < l.length:=by omega
  have hrow:(l.map Lm)[i]? = some (Lm l[i]):=Dl (f:=Lm) (List.getElem?_eq_getElem hlt)
  refine st_ rfl (g ?_)
  refine g ?_
  repeat' refine st_ rfl (g ?_)
  refine ⟨by omega,hlt,?_⟩
  refine g ?_
  repeat' refine B9 (g ?_)
  refine ⟨_,hrow,?_⟩
  refine g ?_
  repeat' (first | refine B9 (g ?_) | refine Aa (Bp9 _) rfl (g ?_))
  refine ⟨by omega,hlt,?_⟩
  refine g ?_
  repeat' refine B9 (g ?_)
  refine ⟨_,_,rfl,⟨trivial,trivial⟩,hrow,?_⟩
  refine g ?_
  repeat' (first | refine st_ rfl (g ?_) | refine B9 (g ?_))
  refine ⟨⟨i+1,hlt⟩,id,⟨⟨rfl,rfl,rfl,trivial⟩,⟨?_,trivial⟩,by simp [Bw,BA.id]⟩,by show l.length - (i+1) < l.length - i;omega⟩
  exact congrArg (fun C=>some (BA.row 700 _ 5 C)) (B75 hrow)
 ·obtain rfl:i=l.length:=by omega
  refine AW.exit ?_
  simp only [reduceIte]
  refine g ?_
  repeat' refine st_ rfl (g ?_)
  exact ⟨fun b=>if b=0 then 700 else b,fun _ _ _ h=>h,rfl,by simp⟩
set_option maxRecDepth 100000 in
theorem A61 (l:List Out):A7 Tryz.prog A8 151 [.iv (ouI l),.iv (ouI l)] (.val (.bool true)) []:=by
 refine A7.of (n:=61) (rs:=[.tmp 4]) Tryz.func151 rfl (by kernel_rfl) Tryz.ntmps151 (by kernel_rfl) (by simp) (fun _ _=>A8.later) ?_
 intro hok V w0
 have hlen:l.length<=1073741824:=by simpa [ouI] using hok.1.1
 refine g ?_
 repeat' refine st_ rfl (g ?_)
 refine AW.loop (fun i:{i:Nat // i<=l.length}=>⟨[(0,.iv (ouI l)),(1,.iv (ouI l)),(5,.val (.int .i64 (i.1:Nat)))],[]⟩) (fun i=>l.length - i.1) ⟨0,Nat.zero_le _⟩ id ⟨⟨rfl,rfl,rfl,trivial⟩,trivial,List.nodup_nil⟩ fun ⟨i,hi⟩=>?_
 simp only
 repeat (refine AW.seq ?_)
 refine AW.reg rfl fun KK hKK=>?_
 refine g ?_
 repeat' (refine hKK _ (g ?_);clear hKK KK)
 repeat (refine AW.seq ?_)
 refine st_ rfl ?_
 refine g ?_
 refine Al (fun h=>?_) (fun h=>?_)
 ·have hlt:i < l.length:=by omega
  have hg:=Dl (f:=Lm) (List.getElem?_eq_getElem hlt)
  refine st_ rfl (g ?_)
  refine AW.seq ?_
  refine AW.block ?_
  repeat (refine AW.seq ?_)
  refine AW.drawn (ds:=[19,20,21,22,23,24,25,26,6,7]) (fin:=[2,3]) (bs:=[0,0,0,0,0,0,0,0,0,1,2,3]) [⟨[],[],[],[],0⟩,⟨[],[],[],[],0⟩,⟨[(19,0),(20,1)],[],[],[],0⟩,⟨[(21,2)],[],[],[],0⟩,⟨[],[],[],[],0⟩,⟨[],[],[],[],0⟩,⟨[(23,4),(24,5)],[],[],[],0⟩,⟨[(25,6)],[],[],[],0⟩,⟨[],[],[],[],1⟩,⟨[],[],[],[],1⟩,⟨[(6,8),(22,3)],[],[],[0],1⟩,⟨[(7,9),(26,7)],[],[],[1],1⟩] (by kernel_rfl) rfl (by kernel_rfl) rfl rfl rfl fun KD hKD=>?_
  refine g ?_
  repeat' (first | refine st_ rfl (g ?_) | (refine hKD _ _ ⟨rfl,g ?_⟩;clear hKD KD) | refine ix_ (by omega) (g ?_) | refine Aa (Ny _ _) rfl (g ?_))
  exact ⟨⟨i+1,hlt⟩,id,⟨⟨rfl,rfl,rfl,trivial⟩,trivial,List.nodup_nil⟩,by show l.length - (i+1) < l.length - i;omega⟩
 ·refine AW.exit ?_
  simp only [reduceIte]
  refine g ?_
  repeat' (first | refine st_ rfl (g ?_) | exact trivial)
end Go.Proofs.YtahgkllhbggmgaaGreatDoor
