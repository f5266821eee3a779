/- Subscriptions and messages over abstract states: tests, one's own copies; the elder contracts told so. -/
import Derived.Test.YtahgkllhbggmgaaGreatDoorLSubsForm
import Derived.Test.YtahgkllhbggmgaaGreatDoorLClone
import Derived.Test.YtahgkllhbggmgaaGreatDoorLSubsCmp
import Derived.Test.YtahgkllhbggmgaaGreatDoorLCacheForm
set_option linter.all false
set_option linter.unnecessarySimpa false
set_option linter.unusedSimpArgs false
set_option linter.unusedVariables false
namespace Go.Proofs.YtahgkllhbggmgaaGreatDoor
open Go.ChangeShapes Go.WideShapes Go.ChangeAt Go.RowKit
set_option maxHeartbeats 1600000 in
theorem Zc (l : List Sub) (v : Value) (w : World) (h : Qm w w.heap.size v l) :
    Calls Tryz.prog 81 #[v] w fun e w' => e = .returned (.bool (D6 l)) /\ Below w.heap.size w w' := by
  have hle := h.len_le
  obtain ⟨A, c, rfl, _⟩ := id h
  unfold D6
  go_enter Tryz.func81, Tryz.ntmps81
  go_wp2_with fail
  go_loopw [3] (fun i wr => ∃ (m : Nat) (e : Int), m <= l.length /\ i = .int .i64 m /\ (m = 0 -> e = -1) /\ (∀ i y, m = i + 1 -> l[i]? = some y -> e = y.from_) /\ Em (-1) l = Em e (l.drop m) /\ Below w.heap.size w wr) (fun i _ => l.length - (intOf i).toNat)
  case atStart => exact ⟨0, -1, Nat.zero_le _, rfl, fun _ => rfl, fun i _ hi => by omega, rfl, Below.refl _ _⟩
  case round =>
    obtain ⟨m, e, hm, rfl, he0, he1, hv, hb⟩ := hrel
    have hn := h.next hb
    by_cases hlt : m < l.length
    · obtain ⟨y, hy⟩ : ∃ y, l[m]? = some y := ⟨l[m], List.getElem?_eq_getElem hlt⟩
      obtain ⟨b, off, c', vi, hv', hbb, e0, e1, e2, e3, e4, e5, e6, hs, _, _, _⟩ := A48 hn hy
      injection hv' with hv1 hv2 hv3
      rw [Ek hy, Em] at hv
      have Hy := Lib.hid hy
      obtain ⟨yf, yi, ys, yq, yl, yh, yd⟩ := y
      simp only at e0 e1 e2 e3 e4 e5 e6 hv hs
      subst hv1
      have i2 : (m : Int) < (l.length : Int) := by omega
      have He0 := Lib.hid he0
      have He1 := Lib.hid he1
      have HV := Lib.hid hv
      have HN := Lib.hid hn
      obtain ⟨A4, c4, rfl, _⟩ := id hs
      have HS := Lib.hid hs
      clear hv hv2 hv3 hy hbb hn hs he0 he1
      go_wp2_with fail
      have kB := Ap (o := .cells #[.int .i64 yf, .slice A4 yi.length c4, .int .i64 ys, .int .i64 yq, .bool yl, .bool yh, .bool yd] 92) (Below.refl _ wr)
      have B5 := Blk.new wr 92 #[.int .i64 yf, .slice A4 yi.length c4, .int .i64 ys, .int .i64 yq, .bool yl, .bool yh, .bool yd]
      have hs2 := HS.out.next kB
      have hb2 := B6 hb kB
      generalize hW : wr.alloc (.cells #[.int .i64 yf, .slice A4 yi.length c4, .int .i64 ys, .int .i64 yq, .bool yl, .bool yh, .bool yd] 92) = W at *
      have KB := Lib.hid kB
      have q0 : ∀ z : BW W, z.val.cell? ⟨wr.heap.size, 0, none⟩ = some (.int .i64 yf) := fun z => z.cell (B5.cell 0)
      have q1 : ∀ z : BW W, z.val.cell? ⟨wr.heap.size, 1, none⟩ = some (.slice A4 yi.length c4) := fun z => z.cell (B5.cell 1)
      have q2 : ∀ z : BW W, z.val.cell? ⟨wr.heap.size, 2, none⟩ = some (.int .i64 ys) := fun z => z.cell (B5.cell 2)
      have q3 : ∀ z : BW W, z.val.cell? ⟨wr.heap.size, 3, none⟩ = some (.int .i64 yq) := fun z => z.cell (B5.cell 3)
      generalize hr1 : (Dk yf && Qn yi) = r1 at HV
      generalize hr2 : Np ys = r2 at HV
      generalize hr3 : Np yq = r3 at HV
      have HC1 := Lib.hid (fun z : BW W => hr1 ▸ Xh yf yi _ z.val (hs2.next z.below))
      have HC2 := Lib.hid (fun z : BW W => hr2 ▸ Lh ys z.val)
      have HC3 := Lib.hid (fun z : BW W => hr3 ▸ Lh yq z.val)
      have hf0 : Dk yf = true -> 0 <= yf := fun h => by simp only [Dk, decide_eq_true_eq] at h; exact h.1
      have HF := Lib.hid (fun h : r1 = true => hf0 (by rw [h] at hr1; simp only [Bool.and_eq_true] at hr1; exact hr1.1))
      clear e0 e1 e2 e3 e4 e5 e6 hr1 hr2 hr3 hW hs2 B5 kB hf0
      cases m with
      | zero =>
        have hcs : r1 = false \/ (r1 = true /\ r2 = false) \/ (r1 = true /\ r2 = true /\ r3 = false) \/ (r1 = true /\ r2 = true /\ r3 = true) := by cases r1 <;> cases r2 <;> cases r3 <;> simp
        rcases hcs with rfl | ⟨rfl, rfl⟩ | ⟨rfl, rfl, rfl⟩ | ⟨rfl, rfl, rfl⟩
        all_goals
          refine Cj (by kernel_rfl) (by kernel_rfl) ?_
          repeat (go_big_quiet_step (first | (go_at_call 166; exact En (HC1.out _)) | (go_at_call 167; first | (with_reducible exact E4 (HC2.out _)) | (with_reducible exact E4 (HC3.out _)))))
          refine wpQuiet_nil ?_
          intro w5 hb5
          have hb6 := B6 hb2 hb5
          go_wp2_with fail
        all_goals first
          | (go_ret
             refine ⟨Ak ?_, hb6⟩
             rw [HV.out]; simp; done)
          | (refine ⟨⟨1, yf, by omega, by go_num, fun h => by omega, fun i' y hi hyi => ?_, ?_, hb6⟩, by simp [intOf]; omega⟩
             · obtain rfl : i' = 0 := by omega
               rw [Hy.out] at hyi
               injection hyi with hyi
               subst hyi
               rfl
             · rw [HV.out, decide_eq_true (p := e < yf) (by have := HF.out rfl; have := He0.out rfl; omega)]
               rfl)
      | succ i =>
        obtain ⟨y', hy'⟩ : ∃ y', l[i]? = some y' := ⟨l[i], List.getElem?_eq_getElem (by omega)⟩
        obtain rfl := He1.out i y' rfl hy'
        obtain ⟨b', off', c'', vi', hv', hbb', e2, _⟩ := A48 HN.out hy'
        injection hv' with hv1 hv2 hv3
        injection hv1 with hv1
        injection hv1 with hv4 hv5
        subst hv4 hv5
        have q6 : ∀ z : BW W, z.val.cell? ⟨b, off + i * 7, none⟩ = some (.int .i64 y'.from_) := fun z => z.cell (Ao KB.out e2)
        have i1 : (0 : Int) < (i : Int) + 1 := by omega
        have i3 : (i : Int) < (l.length : Int) := by omega
        have s1 : IntKind.i64.wrap ((i : Int) + 1) = (i : Int) + 1 := IntWalk.i64_in _ (by omega)
        have s2 : IntKind.i64.wrap (i : Int) = (i : Int) := IntWalk.i64_in _ (by omega)
        clear hv2 hv3 hy' e2 hbb'
        have hcs : r1 = false \/ (r1 = true /\ yf <= y'.from_ /\ decide (yf <= y'.from_) = true) \/ (r1 = true /\ r2 = false /\ y'.from_ < yf /\ decide (yf <= y'.from_) = false) \/ (r1 = true /\ r2 = true /\ r3 = false /\ y'.from_ < yf /\ decide (yf <= y'.from_) = false) \/ (r1 = true /\ r2 = true /\ r3 = true /\ y'.from_ < yf /\ decide (yf <= y'.from_) = false) := by
          simp only [decide_eq_true_eq, decide_eq_false_iff_not]
          cases r1 <;> cases r2 <;> cases r3 <;> simp <;> omega
        rcases hcs with rfl | ⟨rfl, h1, g1⟩ | ⟨rfl, rfl, h1, g1⟩ | ⟨rfl, rfl, rfl, h1, g1⟩ | ⟨rfl, rfl, rfl, h1, g1⟩
        all_goals
          refine Cj (by kernel_rfl) (by kernel_rfl) ?_
          repeat (go_big_quiet_step (first | (go_at_call 166; exact En (HC1.out _)) | (go_at_call 167; first | (with_reducible exact E4 (HC2.out _)) | (with_reducible exact E4 (HC3.out _)))))
          refine wpQuiet_nil ?_
          intro w5 hb5
          have hb6 := B6 hb2 hb5
          clear s1 s2
          go_wp2_with fail
        all_goals first
          | (go_ret
             refine ⟨Ak ?_, hb6⟩
             first
               | (rw [HV.out]; simp; done)
               | (rw [HV.out, decide_eq_false (p := y'.from_ < yf) (by omega)]; rfl))
          | (refine ⟨⟨i + 1 + 1, yf, by omega, by go_num, fun h => by omega, fun i' y hi hyi => ?_, ?_, hb6⟩, by simp [intOf]; omega⟩
             · obtain rfl : i' = i + 1 := by omega
               rw [Hy.out] at hyi
               injection hyi with hyi
               subst hyi
               rfl
             · rw [HV.out, decide_eq_true (p := y'.from_ < yf) (by omega)]
               rfl)
    · obtain rfl : m = l.length := by omega
      rw [List.drop_length] at hv
      have HV := Lib.hid hv
      clear hv he0 he1
      go_wp2_with fail
      go_ret
      refine ⟨Ak ?_, hb⟩
      rw [HV.out, Em, Bool.true_and]
      exact decide_eq_decide.2 (by omega)
theorem Qm.ext {w w':World} {v:Value} {l:List Sub} (h:Qm w w.heap.size v l) (he:Ext w w'):Qm w' w'.heap.size v l:=Sl.ext h (fun cs x hx=>Cc4 _ _ cs x he hx) he
abbrev Dm1:=Dy6 (fun w=>Az9 w w.heap.size) 7
theorem Bu4 {X:World} {cs:List Value} {s:Sub} (h:Az9 X X.heap.size cs s):Av X cs (Yc s):=by
 obtain ⟨v,rfl,h1,h2,h3,hv⟩:=h
 exact ⟨.val h1,M7 hv (Nat.le_refl _),.val h2,.val h3,.val trivial,.val trivial,.val trivial,trivial⟩
theorem Bv3 {X:World} {cs:List Value} {s:Sub} (h:Av X cs (Yc s)):Az9 X X.heap.size cs s:=by
 match cs,h with
 | [a,b,c,d,e,f,g],⟨h1,h2,h3,h4,h5,h6,h7,_⟩=>cases h1 with | val i1=>cases h3 with | val i3=>cases h4 with | val i4=>cases h5;cases h6;cases h7;exact ⟨_,rfl,i1,i3,i4,h2.spans⟩
theorem B34 {E:Env} {V:World} {v:Value} {l:List Sub} (h:Au E V v (.iv (J2 l))):Qm V V.heap.size v l:=by
 cases h with
 | iv h=>exact C7.to_typed (R:=Az9 V V.heap.size) (l:=l) (enc:=Yc) h fun cs x _ hx=>Bv3 hx
attribute [local irreducible] AW AWY Be As vop Az Aq Ax qop Bd Bv Aj Ag Ay A7 Aw Du
theorem Ax8 (l:List Sub):A7 Tryz.prog A8 68 [.iv (J2 l)] (.val (.bool (D6 l))) [] :=
 Bu Tryz.func68 rfl (by kernel_rfl) fun V w E vs hV hG hr=>by
  obtain ⟨v,rfl,hv⟩:=Hu hr
  exact Sc l v w ((B34 hv).ext hV)
theorem Ah1 (l:List Sub):A7 Tryz.prog A8 81 [.iv (J2 l)] (.val (.bool (D6 l))) [] :=
 Bu Tryz.func81 rfl (by kernel_rfl) fun V w E vs hV hG hr=>by
  obtain ⟨v,rfl,hv⟩:=Hu hr
  exact Zc l v w ((B34 hv).ext hV)
def Dw6 (bl:List Ah) (s:Sub):Bool:=!(s.heard&&!(s.live&&s.idle&&Lq s.interest bl))
def Bj3 (s:Sub) (t:Int):Sub:=⟨s.from_,s.interest,t,0,false,true,false⟩
def Bj4 (me:Int) (s:Sub) (t:Int) (v:List Ad):Msg:=⟨1,me,s.from_,t,0,s.interest,v,[],⟨0,⟨0,0⟩,[]⟩⟩
structure Ab8 where
 done:List Sub
 msgs:List Msg
 tries:Int
def B86 (bl:List Ah) (me:Int) (sn:List Ah->List Ad) (a:Ab8) (s:Sub):Ab8 :=
 if Dw6 bl s=true then ⟨a.done++[Bj3 s (Bl6 a.tries)],a.msgs++[Bj4 me s (Bl6 a.tries) (sn s.interest)],Bl6 a.tries⟩ else ⟨a.done++[{ s with heard:=false }],a.msgs,a.tries⟩
def Bj5 (bl:List Ah) (me:Int) (sn:List Ah->List Ad) (l:List Sub) (t:Int):Ab8:=l.foldl (B86 bl me sn) ⟨[],[],t⟩
def Ds4 (l:List Sub) (me tries:Int) (v:E8):Ab8×Int:=if (D6 l&&Dk me&&Np tries&&At v)=true then (Bj5 (T9 v.zones) me (C86 v) l tries,0) else (⟨[],[],0⟩,1)
end Go.Proofs.YtahgkllhbggmgaaGreatDoor
