/- Subscriptions and messages over abstract states: tests, one's own copies; the elder contracts told so. -/
import Derived.Test.YtblfjaedaijfoaaGreatDoorQStretch
import Derived.Test.YtblfjaedaijfoaaGreatDoorQNodeSpec
import Derived.Test.YtblfjaedaijfoaaGreatDoorQClone
set_option linter.all false
set_option linter.unnecessarySimpa false
set_option linter.unusedSimpArgs false
set_option linter.unusedVariables false
namespace Go.Proofs.YtblfjaedaijfoaaGreatDoor
open Go.ChangeShapes Go.WideShapes Go.ChangeAt Go.RowKit
attribute [local irreducible] AW AWY Bo B4 vop Bj B7 Bf qop Bu C4 Aq Aj Bh A7 B9 Ge
attribute [local go_sem] Jk Fx Ae Af
theorem C72:∀ (x y:Sub),x.from_=y.from_->x.interest=y.interest->x.session=y.session->x.seq=y.seq->x.live=y.live->x.heard=y.heard->x.idle=y.idle->x=y
 | ⟨_,_,_,_,_,_,_⟩,⟨_,_,_,_,_,_,_⟩,rfl,rfl,rfl,rfl,rfl,rfl,rfl=>rfl
theorem exR {A K:Value->Prop} (r:Value) (hA:A r) (hk:K r):∃ r,A r/\Dv (K r):=⟨r,hA,Bi hk⟩
set_option maxRecDepth 100000 in
set_option maxHeartbeats 1600000 in
theorem A01 (l m:List Sub):A7 Tryz.prog A8 54 [.iv (H9 l),.iv (H9 m)] (.val (.bool (decide (l=m)))) []:=by
 refine A7.of (n:=75) (rs:=[.tmp 4]) Tryz.func54 rfl (by kernel_rfl) Tryz.ntmps54 (by kernel_rfl) (by simp) (fun _ _=>A8.later) ?_
 intro hok V w0
 have hlen:l.length<=1073741824:=by simpa [H9] using hok.1.1
 obtain ⟨B,hB⟩ : ∃ B,decide (l=m)=B:=⟨_,rfl⟩
 rw [hB]
 refine g ?_
 repeat' (first | refine st_ rfl (g ?_) | refine Al (fun h=>g ?_) (fun h=>g ?_))
 ·rw [<-hB,decide_eq_false]
  rintro rfl
  exact h rfl
 have hlm:l.length=m.length:=by omega
 refine AW.loop (fun i:{i:Nat // i<=l.length/\l.take i=m.take i}=>⟨[(0,.iv (H9 l)),(1,.iv (H9 m)),(5,.val (.int .i64 (i.1:Nat)))],[]⟩) (fun i=>l.length - i.1) ⟨0,Nat.zero_le _,rfl⟩ id ⟨⟨rfl,rfl,rfl,trivial⟩,trivial,List.nodup_nil⟩ fun ⟨i,hi,ht⟩=>?_
 refine g ?_
 repeat' (first | refine st_ rfl (g ?_) | refine Al (fun h=>g ?_) (fun h=>g ?_))
 ·have hlt:i < l.length:=by omega
  have hlt2:i < m.length:=by omega
  refine AW.drawn (ds:=[19,20,21,22,23,24,25,26,6,7]) (fin:=[2,3]) (bs:=[0,0,0,0,0,0,0,0,0,1,2,3]) [⟨[],[],[],[],0⟩,⟨[],[],[],[],0⟩,⟨[(19,0),(20,1)],[],[],[],0⟩,⟨[(21,2)],[],[],[],0⟩,⟨[],[],[],[],0⟩,⟨[],[],[],[],0⟩,⟨[(23,4),(24,5)],[],[],[],0⟩,⟨[(25,6)],[],[],[],0⟩,⟨[],[],[],[],1⟩,⟨[],[],[],[],1⟩,⟨[(6,8),(22,3)],[],[],[0],1⟩,⟨[(7,9),(26,7)],[],[],[1],1⟩] (by kernel_rfl) rfl (by kernel_rfl) rfl rfl rfl fun KD hKD=>?_
  refine g ?_
  repeat' (first | refine st_ rfl (g ?_) | refine Cy (fun h=>g ?_) (fun h=>g ?_) | (refine hKD _ _ ⟨rfl,g ?_⟩;clear hKD KD) | (refine B8 rfl rfl (fun h e=>?_) (fun h e=>?_)<;>simp only [e]<;>clear e<;>refine g ?_) | (refine Cn rfl rfl (fun h=>?_) (fun h=>?_)<;>simp only [h]<;>refine g ?_) | refine ix_ (by omega) (g ?_) | refine A9 (Qt _ _) rfl (g ?_) | ((refine exR (.bool (l[i].live != m[i].live)) ?_ ?_;focus (intro w;generalize l[i].live=a;generalize m[i].live=b;cases a<;>cases b<;>rfl)))<;>refine g ?_ | ((refine exR (.bool (l[i].heard != m[i].heard)) ?_ ?_;focus (intro w;generalize l[i].heard=a;generalize m[i].heard=b;cases a<;>cases b<;>rfl)))<;>refine g ?_ | ((refine exR (.bool (l[i].idle != m[i].idle)) ?_ ?_;focus (intro w;generalize l[i].idle=a;generalize m[i].idle=b;cases a<;>cases b<;>rfl)))<;>refine g ?_)
  all_goals first
   | (rw [<-hB];refine (decide_eq_false ?_).symm;rintro rfl;simp at h;done)
   | (rw [<-hB];refine decide_eq_false ?_;rintro rfl;simp at h;done)
   | skip
  rename_i a1 a2 a3 a4 a5 a6
  have he:l[i]=m[i]:=C72 _ _ (by simpa using a1) (by simpa using a2) (by simpa using a3) (by simpa using a4) (by simpa using a5) (by simpa using a6) (by simpa using h)
  refine ⟨⟨i+1,hlt,by rw [List.take_succ_eq_append_getElem hlt,List.take_succ_eq_append_getElem hlt2,ht,he]⟩,id,⟨⟨rfl,rfl,rfl,trivial⟩,trivial,List.nodup_nil⟩,by show l.length - (i+1) < l.length - i;omega⟩
 ·obtain rfl:i=l.length:=by omega
  rw [List.take_length,hlm,List.take_length] at ht
  rw [<-hB]
  exact (decide_eq_true ht).symm
end Go.Proofs.YtblfjaedaijfoaaGreatDoor
namespace Go.Proofs.YtblfjaedaijfoaaGreatDoor
open Go.ChangeShapes Go.WideShapes Go.ChangeAt Go.RowKit
set_option maxHeartbeats 1600000 in
theorem A77 (l : List Sub) (v : Value) (w : World) (h : Sm w w.heap.size v l) :
    Calls Tryz.prog 48 #[v] w fun e w' => e = .returned (.bool (Fo l)) /\ Below w.heap.size w w' := by
  have hle := h.len_le
  obtain ⟨A, c, rfl, _⟩ := id h
  unfold Fo
  go_enter Tryz.func48, Tryz.ntmps48
  go_wp2_with fail
  go_loopw [3] (fun i wr => ∃ (m : Nat) (e : Int), m <= l.length /\ i = .int .i64 m /\ (m = 0 -> e = -1) /\ (∀ i y, m = i + 1 -> l[i]? = some y -> e = y.from_) /\ Je (-1) l = Je e (l.drop m) /\ Below w.heap.size w wr) (fun i _ => l.length - (intOf i).toNat)
  case atStart => exact ⟨0, -1, Nat.zero_le _, rfl, fun _ => rfl, fun i _ hi => by omega, rfl, Below.refl _ _⟩
  case round =>
    obtain ⟨m, e, hm, rfl, he0, he1, hv, hb⟩ := hrel
    have hn := h.next hb
    by_cases hlt : m < l.length
    · obtain ⟨y, hy⟩ : ∃ y, l[m]? = some y := ⟨l[m], List.getElem?_eq_getElem hlt⟩
      obtain ⟨b, off, c', vi, hv', hbb, e0, e1, e2, e3, e4, e5, e6, hs, _, _, _⟩ := Ah3 hn hy
      injection hv' with hv1 hv2 hv3
      rw [Eh hy, Je] at hv
      have Hy := Lib.hid hy
      obtain ⟨yf, yi, ys, yq, yl, yh, yd⟩ := y
      simp only at e0 e1 e2 e3 e4 e5 e6 hv hs
      subst hv1
      have i2 : (m : Int) < (l.length : Int) := by omega
      have He0 := Lib.hid he0
      have He1 := Lib.hid he1
      have HV := Lib.hid hv
      have HN := Lib.hid hn
      obtain ⟨A4, c4, rfl, _⟩ := id hs
      have HS := Lib.hid hs
      clear hv hv2 hv3 hy hbb hn hs he0 he1
      go_wp2_with fail
      have kB := Ai (o := .cells #[.int .i64 yf, .slice A4 yi.length c4, .int .i64 ys, .int .i64 yq, .bool yl, .bool yh, .bool yd] 118) (Below.refl _ wr)
      have B5 := Blk.new wr 118 #[.int .i64 yf, .slice A4 yi.length c4, .int .i64 ys, .int .i64 yq, .bool yl, .bool yh, .bool yd]
      have hs2 := HS.out.next kB
      have hb2 := Av hb kB
      generalize hW : wr.alloc (.cells #[.int .i64 yf, .slice A4 yi.length c4, .int .i64 ys, .int .i64 yq, .bool yl, .bool yh, .bool yd] 118) = W at *
      have KB := Lib.hid kB
      have q0 : ∀ z : BW W, z.val.cell? ⟨wr.heap.size, 0, none⟩ = some (.int .i64 yf) := fun z => z.cell (B5.cell 0)
      have q1 : ∀ z : BW W, z.val.cell? ⟨wr.heap.size, 1, none⟩ = some (.slice A4 yi.length c4) := fun z => z.cell (B5.cell 1)
      have q2 : ∀ z : BW W, z.val.cell? ⟨wr.heap.size, 2, none⟩ = some (.int .i64 ys) := fun z => z.cell (B5.cell 2)
      have q3 : ∀ z : BW W, z.val.cell? ⟨wr.heap.size, 3, none⟩ = some (.int .i64 yq) := fun z => z.cell (B5.cell 3)
      generalize hr1 : (Dy yf && Sn yi) = r1 at HV
      generalize hr2 : R1 ys = r2 at HV
      generalize hr3 : R1 yq = r3 at HV
      have HC1 := Lib.hid (fun z : BW W => hr1 ▸ A09 yf yi _ z.val (hs2.next z.below))
      have HC2 := Lib.hid (fun z : BW W => hr2 ▸ N0 ys z.val)
      have HC3 := Lib.hid (fun z : BW W => hr3 ▸ N0 yq z.val)
      have hf0 : Dy yf = true -> 0 <= yf := fun h => by simp only [Dy, decide_eq_true_eq] at h; exact h.1
      have HF := Lib.hid (fun h : r1 = true => hf0 (by rw [h] at hr1; simp only [Bool.and_eq_true] at hr1; exact hr1.1))
      clear e0 e1 e2 e3 e4 e5 e6 hr1 hr2 hr3 hW hs2 B5 kB hf0
      cases m with
      | zero =>
        have hcs : r1 = false \/ (r1 = true /\ r2 = false) \/ (r1 = true /\ r2 = true /\ r3 = false) \/ (r1 = true /\ r2 = true /\ r3 = true) := by cases r1 <;> cases r2 <;> cases r3 <;> simp
        rcases hcs with rfl | ⟨rfl, rfl⟩ | ⟨rfl, rfl, rfl⟩ | ⟨rfl, rfl, rfl⟩
        all_goals
          refine Cd (by kernel_rfl) (by kernel_rfl) ?_
          repeat (go_big_quiet_step (first | (go_at_call 127; exact Fl (HC1.out _)) | (go_at_call 128; first | (with_reducible exact Ev (HC2.out _)) | (with_reducible exact Ev (HC3.out _)))))
          refine wpQuiet_nil ?_
          intro w5 hb5
          have hb6 := Av hb2 hb5
          go_wp2_with fail
        all_goals first
          | (go_ret
             refine ⟨Ad ?_, hb6⟩
             rw [HV.out]; simp; done)
          | (refine ⟨⟨1, yf, by omega, by go_num, fun h => by omega, fun i' y hi hyi => ?_, ?_, hb6⟩, by simp [intOf]; omega⟩
             · obtain rfl : i' = 0 := by omega
               rw [Hy.out] at hyi
               injection hyi with hyi
               subst hyi
               rfl
             · rw [HV.out, decide_eq_true (p := e < yf) (by have := HF.out rfl; have := He0.out rfl; omega)]
               rfl)
      | succ i =>
        obtain ⟨y', hy'⟩ : ∃ y', l[i]? = some y' := ⟨l[i], List.getElem?_eq_getElem (by omega)⟩
        obtain rfl := He1.out i y' rfl hy'
        obtain ⟨b', off', c'', vi', hv', hbb', e2, _⟩ := Ah3 HN.out hy'
        injection hv' with hv1 hv2 hv3
        injection hv1 with hv1
        injection hv1 with hv4 hv5
        subst hv4 hv5
        have q6 : ∀ z : BW W, z.val.cell? ⟨b, off + i * 7, none⟩ = some (.int .i64 y'.from_) := fun z => z.cell (As KB.out e2)
        have i1 : (0 : Int) < (i : Int) + 1 := by omega
        have i3 : (i : Int) < (l.length : Int) := by omega
        have s1 : IntKind.i64.wrap ((i : Int) + 1) = (i : Int) + 1 := IntWalk.i64_in _ (by omega)
        have s2 : IntKind.i64.wrap (i : Int) = (i : Int) := IntWalk.i64_in _ (by omega)
        clear hv2 hv3 hy' e2 hbb'
        have hcs : r1 = false \/ (r1 = true /\ yf <= y'.from_ /\ decide (yf <= y'.from_) = true) \/ (r1 = true /\ r2 = false /\ y'.from_ < yf /\ decide (yf <= y'.from_) = false) \/ (r1 = true /\ r2 = true /\ r3 = false /\ y'.from_ < yf /\ decide (yf <= y'.from_) = false) \/ (r1 = true /\ r2 = true /\ r3 = true /\ y'.from_ < yf /\ decide (yf <= y'.from_) = false) := by
          simp only [decide_eq_true_eq, decide_eq_false_iff_not]
          cases r1 <;> cases r2 <;> cases r3 <;> simp <;> omega
        rcases hcs with rfl | ⟨rfl, h1, g1⟩ | ⟨rfl, rfl, h1, g1⟩ | ⟨rfl, rfl, rfl, h1, g1⟩ | ⟨rfl, rfl, rfl, h1, g1⟩
        all_goals
          refine Cd (by kernel_rfl) (by kernel_rfl) ?_
          repeat (go_big_quiet_step (first | (go_at_call 127; exact Fl (HC1.out _)) | (go_at_call 128; first | (with_reducible exact Ev (HC2.out _)) | (with_reducible exact Ev (HC3.out _)))))
          refine wpQuiet_nil ?_
          intro w5 hb5
          have hb6 := Av hb2 hb5
          clear s1 s2
          go_wp2_with fail
        all_goals first
          | (go_ret
             refine ⟨Ad ?_, hb6⟩
             first
               | (rw [HV.out]; simp; done)
               | (rw [HV.out, decide_eq_false (p := y'.from_ < yf) (by omega)]; rfl))
          | (refine ⟨⟨i + 1 + 1, yf, by omega, by go_num, fun h => by omega, fun i' y hi hyi => ?_, ?_, hb6⟩, by simp [intOf]; omega⟩
             · obtain rfl : i' = i + 1 := by omega
               rw [Hy.out] at hyi
               injection hyi with hyi
               subst hyi
               rfl
             · rw [HV.out, decide_eq_true (p := y'.from_ < yf) (by omega)]
               rfl)
    · obtain rfl : m = l.length := by omega
      rw [List.drop_length] at hv
      have HV := Lib.hid hv
      clear hv he0 he1
      go_wp2_with fail
      go_ret
      refine ⟨Ad ?_, hb⟩
      rw [HV.out, Je, Bool.true_and]
      exact decide_eq_decide.2 (by omega)
theorem Zy {α:Type} {l:List α} {m:Nat} {x:α} (h:l[m]? = some x):l.set m x=l:=by
 obtain ⟨h1,rfl⟩:=List.getElem?_eq_some_iff.1 h
 simp
theorem Sm.ext {w w':World} {v:Value} {l:List Sub} (h:Sm w w.heap.size v l) (he:Ext w w'):Sm w' w'.heap.size v l:=Sl.ext h (fun cs x hx=>Ck2 _ _ cs x he hx) he
abbrev Dq1:=E15 (fun w=>Bd9 w w.heap.size) 7
theorem C71 {X:World} {cs:List Value} {s:Sub} (h:Bd9 X X.heap.size cs s):Ay X cs (Vp s):=by
 obtain ⟨v,rfl,h1,h2,h3,hv⟩:=h
 exact ⟨.val h1,Ry hv (Nat.le_refl _),.val h2,.val h3,.val trivial,.val trivial,.val trivial,trivial⟩
theorem C78 {X:World} {cs:List Value} {s:Sub} (h:Ay X cs (Vp s)):Bd9 X X.heap.size cs s:=by
 match cs,h with
 | [a,b,c,d,e,f,g],⟨h1,h2,h3,h4,h5,h6,h7,_⟩=>cases h1 with | val i1=>cases h3 with | val i3=>cases h4 with | val i4=>cases h5;cases h6;cases h7;exact ⟨_,rfl,i1,i3,i4,h2.spans⟩
theorem Bh0 {E:Env} {V:World} {v:Value} {l:List Sub} (h:Bd E V v (.iv (H9 l))):Sm V V.heap.size v l:=by
 cases h with
 | iv h=>exact Cp.to_typed (R:=Bd9 V V.heap.size) (l:=l) (enc:=Vp) h fun cs x _ hx=>C78 hx
attribute [local irreducible] AW AWY Bo B4 vop Bj B7 Bf qop Bu C4 Aq Aj Bh A7 B9 Ge
theorem Bb6 (l:List Sub):A7 Tryz.prog A8 38 [.iv (H9 l)] (.val (.bool (Fo l))) [] :=
 Bt Tryz.func38 rfl (by kernel_rfl) fun V w E vs hV hG hr=>by
  obtain ⟨v,rfl,hv⟩:=H6 hr
  exact Uw l v w ((Bh0 hv).ext hV)
theorem As2 (l:List Sub):A7 Tryz.prog A8 48 [.iv (H9 l)] (.val (.bool (Fo l))) [] :=
 Bt Tryz.func48 rfl (by kernel_rfl) fun V w E vs hV hG hr=>by
  obtain ⟨v,rfl,hv⟩:=H6 hr
  exact A77 l v w ((Bh0 hv).ext hV)
def E00 (bl:List Ao) (s:Sub):Bool:=!(s.heard&&!(s.live&&s.idle&&Bu7 s.interest bl))
def Bw7 (s:Sub) (t:Int):Sub:=⟨s.from_,s.interest,t,0,false,true,false⟩
def Bw8 (me:Int) (s:Sub) (t:Int) (v:List Ab):Msg:=⟨1,me,s.from_,t,0,s.interest,v,[],⟨0,⟨0,0⟩,[]⟩⟩
structure An6 where
 done:List Sub
 msgs:List Msg
 tries:Int
def Bm6 (bl:List Ao) (me:Int) (sn:List Ao->List Ab) (a:An6) (s:Sub):An6 :=
 if E00 bl s=true then ⟨a.done++[Bw7 s (Bz9 a.tries)],a.msgs++[Bw8 me s (Bz9 a.tries) (sn s.interest)],Bz9 a.tries⟩ else ⟨a.done++[{ s with heard:=false }],a.msgs,a.tries⟩
def Bw9 (bl:List Ao) (me:Int) (sn:List Ao->List Ab) (l:List Sub) (t:Int):An6:=l.foldl (Bm6 bl me sn) ⟨[],[],t⟩
def Dw3 (l:List Sub) (me tries:Int) (v:Cr):An6×Int:=if (Fo l&&Dy me&&R1 tries&&Am v)=true then (Bw9 (Mt v.zones) me (Ch5 v) l tries,0) else (⟨[],[],0⟩,1)
end Go.Proofs.YtblfjaedaijfoaaGreatDoor
