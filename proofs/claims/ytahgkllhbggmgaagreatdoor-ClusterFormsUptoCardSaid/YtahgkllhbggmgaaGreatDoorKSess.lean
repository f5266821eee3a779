/- Subscriptions and messages over abstract states: tests, one's own copies; the elder contracts told so. -/
import Derived.Test.YtahgkllhbggmgaaGreatDoorKSubEnc
import Derived.Test.YtahgkllhbggmgaaGreatDoorKSubsForm
import Derived.Test.YtahgkllhbggmgaaGreatDoorKClone
import Derived.Test.YtahgkllhbggmgaaGreatDoorKMeet
set_option linter.all false
set_option linter.unnecessarySimpa false
set_option linter.unusedSimpArgs false
set_option linter.unusedVariables false
namespace Go.Proofs.YtahgkllhbggmgaaGreatDoor
open Go.ChangeShapes Go.WideShapes Go.ChangeAt Go.RowKit
attribute [local irreducible] AW AWY Bd As vop B4 Ap Aw qop Bc Bs Ai Ag Ay A7 Av Et
attribute [local go_sem] Nm Kl Ae Af
theorem Bh5:∀ (x y:Sub),x.from_=y.from_->x.interest=y.interest->x.session=y.session->x.seq=y.seq->x.live=y.live->x.heard=y.heard->x.idle=y.idle->x=y
 | ⟨_,_,_,_,_,_,_⟩,⟨_,_,_,_,_,_,_⟩,rfl,rfl,rfl,rfl,rfl,rfl,rfl=>rfl
theorem exR {A K:Value->Prop} (r:Value) (hA:A r) (hk:K r):∃ r,A r/\Ct (K r):=⟨r,hA,Bt hk⟩
set_option maxRecDepth 100000 in
set_option maxHeartbeats 1600000 in
theorem Vd (l m:List Sub):A7 Tryz.prog A8 152 [.iv (Hu l),.iv (Hu m)] (.val (.bool (decide (l=m)))) []:=by
 refine A7.of (n:=75) (rs:=[.tmp 4]) Tryz.func152 rfl (by kernel_rfl) Tryz.ntmps152 (by kernel_rfl) (by simp) (fun _ _=>A8.later) ?_
 intro hok V w0
 have hlen:l.length<=1073741824:=by simpa [Hu] using hok.1.1
 obtain ⟨B,hB⟩ : ∃ B,decide (l=m)=B:=⟨_,rfl⟩
 rw [hB]
 refine g ?_
 repeat' (first | refine st_ rfl (g ?_) | refine Aj (fun h=>g ?_) (fun h=>g ?_))
 ·rw [<-hB,decide_eq_false]
  rintro rfl
  exact h rfl
 have hlm:l.length=m.length:=by omega
 refine AW.loop (fun i:{i:Nat // i<=l.length/\l.take i=m.take i}=>⟨[(0,.iv (Hu l)),(1,.iv (Hu m)),(5,.val (.int .i64 (i.1:Nat)))],[]⟩) (fun i=>l.length - i.1) ⟨0,Nat.zero_le _,rfl⟩ id ⟨⟨rfl,rfl,rfl,trivial⟩,trivial,List.nodup_nil⟩ fun ⟨i,hi,ht⟩=>?_
 refine g ?_
 repeat' (first | refine st_ rfl (g ?_) | refine Aj (fun h=>g ?_) (fun h=>g ?_))
 ·have hlt:i < l.length:=by omega
  have hlt2:i < m.length:=by omega
  refine AW.drawn (ds:=[19,20,21,22,23,24,25,26,6,7]) (fin:=[2,3]) (bs:=[0,0,0,0,0,0,0,0,0,1,2,3]) [⟨[],[],[],[],0⟩,⟨[],[],[],[],0⟩,⟨[(19,0),(20,1)],[],[],[],0⟩,⟨[(21,2)],[],[],[],0⟩,⟨[],[],[],[],0⟩,⟨[],[],[],[],0⟩,⟨[(23,4),(24,5)],[],[],[],0⟩,⟨[(25,6)],[],[],[],0⟩,⟨[],[],[],[],1⟩,⟨[],[],[],[],1⟩,⟨[(6,8),(22,3)],[],[],[0],1⟩,⟨[(7,9),(26,7)],[],[],[1],1⟩] (by kernel_rfl) rfl (by kernel_rfl) rfl rfl rfl fun KD hKD=>?_
  refine g ?_
  repeat' (first | refine st_ rfl (g ?_) | refine Da (fun h=>g ?_) (fun h=>g ?_) | (refine hKD _ _ ⟨rfl,g ?_⟩;clear hKD KD) | (refine B7 rfl rfl (fun h e=>?_) (fun h e=>?_)<;>simp only [e]<;>clear e<;>refine g ?_) | (refine Dm rfl rfl (fun h=>?_) (fun h=>?_)<;>simp only [h]<;>refine g ?_) | refine ix_ (by omega) (g ?_) | refine Aa (N0 _ _) rfl (g ?_) | ((refine exR (.bool (l[i].live != m[i].live)) ?_ ?_;focus (intro w;generalize l[i].live=a;generalize m[i].live=b;cases a<;>cases b<;>rfl)))<;>refine g ?_ | ((refine exR (.bool (l[i].heard != m[i].heard)) ?_ ?_;focus (intro w;generalize l[i].heard=a;generalize m[i].heard=b;cases a<;>cases b<;>rfl)))<;>refine g ?_ | ((refine exR (.bool (l[i].idle != m[i].idle)) ?_ ?_;focus (intro w;generalize l[i].idle=a;generalize m[i].idle=b;cases a<;>cases b<;>rfl)))<;>refine g ?_)
  all_goals first
   | (rw [<-hB];refine (decide_eq_false ?_).symm;rintro rfl;simp at h;done)
   | (rw [<-hB];refine decide_eq_false ?_;rintro rfl;simp at h;done)
   | skip
  rename_i a1 a2 a3 a4 a5 a6
  have he:l[i]=m[i]:=Bh5 _ _ (by simpa using a1) (by simpa using a2) (by simpa using a3) (by simpa using a4) (by simpa using a5) (by simpa using a6) (by simpa using h)
  refine ⟨⟨i+1,hlt,by rw [List.take_succ_eq_append_getElem hlt,List.take_succ_eq_append_getElem hlt2,ht,he]⟩,id,⟨⟨rfl,rfl,rfl,trivial⟩,trivial,List.nodup_nil⟩,by show l.length - (i+1) < l.length - i;omega⟩
 ·obtain rfl:i=l.length:=by omega
  rw [List.take_length,hlm,List.take_length] at ht
  rw [<-hB]
  exact (decide_eq_true ht).symm
end Go.Proofs.YtahgkllhbggmgaaGreatDoor
namespace Go.Proofs.YtahgkllhbggmgaaGreatDoor
open Go.ChangeShapes Go.WideShapes Go.ChangeAt Go.RowKit
set_option maxHeartbeats 1600000 in
theorem Xn (l : List Sub) (v : Value) (w : World) (h : Pj w w.heap.size v l) :
    Calls Tryz.prog 81 #[v] w fun e w' => e = .returned (.bool (Ec l)) /\ Below w.heap.size w w' := by
  have hle := h.len_le
  obtain ⟨A, c, rfl, _⟩ := id h
  unfold Ec
  go_enter Tryz.func81, Tryz.ntmps81
  go_wp2_with fail
  go_loopw [3] (fun i wr => ∃ (m : Nat) (e : Int), m <= l.length /\ i = .int .i64 m /\ (m = 0 -> e = -1) /\ (∀ i y, m = i + 1 -> l[i]? = some y -> e = y.from_) /\ G1 (-1) l = G1 e (l.drop m) /\ Below w.heap.size w wr) (fun i _ => l.length - (intOf i).toNat)
  case atStart => exact ⟨0, -1, Nat.zero_le _, rfl, fun _ => rfl, fun i _ hi => by omega, rfl, Below.refl _ _⟩
  case round =>
    obtain ⟨m, e, hm, rfl, he0, he1, hv, hb⟩ := hrel
    have hn := h.next hb
    by_cases hlt : m < l.length
    · obtain ⟨y, hy⟩ : ∃ y, l[m]? = some y := ⟨l[m], List.getElem?_eq_getElem hlt⟩
      obtain ⟨b, off, c', vi, hv', hbb, e0, e1, e2, e3, e4, e5, e6, hs, _, _, _⟩ := Zk hn hy
      injection hv' with hv1 hv2 hv3
      rw [E7 hy, G1] at hv
      have Hy := Lib.hid hy
      obtain ⟨yf, yi, ys, yq, yl, yh, yd⟩ := y
      simp only at e0 e1 e2 e3 e4 e5 e6 hv hs
      subst hv1
      have i2 : (m : Int) < (l.length : Int) := by omega
      have He0 := Lib.hid he0
      have He1 := Lib.hid he1
      have HV := Lib.hid hv
      have HN := Lib.hid hn
      obtain ⟨A4, c4, rfl, _⟩ := id hs
      have HS := Lib.hid hs
      clear hv hv2 hv3 hy hbb hn hs he0 he1
      go_wp2_with fail
      have kB := An (o := .cells #[.int .i64 yf, .slice A4 yi.length c4, .int .i64 ys, .int .i64 yq, .bool yl, .bool yh, .bool yd] 92) (Below.refl _ wr)
      have B5 := Blk.new wr 92 #[.int .i64 yf, .slice A4 yi.length c4, .int .i64 ys, .int .i64 yq, .bool yl, .bool yh, .bool yd]
      have hs2 := HS.out.next kB
      have hb2 := B8 hb kB
      generalize hW : wr.alloc (.cells #[.int .i64 yf, .slice A4 yi.length c4, .int .i64 ys, .int .i64 yq, .bool yl, .bool yh, .bool yd] 92) = W at *
      have KB := Lib.hid kB
      have q0 : ∀ z : BW W, z.val.cell? ⟨wr.heap.size, 0, none⟩ = some (.int .i64 yf) := fun z => z.cell (B5.cell 0)
      have q1 : ∀ z : BW W, z.val.cell? ⟨wr.heap.size, 1, none⟩ = some (.slice A4 yi.length c4) := fun z => z.cell (B5.cell 1)
      have q2 : ∀ z : BW W, z.val.cell? ⟨wr.heap.size, 2, none⟩ = some (.int .i64 ys) := fun z => z.cell (B5.cell 2)
      have q3 : ∀ z : BW W, z.val.cell? ⟨wr.heap.size, 3, none⟩ = some (.int .i64 yq) := fun z => z.cell (B5.cell 3)
      generalize hr1 : (De yf && Pk yi) = r1 at HV
      generalize hr2 : Na ys = r2 at HV
      generalize hr3 : Na yq = r3 at HV
      have HC1 := Lib.hid (fun z : BW W => hr1 ▸ Vl yf yi _ z.val (hs2.next z.below))
      have HC2 := Lib.hid (fun z : BW W => hr2 ▸ Kn ys z.val)
      have HC3 := Lib.hid (fun z : BW W => hr3 ▸ Kn yq z.val)
      have hf0 : De yf = true -> 0 <= yf := fun h => by simp only [De, decide_eq_true_eq] at h; exact h.1
      have HF := Lib.hid (fun h : r1 = true => hf0 (by rw [h] at hr1; simp only [Bool.and_eq_true] at hr1; exact hr1.1))
      clear e0 e1 e2 e3 e4 e5 e6 hr1 hr2 hr3 hW hs2 B5 kB hf0
      cases m with
      | zero =>
        have hcs : r1 = false \/ (r1 = true /\ r2 = false) \/ (r1 = true /\ r2 = true /\ r3 = false) \/ (r1 = true /\ r2 = true /\ r3 = true) := by cases r1 <;> cases r2 <;> cases r3 <;> simp
        rcases hcs with rfl | ⟨rfl, rfl⟩ | ⟨rfl, rfl, rfl⟩ | ⟨rfl, rfl, rfl⟩
        all_goals
          refine Db (by kernel_rfl) (by kernel_rfl) ?_
          repeat (go_big_quiet_step (first | (go_at_call 166; exact Ea (HC1.out _)) | (go_at_call 167; first | (with_reducible exact Dp (HC2.out _)) | (with_reducible exact Dp (HC3.out _)))))
          refine wpQuiet_nil ?_
          intro w5 hb5
          have hb6 := B8 hb2 hb5
          go_wp2_with fail
        all_goals first
          | (go_ret
             refine ⟨Ah ?_, hb6⟩
             rw [HV.out]; simp; done)
          | (refine ⟨⟨1, yf, by omega, by go_num, fun h => by omega, fun i' y hi hyi => ?_, ?_, hb6⟩, by simp [intOf]; omega⟩
             · obtain rfl : i' = 0 := by omega
               rw [Hy.out] at hyi
               injection hyi with hyi
               subst hyi
               rfl
             · rw [HV.out, decide_eq_true (p := e < yf) (by have := HF.out rfl; have := He0.out rfl; omega)]
               rfl)
      | succ i =>
        obtain ⟨y', hy'⟩ : ∃ y', l[i]? = some y' := ⟨l[i], List.getElem?_eq_getElem (by omega)⟩
        obtain rfl := He1.out i y' rfl hy'
        obtain ⟨b', off', c'', vi', hv', hbb', e2, _⟩ := Zk HN.out hy'
        injection hv' with hv1 hv2 hv3
        injection hv1 with hv1
        injection hv1 with hv4 hv5
        subst hv4 hv5
        have q6 : ∀ z : BW W, z.val.cell? ⟨b, off + i * 7, none⟩ = some (.int .i64 y'.from_) := fun z => z.cell (Al KB.out e2)
        have i1 : (0 : Int) < (i : Int) + 1 := by omega
        have i3 : (i : Int) < (l.length : Int) := by omega
        have s1 : IntKind.i64.wrap ((i : Int) + 1) = (i : Int) + 1 := IntWalk.i64_in _ (by omega)
        have s2 : IntKind.i64.wrap (i : Int) = (i : Int) := IntWalk.i64_in _ (by omega)
        clear hv2 hv3 hy' e2 hbb'
        have hcs : r1 = false \/ (r1 = true /\ yf <= y'.from_ /\ decide (yf <= y'.from_) = true) \/ (r1 = true /\ r2 = false /\ y'.from_ < yf /\ decide (yf <= y'.from_) = false) \/ (r1 = true /\ r2 = true /\ r3 = false /\ y'.from_ < yf /\ decide (yf <= y'.from_) = false) \/ (r1 = true /\ r2 = true /\ r3 = true /\ y'.from_ < yf /\ decide (yf <= y'.from_) = false) := by
          simp only [decide_eq_true_eq, decide_eq_false_iff_not]
          cases r1 <;> cases r2 <;> cases r3 <;> simp <;> omega
        rcases hcs with rfl | ⟨rfl, h1, g1⟩ | ⟨rfl, rfl, h1, g1⟩ | ⟨rfl, rfl, rfl, h1, g1⟩ | ⟨rfl, rfl, rfl, h1, g1⟩
        all_goals
          refine Db (by kernel_rfl) (by kernel_rfl) ?_
          repeat (go_big_quiet_step (first | (go_at_call 166; exact Ea (HC1.out _)) | (go_at_call 167; first | (with_reducible exact Dp (HC2.out _)) | (with_reducible exact Dp (HC3.out _)))))
          refine wpQuiet_nil ?_
          intro w5 hb5
          have hb6 := B8 hb2 hb5
          clear s1 s2
          go_wp2_with fail
        all_goals first
          | (go_ret
             refine ⟨Ah ?_, hb6⟩
             first
               | (rw [HV.out]; simp; done)
               | (rw [HV.out, decide_eq_false (p := y'.from_ < yf) (by omega)]; rfl))
          | (refine ⟨⟨i + 1 + 1, yf, by omega, by go_num, fun h => by omega, fun i' y hi hyi => ?_, ?_, hb6⟩, by simp [intOf]; omega⟩
             · obtain rfl : i' = i + 1 := by omega
               rw [Hy.out] at hyi
               injection hyi with hyi
               subst hyi
               rfl
             · rw [HV.out, decide_eq_true (p := y'.from_ < yf) (by omega)]
               rfl)
    · obtain rfl : m = l.length := by omega
      rw [List.drop_length] at hv
      have HV := Lib.hid hv
      clear hv he0 he1
      go_wp2_with fail
      go_ret
      refine ⟨Ah ?_, hb⟩
      rw [HV.out, G1, Bool.true_and]
      exact decide_eq_decide.2 (by omega)
theorem Pj.ext {w w':World} {v:Value} {l:List Sub} (h:Pj w w.heap.size v l) (he:Ext w w'):Pj w' w'.heap.size v l:=Sl.ext h (fun cs x hx=>By3 _ _ cs x he hx) he
abbrev D71:=Dk0 (fun w=>Aq6 w w.heap.size) 7
theorem Bh4 {X:World} {cs:List Value} {s:Sub} (h:Aq6 X X.heap.size cs s):Az X cs (Wm s):=by
 obtain ⟨v,rfl,h1,h2,h3,hv⟩:=h
 exact ⟨.val h1,Nw hv (Nat.le_refl _),.val h2,.val h3,.val trivial,.val trivial,.val trivial,trivial⟩
theorem Bi1 {X:World} {cs:List Value} {s:Sub} (h:Az X cs (Wm s)):Aq6 X X.heap.size cs s:=by
 match cs,h with
 | [a,b,c,d,e,f,g],⟨h1,h2,h3,h4,h5,h6,h7,_⟩=>cases h1 with | val i1=>cases h3 with | val i3=>cases h4 with | val i4=>cases h5;cases h6;cases h7;exact ⟨_,rfl,i1,i3,i4,h2.spans⟩
theorem At4 {E:Env} {V:World} {v:Value} {l:List Sub} (h:At E V v (.iv (Hu l))):Pj V V.heap.size v l:=by
 cases h with
 | iv h=>exact C1.to_typed (R:=Aq6 V V.heap.size) (l:=l) (enc:=Wm) h fun cs x _ hx=>Bi1 hx
attribute [local irreducible] AW AWY Bd As vop B4 Ap Aw qop Bc Bs Ai Ag Ay A7 Av Et
theorem Ao8 (l:List Sub):A7 Tryz.prog A8 68 [.iv (Hu l)] (.val (.bool (Ec l))) [] :=
 Bm Tryz.func68 rfl (by kernel_rfl) fun V w E vs hV hG hr=>by
  obtain ⟨v,rfl,hv⟩:=Kc hr
  exact R3 l v w ((At4 hv).ext hV)
theorem A94 (l:List Sub):A7 Tryz.prog A8 81 [.iv (Hu l)] (.val (.bool (Ec l))) [] :=
 Bm Tryz.func81 rfl (by kernel_rfl) fun V w E vs hV hG hr=>by
  obtain ⟨v,rfl,hv⟩:=Kc hr
  exact Xn l v w ((At4 hv).ext hV)
def Dh9 (bl:List Ar) (s:Sub):Bool:=!(s.heard&&!(s.live&&s.idle&&B50 s.interest bl))
def B75 (s:Sub) (t:Int):Sub:=⟨s.from_,s.interest,t,0,false,true,false⟩
def B76 (me:Int) (s:Sub) (t:Int) (v:List Ad):Msg:=⟨1,me,s.from_,t,0,s.interest,v,[],⟨0,⟨0,0⟩,[]⟩⟩
structure A51 where
 done:List Sub
 msgs:List Msg
 tries:Int
def Ay2 (bl:List Ar) (me:Int) (sn:List Ar->List Ad) (a:A51) (s:Sub):A51 :=
 if Dh9 bl s=true then ⟨a.done++[B75 s (B99 a.tries)],a.msgs++[B76 me s (B99 a.tries) (sn s.interest)],B99 a.tries⟩ else ⟨a.done++[{ s with heard:=false }],a.msgs,a.tries⟩
def B77 (bl:List Ar) (me:Int) (sn:List Ar->List Ad) (l:List Sub) (t:Int):A51:=l.foldl (Ay2 bl me sn) ⟨[],[],t⟩
def Dd6 (l:List Sub) (me tries:Int) (v:Gb):A51×Int:=if (Ec l&&De me&&Na tries&&Au v)=true then (B77 (Ag3 v.zones) me (Bu5 v) l tries,0) else (⟨[],[],0⟩,1)
end Go.Proofs.YtahgkllhbggmgaaGreatDoor
