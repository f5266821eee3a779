/- The law ViewNewest: behind any notes, writes and bodies, what is read is the newest of all writes that were told, with its own body; of up to 60 acts. The card (second form: of bulk at most 1048576). -/
import Derived.Test.YthlgnjlpakimaaaGreatDoorQFreshLaw
import Derived.Test.YthlgnjlpakimaaaGreatDoorQViewLaw3
import Derived.Test.YthlgnjlpakimaaaGreatDoorQPutShelf
import Derived.Test.YthlgnjlpakimaaaGreatDoorQRefThr
import Derived.Test.YthlgnjlpakimaaaGreatDoorQBlur
import Derived.Test.YthlgnjlpakimaaaGreatDoorQPlace
import Derived.Test.YthlgnjlpakimaaaGreatDoorQReadIn
import Derived.Test.YthlgnjlpakimaaaGreatDoorQRefSame13
import Derived.Test.YthlgnjlpakimaaaGreatDoorQTouch
import Derived.Test.YthlgnjlpakimaaaGreatDoorQAlive13
import Derived.Test.YthlgnjlpakimaaaGreatDoorQViewArgs
import Derived.Test.YthlgnjlpakimaaaGreatDoorQVecLaw
set_option linter.all false
set_option linter.unnecessarySimpa false
set_option linter.unusedSimpArgs false
set_option linter.unusedVariables false
namespace Go.Proofs.YthlgnjlpakimaaaGreatDoor
attribute [local irreducible] Et F7 Nv
structure B18 where
 me:Int
 object:Int
 skip:Int
 value:List Nat
 gone:Bool
structure Act where
 kind:Int
 note:At
 deed:B18
 body:Cg
structure A19 where
 view:B8
 all:List Ai
 bodies:List Cg
def Mv (v:B8) (l:List Ai):List Ai:=l.filter fun w=>Df v.zones v.known w
def Le (v:B8) (d:B18):Cg7:=Q4 v d.me d.object d.skip d.value d.gone
def Xc (v:B8) (d:B18):Ab:=(Gt (G3 v.known) d.me d.skip).1
def Ai8 (v:B8) (d:B18):Ai:=⟨Xc v d,d.object,d.gone⟩
def Bn2 (k:Int):Int:=k % 18446744073709551616 % 3
def Cg5 (s:A19) (a:Act):A19 :=
 if Bn2 a.kind=0 then
  (if (Bd s.view a.note).2=0 then ⟨(Bd s.view a.note).1,s.all++Mv (Bd s.view a.note).1 a.note.writes,s.bodies⟩ else s)
 else if Bn2 a.kind=1 then
  (if (Le s.view a.deed).err=0 then ⟨(Le s.view a.deed).view,s.all++(if Df (Le s.view a.deed).view.zones (Le s.view a.deed).view.known (Ai8 s.view a.deed)=true then [Ai8 s.view a.deed] else []),s.bodies++[⟨a.deed.object,Xc s.view a.deed,a.deed.value⟩]⟩ else s)
 else
  (if (Ji s.view a.body).2=0 then ⟨(Ji s.view a.body).1,s.all,s.bodies++[a.body]⟩ else s)
theorem As4 {u w:Ai} : Gm u w=false↔w.stamp.count < u.stamp.count\/w.stamp.count=u.stamp.count/\w.stamp.node<=u.stamp.node:=by
 unfold Gm A06 orI Ty
 rw [decide_eq_false_iff_not]
 (repeat' split)<;>omega
theorem Ba0 {a b c:Ai} (h1:Gm a b=false) (h2:Gm b c=false):Gm a c=false:=by
 rw [As4] at *
 omega
theorem Br9 (u:Option Ai) (w:Ai):Gm (Th u w) w=false/\∀ y,u=some y->Gm (Th u w) y=false:=by
 unfold Th
 cases u with
 | none=>exact ⟨J5 w,fun y h=>by cases h⟩
 | some u =>
  simp only
  by_cases h:Gm u w=true
  ·rw [if_pos h]
   refine ⟨J5 w,fun y e=>?_⟩
   cases e
   rw [As4]
   unfold Gm A06 orI Ty at h
   rw [decide_eq_true_eq] at h
   revert h
   (repeat' split)<;>intro h<;>omega
  ·rw [if_neg h]
   exact ⟨by simpa using h,fun y e=>by cases e;exact J5 u⟩
structure Jm (s:A19):Prop where
 vf:VF s.view
 told:∀ w∈s.all,∃ u∈s.view.held,u.object=w.object/\Gm u w=false
 from_:∀ u∈s.view.held,u∈s.all
 bodies:∀ x∈s.view.bodies,x∈s.bodies
theorem B82 {l t:List Ai} (h:Shelf l) (hr:∀ w∈t,Do w=true) (hp:t.Pairwise fun a b=>a.object < b.object):∀ w,w∈l\/w∈t->∃ u∈Kr l t,u.object=w.object/\Gm u w=false:=fun w hw=>by
 have hs:=Ll (list:=t) h hr
 by_cases ho:∃ x∈t,x.object=w.object
 ·obtain ⟨x,hx,e⟩:=ho
  have h1:=S9 h hr hp x hx
  obtain ⟨a,b⟩:=(Cq hs).1 h1
  refine ⟨_,a,by rw [b,e],?_⟩
  rcases hw with hw | hw
  ·exact (Br9 _ x).2 w ((Cq h).2 ⟨hw,e.symm⟩)
  ·have:x=w:=by
    obtain ⟨i,hi,rfl⟩:=List.mem_iff_getElem.1 hx
    obtain ⟨j,hj,rfl⟩:=List.mem_iff_getElem.1 hw
    rcases Nat.lt_trichotomy i j with h5 | h5 | h5
    ·have:=List.pairwise_iff_getElem.1 hp i j hi hj h5;omega
    ·subst h5;rfl
    ·have:=List.pairwise_iff_getElem.1 hp j i hj hi h5;omega
   subst this
   exact (Br9 _ x).1
 ·rcases hw with hw | hw
  ·have h1:=F8 (o:=w.object) h hr fun x hx e=>ho ⟨x,hx,e⟩
   rw [(Cq h).2 ⟨hw,rfl⟩] at h1
   exact ⟨w,((Cq hs).1 h1).1,rfl,J5 w⟩
  ·exact (ho ⟨w,hw,rfl⟩).elim
theorem Jm.take {s:A19} (h:Jm s) {n:At} (h0:(Bd s.view n).2=0):Jm ⟨(Bd s.view n).1,s.all++Mv (Bd s.view n).1 n.writes,s.bodies⟩:=by
 obtain ⟨hv,hn,hc,e⟩:=M3 h0
 have hvf:=Jd h0
 have ht:Mv (Bd s.view n).1 n.writes=Gh (F7 s.view n) (Bi s.view.known n) n:=by rw [e];rfl
 have hh:(Bd s.view n).1.held=Kr s.view.held (Gh (F7 s.view n) (Bi s.view.known n) n):=by rw [e]
 have hb:(Bd s.view n).1.bodies=s.view.bodies.filter (fun x=>Dm (Kr s.view.held (Gh (F7 s.view n) (Bi s.view.known n) n)) x):=by rw [e]
 have hN:=B82 hv.held (Hw (z:=F7 s.view n) (k:=Bi s.view.known n) (n:=n)) (A27 hn)
 refine ⟨hvf,fun w hw=>?_,fun u hu=>?_,fun x hx=>?_⟩
 ·simp only at hw ⊢
  rw [hh]
  rw [ht,List.mem_append] at hw
  rcases hw with hw | hw
  ·obtain ⟨u,hu,e1,e2⟩:=h.told w hw
   obtain ⟨y,hy,e3,e4⟩:=hN u (.inl hu)
   exact ⟨y,hy,e3.trans e1,Ba0 e4 e2⟩
  ·exact hN w (.inr hw)
 ·simp only at hu ⊢
  rw [hh] at hu
  rw [ht,List.mem_append]
  rcases Ah0 hv.held Hw u hu with h1 | h1
  ·exact .inl (h.from_ u h1)
  ·exact .inr h1
 ·simp only at hx ⊢
  rw [hb] at hx
  exact h.bodies x (List.mem_filter.1 hx).1
theorem Bf3 {v:B8} {x:Cg} (h:(Ji v x).2=0):(Ji v x).1=⟨v.known,v.zones,v.held,Rr v.room (G7 v.bodies x.object++[x]),v.room⟩:=by
 unfold Ji at h ⊢
 split at h
 ·rename_i hc
  rw [if_pos hc]
  split at h
  ·rename_i hw
   rw [if_pos hw]
  ·simp at h
 ·simp at h
theorem Jm.body {s:A19} (h:Jm s) {x:Cg} (h0:(Ji s.view x).2=0):Jm ⟨(Ji s.view x).1,s.all,s.bodies++[x]⟩:=by
 have hvf:=Ja.1 (B09 h0)
 have e:=Bf3 h0
 refine ⟨hvf,fun w hw=>?_,fun u hu=>?_,fun y hy=>?_⟩
 ·simp only
  rw [e]
  exact h.told w hw
 ·simp only at hu
  rw [e] at hu
  exact h.from_ u hu
 ·simp only at hy ⊢
  rw [e] at hy
  rcases List.mem_append.1 ((Rf _).subset hy) with hy | hy
  ·exact List.mem_append_left _ (h.bodies y (List.mem_filter.1 hy).1)
  ·exact List.mem_append_right _ hy
theorem Ad1 {v:B8} {d:B18} (h:(Le v d).err=0):∃ n:At,n.writes=[Ai8 v d]/\(Le v d).note=n/\(Bd v n).2=0/\((Le v d).view=(Bd v n).1\/(Ji (Bd v n).1 ⟨d.object,Xc v d,d.value⟩).2=0/\(Le v d).view=(Ji (Bd v n).1 ⟨d.object,Xc v d,d.value⟩).1):=by
 unfold Le Q4 at h ⊢
 split at h
 rotate_left
 ·simp [V9] at h
 rename_i hc
 rw [if_pos hc]
 split at h
 rotate_left
 ·rename_i hs
  exact absurd h hs
 rename_i hs
 rw [if_pos hs]
 split at h
 rotate_left
 ·rename_i hn
  exact absurd h hn
 rename_i hn
 rw [if_pos hn]
 split at h
 rotate_left
 ·rename_i ht
  exact absurd h ht
 rename_i ht
 rw [if_pos ht]
 have hw:(ofN v.known ⟨(Gt (G3 v.known) d.me d.skip).1,d.object,d.gone⟩).1.writes=[Ai8 v d]:=by
  unfold ofN at hn ⊢
  split at hn
  ·rename_i hh
   rw [if_pos hh]
   rfl
  ·simp at hn
 split at h
 ·rename_i hg
  rw [if_pos hg]
  exact ⟨_,hw,rfl,ht,.inl rfl⟩
 ·rename_i hg
  rw [if_neg hg]
  split at h
  ·rename_i hb
   rw [if_pos hb]
   exact ⟨_,hw,rfl,ht,.inr ⟨hb,rfl⟩⟩
  ·rename_i hb
   exact absurd h hb
theorem Jm.more {s:A19} (h:Jm s) (x:Cg):Jm ⟨s.view,s.all,s.bodies++[x]⟩:=⟨h.vf,h.told,h.from_,fun y hy=>List.mem_append_left _ (h.bodies y hy)⟩
theorem Jm.step {s:A19} (h:Jm s) (a:Act):Jm (Cg5 s a):=by
 unfold Cg5
 split
 ·split
  ·rename_i h0
   exact h.take h0
  ·exact h
 ·split
  ·split
   ·rename_i h0
    obtain ⟨n,hw,_,ht,hv⟩:=Ad1 h0
    have h1:=h.take ht
    have e:Mv (Bd s.view n).1 n.writes=if Df (Bd s.view n).1.zones (Bd s.view n).1.known (Ai8 s.view a.deed)=true then [Ai8 s.view a.deed] else []:=by
     unfold Mv
     rw [hw,List.filter_cons,List.filter_nil]
    rw [e] at h1
    rcases hv with hv | ⟨hb,hv⟩
    ·rw [hv]
     exact h1.more _
    ·have h2:=h1.body hb
     have h3:=Bf3 hb
     rw [hv]
     simp only at h2
     have e1:(Ji (Bd s.view n).1 ⟨a.deed.object,Xc s.view a.deed,a.deed.value⟩).1.zones=(Bd s.view n).1.zones:=by rw [h3]
     have e2:(Ji (Bd s.view n).1 ⟨a.deed.object,Xc s.view a.deed,a.deed.value⟩).1.known=(Bd s.view n).1.known:=by rw [h3]
     rw [e1,e2]
     exact h2
   ·exact h
  ·split
   ·rename_i h0
    exact h.body h0
   ·exact h
theorem Jm.first {room:Int} (h:S2 room=true):Jm ⟨⟨[],[],[],[],room⟩,[],[]⟩:=by
 have hv:Af ⟨[],[],[],[],room⟩=true:=by
  simp only [Af,F9,Cb,h,Hm,Jb]
  simp only [S2,Bool.and_eq_true,decide_eq_true_eq] at h
  simp [Ak,Fj,B7,Bc,Bv,D1,h.1]
 exact ⟨Ja.1 hv,fun w hw=>(by cases hw),fun w hw=>(by cases hw),fun w hw=>(by cases hw)⟩
theorem Jm.end_ {s:A19} (h:Jm s) (o:Int) :
  (∀ w∈s.all,w.object=o->(De s.view o).2.2=0\/(De s.view o).2.2=10->¬ 0 < A06 w.stamp.count w.stamp.node (De s.view o).2.1.stamp.count (De s.view o).2.1.stamp.node) /\
  ((∀ w∈s.all,¬ w.object=o)->(De s.view o).2.2=8\/(De s.view o).2.2=9\/(De s.view o).2.2=1/\(o < 0\/255 < o)) /\
  ((∃ w∈s.all,w.object=o)->¬ (De s.view o).2.2=8) /\
  ((De s.view o).2.2≠0\/(De s.view o).2.1.gone=true->(De s.view o).1=[]) /\
  ((De s.view o).2.2=0->(De s.view o).2.1.gone=false->(⟨o,(De s.view o).2.1.stamp,(De s.view o).1⟩ : Cg)∈s.bodies):=by
 by_cases ho:0<=o/\o<=255
 ·obtain ⟨k,rfl⟩ : ∃ k:Nat,o=k:=⟨o.toNat,by omega⟩
  rw [Vz h.vf (by omega)]
  split
  ·cases hg:D5 s.view.held k with
   | none =>
    have hno:∀ w∈s.all,¬ w.object=(k:Int):=fun w hw e=>by
     obtain ⟨u,hu,e1,_⟩:=h.told w hw
     have:=(Cq h.vf.held).2 ⟨hu,e1.trans e⟩
     rw [hg] at this
     cases this
    exact ⟨fun w hw e=>absurd e (hno w hw),fun _=>.inl rfl,fun ⟨w,hw,e⟩=>absurd e (hno w hw),fun _=>rfl,fun e=>by simp at e⟩
   | some u =>
    obtain ⟨hu,hue⟩:=(Cq h.vf.held).1 hg
    have hall:=h.from_ u hu
    have hnew:∀ w∈s.all,w.object=(k:Int)->Gm u w=false:=fun w hw e=>by
     obtain ⟨y,hy,e1,e2⟩:=h.told w hw
     have:=(Cq h.vf.held).2 ⟨hy,e1.trans e⟩
     rw [hg] at this
     cases this
     exact e2
    have hcmp:∀ w∈s.all,w.object=(k:Int)->¬ 0 < A06 w.stamp.count w.stamp.node u.stamp.count u.stamp.node:=fun w hw e=>by
     have:=hnew w hw e
     unfold Gm at this
     rw [decide_eq_false_iff_not] at this
     rw [Cf1]
     omega
    simp only
    cases hgone:u.gone with
    | true=>exact ⟨fun w hw e _=>hcmp w hw e,fun hn=>absurd hue (hn u hall),fun _=>by simp,fun _=>rfl,fun _ e=>by simp [hgone] at e⟩
    | false =>
     simp only [Bool.false_eq_true,if_false]
     refine ⟨fun w hw e _=>hcmp w hw e,fun hn=>absurd hue (hn u hall),fun _=>?_,fun hh=>?_,fun e _=>?_⟩
     all_goals unfold Wo at *
     ·split<;>simp
     ·split
      ·rename_i x hx
       simp only [hx] at hh
       simp [hgone] at hh
      ·rfl
     ·cases hx:s.view.bodies.find? (isB k u.stamp) with
      | none=>simp [hx] at e
      | some x =>
       simp only
       have h1:=h.bodies x (List.mem_of_find?_eq_some hx)
       have h2:=List.find?_some hx
       simp only [isB,Bool.and_eq_true,decide_eq_true_eq] at h2
       obtain ⟨xo,xs,xv⟩:=x
       simp only at h2 ⊢
       rw [h2.1,h2.2] at h1
       exact h1
  ·refine ⟨fun w _ _ e=>by simp at e,fun _=>.inr (.inl rfl),fun _=>by simp,fun _=>rfl,fun e=>by simp at e⟩
 ·rw [B79 ho]
  exact ⟨fun w _ _ e=>by simp at e,fun _=>.inr (.inr ⟨rfl,by omega⟩),fun _=>by simp,fun _=>rfl,fun e=>by simp at e⟩
end Go.Proofs.YthlgnjlpakimaaaGreatDoor
namespace Go.Proofs.YthlgnjlpakimaaaGreatDoor
open Go.ChangeShapes Go.WideShapes Go.ChangeAt Go.RowKit
theorem Bj4 (a b:Ab):A7 Tryz.prog A8 18 [.agg [.val (.int .i64 a.count),.val (.int .i64 a.node)],.agg [.val (.int .i64 b.count),.val (.int .i64 b.node)]] (.val (.int .i64 (A06 a.count a.node b.count b.node))) [] :=
 C8 Tryz.func18 rfl (by kernel_rfl) fun V w E vs hV hG hr=>by
  obtain ⟨v0,v1,rfl,h0,h1⟩:=Js hr
  obtain rfl:=Px h0
  obtain rfl:=Px h1
  exact Bk5 _ _ _ _ w
def Cf3 (f:Nat->Ai):Nat->List IV
 | 0=>[]
 | n+1=>Cf3 f n++enW (f n)
def Cm7:Nat->List Value
 | 0=>[]
 | n+1=>Cm7 n++[.int .i64 0,.int .i64 0,.int .i64 0,.bool false]
attribute [local irreducible] AW AWY Cd Bk vop C5 Bl Bz qop Cj Cv B4 Aw C4 A7 Bq Ct Cf3 Cm7
attribute [local go_sem] Eh Fc Jn Lg Mw Lh Qb
def E74 (L:List Ai) (o:Nat):Bool:=(D5 L o).isSome
def atL (L:List Ai) (o:Nat):Ai:=(D5 L o).getD noW
end Go.Proofs.YthlgnjlpakimaaaGreatDoor
namespace Go.Proofs.YthlgnjlpakimaaaGreatDoor
open Go.ChangeShapes Go.WideShapes Go.ChangeAt Go.RowKit
def A98 (a:Act):List IV:=[.val (.int .i64 a.kind),stI a.note.start,stI a.note.end_,spI a.note.blur,wrI a.note.writes,.val (.int .i64 a.deed.me),.val (.int .i64 a.deed.object),.val (.int .i64 a.deed.skip),byI a.deed.value,.val (.bool a.deed.gone),.val (.int .i64 a.body.object),.val (.int .i64 a.body.stamp.count),.val (.int .i64 a.body.stamp.node),byI a.body.value]
def acI (l:List Act):IV:=.sl 14 (l.map A98)
theorem Ce4 (a:Act):A98 a=[.val (.int .i64 a.kind),stI a.note.start,stI a.note.end_,spI a.note.blur,wrI a.note.writes,.val (.int .i64 a.deed.me),.val (.int .i64 a.deed.object),.val (.int .i64 a.deed.skip),byI a.deed.value,.val (.bool a.deed.gone),.val (.int .i64 a.body.object),.val (.int .i64 a.body.stamp.count),.val (.int .i64 a.body.stamp.node),byI a.body.value]:=rfl
theorem Cu8 (l:List Act):acI l=.sl 14 (l.map A98):=rfl
attribute [local irreducible] AW AWY Cd Bk vop C5 Bl Bz qop Cj Cv B4 Aw C4 A7 Bq
attribute [local go_sem] Ce4 Cu8 Gp Gv K9 Kc H8 J8 Fc Eh Jn Ei Ce Ao As
theorem C63 (k:Int):IntKind.u64.wrap k=k % 18446744073709551616:=by
 simp [IntKind.wrap,IntKind.bits,IntKind.signed]
theorem E04 (x y:Operand) (n:Int) (h0:0<=n) (w:World):(do eqGuard .rem 34 x y (.int .u64 n) (.int .u64 3);binOp .rem 34 (.int .u64 n) (.int .u64 3):Sem Value).run Tryz.prog w=.ok (.int .u64 (n % 3)) w:=by
 have h:Int.tmod n 3=n % 3:=Int.tmod_eq_emod_of_nonneg h0
 go_simp
structure E45 (l:List Act) where
 i:Nat
 s:A19
 hi:i<=l.length
 inv:Jm s
 room:I64 s.view.room
 all:s.all.length<=256*i
 bodies:s.bodies.length<=i
theorem Cj6 {v:B8} {d:B18} (h:(Le v d).err=0):I64 (Xc v d).count/\I64 (Xc v d).node:=by
 have hs:(Gt (G3 v.known) d.me d.skip).2=0:=by
  unfold Le Q4 at h
  split at h
  ·split at h
   ·assumption
   ·exact h
  ·simp [V9] at h
 unfold Xc
 unfold Gt at hs ⊢
 split at hs
 ·simp at hs
 ·rename_i h1
  rw [if_neg h1]
  split at hs
  ·simp at hs
  ·rename_i h2
   rw [if_neg h2]
   exact ⟨I64.of (by simp only;omega) (by simp only;omega),I64.of (by simp only;omega) (by simp only;omega)⟩
theorem Bg5 {v:B8} {d:B18} (iR:I64 v.room):I64 (Le v d).view.room:=by
 by_cases h:(Le v d).err=0
 ·obtain ⟨n,_,_,_,h1⟩:=Ad1 h
  rcases h1 with h1 | ⟨_,h1⟩
  ·rw [h1];exact Gw _ _ iR
  ·rw [h1];exact Sm _ _ (Gw _ _ iR)
 ·unfold Le Q4 at h ⊢
  repeat' split
  all_goals first | exact rfl | exact Gw _ _ iR | exact Sm _ _ (Gw _ _ iR)
theorem B35 (v:B8) {l:List Ai} {j:Nat} (h:j < l.length):Mv v (l.take (j+1))=Mv v (l.take j)++if Df v.zones v.known l[j]=true then [l[j]] else []:=by
 unfold Mv
 rw [List.take_succ_eq_append_getElem h,List.filter_append,List.filter_cons,List.filter_nil]
theorem Bh3 (v:B8) (l:List Ai):(Mv v l).length<=l.length:=List.length_filter_le _ _
set_option maxRecDepth 100000 in
set_option maxHeartbeats 6400000 in
theorem C08 (l:List Act) (room o:Int) (r0:0<=room) (r1:room<=65535) (iO:I64 o):A7 Tryz.prog A8 3 [.iv (acI l),.val (.int .u16 room),.val (.int .i64 o)] (.val (.bool true)) []:=by
 refine A7.of (n:=256) (rs:=[.tmp 6]) Tryz.func3 rfl (by kernel_rfl) Tryz.ntmps3 (by kernel_rfl) (by simp) (fun _ _=>A8.later) ?_
 intro hok V w0
 have hA:∀ a∈l,(A98 a).length=14/\IV.ok.okC (A98 a):=fun a ha=>D7 (by simpa [acI] using hok.1.2) (A98 a) (List.mem_map_of_mem ha)
 have hrb:S2 room=true:=by simp only [S2,Bool.and_eq_true,decide_eq_true_eq];omega
 have hn:=Ai3 room (I64.of (by omega) (by omega))
 unfold Bm3 at hn
 rw [if_pos hrb] at hn
 simp only at hn
 refine g ?_
 repeat' (first | refine st_ rfl (g ?_) | exact trivial | refine Az (fun h=>g ?_) (fun h=>g ?_) | refine A9 (U4) rfl (g ?_) | refine A9 (hn) rfl (g ?_))
 have h60:l.length<=60:=by omega
 refine AW.adopt 9 50000 49 4 rfl rfl ?_
 refine AW.adopt 10 60000 44 4 rfl rfl ?_
 refine AW.loop (fun y:E45 l=>⟨[(0,.iv (acI l)),(2,.val (.int .i64 o)),(7,.bp 800 0),(9,.own 50000),(10,.own 60000),(11,.val (.int .i64 (y.i:Nat)))],[.row 60000 44 4 (y.s.bodies.map enB),.row 50000 49 4 (y.s.all.map enW),.box 800 [.iv (stI y.s.view.known),.iv (znI y.s.view.zones),.iv (wrI y.s.view.held),.iv (boI y.s.view.bodies),.val (.int .i64 y.s.view.room)]]⟩) (fun y=>l.length - y.i) ⟨0,⟨⟨[],[],[],[],room⟩,[],[]⟩,Nat.zero_le _,Jm.first hrb,I64.of (by simp only;omega) (by simp only;omega),Nat.le_refl _,Nat.le_refl _⟩ id ⟨⟨rfl,rfl,rfl,rfl,rfl,rfl,trivial⟩,⟨rfl,rfl,rfl,trivial⟩,by simp [Aq,BA.id]⟩ fun ⟨i,s,hi,hI,hrm,hal,hbl⟩=>?_
 simp only
 repeat (refine AW.seq ?_)
 refine AW.reg rfl fun KK hKK=>?_
 refine g ?_
 repeat' (refine hKK _ (g ?_);clear hKK KK)
 repeat (refine AW.seq ?_)
 refine st_ rfl ?_
 refine g ?_
 refine Az (fun h=>?_) (fun h=>?_)
 ·have hlt:i < l.length:=by omega
  have hstep:=hI.step l[i]
  obtain ⟨a,ha⟩ : ∃ a,l[i]=a:=⟨_,rfl⟩
  obtain ⟨-,k1,q1,q2,q3,q4,d1,d2,d3,q5,-,b1,b2,b3,q6,-⟩:=hA _ (List.getElem_mem hlt)
  rw [ha] at hstep k1 q1 q2 q3 q4 d1 d2 d3 q5 b1 b2 b3 q6
  have hwl:a.note.writes.length<=1073741824:=by simpa [wrI] using q4.1
  have hwI:∀ x∈a.note.writes,I64 x.stamp.count/\I64 x.stamp.node/\I64 x.object:=fun x hx=>by
   obtain ⟨-,o1,o2,o3,-⟩:=D7 (by simpa [wrI] using q4.2) (enW x) (List.mem_map_of_mem hx)
   exact ⟨o1,o2,o3⟩
  have hga:l[i]? = some a:=by rw [List.getElem?_eq_getElem hlt,ha]
  refine st_ rfl (g ?_)
  refine AW.seq ?_
  refine AW.block ?_
  repeat (refine AW.seq ?_)
  refine AW.reg rfl fun KK hKK=>?_
  refine g ?_
  refine ⟨by omega,_,C0 (f:=A98) hga,?_⟩
  refine g ?_
  repeat' refine Ag (g ?_)
  refine ⟨_,C63 _,?_⟩
  refine g ?_
  repeat' refine Ag (g ?_)
  refine ⟨.int .u64 (a.kind % 18446744073709551616 % 3),fun w=>E04 (.tmp 52) (.const (.int .u64 3)) _ (by omega) w,?_⟩
  refine g ?_
  repeat' (first | refine Ag (g ?_) | (refine hKK _ (g ?_);clear hKK KK))
  have hkd:a.kind % 18446744073709551616 % 3=Bn2 a.kind:=rfl
  rw [hkd]
  refine g ?_
  repeat' (first | refine st_ rfl (g ?_) | refine Az (fun h=>g ?_) (fun h=>g ?_) | refine ix_ (by omega) (g ?_))
  ·rw [Cg5,if_pos h] at hstep
   have htk:=Gl s.view a.note hrm
   have hrm2:=Gw s.view a.note hrm
   refine AW.drawn (ds:=[78,79,80,81,82,83,84,77,85,86,12,13]) (fin:=[0,1,2,4]) (bs:=[3,3,3,3,3,3,3,3,3,3,3,4,5]) [⟨[],[],[0,1,2],[],0⟩,⟨[],[],[],[],0⟩,⟨[],[],[],[],0⟩,⟨[(79,1),(80,2)],[],[0,1,2],[],0⟩,⟨[(81,3)],[],[],[],0⟩,⟨[(82,4)],[],[0,1,2],[],0⟩,⟨[(78,0),(83,5)],[],[0,1,2],[],0⟩,⟨[(84,6)],[],[],[],0⟩,⟨[(77,7)],[],[],[],0⟩,⟨[(77,7)],[],[],[],0⟩,⟨[],[],[],[],1⟩,⟨[(12,10),(85,8)],[],[],[3],1⟩,⟨[(86,9)],[],[],[],0⟩] (by kernel_rfl) rfl (by kernel_rfl) rfl rfl rfl fun KD hKD=>?_
   refine g ?_
   repeat' refine ix_ (by omega) (g ?_)
   rw [ha]
   refine g ?_
   repeat' (first | refine st_ rfl (g ?_) | refine Az (fun h=>g ?_) (fun h=>g ?_) | (refine hKD _ _ ⟨rfl,g ?_⟩;clear hKD KD) | refine ix_ (by omega) (g ?_) | refine A9 (htk) rfl (g ?_))
   ·rw [if_pos h] at hstep
    have hwn:=(Zq (M3 h).2.1).1
    have hvf:=Jd h
    obtain ⟨Y,hY⟩ : ∃ Y,(Bd s.view a.note).1=Y:=⟨_,rfl⟩
    rw [hY] at hstep hrm2 hvf ⊢
    obtain ⟨W,hW⟩ : ∃ W,a.note.writes=W:=⟨_,rfl⟩
    rw [hW] at hstep hwn hwI
    rw [ha,hW]
    refine g ?_
    refine AW.loop (fun j:{j:Nat // j<=W.length}=>⟨[(0,.iv (acI l)),(2,.val (.int .i64 o)),(7,.bp 800 0),(9,.own 50000),(10,.own 60000),(11,.val (.int .i64 (i:Nat))),(95,.iv (wrI W)),(96,.val (.int .i64 (W.length:Nat))),(97,.val (.int .i64 (j.1:Nat)))],[.row 60000 44 4 (s.bodies.map enB),.row 50000 49 4 ((s.all++Mv Y (W.take j.1)).map enW),.box 800 [.iv (stI Y.known),.iv (znI Y.zones),.iv (wrI Y.held),.iv (boI Y.bodies),.val (.int .i64 Y.room)]]⟩) (fun j=>W.length - j.1) ⟨0,Nat.zero_le _⟩ id ⟨⟨rfl,rfl,rfl,rfl,rfl,rfl,rfl,rfl,rfl,trivial⟩,⟨rfl,?_,rfl,trivial⟩,by simp [Aq,BA.id]⟩ fun ⟨j,hj⟩=>?_
    ·show some (BA.row _ _ _ _)=some (BA.row _ _ _ ((s.all++Mv Y (W.take 0)).map enW))
     rw [show Mv Y (W.take 0)=[] from rfl,List.append_nil]
     rfl
    simp only
    have htl:=Bh3 Y (W.take j)
    have hjl:=List.length_take_le j W
    repeat (refine AW.seq ?_)
    refine AW.reg rfl fun KK hKK=>?_
    refine g ?_
    repeat' (refine hKK _ (g ?_);clear hKK KK)
    repeat (refine AW.seq ?_)
    refine st_ rfl ?_
    refine g ?_
    refine Az (fun h=>?_) (fun h=>?_)
    ·have hjt:j < W.length:=by omega
     have hsn:=B35 Y hjt
     obtain ⟨o1,o2,o3⟩:=hwI _ (List.getElem_mem hjt)
     obtain ⟨w,hw⟩ : ∃ w,W[j]=w:=⟨_,rfl⟩
     have hgw:W[j]? = some w:=by rw [List.getElem?_eq_getElem hjt,hw]
     rw [hw] at hsn o1 o2 o3
     have hrc:=M6 Y.zones Y.known w.object
     have hhc:=Y0 (Kq Y.zones Y.known w.object) w.stamp
     rw [show Dr (Kq Y.zones Y.known w.object) w.stamp=Df Y.zones Y.known w from rfl] at hhc
     refine st_ rfl (g ?_)
     refine AW.seq ?_
     refine AW.block ?_
     repeat (refine AW.seq ?_)
     refine AW.reg rfl fun KK hKK=>?_
     refine g ?_
     refine ⟨by omega,_,C0 (f:=enW) hgw,?_⟩
     refine g ?_
     repeat' (first | refine Ag (g ?_) | (refine hKK _ (g ?_);clear hKK KK))
     refine AW.freeze 1600 _ rfl ⟨o1,o2,o3,trivial,trivial⟩ ?_
     simp only [go_sem,reduceIte,Nat.reduceEqDiff]
     refine g ?_
     repeat' refine st_ rfl (g ?_)
     refine AW.drawn (ds:=[101,102,103,104,105,106,107,108,109,110]) (fin:=[0,1,2]) (bs:=[3,3,3,3,3,3,3,3,3,3]) [⟨[],[],[],[],0⟩,⟨[(101,0)],[],[0,1,2],[],0⟩,⟨[],[],[],[],0⟩,⟨[(103,2)],[],[0,1,2],[],0⟩,⟨[],[],[],[],0⟩,⟨[(105,4)],[],[0,1,2],[],0⟩,⟨[(102,1),(104,3),(106,5)],[],[0,1,2],[],0⟩,⟨[],[],[],[],0⟩,⟨[(108,7)],[],[0,1,2],[],0⟩,⟨[(107,6),(109,8)],[],[0,1,2],[],0⟩] (by kernel_rfl) rfl (by kernel_rfl) rfl rfl rfl fun KD hKD=>?_
     refine g ?_
     repeat' (first | refine st_ rfl (g ?_) | refine C3 (fun h=>g ?_) (fun h=>g ?_) | (refine hKD _ _ ⟨rfl,g ?_⟩;clear hKD KD) | refine A9 (hrc) rfl (g ?_) | refine A9 (hhc) rfl (g ?_))
     ·rw [if_pos h] at hsn
      refine bs1 (by omega) rfl rfl rfl ⟨o1,o2,o3,trivial,trivial⟩ ?_
      refine g ?_
      refine Bo rfl (by kernel_rfl) (by omega) (by kernel_rfl) rfl (by simp;omega) ?_
      refine g ?_
      repeat' refine st_ rfl (g ?_)
      refine ⟨⟨j+1,hjt⟩,fun b=>if b=50000 then 11500 else b,⟨⟨rfl,rfl,rfl,rfl,rfl,rfl,rfl,rfl,rfl,trivial⟩,⟨rfl,?_,rfl,trivial⟩,by simp [Aq,BA.id]⟩,by show W.length - (j+1) < W.length - j;omega⟩
      show some (BA.row _ _ _ _)=some (BA.row _ _ _ ((s.all++Mv Y (W.take (j+1))).map enW))
      rw [hsn,<-List.append_assoc,List.map_append (l₂:=[w])]
      rfl
     ·rw [if_neg (by simpa using h),List.append_nil] at hsn
      refine ⟨⟨j+1,hjt⟩,id,⟨⟨rfl,rfl,rfl,rfl,rfl,rfl,rfl,rfl,rfl,trivial⟩,⟨rfl,?_,rfl,trivial⟩,by simp [Aq,BA.id]⟩,by show W.length - (j+1) < W.length - j;omega⟩
      rw [hsn]
      rfl
    ·obtain rfl:j=W.length:=by omega
     rw [List.take_length] at htl ⊢
     refine AW.exit ?_
     simp only [reduceIte]
     refine g ?_
     repeat' refine st_ rfl (g ?_)
     exact ⟨⟨i+1,_,hlt,hstep,hrm2,by simp only [List.length_append];omega,by simp only;omega⟩,id,⟨⟨rfl,rfl,rfl,rfl,rfl,rfl,trivial⟩,⟨rfl,rfl,rfl,trivial⟩,by simp [Aq,BA.id]⟩,by show l.length - (i+1) < l.length - i;omega⟩
   ·exact ⟨⟨i+1,s,hlt,hI,hrm,by omega,by omega⟩,id,⟨⟨rfl,rfl,rfl,rfl,rfl,rfl,trivial⟩,⟨rfl,rfl,rfl,trivial⟩,by simp [Aq,BA.id]⟩,by show l.length - (i+1) < l.length - i;omega⟩
  ·rename_i h0
   have hwr:=A71 s.view a.deed.me a.deed.object a.deed.skip a.deed.value a.deed.gone hrm d1 d2 d3
   rw [Cg5,if_neg h0,if_pos h] at hstep
   have hmi:=Cj6 (v:=s.view) (d:=a.deed)
   have hwo:=Ad1 (v:=s.view) (d:=a.deed)
   have hwm:=Bg5 (v:=s.view) (d:=a.deed) hrm
   obtain ⟨M,hM⟩ : ∃ M,Ai8 s.view a.deed=M:=⟨_,rfl⟩
   rw [show Xc s.view a.deed=M.stamp by rw [<-hM];rfl] at hmi hstep
   rw [hM] at hwo hstep
   have hMo:M.object=a.deed.object:=by rw [<-hM];rfl
   unfold Le at hstep hmi hwo hwm
   generalize Q4 s.view a.deed.me a.deed.object a.deed.skip a.deed.value a.deed.gone=T at hwr hstep hmi hwo hwm
   obtain ⟨Y,n,e⟩:=T
   simp only at hwr hstep hmi hwo hwm
   rw [ha]
   refine g ?_
   repeat' (first | refine st_ rfl (g ?_) | refine Az (fun h=>g ?_) (fun h=>g ?_) | refine A9 (hwr) rfl (g ?_))
   ·obtain ⟨m1,m2⟩:=hmi h
    obtain ⟨n',hn1,hn2,-,-⟩:=hwo h
    subst hn2
    rw [if_pos h] at hstep
    have hrc:=M6 Y.zones Y.known a.deed.object
    have hhc:=Y0 (Kq Y.zones Y.known a.deed.object) M.stamp
    rw [<-hMo] at hrc hhc
    rw [show Dr (Kq Y.zones Y.known M.object) M.stamp=Df Y.zones Y.known M from rfl] at hhc
    rw [hn1,<-hMo]
    rw [<-hMo] at d2 hstep
    refine AW.freeze 1900 _ rfl ⟨trivial,trivial,trivial,trivial,trivial⟩ ?_
    simp only [go_sem,reduceIte,Nat.reduceEqDiff]
    refine AW.freeze 1700 _ rfl ⟨d1,d2,d3,trivial,trivial,trivial⟩ ?_
    simp only [go_sem,reduceIte,Nat.reduceEqDiff]
    refine AW.freeze 1800 _ rfl ⟨trivial,trivial,trivial,trivial,hwm,trivial⟩ ?_
    simp only [go_sem,reduceIte,Nat.reduceEqDiff]
    refine AW.drawn (ds:=[142,143,144,145,146,147,148,149,150,151,152,153,154]) (fin:=[0,1,2]) (bs:=[3,3,3,3,3,3,3,3,3,3,3,3,3]) [⟨[],[],[],[],0⟩,⟨[(142,0)],[],[0,1,2],[],0⟩,⟨[],[],[],[],0⟩,⟨[(144,2)],[],[0,1,2],[],0⟩,⟨[],[],[],[],0⟩,⟨[(146,4)],[],[0,1,2],[],0⟩,⟨[(143,1),(145,3),(147,5)],[],[0,1,2],[],0⟩,⟨[],[],[],[],0⟩,⟨[(149,7)],[],[0,1,2],[],0⟩,⟨[(150,8)],[],[0,1,2],[],0⟩,⟨[(151,9)],[],[],[],0⟩,⟨[(152,10)],[],[0,1,2],[],0⟩,⟨[(148,6),(153,11)],[],[0,1,2],[],0⟩] (by kernel_rfl) rfl (by kernel_rfl) rfl rfl rfl fun KD hKD=>?_
    refine g ?_
    repeat' (first | refine st_ rfl (g ?_) | refine C3 (fun h=>g ?_) (fun h=>g ?_) | (refine hKD _ _ ⟨rfl,g ?_⟩;clear hKD KD) | refine A9 (hrc) rfl (g ?_) | refine A9 (hhc) rfl (g ?_))
    ·have hm:=h
     rw [if_pos hm] at hstep
     refine Bo rfl (by kernel_rfl) (by omega) (by kernel_rfl) rfl (by simp;omega) ?_
     refine g ?_
     refine AW.drawn (ds:=[159,160,161,162,163,164,165,166,167,168,169,170,171,10]) (fin:=[0,2,3,4]) (bs:=[3,3,3,3,3,3,3,3,3,3,3,3,4,5]) [⟨[],[10],[],[],0⟩,⟨[],[],[],[],0⟩,⟨[(160,1)],[],[0,1,2],[],0⟩,⟨[],[],[],[],0⟩,⟨[(162,3)],[],[0,1,2],[],0⟩,⟨[(163,4)],[],[0,1,2],[],0⟩,⟨[(164,5)],[],[],[],0⟩,⟨[(165,6)],[],[0,1,2],[],0⟩,⟨[],[],[],[],0⟩,⟨[(167,8)],[],[0,1,2],[],0⟩,⟨[(161,2),(166,7),(168,9)],[],[],[],0⟩,⟨[(169,10)],[],[],[],1⟩,⟨[(159,0),(170,11)],[],[0,2,3],[1],1⟩,⟨[(171,12)],[],[],[],0⟩] (by kernel_rfl) rfl (by kernel_rfl) rfl rfl rfl fun KD hKD=>?_
     refine g ?_
     refine bs1 (by omega) rfl rfl rfl ⟨d2,m1,m2,trivial,trivial⟩ ?_
     refine g ?_
     refine Bo rfl (by kernel_rfl) (by omega) (by kernel_rfl) rfl (by simp;omega) ?_
     refine g ?_
     repeat' (first | refine st_ rfl (g ?_) | (refine hKD _ _ ⟨rfl,g ?_⟩;clear hKD KD))
     refine ⟨⟨i+1,_,hlt,hstep,hwm,by simp only [List.length_append,List.length_singleton,List.length_nil];omega,by simp only [List.length_append,List.length_singleton];omega⟩,fun b=>if b=60000 then 17200 else if b=50000 then 15900 else b,⟨⟨rfl,rfl,rfl,rfl,rfl,rfl,trivial⟩,⟨?_,?_,rfl,trivial⟩,by simp [Aq,BA.id]⟩,by show l.length - (i+1) < l.length - i;omega⟩
     ·show some (BA.row _ _ _ _)=some (BA.row _ _ _ ((s.bodies++[_]).map enB))
      rw [List.map_append]
      rfl
     ·show some (BA.row _ _ _ _)=some (BA.row _ _ _ ((s.all++[_]).map enW))
      rw [List.map_append]
      rfl
    ·have hm:=h
     rw [if_neg (by rw [hm];simp)] at hstep
     refine AW.drawn (ds:=[159,160,161,162,163,164,165,166,167,168,169,170,171,10]) (fin:=[1,2,3,4]) (bs:=[3,3,3,3,3,3,3,3,3,3,3,3,4,5]) [⟨[],[10],[],[],0⟩,⟨[],[],[],[],0⟩,⟨[(160,1)],[],[0,1,2],[],0⟩,⟨[],[],[],[],0⟩,⟨[(162,3)],[],[0,1,2],[],0⟩,⟨[(163,4)],[],[0,1,2],[],0⟩,⟨[(164,5)],[],[],[],0⟩,⟨[(165,6)],[],[0,1,2],[],0⟩,⟨[],[],[],[],0⟩,⟨[(167,8)],[],[0,1,2],[],0⟩,⟨[(161,2),(166,7),(168,9)],[],[],[],0⟩,⟨[(169,10)],[],[],[],1⟩,⟨[(159,0),(170,11)],[],[1,2,3],[0],1⟩,⟨[(171,12)],[],[],[],0⟩] (by kernel_rfl) rfl (by kernel_rfl) rfl rfl rfl fun KD hKD=>?_
     refine g ?_
     refine bs1 (by omega) rfl rfl rfl ⟨d2,m1,m2,trivial,trivial⟩ ?_
     refine g ?_
     refine Bo rfl (by kernel_rfl) (by omega) (by kernel_rfl) rfl (by simp;omega) ?_
     refine g ?_
     repeat' (first | refine st_ rfl (g ?_) | (refine hKD _ _ ⟨rfl,g ?_⟩;clear hKD KD))
     refine ⟨⟨i+1,_,hlt,hstep,hwm,by simp only [List.length_append,List.length_singleton,List.length_nil];omega,by simp only [List.length_append,List.length_singleton];omega⟩,fun b=>if b=60000 then 17200 else b,⟨⟨rfl,rfl,rfl,rfl,rfl,rfl,trivial⟩,⟨?_,?_,rfl,trivial⟩,by simp [Aq,BA.id]⟩,by show l.length - (i+1) < l.length - i;omega⟩
     ·show some (BA.row _ _ _ _)=some (BA.row _ _ _ ((s.bodies++[_]).map enB))
      rw [List.map_append]
      rfl
     ·show some (BA.row _ _ _ _)=some (BA.row _ _ _ ((s.all++[]).map enW))
      rw [List.append_nil]
      rfl
   ·exact ⟨⟨i+1,s,hlt,hI,hrm,by omega,by omega⟩,id,⟨⟨rfl,rfl,rfl,rfl,rfl,rfl,trivial⟩,⟨rfl,rfl,rfl,trivial⟩,by simp [Aq,BA.id]⟩,by show l.length - (i+1) < l.length - i;omega⟩
  ·rename_i h0
   rw [Cg5,if_neg h0,if_neg h] at hstep
   have hbc:=Xs s.view a.body hrm b1 b2 b3
   have hrm2:=Sm s.view a.body hrm
   refine AW.drawn (ds:=[55,56,57,58,59,60,61,54,62,63,20,21]) (fin:=[0,1,2,4]) (bs:=[3,3,3,3,3,3,3,3,3,3,3,4,5]) [⟨[],[],[0,1,2],[],0⟩,⟨[],[],[],[],0⟩,⟨[],[],[],[],0⟩,⟨[(56,1),(57,2)],[],[0,1,2],[],0⟩,⟨[(58,3)],[],[],[],0⟩,⟨[(59,4)],[],[0,1,2],[],0⟩,⟨[(55,0),(60,5)],[],[0,1,2],[],0⟩,⟨[(61,6)],[],[],[],0⟩,⟨[(54,7)],[],[],[],0⟩,⟨[(54,7)],[],[],[],0⟩,⟨[],[],[],[],1⟩,⟨[(20,10),(62,8)],[],[],[3],1⟩,⟨[(63,9)],[],[],[],0⟩] (by kernel_rfl) rfl (by kernel_rfl) rfl rfl rfl fun KD hKD=>?_
   refine g ?_
   repeat' refine ix_ (by omega) (g ?_)
   rw [ha]
   refine g ?_
   repeat' (first | refine st_ rfl (g ?_) | refine Az (fun h=>g ?_) (fun h=>g ?_) | (refine hKD _ _ ⟨rfl,g ?_⟩;clear hKD KD) | refine ix_ (by omega) (g ?_) | refine A9 (hbc) rfl (g ?_))
   ·rw [if_pos h] at hstep
    rw [ha]
    refine bs1 (by omega) rfl rfl rfl ⟨b1,b2,b3,trivial,trivial⟩ ?_
    refine g ?_
    refine Bo rfl (by kernel_rfl) (by omega) (by kernel_rfl) rfl (by simp;omega) ?_
    refine g ?_
    repeat' refine st_ rfl (g ?_)
    refine ⟨⟨i+1,_,hlt,hstep,hrm2,by simp only;omega,by simp only [List.length_append,List.length_singleton];omega⟩,fun b=>if b=60000 then 7500 else b,⟨⟨rfl,rfl,rfl,rfl,rfl,rfl,trivial⟩,⟨?_,rfl,rfl,trivial⟩,by simp [Aq,BA.id]⟩,by show l.length - (i+1) < l.length - i;omega⟩
    show some (BA.row _ _ _ _)=some (BA.row _ _ _ ((s.bodies++[a.body]).map enB))
    rw [List.map_append]
    rfl
   ·exact ⟨⟨i+1,s,hlt,hI,hrm,by omega,by omega⟩,id,⟨⟨rfl,rfl,rfl,rfl,rfl,rfl,trivial⟩,⟨rfl,rfl,rfl,trivial⟩,by simp [Aq,BA.id]⟩,by show l.length - (i+1) < l.length - i;omega⟩
 ·obtain rfl:i=l.length:=by omega
  have hrd:=Mu s.view o hrm iO
  obtain ⟨e1,e2,e3,e4,e5⟩:=hI.end_ o
  generalize De s.view o=Q at hrd e1 e2 e3 e4 e5
  obtain ⟨b,w,q⟩:=Q
  obtain ⟨v,A,B⟩:=s
  simp only at hrd e1 e2 e3 e4 e5 hrm hal hbl ⊢
  refine AW.exit ?_
  simp only [reduceIte]
  refine AW.freeze 60000 _ rfl trivial ?_
  simp only [go_sem,reduceIte,Nat.reduceEqDiff]
  refine AW.freeze 50000 _ rfl trivial ?_
  simp only [go_sem,reduceIte,Nat.reduceEqDiff]
  refine AW.freeze 800 _ rfl ⟨trivial,trivial,trivial,trivial,hrm,trivial⟩ ?_
  simp only [go_sem,reduceIte,Nat.reduceEqDiff]
  refine g ?_
  repeat' (first | refine st_ rfl (g ?_) | refine A9 (hrd) rfl (g ?_))
  refine AW.loop (fun i:{i:Nat // i<=A.length}=>⟨[(2,.val (.int .i64 o)),(9,.iv (wrI A)),(10,.iv (boI B)),(22,.iv (byI b)),(23,.bp 2400 0),(24,.val (.int .i64 q)),(25,.val (.bool ((A.take i.1).any fun x=>decide (x.object=o)))),(26,.val (.int .i64 (i.1:Nat)))],[.box 2400 [.val (.int .i64 w.stamp.count),.val (.int .i64 w.stamp.node),.val (.int .i64 w.object),.val (.bool w.gone)]]⟩) (fun i=>A.length - i.1) ⟨0,Nat.zero_le _⟩ id ⟨⟨rfl,rfl,rfl,rfl,rfl,rfl,rfl,rfl,trivial⟩,⟨rfl,trivial⟩,by simp [Aq,BA.id]⟩ fun ⟨i,hi⟩=>?_
  simp only
  repeat (refine AW.seq ?_)
  refine AW.reg rfl fun KK hKK=>?_
  refine g ?_
  repeat' (refine hKK _ (g ?_);clear hKK KK)
  repeat (refine AW.seq ?_)
  refine st_ rfl ?_
  refine g ?_
  refine Az (fun h=>?_) (fun h=>?_)
  ·have hlt:i < A.length:=by omega
   have hmem:=List.getElem_mem hlt
   have hany:((A.take (i+1)).any fun x=>decide (x.object=o))=(((A.take i).any fun x=>decide (x.object=o)) || decide (A[i].object=o)):=by
    rw [List.take_succ_eq_append_getElem hlt,List.any_append]
    simp
   obtain ⟨x,hx⟩ : ∃ x,A[i]=x:=⟨_,rfl⟩
   rw [hx] at hmem hany
   have hcm:=Bj4 x.stamp w.stamp
   refine g ?_
   repeat' (first | refine st_ rfl (g ?_) | refine Az (fun h=>g ?_) (fun h=>g ?_) | refine ix_ (by omega) (g ?_))
   ·rw [hx] at h
    rw [decide_eq_false h,Bool.or_false] at hany
    refine ⟨⟨i+1,hlt⟩,id,⟨⟨rfl,rfl,rfl,rfl,rfl,rfl,?_,rfl,trivial⟩,⟨rfl,trivial⟩,by simp [Aq,BA.id]⟩,by show A.length - (i+1) < A.length - i;omega⟩
    show AV.val _=AV.val _
    rw [hany]
   ·rw [hx] at h
    have hxo:x.object=o:=Decidable.of_not_not h
    rw [decide_eq_true hxo,Bool.or_true] at hany
    have hno:=e1 x hmem hxo
    clear h
    refine AW.drawn (ds:=[192,193,194,195,196,197,198,199,200,201,202,203,204,205,206,207,208]) (fin:=[0]) (bs:=[1,1,1,1,1,1,1,1,1,1,1,1,1,1,1,1,1]) [⟨[],[],[],[],0⟩,⟨[(192,0)],[],[],[],0⟩,⟨[(193,1)],[],[],[],0⟩,⟨[],[],[],[],0⟩,⟨[(195,3)],[],[],[],0⟩,⟨[(194,2),(196,4)],[],[],[],0⟩,⟨[(197,5)],[],[],[],0⟩,⟨[],[],[],[],0⟩,⟨[],[],[],[],0⟩,⟨[(199,7),(200,8)],[],[0],[],0⟩,⟨[(201,9)],[],[],[],0⟩,⟨[(202,10)],[],[0],[],0⟩,⟨[],[],[],[],0⟩,⟨[(204,12)],[],[0],[],0⟩,⟨[(203,11),(205,13)],[],[0],[],0⟩,⟨[(206,14)],[],[],[],0⟩,⟨[(198,6),(207,15)],[],[],[],0⟩] (by kernel_rfl) rfl (by kernel_rfl) rfl rfl rfl fun KD hKD=>?_
    refine g ?_
    repeat' (first | refine st_ rfl (g ?_) | (refine hKD _ _ ⟨rfl,g ?_⟩;clear hKD KD) | (refine Kf rfl rfl (fun h e=>?_) (fun h e=>?_)<;>simp only [e]<;>clear e<;>refine g ?_) | refine ix_ (by omega) (g ?_))
    ·rw [hx]
     refine g ?_
     repeat' (first | refine st_ rfl (g ?_) | refine Az (fun h=>g ?_) (fun h=>g ?_) | (refine hKD _ _ ⟨rfl,g ?_⟩;clear hKD KD) | refine A9 (hcm) rfl (g ?_))
     ·exact (hno (.inl ‹q=0›) h).elim
     ·refine ⟨⟨i+1,hlt⟩,id,⟨⟨rfl,rfl,rfl,rfl,rfl,rfl,?_,rfl,trivial⟩,⟨rfl,trivial⟩,by simp [Aq,BA.id]⟩,by show A.length - (i+1) < A.length - i;omega⟩
      show AV.val _=AV.val _
      rw [hany]
    ·rw [hx]
     refine g ?_
     repeat' (first | refine st_ rfl (g ?_) | refine Az (fun h=>g ?_) (fun h=>g ?_) | (refine hKD _ _ ⟨rfl,g ?_⟩;clear hKD KD) | refine A9 (hcm) rfl (g ?_))
     ·exact (hno (.inr ‹q=10›) h).elim
     ·refine ⟨⟨i+1,hlt⟩,id,⟨⟨rfl,rfl,rfl,rfl,rfl,rfl,?_,rfl,trivial⟩,⟨rfl,trivial⟩,by simp [Aq,BA.id]⟩,by show A.length - (i+1) < A.length - i;omega⟩
      show AV.val _=AV.val _
      rw [hany]
    ·refine ⟨⟨i+1,hlt⟩,id,⟨⟨rfl,rfl,rfl,rfl,rfl,rfl,?_,rfl,trivial⟩,⟨rfl,trivial⟩,by simp [Aq,BA.id]⟩,by show A.length - (i+1) < A.length - i;omega⟩
     show AV.val _=AV.val _
     rw [hany]
  ·obtain rfl:i=A.length:=by omega
   rw [List.take_length]
   refine AW.exit ?_
   simp only [reduceIte]
   cases hs:A.any fun x=>decide (x.object=o) with
   | false =>
    have hn:∀ w∈A,¬ w.object=o:=fun w hw e=>by
     have:=List.any_eq_false.1 hs w hw
     simp [e] at this
    rcases e2 hn with rfl | rfl | ⟨rfl,e6⟩
    ·refine g ?_
     repeat' (first | refine st_ rfl (g ?_) | exact trivial)
    ·refine g ?_
     repeat' (first | refine st_ rfl (g ?_) | exact trivial)
    ·rcases e6 with e6 | e6
     ·refine g ?_
      repeat' (first | refine st_ rfl (g ?_) | exact trivial | (refine Ci rfl rfl (fun h e=>?_) (fun h e=>?_)<;>simp only [e]<;>clear e<;>refine g ?_))
      omega
     ·refine g ?_
      repeat' (first | refine st_ rfl (g ?_) | (refine Ci rfl rfl (fun h e=>?_) (fun h e=>?_)<;>simp only [e]<;>clear e<;>refine g ?_))
      ·omega
      ·exact decide_eq_true e6
   | true =>
    have hq8:¬ q=8:=e3 (by
     obtain ⟨x,hx,h1⟩:=List.any_eq_true.1 hs
     exact ⟨x,hx,of_decide_eq_true h1⟩)
    refine g ?_
    repeat' (first | refine st_ rfl (g ?_) | refine Az (fun h=>g ?_) (fun h=>g ?_) | refine C3 (fun h=>g ?_) (fun h=>g ?_) | (refine Ci rfl rfl (fun h e=>?_) (fun h e=>?_)<;>simp only [e]<;>clear e<;>refine g ?_))
    ·exact hq8 h
    ·rw [e4 (.inl h)]
     rfl
    ·rw [e4 (.inr h)]
     rfl
    have hw9:=e5 (Decidable.of_not_not ‹¬¬q=0›) h
    refine AW.loop (fun i:{i:Nat // i<=B.length/\∀ x∈B.take i,x≠⟨o,w.stamp,b⟩}=>⟨[(2,.val (.int .i64 o)),(10,.iv (boI B)),(22,.iv (byI b)),(23,.bp 2400 0),(27,.val (.int .i64 (i.1:Nat)))],[.box 2400 [.val (.int .i64 w.stamp.count),.val (.int .i64 w.stamp.node),.val (.int .i64 w.object),.val (.bool w.gone)]]⟩) (fun i=>B.length - i.1) ⟨0,Nat.zero_le _,fun x hx=>by simp at hx⟩ id ⟨⟨rfl,rfl,rfl,rfl,rfl,trivial⟩,⟨rfl,trivial⟩,by simp [Aq,BA.id]⟩ fun ⟨i,hi,hall⟩=>?_
    simp only
    repeat (refine AW.seq ?_)
    refine AW.reg rfl fun KK hKK=>?_
    refine g ?_
    repeat' (refine hKK _ (g ?_);clear hKK KK)
    repeat (refine AW.seq ?_)
    refine st_ rfl ?_
    refine g ?_
    refine Az (fun h=>?_) (fun h=>?_)
    ·have hlt:i < B.length:=by omega
     have hbs:=Tg B[i] ⟨o,w.stamp,b⟩
     refine st_ rfl (g ?_)
     refine AW.seq ?_
     refine AW.block ?_
     repeat (refine AW.seq ?_)
     refine AW.drawn (ds:=[246,247,248,249,250,251,252,253,254,255]) (fin:=[0]) (bs:=[1,1,1,1,1,1,1,1,1,1]) [⟨[],[],[],[],0⟩,⟨[],[],[],[],0⟩,⟨[(246,0),(247,1)],[],[0],[],0⟩,⟨[(248,2)],[],[0],[],0⟩,⟨[],[],[],[],0⟩,⟨[],[],[],[],0⟩,⟨[(251,5)],[],[0],[],0⟩,⟨[],[],[],[],0⟩,⟨[(250,4),(252,6),(253,7)],[],[],[],0⟩,⟨[(249,3),(254,8)],[],[0],[],0⟩] (by kernel_rfl) rfl (by kernel_rfl) rfl rfl rfl fun KD hKD=>?_
     refine g ?_
     repeat' (first | refine st_ rfl (g ?_) | exact trivial | refine Az (fun h=>g ?_) (fun h=>g ?_) | (refine hKD _ _ ⟨rfl,g ?_⟩;clear hKD KD) | refine ix_ (by omega) (g ?_) | refine A9 (hbs) rfl (g ?_))
     exact ⟨⟨i+1,hlt,fun x hx=>by
      rw [List.take_succ_eq_append_getElem hlt] at hx
      rcases List.mem_append.1 hx with hx | hx
      ·exact hall x hx
      ·rw [List.mem_singleton.1 hx]
       assumption⟩,id,⟨⟨rfl,rfl,rfl,rfl,rfl,trivial⟩,⟨rfl,trivial⟩,by simp [Aq,BA.id]⟩,by show B.length - (i+1) < B.length - i;omega⟩
    ·obtain rfl:i=B.length:=by omega
     rw [List.take_length] at hall
     exact absurd rfl (hall _ hw9)
end Go.Proofs.YthlgnjlpakimaaaGreatDoor
namespace Go.Proofs.YthlgnjlpakimaaaGreatDoor
open Go.ChangeShapes Go.WideShapes Go.ChangeAt Go.RowKit
def Ch0 (w:World) (B:Nat) (cs:List Value) (x:B18):Prop:=∃ v,cs=[.int .i64 x.me,.int .i64 x.object,.int .i64 x.skip,v,.bool x.gone]/\I64 x.me/\I64 x.object/\I64 x.skip/\Bg2 w B v x.value
theorem Bl6 {w:World} : Hv Tryz.prog w 40 5 (Ch0 w w.heap.size):=by
 intro H enc fuel cs x h
 obtain ⟨hl,n,hf⟩:=Dj Tryz.underlying40 h
 have hk:Tryz.prog.cellsOf 40=5:=by kernel_rfl
 have hi:Tryz.prog.cellsOf 3=1:=by kernel_rfl
 have hb:Tryz.prog.cellsOf 38=1:=by kernel_rfl
 have hg:Tryz.prog.cellsOf 4=1:=by kernel_rfl
 rw [hk] at hl
 refine ⟨hl,?_⟩
 match cs,hl with
 | [v0,v1,v2,v3,v4],_ =>
  obtain ⟨y0,h0⟩:=hf 0 3 0 1 rfl hi
  obtain ⟨y1,h1⟩:=hf 1 3 1 1 rfl hi
  obtain ⟨y2,h2⟩:=hf 2 3 2 1 rfl hi
  obtain ⟨y3,h3⟩:=hf 3 38 3 1 rfl hb
  obtain ⟨y4,h4⟩:=hf 4 4 4 1 rfl hg
  obtain ⟨_,a,e0,i0⟩:=Dw (w:=w) Tryz.underlying3 H enc n _ _ h0
  obtain ⟨_,b,e1,i1⟩:=Dw (w:=w) Tryz.underlying3 H enc n _ _ h1
  obtain ⟨_,c,e2,i2⟩:=Dw (w:=w) Tryz.underlying3 H enc n _ _ h2
  obtain ⟨_,d,v,e3,hv⟩:=A91 (w:=w) H enc n _ _ h3
  obtain ⟨_,g,e4⟩:=Ah6 (w:=w) Tryz.underlying4 H enc n _ _ h4
  simp at e0 e1 e2 e3 e4
  subst e0 e1 e2 e3 e4
  exact ⟨⟨a,b,c,d,g⟩,_,rfl,i0,i1,i2,hv⟩
def Cm6 (w:World) (B:Nat) (cs:List Value) (a:Act):Prop:=∃ c1 c2 c3,cs=.int .i64 a.kind :: (c1++(c2++c3))/\I64 a.kind/\Bt8 w B c1 a.note/\Ch0 w B c2 a.deed/\Bt9 w B c3 a.body
theorem Bz0 {w:World} : Hv Tryz.prog w 46 14 (Cm6 w w.heap.size):=by
 intro H enc fuel cs x h
 obtain ⟨hl,n,hf⟩:=Dj Tryz.underlying46 h
 have hk:Tryz.prog.cellsOf 46=14:=by kernel_rfl
 have hi:Tryz.prog.cellsOf 3=1:=by kernel_rfl
 have hn:Tryz.prog.cellsOf 37=4:=by kernel_rfl
 have hd:Tryz.prog.cellsOf 40=5:=by kernel_rfl
 have hb:Tryz.prog.cellsOf 44=4:=by kernel_rfl
 rw [hk] at hl
 refine ⟨hl,?_⟩
 match cs,hl with
 | [v0,v1,v2,v3,v4,v5,v6,v7,v8,v9,v10,v11,v12,v13],_ =>
  obtain ⟨y0,h0⟩:=hf 0 3 0 1 rfl hi
  obtain ⟨y1,h1⟩:=hf 1 37 1 4 rfl hn
  obtain ⟨y2,h2⟩:=hf 2 40 5 5 rfl hd
  obtain ⟨y3,h3⟩:=hf 3 44 10 4 rfl hb
  obtain ⟨_,a,e0,i0⟩:=Dw (w:=w) Tryz.underlying3 H enc n _ _ h0
  obtain ⟨_,b,r1⟩:=Y8 (w:=w) H enc n _ _ h1
  obtain ⟨_,c,r2⟩:=Bl6 (w:=w) H enc n _ _ h2
  obtain ⟨_,d,r3⟩:=Ah7 (w:=w) H enc n _ _ h3
  simp at e0
  subst e0
  exact ⟨⟨a,b,c,d⟩,_,_,_,rfl,i0,r1,r2,r3⟩
theorem Bl8 {w:World} : Hv Tryz.prog w 22 1 (fun cs l=>∃ v,cs=[v]/\Sl (Cm6 w w.heap.size) 14 w w.heap.size v l) :=
 Gj Tryz.underlying22 (by kernel_rfl) (by omega) Bz0
theorem Dg8 {X:World} {cs:List Value} {x:B18} (h:Ch0 X X.heap.size cs x):Ba X cs [.val (.int .i64 x.me),.val (.int .i64 x.object),.val (.int .i64 x.skip),byI x.value,.val (.bool x.gone)]:=by
 obtain ⟨v0,rfl,h1,h2,h3,h⟩:=h
 exact ⟨.val h1,.val h2,.val h3,Au5 h,.val trivial,trivial⟩
theorem Cm3 {X:World} {cs:List Value} {a:Act} (h:Cm6 X X.heap.size cs a):Ba X cs (A98 a):=by
 obtain ⟨c1,c2,c3,rfl,h0,h1,h2,h3⟩:=h
 exact ⟨.val h0,(Cn7 h1).append ((Dg8 h2).append (Cp0 h3))⟩
theorem Cg4 {X:World} {v:Value} {l:List Act} (h:Sl (Cm6 X X.heap.size) 14 X X.heap.size v l):Da X v (acI l):=Da.of_typed (fun _ _ h=>Cm3 h) h (Nat.le_refl _)
namespace cViewNewest
set_option maxRecDepth 100000 in
theorem contract (H : Type) (enc : TypeId × Value -> H) (W : World) (base : Nat) (args : Array Value) (ds gs : List (DataW H)) (before : List MemPlace)
    (hval : ∀ (j : Nat) t v, Tryz.f3.params[j]? = some t -> args[j]? = some v -> Value.okWide Tryz.prog W .any base t v)
    (hW : DataW.Whole enc Tryz.prog Tryz.f3.params.toList Rows.viewNewestSpec.vars false W args.toList ds gs before) (hk : Rows.uptoSmall H (ds ++ gs) = true) (hL : laidMetH Tryz.prog Rows.viewNewestRow.laid W) :
    Calls Tryz.prog 3 args W fun e W' => ∃ v, e = .returned v /\ Rows.viewNewestSpec.post enc Tryz.prog Tryz.f3 false true false false W args v W' := by
  have hW' := hW
  obtain ⟨p, q, hA0, hV, rfl, hfz, hnd⟩ := hW
  have hA : DataW.TrodAll enc Tryz.prog W 0 (fun _ => true) true Tryz.f3.params.toList args.toList ds p := hA0
  rw [Tryz.params3] at hA hval
  obtain ⟨v0, vs0, d0, ds0, p0, q0, hargs, rfl, rfl, h0, r0⟩ := trodAll_cons hA
  obtain ⟨v1, vs1, d1, ds1, p1, q1, rfl, rfl, rfl, h1, r1⟩ := trodAll_cons r0
  obtain ⟨v2, vs2, d2, ds2, p2, q2, rfl, rfl, rfl, h2, r2⟩ := trodAll_cons r1
  obtain ⟨rfl, rfl, rfl⟩ := trodAll_nil r2
  obtain rfl : args = #[v0, v1, v2] := by cases args; simp_all
  obtain ⟨rfl, rfl⟩ := trodVars_none hV
  have hpart := Lj hk
  obtain ⟨_, _, _, rfl⟩ := okWide_slice Tryz.underlying22 (hval 0 _ v0 rfl rfl)
  obtain ⟨n0, hn0⟩ := h0
  obtain ⟨_, l0, u0, hv0, hl0⟩ := Bl8 (w := W) H enc n0 _ _ ⟨hn0, hpart d0 (by simp)⟩
  simp only [Value.cells, List.cons.injEq, and_true] at hv0
  subst hv0
  obtain ⟨a1, rfl, rfl, rfl, w1⟩ := open_int Tryz.underlying23 (hval 1 _ v1 rfl rfl) h1
  obtain ⟨a2, rfl, rfl, rfl, w2⟩ := open_int Tryz.underlying3 (hval 2 _ v2 rfl rfl) h2
  have hT : A8 W := Lf (by kernel_rfl) hL
  clear hA0
  refine ((C08 l0 a1 a2 (by simp [Lit.wf, IntKind.max, IntKind.min, IntKind.signed, IntKind.bits] at w1; omega) (by simp [Lit.wf, IntKind.max, IntKind.min, IntKind.signed, IntKind.bits] at w1; omega) w2).law hT (Au.cons (.iv (Cg4 hl0)) (Au.cons .val (Au.cons .val Au.nil)))).mono fun e W' ⟨he, hb⟩ => ?_
  subst he
  exact ⟨_, rfl, Qo Tp (by kernel_rfl) (by kernel_rfl) Tryz.underlying4 rfl rfl rfl rfl hW' hb⟩
theorem laid_met (os:Os):laidMet Tryz.prog Rows.viewNewestRow.laid ((F4 os).forCall (fun _ _=>0) ⟨#[],#[.slice none 0 0,.int .u16 0,.int .i64 0],[]⟩).memory :=
  laidMet_of_run' 8 (by kernel_rfl) (by kernel_rfl)
theorem reads (os:Os) {H:Type} (enc:TypeId×Value->H):∃ places,DataW.whole enc Tryz.prog ((F4 os).forCall (fun _ _=>0) ⟨#[],#[.slice none 0 0,.int .u16 0,.int .i64 0],[]⟩).memory Tryz.f3.params.toList Rows.viewNewestSpec.vars false (#[.slice none 0 0,.int .u16 0,.int .i64 0]:Array Value).toList 8=some ([.nil,.lit (.int .u16 0),.lit (.int .i64 0)],[],places) :=
  ⟨[],by kernel_rfl⟩
set_option maxRecDepth 100000 in
theorem lifted (os : Os) (started : os.Started) (H : Type) (enc : TypeId × Value -> H) (F : Stop.Interp) :
    ReturnsInHanded {} Tryz.checked os 3 .any ((Rows.OpenSpec.upto Rows.viewNewestSpec).preRow enc Tryz.prog Tryz.f3 Rows.viewNewestUptoRow.domain false Rows.viewNewestUptoRow.laid) (((Rows.OpenSpec.upto Rows.viewNewestSpec).at F).post enc Tryz.prog Tryz.f3 false true false false) := by
  obtain ⟨places, hx⟩ := reads os enc
  refine returnsInHanded_of_row (C := Tryz.checked) (s := Rows.OpenSpec.upto Rows.viewNewestSpec) own started (by kernel_rfl) Tryz.func3
    (witness_row_at (enc := enc) (C := Tryz.checked) false (F4 os) #[.slice none 0 0, .int .u16 0, .int .i64 0] rfl (by kernel_rfl) (by kernel_rfl) (by kernel_rfl)
      (OpenSpec.preRow_of_cond 8 hx (by kernel_rfl) (fun k hk => by cases hk; kernel_rfl) (by kernel_rfl) (laid_met os))) ?_
  intro W base args ds gs before hval hW _ hcond _ hL _ _
  exact contract H enc W base args ds gs before hval hW (hcond _ rfl) hL
theorem c1:laidOutB Tryz.pinned.checked.prog=true:=by kernel_rfl
theorem c2:mapsRowed Tryz.pinned.checked.prog=true:=by kernel_rfl
theorem c3:(Rows.viewNewestUptoRow.inPlace==Tryz.pinned.checked.prog.inPlace 3)=true:=by kernel_rfl
theorem c4:(Rows.viewNewestUptoRow.unfollowed==Tryz.pinned.checked.prog.unfollowed 3)=true:=by kernel_rfl
theorem c5:(Rows.viewNewestUptoRow.recurses==Tryz.pinned.checked.prog.recurses 3)=true:=by kernel_rfl
theorem c6:(Rows.viewNewestUptoRow.named==Tryz.pinned.checked.prog.varsNamed 3)=true:=by kernel_rfl
theorem closed:joinedFacts Tryz.pinned.checked.prog 3 Tryz.f3 (Rows.OpenSpec.upto Rows.viewNewestSpec).bare Rows.viewNewestUptoRow=true:=by
  unfold joinedFacts
  rw [c1,c2,c3,c4,c5,c6]
  kernel_rfl
theorem said:Rows.ViewNewestUptoSaid :=
  OpenClaim.holds_of_cond 3 Tryz.f3 rfl rfl rfl rfl rfl rfl rfl ⟨rfl,rfl,rfl,rfl,rfl⟩ rfl rfl rfl rfl rfl (by kernel_rfl) Tryz.func3 closed
    (of_decide_eq_true (by kernel_rfl)) (by unfold Func.isWrapper;first | (rw [if_pos (by decide +kernel)];kernel_rfl) | (rw [if_neg (by decide +kernel)];exact ⟨rfl,rfl⟩))
    (fun os started H enc _ F=>by rw [OpenClaim.pre_eq_preRow];exact lifted os started H enc F)
theorem plain (f : FuncId) (fn : Func) (hf : Tryz.pinned.checked.prog.funcNamed "telltale/telltalelaw13.ViewNewest" = some f) (hfn : Tryz.pinned.checked.prog.funcs[f]? = some fn) :
    false = Tryz.pinned.checked.prog.looks [] /\ ∀ (j : Nat) t, fn.params[j]? = some t -> Tryz.pinned.checked.prog.wantsStandIn t = false := by
  obtain rfl : f = 3 := Option.some.inj ((show Tryz.prog.funcNamed "telltale/telltalelaw13.ViewNewest" = some 3 by kernel_rfl).symm.trans hf) |>.symm
  obtain rfl : fn = Tryz.f3 := (Option.some.inj (Tryz.func3.symm.trans hfn)).symm
  refine ⟨by kernel_rfl, fun j t ht => ?_⟩
  rw [Tryz.params3] at ht
  have hm := Array.mem_of_getElem? ht
  simp at hm
  rcases hm with rfl | rfl | rfl
  · exact (show Tryz.prog.wantsStandIn 22 = false by kernel_rfl)
  · exact (show Tryz.prog.wantsStandIn 23 = false by kernel_rfl)
  · exact (show Tryz.prog.wantsStandIn 3 = false by kernel_rfl)
theorem card:Rows.ViewNewestUptoCardSaid :=
  Claim7.holds_tied_plain_at .later [] _ _ _ _ said (fun _ h=>by cases h) (by as_aux_lemma=>kernel_rfl) (fun _ h=>by cases h) viewNewestUpto_row_tie rfl ⟨rfl,rfl⟩ (by as_aux_lemma=>kernel_rfl) rfl plain (by as_aux_lemma=>kernel_rfl)
#print axioms card
end cViewNewest
end Go.Proofs.YthlgnjlpakimaaaGreatDoor
