/- Subscriptions as trees; one's own copy of them (the reference's). -/
import Derived.Test.YtblfjaedaijfoaaGreatDoorQClone
import Derived.Test.YtblfjaedaijfoaaGreatDoorQBridge
import Derived.Test.YtblfjaedaijfoaaGreatDoorQViewEnc
import Derived.Test.YtblfjaedaijfoaaGreatDoorQSinceSame
import Derived.Test.YtblfjaedaijfoaaGreatDoorQTouch
import Derived.Test.YtblfjaedaijfoaaGreatDoorQTakeLaw
set_option linter.all false
set_option linter.unnecessarySimpa false
set_option linter.unusedSimpArgs false
set_option linter.unusedVariables false
namespace Go.Proofs.YtblfjaedaijfoaaGreatDoor
open Go.ChangeShapes Go.WideShapes Go.ChangeAt Go.RowKit
def R1 (n:Int):Bool:=decide (0<=n/\n < 1099511627776)
def Dy (n:Int):Bool:=decide (0<=n/\n < 64)
def Sn (l:List Ao):Bool:=decide (0 < l.length)&&Br l
theorem Xs (n:Int) (w:World):Calls Tryz.prog 108 #[.int .i64 n] w fun e w'=>e=.returned (.bool (Dy n))/\w=w':=by
 go_enter Tryz.func108,Tryz.ntmps108
 go_wp2_with fail
 all_goals (go_ret;refine ⟨Ad (Bool.eq_iff_iff.2 ?_),rfl⟩;(simp [Dy]<;>omega))
theorem L5 (n:Int) (w:World):Calls Tryz.prog 109 #[.int .i64 n] w fun e w'=>e=.returned (.bool (R1 n))/\w=w':=by
 go_enter Tryz.func109,Tryz.ntmps109
 go_wp2_with fail
 all_goals (go_ret;refine ⟨Ad (Bool.eq_iff_iff.2 ?_),rfl⟩;(simp [R1]<;>omega))
theorem N0 (n:Int) (w:World):Calls Tryz.prog 128 #[.int .i64 n] w fun e w'=>e=.returned (.bool (R1 n))/\w=w':=by
 go_enter Tryz.func128,Tryz.ntmps128
 go_wp2_with fail
 all_goals (go_ret;refine ⟨Ad (Bool.eq_iff_iff.2 ?_),rfl⟩;(simp [R1]<;>omega))
def Bz9 (n:Int):Int:=(n+1) % 1099511627776
theorem Sz (l:List Ao) (v:Value) (w:World) (h:Dz w w.heap.size v l) :
  Calls Tryz.prog 110 #[v] w fun e w'=>e=.returned (.bool (Sn l))/\Below w.heap.size w w':=by
 obtain ⟨A,c,rfl,_⟩:=id h
 have HC:=Lib.hid (Ka l _ _ h)
 unfold Sn
 generalize Br l=r at HC
 by_cases hp:0 < l.length
 ·have hi:(0:Int) < (l.length:Int):=by omega
  rw [decide_eq_true hp,Bool.true_and]
  clear h
  go_enter Tryz.func110,Tryz.ntmps110
  go_wp2_with fail
  refine HC.out.mono ?_
  rintro e w1 ⟨rfl,hb1⟩
  go_wp2_with fail
  go_ret
  exact ⟨rfl,hb1⟩
 ·have hi:(l.length:Int)<=0:=by omega
  rw [decide_eq_false hp,Bool.false_and]
  clear h hp
  go_enter Tryz.func110,Tryz.ntmps110
  go_wp2_with fail
  go_ret
  exact ⟨rfl,Below.refl _ _⟩
theorem A09 (n:Int) (l:List Ao) (v:Value) (w:World) (h:Dz w w.heap.size v l) :
  Calls Tryz.prog 127 #[.int .i64 n,v] w fun e w'=>e=.returned (.bool (Dy n&&Sn l))/\Below w.heap.size w w':=by
 obtain ⟨A,c,rfl,_⟩:=id h
 have HC:=Lib.hid (Nf l _ _ h)
 unfold Sn
 generalize Br l=r at HC
 by_cases hn:0<=n/\n < 64
 ·have Hn:=Lib.hid (show Dy n=true from decide_eq_true hn)
  obtain ⟨n1,n2⟩:=hn
  rw [Hn.out,Bool.true_and]
  by_cases hp:0 < l.length
  ·have hi:(0:Int) < (l.length:Int):=by omega
   rw [decide_eq_true hp,Bool.true_and]
   clear h
   go_enter Tryz.func127,Tryz.ntmps127
   go_wp2_with fail
   refine HC.out.mono ?_
   rintro e w1 ⟨rfl,hb1⟩
   go_wp2_with fail
   go_ret
   exact ⟨rfl,hb1⟩
  ·have hi:(l.length:Int)<=0:=by omega
   rw [decide_eq_false hp,Bool.false_and]
   clear h hp
   go_enter Tryz.func127,Tryz.ntmps127
   go_wp2_with fail
   go_ret
   exact ⟨rfl,Below.refl _ _⟩
 ·have Hn:=Lib.hid (show Dy n=false from decide_eq_false hn)
  rw [Hn.out,Bool.false_and]
  have hc:n < 0\/(0<=n/\63 < n):=by omega
  clear hn h
  rcases hc with h1 | ⟨h1,h2⟩
  all_goals
   go_enter Tryz.func127,Tryz.ntmps127
   go_wp2_with fail
   go_ret
   exact ⟨rfl,Below.refl _ _⟩
attribute [local irreducible] AW AWY Bo B4 vop Bj B7 Bf qop Bu C4 Aq Aj Bh A7 B9
def Af2 (m:Msg):List IV:=[.val (.int .i64 m.kind),.val (.int .i64 m.from_),.val (.int .i64 m.to_),.val (.int .i64 m.session),.val (.int .i64 m.seq),spI m.interest,stI m.vector,noI m.notes,.val (.int .i64 m.body.object),.val (.int .i64 m.body.stamp.count),.val (.int .i64 m.body.stamp.node),byI m.body.value]
def msI (l:List Msg):IV:=.sl 12 (l.map Af2)
def msA (m:Msg):AV:=.agg [.val (.int .i64 m.kind),.val (.int .i64 m.from_),.val (.int .i64 m.to_),.val (.int .i64 m.session),.val (.int .i64 m.seq),.iv (spI m.interest),.iv (stI m.vector),.iv (noI m.notes),.val (.int .i64 m.body.object),.val (.int .i64 m.body.stamp.count),.val (.int .i64 m.body.stamp.node),.iv (byI m.body.value)]
theorem Pa (m:Msg):Af2 m=[.val (.int .i64 m.kind),.val (.int .i64 m.from_),.val (.int .i64 m.to_),.val (.int .i64 m.session),.val (.int .i64 m.seq),spI m.interest,stI m.vector,noI m.notes,.val (.int .i64 m.body.object),.val (.int .i64 m.body.stamp.count),.val (.int .i64 m.body.stamp.node),byI m.body.value]:=rfl
theorem L2 (l:List Msg):msI l=.sl 12 (l.map Af2):=rfl
theorem X1 (m:Msg):msA m=.agg [.val (.int .i64 m.kind),.val (.int .i64 m.from_),.val (.int .i64 m.to_),.val (.int .i64 m.session),.val (.int .i64 m.seq),.iv (spI m.interest),.iv (stI m.vector),.iv (noI m.notes),.val (.int .i64 m.body.object),.val (.int .i64 m.body.stamp.count),.val (.int .i64 m.body.stamp.node),.iv (byI m.body.value)]:=rfl
end Go.Proofs.YtblfjaedaijfoaaGreatDoor
namespace Go.Proofs.YtblfjaedaijfoaaGreatDoor
open Go.ChangeShapes Go.WideShapes Go.ChangeAt Go.RowKit
attribute [local irreducible] AW AWY Bo B4 vop Bj B7 Bf qop Bu C4 Aq Aj Bh A7 B9 Ge
attribute [local go_sem] Hv Dq G6 Cv Eb Cm Jc Hr Db Dk Ae Af
set_option maxRecDepth 100000 in
set_option maxHeartbeats 1600000 in
theorem C66 (hc:∀ (l:List C1) (room:Int),I64 room->A7 Tryz.prog A8 32 [.iv (boI l),.val (.int .i64 room)] (.val (.bool (Bw l room))) []) (v:Cr) (iR:I64 v.room):A7 Tryz.prog A8 33 [vwA v] (.val (.bool (Am v))) []:=by
 refine A7.of (n:=62) (rs:=[.cell 2 4]) Tryz.func33 rfl (by kernel_rfl) Tryz.ntmps33 (by kernel_rfl) (by simp) (fun _ _=>A8.later) ?_
 intro hok V w0
 have hz:v.zones.length<=1073741824:=by simpa [znI] using hok.1.2.1.1
 obtain ⟨B,hB⟩ : ∃ B,Am v=B:=⟨_,rfl⟩
 rw [hB]
 refine g ?_
 refine AW.seq ?_
 refine AW.reg rfl fun KK hKK=>?_
 refine g ?_
 repeat' (refine hKK _ (g ?_);clear hKK KK)
 refine AW.freeze 200 _ rfl ⟨trivial,trivial,trivial,trivial,iR,trivial⟩ ?_
 simp only [go_sem,reduceIte,Nat.reduceEqDiff]
 refine g ?_
 repeat' (first | refine st_ rfl (g ?_) | refine Cy (fun h=>g ?_) (fun h=>g ?_) | (refine Cn rfl rfl (fun h=>?_) (fun h=>?_)<;>simp only [h]<;>refine g ?_) | refine A9 (Fh _) rfl (g ?_) | refine A9 (Lv _) rfl (g ?_) | refine A9 (Gs _) rfl (g ?_) | refine A9 (hc _ _ iR) rfl (g ?_))
 ·rw [<-hB];simp at h;simp [Am,Fq,h]
 ·rw [<-hB];simp at h;simp [Am,Fq,h]
 ·rw [<-hB];simp at h;simp [Am,Fq,h]
 ·rw [<-hB];simp at h;simp [Am,Fq,h]
 have hP:Fq v=true:=by simp at *;simp [Fq, *]
 have hH:C6 v.held=true:=by simp only [Fq,Bool.and_eq_true] at hP;exact hP.1.2
 refine AW.loop (fun m:{m:Nat // m<=v.zones.length/\∀ x∈v.zones.take m,decide (Xc x.vec v.known=1)=true}=>⟨[(1,.ip [stI v.known,znI v.zones,wrI v.held,boI v.bodies,.val (.int .i64 v.room)]),(2,.bp 300 0),(32,.iv (znI v.zones)),(33,.val (.int .i64 (v.zones.length:Nat))),(34,.val (.int .i64 (m.1:Nat)))],[.box 300 [.val (.bool false)]]⟩) (fun m=>v.zones.length - m.1) ⟨0,Nat.zero_le _,fun x hx=>by simp at hx⟩ id ⟨⟨rfl,rfl,rfl,rfl,rfl,trivial⟩,⟨rfl,trivial⟩,by simp [By,BA.id]⟩ fun ⟨m,hm,ht⟩=>?_
 refine g ?_
 repeat' (first | refine st_ rfl (g ?_) | refine Al (fun h=>g ?_) (fun h=>g ?_) | refine ix_ (by omega) (g ?_) | refine A9 (A69 _ _) rfl (g ?_) | refine A9 (B52 _) rfl (g ?_))
 ·have hlt:m < v.zones.length:=by omega
  rw [<-hB];simp only [Am];rw [An4 (l:=v.zones) (p:=fun (x:At)=>decide (Xc x.vec v.known=1)) hlt (by simpa using h)];simp
 ·exact ⟨⟨m+1,by omega,Vy (by omega) ht (by simpa using h)⟩,id,⟨⟨rfl,rfl,rfl,rfl,rfl,trivial⟩,⟨rfl,trivial⟩,by simp [By,BA.id]⟩,by show v.zones.length - (m+1) < v.zones.length - m;omega⟩
 obtain rfl:m=v.zones.length:=by omega
 rw [List.take_length] at ht
 have h1:(v.zones.all fun x=>decide (Xc x.vec v.known=1))=true:=List.all_eq_true.2 ht
 refine AW.le (S:=⟨[(2,.bp 300 0),(1,.ip [stI v.known,znI v.zones,wrI v.held,boI v.bodies,.val (.int .i64 v.room)]),(47,.fn 195 [.ip [wrI v.held]])],[.box 300 [.val (.bool false)]]⟩) (ρ:=id) ⟨⟨rfl,rfl,rfl,trivial⟩,⟨rfl,trivial⟩,by simp [By,BA.id]⟩ ?_
 refine AW.range (B51 v.held hH) [(2,.bp 300 0)] [(1,.ip [stI v.known,znI v.zones,wrI v.held,boI v.bodies,.val (.int .i64 v.room)]),(47,.fn 195 [.ip [wrI v.held]])] (fun _=>[.box 300 [.val (.bool false)]]) (fun pre=>∀ w∈pre,Dx v.zones v.known w=true) rfl (fun w hw=>by cases hw) rfl rfl rfl rfl (fun x=>⟨rfl,rfl⟩) (fun k pre x hsp hI=>?_) (fun xs hS hI=>?_)
 ·simp only [A17,Da2,List.cons_append,List.nil_append]
  refine g ?_
  refine g ?_
  repeat' (first | refine st_ rfl (g ?_) | refine Cy (fun h=>g ?_) (fun h=>g ?_) | refine A9 (V6 _ _ x) rfl (g ?_))
  ·refine ⟨id,[.box 300 [.val (.bool false)]],⟨⟨rfl,trivial⟩,⟨rfl,trivial⟩,by simp [By,BA.id]⟩,?_⟩
   refine g ?_
   have hx:x∈v.held:=hsp.subset (by simp)
   rw [<-hB]
   simp only [Am]
   rw [show (v.held.all fun w=>Dx v.zones v.known w)=false from List.all_eq_false.2 ⟨x,hx,by simpa using h⟩]
   simp
  ·refine ⟨fun w hw=>?_,id,⟨rfl,trivial⟩,⟨rfl,trivial⟩,by simp [By,BA.id]⟩
   rcases List.mem_append.1 hw with h3 | h3
   ·exact hI w h3
   ·rw [List.mem_singleton.1 h3];simpa using h
 ·obtain rfl:xs=v.held:=hS
  have h2:(v.held.all fun x=>Dx v.zones v.known x)=true:=List.all_eq_true.2 hI
  refine g ?_
  repeat' (first | refine st_ rfl (g ?_) | refine A9 (Bb4 _ _ _ _ (fun x=>Al8 v x hH)) rfl (g ?_))
  rw [<-hB]
  simp only [Am]
  rw [hP,h1,h2,List.not_any_eq_all_not]
  simp
end Go.Proofs.YtblfjaedaijfoaaGreatDoor
namespace Go.Proofs.YtblfjaedaijfoaaGreatDoor
open Go.ChangeShapes Go.WideShapes Go.ChangeAt Go.RowKit
attribute [local irreducible] AW AWY Bo B4 vop Bj B7 Bf qop Bu C4 Aq Aj Bh A7 B9 Ge
attribute [local go_sem] Dk Ae Af
def Dj6 (v:Cr) (it:List Ao):List Ab:=if Am v=true then Ch6 v.zones v.known it else []
end Go.Proofs.YtblfjaedaijfoaaGreatDoor
namespace Go.Proofs.YtblfjaedaijfoaaGreatDoor
open Go.ChangeShapes Go.WideShapes Go.ChangeAt Go.RowKit
attribute [local irreducible] AW AWY Bo B4 vop Bj B7 Bf qop Bu C4 Aq Aj Bh A7 B9 Ge
attribute [local go_sem] Hv Dq G6 Cv Ae Af
set_option maxRecDepth 100000 in
theorem M0 (l:List C1) (room:Int) (iR:I64 room):A7 Tryz.prog A8 32 [.iv (boI l),.val (.int .i64 room)] (.val (.bool (Bw l room))) []:=by
 refine A7.of (n:=43) (rs:=[.tmp 4]) Tryz.func32 rfl (by kernel_rfl) Tryz.ntmps32 (by kernel_rfl) (by simp) (fun _ _=>A8.later) ?_
 intro hok V w0
 have hlen:l.length<=1073741824:=by simpa [boI] using hok.1.1
 obtain ⟨B,hB⟩ : ∃ B,Bw l room=B:=⟨_,rfl⟩
 rw [hB]
 unfold Bw Ke at hB
 refine g ?_
 repeat' (first | refine st_ rfl (g ?_) | refine Al (fun h=>g ?_) (fun h=>g ?_) | (refine B8 rfl rfl (fun h e=>?_) (fun h e=>?_)<;>simp only [e]<;>clear e<;>refine g ?_))
 ·rw [<-hB,decide_eq_false (p:=0<=room) (by omega)];rfl
 ·rw [<-hB,decide_eq_false (p:=room<=16777216) (by omega)];simp
 ·rw [<-hB,decide_eq_false (p:=l.length<=256) (by omega)];simp
 rw [decide_eq_true (p:=0<=room) (by omega),decide_eq_true (p:=room<=16777216) (by omega),decide_eq_true (p:=l.length<=256) (by omega),Bool.true_and,Bool.true_and,Bool.true_and] at hB
 refine AW.loop (fun x:{x:Nat×List (Int×Value) // x.1<=l.length/\Gp (l.take x.1)=true/\∀ o,(N4 x.2 o).getD (.bool false)=.bool (A84 (l.take x.1) o)}=>⟨[(0,.iv (boI l)),(1,.val (.int .i64 room)),(5,.mv 2000),(20,.iv (boI l)),(21,.val (.int .i64 (l.length:Nat))),(22,.val (.int .i64 (x.1.1:Nat)))],[.mp 2000 .i64 x.1.2]⟩) (fun x=>l.length - x.1.1) ⟨(0,[]),Nat.zero_le _,rfl,fun o=>rfl⟩ id ⟨⟨rfl,rfl,rfl,rfl,rfl,rfl,trivial⟩,⟨rfl,trivial⟩,by simp [By,BA.id]⟩ fun ⟨⟨m,kv⟩,hm,ht,hk⟩=>?_
 simp only at hm ht hk
 refine g ?_
 repeat' (first | refine st_ rfl (g ?_) | refine Al (fun h=>g ?_) (fun h=>g ?_) | refine ix_ (by omega) (g ?_))
 ·have hlt:m < l.length:=by omega
  refine ⟨.bool (A84 (l.take m) l[m].object),hk _,?_⟩
  cases hh:A84 (l.take m) l[m].object
  ·refine g ?_
   repeat' (first | refine st_ rfl (g ?_) | refine Bi (g ?_) | refine Cy (fun h=>g ?_) (fun h=>g ?_) | refine A9 (Yi _) rfl (g ?_))
   ·rw [<-hB,Z2 hlt ht (.inl (by simpa using h))];rfl
   ·have hr:Cc l[m]=true:=by simpa using h
    refine ⟨⟨(m+1,_),hlt,by rw [Wx hlt ht,hr,hh];rfl,fun o=>?_⟩,id,⟨⟨rfl,rfl,rfl,rfl,rfl,rfl,trivial⟩,⟨rfl,trivial⟩,by simp [By,BA.id]⟩,by show l.length - (m+1) < l.length - m;omega⟩
    rw [Ad1,Ae1 hlt]
    by_cases e:o=l[m].object
    ·rw [if_pos e,e];simp
    ·rw [if_neg e,hk o,decide_eq_false (fun e'=>e e'.symm),Bool.or_false]
  ·refine g ?_
   repeat' (first | refine st_ rfl (g ?_) | refine Bi (g ?_))
   rw [<-hB,Z2 hlt ht (.inr hh)];rfl
 ·obtain rfl:m=l.length:=by omega
  rw [List.take_length] at ht
  refine A9 (A94 l (by omega) fun x hx=>(Fj (Pz ht x hx)).2.2) rfl ?_
  refine g ?_
  repeat' refine st_ rfl (g ?_)
  rw [<-hB,ht];rfl
end Go.Proofs.YtblfjaedaijfoaaGreatDoor
namespace Go.Proofs.YtblfjaedaijfoaaGreatDoor
open Go.ChangeShapes Go.WideShapes Go.ChangeAt Go.RowKit
attribute [local irreducible] AW AWY Bo B4 vop Bj B7 Bf qop Bu C4 Aq Aj Bh A7 B9 Mw
attribute [local go_sem] Ae Af
def Ci8 (f:Nat->Int) (M n:Nat):Int:=if M.testBit n=true then f n else 0
end Go.Proofs.YtblfjaedaijfoaaGreatDoor
namespace Go.Proofs.YtblfjaedaijfoaaGreatDoor
open Go.ChangeShapes Go.WideShapes Go.ChangeAt Go.RowKit
attribute [local irreducible] Bo B4 vop Bj B7 Bf qop Bu C4 Aq Aj Bh A7 B9
attribute [local go_sem] Ae Af
section
variable {V w0 : World} {n : Nd} {ro : Option Nat} {σ : Ag} {K : Exit -> Ag -> Prop}
end
def enX (x:Fin 64):List AV:=[.val (.int .i64 (x.1:Nat)),.any]
attribute [local irreducible] Mw AW
section
variable {V w0 : World} {n : Nd} {K : Exit -> Ag -> Prop}
end
def Dy2 (f d:Nat->Int) (pre:List (Fin 64)) (n:Nat):Int:=if pre.any (fun x=>decide (x.1=n))=true then min (f n) (d n) else f n
structure E44 (ls:List (List Ab)) where
 i:Nat
 f:Nat->Int
 M:Nat
 h0:0 < i
 hi:i<=ls.length
 hM:M < 18446744073709551616
 hf:∀ n,n < 64->I64 (f n)
 pos:∀ n,n < 64->M.testBit n=true->0 < f n
 is:∀ n,n < 64->Ci8 f M n=Ce1 (ls.take i) n
end Go.Proofs.YtblfjaedaijfoaaGreatDoor
namespace Go.Proofs.YtblfjaedaijfoaaGreatDoor
open Go.ChangeShapes Go.WideShapes Go.ChangeAt Go.RowKit
attribute [local irreducible] AW AWY Bo B4 vop Bj B7 Bf qop Bu C4 Aq Aj Bh A7 B9 Ge
theorem Jo (v:Cr) (iR:I64 v.room):A7 Tryz.prog A8 33 [vwA v] (.val (.bool (Am v))) []:=C66 (fun l r h=>M0 l r h) v iR
end Go.Proofs.YtblfjaedaijfoaaGreatDoor
namespace Go.Proofs.YtblfjaedaijfoaaGreatDoor
open Go.ChangeShapes Go.WideShapes Go.ChangeAt Go.RowKit
attribute [local irreducible] AW AWY Bo B4 vop Bj B7 Bf qop Bu C4 Aq Aj Bh A7 B9 Mw
attribute [local go_sem] C9 Ae Af
def P9 (v:List Ab) (n:Bc) (pre:List (Fin 64)) (o:Nat):Int:=if pre.any (fun x=>decide (x.1=o))=true then F1 v n o else Aa v o
theorem Yl (v:List Ab) (n:Bc) (o:Nat):0<=F1 v n o:=by
 have:=Ed v o
 unfold F1
 split<;>omega
theorem Yc (v:List Ab) (n:Bc) (pre:List (Fin 64)) (o:Nat):0<=P9 v n pre o:=by
 have:=Ed v o
 have:=Yl v n o
 unfold P9
 split<;>omega
theorem Af1 {v:List Ab} {n:Bc} {pre:List (Fin 64)} {x:Fin 64} {o:Nat} : P9 v n (pre++[x]) o=if o=x.1 then F1 v n x.1 else P9 v n pre o:=by
 unfold P9
 rw [List.any_append]
 simp only [List.any_cons,List.any_nil,Bool.or_false]
 by_cases e:o=x.1
 ·subst e;simp
 ·rw [if_neg e,decide_eq_false (fun h=>e h.symm),Bool.or_false]
theorem Bi0 {v:List Ab} {n:Bc} {pre:List (Fin 64)} {x:Fin 64} : P9 v n pre x.1=F1 v n x.1\/P9 v n pre x.1=Aa v x.1:=by
 unfold P9
 split
 ·exact .inl rfl
 ·exact .inr rfl
theorem Bh9 {v:List Ab} {n:Bc} {pre:List (Fin 64)} {x:Fin 64} (h:¬ (Aa v x.1 < Aa n.end_ x.1/\Aa n.start x.1<=Aa v x.1)):Fi (P9 v n (pre++[x]))=Fi (P9 v n pre) :=
 Lb fun o ho=>by
  rw [Af1]
  split
  ·rename_i e
   subst e
   have hs:F1 v n x.1=Aa v x.1:=by
    unfold F1
    split<;>omega
   rcases Bi0 (v:=v) (n:=n) (pre:=pre) (x:=x) with e | e<;>omega
  ·rfl
theorem Az6 {c:Int} {k:Nat} (h:Bl c k=true) (o:Nat):Aa [⟨c,k⟩] o=if o=k then c else 0:=by
 simp only [Aa,h,and_true]
 by_cases e:o=k
 ·subst e;simp
 ·rw [if_neg e,if_neg (by omega)]
theorem C29 {v:List Ab} {n:Bc} {pre:List (Fin 64)} {x:Fin 64} (h1:Aa v x.1 < Aa n.end_ x.1) (h2:Aa n.start x.1<=Aa v x.1) (hr:Bl (Aa n.end_ x.1) x.1=true):Di [Fi (P9 v n pre),[⟨Aa n.end_ x.1,(x.1:Nat)⟩]]=Fi (P9 v n (pre++[x])) :=
 Lb fun o ho=>by
  rw [Ad4,La _ ho (Yc _ _ _ _),Az6 hr,Af1]
  have h3:=Yc v n pre o
  by_cases e:o=x.1
  ·subst e
   rw [if_pos rfl,if_pos rfl]
   have hs:F1 v n x.1=Aa n.end_ x.1:=by
    unfold F1
    rw [if_pos h2];omega
   rcases Bi0 (v:=v) (n:=n) (pre:=pre) (x:=x) with e | e<;>omega
  ·rw [if_neg e,if_neg e];omega
theorem C30 {v:List Ab} (hv:Ak v=true) (n:Bc):Fi (P9 v n [])=v:=by
 have:Fi (P9 v n [])=Fi fun k=>Aa v k:=Lb fun o _=>by simp [P9]
 rw [this,Qm hv]
theorem C31 {v:List Ab} {n:Bc} {xs:List (Fin 64)} (h:xs.map (·.1)=Ch (D3 n.end_) 64):Fi (P9 v n xs)=Jj v n :=
 Lb fun o ho=>by
  unfold P9
  split
  ·rfl
  ·rename_i hh
   have:o∉Ch (D3 n.end_) 64:=fun hm=>hh (by
    rw [<-h,List.mem_map] at hm
    obtain ⟨x,h1,h2⟩:=hm
    exact List.any_eq_true.2 ⟨x,h1,by simpa using h2⟩)
   rw [N2,Mm ho] at this
   have h0:Aa n.end_ o=0:=by
    by_cases e:Aa n.end_ o=0
    ·exact e
    ·exact absurd ⟨ho,by simp [e]⟩ this
   have:=Ed v o
   unfold F1
   rw [h0]
   split<;>omega
theorem Bt7 (l:List Ab) (s:Ab) (i1:I64 s.count) (i2:I64 s.node):A7 Tryz.prog A8 212 [.iv (stI l),.agg [.val (.int .i64 s.count),.val (.int .i64 s.node)]] (.iv (stI (Di [l,[s]]))) []:=(B27 l s i1 i2).frz trivial
set_option maxRecDepth 100000 in
set_option maxHeartbeats 1600000 in
theorem Zn (v:List Ab) (n:Bc) (hv:Ak v=true):A7 Tryz.prog A8 277 [.iv (stI v),Ft n] (.iv (stI (Jj v n))) []:=by
 refine A7.ofS (n:=35) (rs:=[.tmp 4]) Tryz.func277 rfl (by kernel_rfl) Tryz.ntmps277 (by kernel_rfl) (by simp) (fun _ _=>A8.later) ?_
 intro hok V w0
 refine g ?_
 refine AW.seq ?_
 refine AW.reg rfl fun KK hKK=>?_
 refine g ?_
 repeat' (refine hKK _ (g ?_);clear hKK KK)
 refine AW.freeze 300 _ rfl ⟨trivial,trivial⟩ ?_
 simp only [go_sem,reduceIte,Nat.reduceEqDiff]
 refine AW.freeze 400 _ rfl ⟨trivial,trivial,trivial,trivial,trivial⟩ ?_
 simp only [go_sem,reduceIte,Nat.reduceEqDiff]
 refine g ?_
 repeat' (first | refine st_ rfl (g ?_) | refine A9 (B15 _) rfl (g ?_))
 have hI:∀ k:Int,I64 (Aa n.end_ k):=fun k=>by
  refine Lk (fun s hs=>?_) k
  obtain ⟨-,h2,-⟩:=Do hok.2.1.2.1.2 (Rj s) (List.mem_map_of_mem hs)
  exact h2
 refine AW.le (S:=⟨[(5,.bp 600 0),(2,.ip [stI v]),(3,.ip [stI n.start,stI n.end_,spI n.blur,wrI n.writes]),(12,.fn 315 [.ip [.pt (Mw (fun k=>Aa n.end_ k) (D3 n.end_))]])],[.box 600 [.iv (stI (Fi (P9 v n [])))]]⟩) (ρ:=id) ⟨⟨rfl,rfl,rfl,rfl,trivial⟩,⟨by rw [C30 hv];rfl,trivial⟩,by simp [By,BA.id]⟩ ?_
 refine AW.range (Af4 (fun k=>Aa n.end_ k) (D3 n.end_) (M6 _)) [(5,.bp 600 0)] [(2,.ip [stI v]),(3,.ip [stI n.start,stI n.end_,spI n.blur,wrI n.writes]),(12,.fn 315 [.ip [.pt (Mw (fun k=>Aa n.end_ k) (D3 n.end_))]])] (fun pre=>[.box 600 [.iv (stI (Fi (P9 v n pre)))]]) (fun _=>True) rfl trivial rfl rfl rfl rfl (fun x=>⟨rfl,rfl⟩) (fun c pre x hsp _=>?_) (fun xs hS _=>?_)
 ·have hm:x.1∈Ch (D3 n.end_) 64:=hsp.subset (by simp)
  rw [N2,Mm x.2] at hm
  have hne:Aa n.end_ x.1≠0:=by simpa using hm.2
  have hpos:=Rp hne
  have hr:Bl (Aa n.end_ x.1) x.1=true:=decide_eq_true ⟨hpos,by omega,by have:=x.2;omega⟩
  have hx:=x.2
  simp only [A17,enE,List.cons_append,List.nil_append]
  refine g ?_
  refine g ?_
  repeat' (first | refine st_ rfl (g ?_) | refine Al (fun h=>g ?_) (fun h=>g ?_) | (refine B8 rfl rfl (fun h e=>?_) (fun h e=>?_)<;>simp only [e]<;>clear e<;>refine g ?_) | refine A9 (Ap1 _ _) rfl (g ?_) | refine A9 (Bt7 (Fi (P9 v n pre)) ⟨Aa n.end_ x.1,(x.1:Nat)⟩ (hI _) (I64.of (by show (-9223372036854775808:Int)<=(x.1:Nat);omega) (by show ((x.1:Nat):Int)<=9223372036854775807;omega))) rfl (g ?_))
  ·rename_i h1
   exact ⟨trivial,id,⟨rfl,trivial⟩,⟨congrArg (fun l=>some (BA.box 600 [.iv (stI l)])) (C29 h1 h hr),trivial⟩,by simp [By,BA.id]⟩
  ·exact ⟨trivial,id,⟨rfl,trivial⟩,⟨congrArg (fun l=>some (BA.box 600 [.iv (stI l)])) (Bh9 (fun q=>h q.2)).symm,trivial⟩,by simp [By,BA.id]⟩
  ·exact ⟨trivial,id,⟨rfl,trivial⟩,⟨congrArg (fun l=>some (BA.box 600 [.iv (stI l)])) (Bh9 (fun q=>h q.1)).symm,trivial⟩,by simp [By,BA.id]⟩
 ·refine g ?_
  rw [C31 hS]
  refine g ?_
  repeat' refine st_ rfl (g ?_)
  exact Bz.rfl_ _
end Go.Proofs.YtblfjaedaijfoaaGreatDoor
namespace Go.Proofs.YtblfjaedaijfoaaGreatDoor
open Go.ChangeShapes Go.WideShapes Go.ChangeAt Go.RowKit
attribute [local irreducible] AW AWY Bo B4 vop Bj B7 Bf qop Bu C4 Aq Aj Bh A7 B9 Ge
attribute [local go_sem] Ae Af
def Vp (s:Sub):List IV:=[.val (.int .i64 s.from_),spI s.interest,.val (.int .i64 s.session),.val (.int .i64 s.seq),.val (.bool s.live),.val (.bool s.heard),.val (.bool s.idle)]
def H9 (l:List Sub):IV:=.sl 7 (l.map Vp)
theorem Jk (s:Sub):Vp s=[.val (.int .i64 s.from_),spI s.interest,.val (.int .i64 s.session),.val (.int .i64 s.seq),.val (.bool s.live),.val (.bool s.heard),.val (.bool s.idle)]:=rfl
theorem Fx (l:List Sub):H9 l=.sl 7 (l.map Vp):=rfl
attribute [local go_sem] Jk Fx
end Go.Proofs.YtblfjaedaijfoaaGreatDoor
