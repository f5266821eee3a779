/- Whether a write is reached, and a body wanted (the reference's); whether a write is reached (the program's). -/
import Derived.Test.YtahgkllhbggmgaaGreatDoorLZones
import Derived.Test.YtahgkllhbggmgaaGreatDoorLPlace
set_option linter.all false
set_option linter.unnecessarySimpa false
set_option linter.unusedSimpArgs false
set_option linter.unusedVariables false
namespace Go.Proofs.YtahgkllhbggmgaaGreatDoor
open Go.ChangeShapes Go.WideShapes Go.ChangeAt Go.RowKit
attribute [local irreducible] AW AWY Be As vop Az Aq Ax qop Bd Bv Aj Ag Ay A7 Aw Du
attribute [local go_sem] Fp Dx Ae Af
theorem Bv4:(rep 256 (.bool false)).map IV.val=Du fun _=>false:=List.ext_getElem? fun o=>by
 unfold rep
 rw [List.map_replicate,List.getElem?_replicate]
 by_cases ho:o < 256
 ·rw [if_pos ho,K7 ho]
 ·rw [if_neg ho,List.getElem?_eq_none (by rw [Fh];omega)]
theorem X7 {f:Nat->Bool} {p:Nat} {b:Bool} (hp:p < 256):(Du f).set p (.val (.bool b))=Du fun o=>if o=p then b else f o:=List.ext_getElem? fun o=>by
 rw [List.getElem?_set]
 by_cases e:p=o
 ·subst e;rw [if_pos rfl,Fh,if_pos hp,K7 hp,if_pos rfl]
 ·rw [if_neg e]
  by_cases ho:o < 256
  ·rw [K7 ho,K7 ho,if_neg fun h=>e h.symm]
  ·rw [List.getElem?_eq_none (by rw [Fh];omega),List.getElem?_eq_none (by rw [Fh];omega)]
end Go.Proofs.YtahgkllhbggmgaaGreatDoor
namespace Go.Proofs.YtahgkllhbggmgaaGreatDoor
open Go.ChangeShapes Go.WideShapes Go.ChangeAt Go.RowKit
attribute [local irreducible] AW AWY Be As vop Az Aq Ax qop Bd Bv Aj Ag Ay A7 Aw Du
attribute [local go_sem] Gr Eg Ez Dp Ae Af
theorem Ao4 (x:Cr):A7 Tryz.prog A8 128 [boA x] (.val (.bool (Da x))) []:=by
 refine A7.of (n:=22) (rs:=[.tmp 2]) Tryz.func128 rfl (by kernel_rfl) Tryz.ntmps128 (by kernel_rfl) (by simp) (fun _ _=>A8.later) ?_
 intro hok V w0
 obtain ⟨B,hB⟩ : ∃ B,Da x=B:=⟨_,rfl⟩
 rw [hB]
 unfold Da Jt at hB
 refine g ?_
 repeat' (first | refine st_ rfl (g ?_) | (refine B8 rfl rfl (fun h e=>?_) (fun h e=>?_)<;>simp only [e]<;>clear e<;>refine g ?_) | (refine E9 rfl rfl (fun h=>?_) (fun h=>?_)<;>simp only [h]<;>refine g ?_) | refine Aa (Rh _ _) rfl (g ?_))
 all_goals (rw [<-hB,Bool.eq_iff_iff];simp [*];try omega)
theorem A71 (x:Cr):A7 Tryz.prog A8 170 [boA x] (.val (.bool (Da x))) []:=by
 refine A7.of (n:=22) (rs:=[.tmp 2]) Tryz.func170 rfl (by kernel_rfl) Tryz.ntmps170 (by kernel_rfl) (by simp) (fun _ _=>A8.later) ?_
 intro hok V w0
 obtain ⟨B,hB⟩ : ∃ B,Da x=B:=⟨_,rfl⟩
 rw [hB]
 unfold Da Jt at hB
 refine g ?_
 repeat' (first | refine st_ rfl (g ?_) | (refine B8 rfl rfl (fun h e=>?_) (fun h e=>?_)<;>simp only [e]<;>clear e<;>refine g ?_) | (refine E9 rfl rfl (fun h=>?_) (fun h=>?_)<;>simp only [h]<;>refine g ?_) | refine Aa (Nz _ _) rfl (g ?_))
 all_goals (rw [<-hB,Bool.eq_iff_iff];simp [*];try omega)
theorem B64 (l:List Cr) (hl:l.length<=1000) (hb:∀ x∈l,x.value.length<=256):A7 Tryz.prog A8 129 [.iv (boI l)] (.val (.int .i64 (Ni l:Nat))) []:=by
 refine A7.of (n:=19) (rs:=[.tmp 2]) Tryz.func129 rfl (by kernel_rfl) Tryz.ntmps129 (by kernel_rfl) (by simp) (fun _ _=>A8.later) ?_
 intro hok V w0
 refine g ?_
 repeat' refine st_ rfl (g ?_)
 refine AW.loop (fun m:{m:Nat // m<=l.length}=>⟨[(3,.val (.int .i64 (Ni (l.take m.1):Nat))),(6,.iv (boI l)),(7,.val (.int .i64 (l.length:Nat))),(8,.val (.int .i64 (m.1:Nat)))],[]⟩) (fun m=>l.length - m.1) ⟨0,Nat.zero_le _⟩ id ⟨⟨rfl,rfl,rfl,rfl,trivial⟩,trivial,List.nodup_nil⟩ fun ⟨m,hm⟩=>?_
 have hu:=A44 (l.take m) fun x hx=>hb x (List.mem_of_mem_take hx)
 rw [List.length_take] at hu
 by_cases hlt:m < l.length
 ·have hv:=hb l[m] (List.getElem_mem hlt)
  have hs:=Zq hlt
  refine g ?_
  repeat' (first | refine st_ rfl (g ?_) | refine Al (fun h=>g ?_) (fun h=>g ?_) | refine ix_ (by omega) (g ?_))
  ·refine ⟨⟨m+1,hlt⟩,id,⟨⟨by rw [hs];rfl,rfl,rfl,rfl,trivial⟩,trivial,List.nodup_nil⟩,by show l.length - (m+1) < l.length - m;omega⟩
  ·omega
 ·obtain rfl:m=l.length:=by omega
  refine g ?_
  repeat' (first | refine st_ rfl (g ?_) | refine Al (fun h=>g ?_) (fun h=>g ?_) | refine ix_ (by omega) (g ?_))
  ·omega
  ·rw [List.take_length]
theorem As5 (l:List Cr) (hl:l.length<=1000) (hb:∀ x∈l,x.value.length<=256):A7 Tryz.prog A8 279 [.iv (boI l)] (.val (.int .i64 (Ni l:Nat))) []:=by
 refine A7.of (n:=20) (rs:=[.tmp 2]) Tryz.func279 rfl (by kernel_rfl) Tryz.ntmps279 (by kernel_rfl) (by simp) (fun _ _=>A8.later) ?_
 intro hok V w0
 refine g ?_
 repeat' refine st_ rfl (g ?_)
 refine AW.loop (fun m:{m:Nat // m<=l.length}=>⟨[(0,.iv (boI l)),(3,.val (.int .i64 (Ni (l.take m.1):Nat))),(4,.val (.int .i64 (m.1:Nat)))],[]⟩) (fun m=>l.length - m.1) ⟨0,Nat.zero_le _⟩ id ⟨⟨rfl,rfl,rfl,trivial⟩,trivial,List.nodup_nil⟩ fun ⟨m,hm⟩=>?_
 have hu:=A44 (l.take m) fun x hx=>hb x (List.mem_of_mem_take hx)
 rw [List.length_take] at hu
 by_cases hlt:m < l.length
 ·have hv:=hb l[m] (List.getElem_mem hlt)
  have hs:=Zq hlt
  refine g ?_
  repeat' (first | refine st_ rfl (g ?_) | refine Al (fun h=>g ?_) (fun h=>g ?_) | refine ix_ (by omega) (g ?_))
  ·refine ⟨⟨m+1,hlt⟩,id,⟨⟨rfl,by rw [hs];rfl,rfl,trivial⟩,trivial,List.nodup_nil⟩,by show l.length - (m+1) < l.length - m;omega⟩
  ·omega
 ·obtain rfl:m=l.length:=by omega
  refine g ?_
  repeat' (first | refine st_ rfl (g ?_) | refine Al (fun h=>g ?_) (fun h=>g ?_) | refine ix_ (by omega) (g ?_))
  ·omega
  ·rw [List.take_length]
set_option maxRecDepth 100000 in
theorem Ze (l:List Cr) (room:Int) (iR:I64 room):A7 Tryz.prog A8 158 [.iv (boI l),.val (.int .i64 room)] (.val (.bool (Dc l room))) []:=by
 refine A7.of (n:=49) (rs:=[.tmp 4]) Tryz.func158 rfl (by kernel_rfl) Tryz.ntmps158 (by kernel_rfl) (by simp) (fun _ _=>A8.later) ?_
 intro hok V w0
 have hlen:l.length<=1073741824:=by simpa [boI] using hok.1.1
 obtain ⟨B,hB⟩ : ∃ B,Dc l room=B:=⟨_,rfl⟩
 rw [hB]
 unfold Dc P0 at hB
 refine g ?_
 repeat' (first | refine st_ rfl (g ?_) | refine Al (fun h=>g ?_) (fun h=>g ?_) | (refine B8 rfl rfl (fun h e=>?_) (fun h e=>?_)<;>simp only [e]<;>clear e<;>refine g ?_))
 ·rw [<-hB,decide_eq_false (p:=0<=room) (by omega)];rfl
 ·rw [<-hB,decide_eq_false (p:=room<=16777216) (by omega)];simp
 ·rw [<-hB,decide_eq_false (p:=l.length<=256) (by omega)];simp
 rw [decide_eq_true (p:=0<=room) (by omega),decide_eq_true (p:=room<=16777216) (by omega),decide_eq_true (p:=l.length<=256) (by omega),Bool.true_and,Bool.true_and,Bool.true_and] at hB
 refine AW.loop (fun m:{m:Nat // m<=l.length/\K1 (l.take m)=true}=>⟨[(0,.iv (boI l)),(1,.val (.int .i64 room)),(5,.bp 600 0),(6,.val (.int .i64 (m.1:Nat)))],[.arr 600 (Du fun o=>Zi (l.take m.1) o)]⟩) (fun m=>l.length - m.1) ⟨0,Nat.zero_le _,rfl⟩ id ⟨⟨rfl,rfl,rfl,rfl,trivial⟩,⟨?_,trivial⟩,by simp [Bw,BA.id]⟩ fun ⟨m,hm,ht⟩=>?_
 ·exact congrArg (fun C=>some (BA.arr 600 C)) (Bv4.trans (Mv fun o ho=>rfl))
 refine g ?_
 repeat' (first | refine st_ rfl (g ?_) | refine Al (fun h=>g ?_) (fun h=>g ?_) | (refine E9 rfl rfl (fun h=>?_) (fun h=>?_)<;>simp only [h]<;>refine g ?_) | refine ix_ (by omega) (g ?_) | refine Aa (A71 _) rfl (g ?_))
 ·rw [<-hB,Vz (by omega) ht (.inl (by simpa using h))];rfl
 ·have hlt:m < l.length:=by omega
  have hr:Da l[m]=true:=by simpa using h
  obtain ⟨r1,r2,r3⟩:=Mx hr
  have hto:((l[m].object.toNat:Nat):Int)=l[m].object:=by omega
  refine ⟨r1,r2,?_⟩
  rw [Nat.mul_one,Nat.zero_add]
  refine g ?_
  repeat' refine B9 (g ?_)
  refine ⟨_,K7 (by omega),?_⟩
  rw [hto]
  refine g ?_
  repeat' (first | refine st_ rfl (g ?_) | refine B9 (g ?_) | refine De (fun h=>g ?_) (fun h=>g ?_) | refine ix_ (by omega) (g ?_))
  ·rw [<-hB,Vz hlt ht (.inr h)];rfl
  ·refine ⟨r1,r2,?_⟩
   rw [Nat.mul_one,Nat.zero_add]
   refine g ?_
   repeat' refine B9 (g ?_)
   refine ⟨_,rfl,⟨trivial,trivial⟩,by rw [Fh];omega,?_⟩
   refine g ?_
   repeat' (first | refine st_ rfl (g ?_) | refine B9 (g ?_))
   refine ⟨⟨m+1,hlt,by rw [Tw hlt ht,hr,h];rfl⟩,id,⟨⟨rfl,rfl,rfl,rfl,trivial⟩,⟨congrArg (fun C=>some (BA.arr 600 C)) ?_,trivial⟩,by simp [Bw,BA.id]⟩,by show l.length - (m+1) < l.length - m;omega⟩
   rw [X7 (by omega)]
   refine Mv fun o ho=>?_
   rw [A24 hlt]
   by_cases e:o=l[m].object.toNat
   ·rw [if_pos e,e,hto];simp
   ·rw [if_neg e,decide_eq_false (by omega),Bool.or_false]
 ·obtain rfl:m=l.length:=by omega
  rw [List.take_length] at ht
  refine Aa (As5 l (by omega) fun x hx=>(Mx (Xp ht x hx)).2.2) rfl ?_
  refine g ?_
  repeat' refine st_ rfl (g ?_)
  rw [<-hB,ht];rfl
end Go.Proofs.YtahgkllhbggmgaaGreatDoor
namespace Go.Proofs.YtahgkllhbggmgaaGreatDoor
open Go.ChangeShapes Go.WideShapes Go.ChangeAt Go.RowKit
attribute [local irreducible] AW AWY Be As vop Az Aq Ax qop Bd Bv Aj Ag Ay A7 Aw Du
attribute [local go_sem] Ae Af
set_option maxRecDepth 100000 in
theorem Z3 (a b:List Ad):A7 Tryz.prog A8 133 [.iv (stI a),.iv (stI b)] (.val (.int .i64 (Yo a b))) []:=by
 refine A7.of (n:=22) (rs:=[.tmp 4]) Tryz.func133 rfl (by kernel_rfl) Tryz.ntmps133 (by kernel_rfl) (by simp) (fun _ _=>A8.later) ?_
 intro hok V w0
 unfold Yo
 have h1:=S3 a b
 have h2:=S3 b a
 generalize Bi a b=x at h1 ⊢
 generalize Bi b a=y at h2 ⊢
 cases x<;>cases y
 ·refine g ?_
  repeat' refine st_ rfl (g ?_)
  refine ⟨fun v hv=>by simp at hv;subst hv;rfl,_,rfl,⟨rfl,rfl,rfl,rfl,trivial⟩,?_⟩
  refine g ?_
  repeat' (first | refine st_ rfl (g ?_) | refine B9 (g ?_) | exact trivial | refine Aa (h1) rfl (g ?_) | refine Aa (h2) rfl (g ?_))
 ·refine g ?_
  repeat' refine st_ rfl (g ?_)
  refine ⟨fun v hv=>by simp at hv;subst hv;rfl,_,rfl,⟨rfl,rfl,rfl,rfl,trivial⟩,?_⟩
  refine g ?_
  repeat' (first | refine st_ rfl (g ?_) | refine B9 (g ?_) | exact trivial | refine Aa (h1) rfl (g ?_) | refine Aa (h2) rfl (g ?_))
 ·refine g ?_
  repeat' refine st_ rfl (g ?_)
  refine ⟨fun v hv=>by simp at hv;subst hv;rfl,_,rfl,⟨rfl,rfl,rfl,rfl,trivial⟩,?_⟩
  refine g ?_
  repeat' (first | refine st_ rfl (g ?_) | refine B9 (g ?_) | exact trivial | refine Aa (h1) rfl (g ?_) | refine Aa (h2) rfl (g ?_))
 ·refine g ?_
  repeat' refine st_ rfl (g ?_)
  refine ⟨fun v hv=>by simp at hv;subst hv;rfl,_,rfl,⟨rfl,rfl,rfl,rfl,trivial⟩,?_⟩
  refine g ?_
  repeat' (first | refine st_ rfl (g ?_) | refine B9 (g ?_) | exact trivial | refine Aa (h1) rfl (g ?_) | refine Aa (h2) rfl (g ?_))
set_option maxRecDepth 100000 in
theorem X8 (a b:List Ad):A7 Tryz.prog A8 159 [.iv (stI a),.iv (stI b)] (.val (.int .i64 (Yo a b))) []:=by
 refine A7.of (n:=22) (rs:=[.tmp 4]) Tryz.func159 rfl (by kernel_rfl) Tryz.ntmps159 (by kernel_rfl) (by simp) (fun _ _=>A8.later) ?_
 intro hok V w0
 unfold Yo
 have h1:=Qu a b
 have h2:=Qu b a
 generalize Bi a b=x at h1 ⊢
 generalize Bi b a=y at h2 ⊢
 cases x<;>cases y
 ·refine g ?_
  repeat' (first | refine st_ rfl (g ?_) | exact trivial | refine Aa (h1) rfl (g ?_) | refine Aa (h2) rfl (g ?_))
 ·refine g ?_
  repeat' (first | refine st_ rfl (g ?_) | exact trivial | refine Aa (h1) rfl (g ?_) | refine Aa (h2) rfl (g ?_))
 ·refine g ?_
  repeat' (first | refine st_ rfl (g ?_) | exact trivial | refine Aa (h1) rfl (g ?_) | refine Aa (h2) rfl (g ?_))
 ·refine g ?_
  repeat' (first | refine st_ rfl (g ?_) | exact trivial | refine Aa (h1) rfl (g ?_) | refine Aa (h2) rfl (g ?_))
end Go.Proofs.YtahgkllhbggmgaaGreatDoor
namespace Go.Proofs.YtahgkllhbggmgaaGreatDoor
open Go.ChangeShapes Go.WideShapes Go.ChangeAt Go.RowKit
attribute [local irreducible] AW AWY Be As vop Az Aq Ax qop Bd Bv Aj Ag Ay A7 Aw Du
attribute [local go_sem] Gr Eg Ez Dp Dz Ch Gu Fp Dx E6 Ae Af
set_option maxRecDepth 100000 in
theorem A68 (z:List Bp) (known:List Ad) (w:Ar):A7 Tryz.prog A8 135 [.iv (znI z),.iv (stI known),wA w] (.val (.bool (Gj z known w))) []:=by
 refine A7.of (n:=15) (rs:=[.tmp 6]) Tryz.func135 rfl (by kernel_rfl) Tryz.ntmps135 (by kernel_rfl) (by simp) (fun _ _=>A8.later) ?_
 intro hok V w0
 refine g ?_
 repeat' refine st_ rfl (g ?_)
 refine AW.drawn (ds:=[7,8,9,10,11,12,13,14,6]) (fin:=[0]) (bs:=[1,1,1,1,1,1,1,1,1]) [⟨[],[],[],[],0⟩,⟨[],[],[],[],0⟩,⟨[],[],[],[],0⟩,⟨[(9,2)],[],[0],[],0⟩,⟨[(7,0),(8,1),(10,3)],[],[0],[],0⟩,⟨[],[],[],[],0⟩,⟨[(12,5)],[],[0],[],0⟩,⟨[(11,4),(13,6)],[],[0],[],0⟩,⟨[(14,7)],[],[],[],0⟩] (by kernel_rfl) rfl (by kernel_rfl) rfl rfl rfl fun KD hKD=>?_
 refine g ?_
 repeat' (first | refine st_ rfl (g ?_) | (refine hKD _ _ ⟨rfl,g ?_⟩;clear hKD KD) | refine Aa (Ac3 _ _ _) rfl (g ?_) | refine Aa (B63 _ w.stamp) rfl (g ?_))
 rfl
set_option maxRecDepth 100000 in
theorem Z9 (v:E8) (w:Ar):A7 Tryz.prog A8 160 [vwA v,wA w] (.val (.bool (Gj v.zones v.known w))) []:=by
 refine A7.of (n:=15) (rs:=[.tmp 4]) Tryz.func160 rfl (by kernel_rfl) Tryz.ntmps160 (by kernel_rfl) (by simp) (fun _ _=>A8.later) ?_
 intro hok V w0
 refine g ?_
 repeat' refine st_ rfl (g ?_)
 refine AW.drawn (ds:=[5,6,7,8,9,10,11,12,13,14,4]) (fin:=[0,1]) (bs:=[2,2,2,2,2,2,2,2,2,2,2]) [⟨[],[],[],[],0⟩,⟨[(5,0)],[],[0,1],[],0⟩,⟨[],[],[],[],0⟩,⟨[(7,2)],[],[0,1],[],0⟩,⟨[],[],[],[],0⟩,⟨[(9,4)],[],[0,1],[],0⟩,⟨[(6,1),(8,3),(10,5)],[],[0,1],[],0⟩,⟨[],[],[],[],0⟩,⟨[(12,7)],[],[0,1],[],0⟩,⟨[(11,6),(13,8)],[],[0,1],[],0⟩,⟨[(14,9)],[],[],[],0⟩] (by kernel_rfl) rfl (by kernel_rfl) rfl rfl rfl fun KD hKD=>?_
 refine g ?_
 repeat' (first | refine st_ rfl (g ?_) | (refine hKD _ _ ⟨rfl,g ?_⟩;clear hKD KD) | refine Aa (A57 _ _ _) rfl (g ?_) | refine Aa (As4 _ w.stamp) rfl (g ?_))
 rfl
theorem S6 (x y:Operand) (p q r s:Int) (w:World):(do eqGuard .eql 38 x y (.agg #[.int .i64 p,.int .i64 q]) (.agg #[.int .i64 r,.int .i64 s]);binOp .eql 38 (.agg #[.int .i64 p,.int .i64 q]) (.agg #[.int .i64 r,.int .i64 s]):Sem Value).run Tryz.prog w=.ok (.bool (p==r&&q==s)) w:=by
 by_cases h1:p=r<;>by_cases h2:q=s<;>go_simp<;>simp [h1,h2]
theorem Zr {a b:Ad} : decide (a=b)=(a.count==b.count&&a.node==b.node):=by
 obtain ⟨c,n⟩:=a
 obtain ⟨d,m⟩:=b
 by_cases h1:c=d<;>by_cases h2:n=m<;>simp [h1,h2]
set_option maxRecDepth 100000 in
theorem A59 (v:E8) (x:Cr):A7 Tryz.prog A8 161 [vwA v,boA x] (.val (.bool (Fb v.held x))) []:=by
 refine A7.of (n:=28) (rs:=[.tmp 4]) Tryz.func161 rfl (by kernel_rfl) Tryz.ntmps161 (by kernel_rfl) (by simp) (fun _ _=>A8.later) ?_
 intro hok V w0
 obtain ⟨B,hB⟩ : ∃ B,Fb v.held x=B:=⟨_,rfl⟩
 rw [hB]
 unfold Fb A41 at hB
 have hat:=Bk3 v.held x.object
 cases hg:N8 v.held x.object with
 | none =>
  rw [hg] at hB hat
  refine g ?_
  repeat' (first | refine st_ rfl (g ?_) | refine Aa (hat) rfl (g ?_))
  exact hB
 | some w =>
  rw [hg] at hB hat
  simp only [Option.getD_some,Option.isSome_some] at hat hB
  rw [Zr] at hB
  refine g ?_
  repeat' (first | refine st_ rfl (g ?_) | refine Aa (hat) rfl (g ?_))
  refine ⟨_,fun u=>S6 _ _ _ _ _ _ u,?_⟩
  refine g ?_
  repeat' (first | refine st_ rfl (g ?_) | refine B9 (g ?_) | (refine E9 rfl rfl (fun h=>?_) (fun h=>?_)<;>simp only [h]<;>refine g ?_))
  ·rw [<-hB,h];simp
  ·rw [<-hB,h];simp
end Go.Proofs.YtahgkllhbggmgaaGreatDoor
