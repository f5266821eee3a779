/- Whether two rows of bytes, two bodies are the same (the reference's). -/
import Derived.Test.YtblfjaedaijfoaaGreatDoorQZones
import Derived.Test.YtblfjaedaijfoaaGreatDoorQPlace
set_option linter.all false
set_option linter.unnecessarySimpa false
set_option linter.unusedSimpArgs false
set_option linter.unusedVariables false
namespace Go.Proofs.YtblfjaedaijfoaaGreatDoor
open Go.ChangeShapes Go.WideShapes Go.ChangeAt Go.RowKit
attribute [local irreducible] AW AWY Bo B4 vop Bj B7 Bf qop Bu C4 Aq Aj Bh A7 B9 Ge
attribute [local go_sem] Hr Db Ae Af
theorem C79:(rep 256 (.bool false)).map IV.val=Ge fun _=>false:=List.ext_getElem? fun o=>by
 unfold rep
 rw [List.map_replicate,List.getElem?_replicate]
 by_cases ho:o < 256
 ·rw [if_pos ho,Pw ho]
 ·rw [if_neg ho,List.getElem?_eq_none (by rw [Mh];omega)]
theorem Bv9 {f:Nat->Bool} {p:Nat} {b:Bool} (hp:p < 256):(Ge f).set p (.val (.bool b))=Ge fun o=>if o=p then b else f o:=List.ext_getElem? fun o=>by
 rw [List.getElem?_set]
 by_cases e:p=o
 ·subst e;rw [if_pos rfl,Mh,if_pos hp,Pw hp,if_pos rfl]
 ·rw [if_neg e]
  by_cases ho:o < 256
  ·rw [Pw ho,Pw ho,if_neg fun h=>e h.symm]
  ·rw [List.getElem?_eq_none (by rw [Mh];omega),List.getElem?_eq_none (by rw [Mh];omega)]
set_option maxRecDepth 100000 in
theorem B24 (z:List At):A7 Tryz.prog A8 168 [.iv (znI z)] (.iv (spI (Mt z))) []:=by
 refine A7.ofS (n:=24) (rs:=[.tmp 2]) Tryz.func168 rfl (by kernel_rfl) Tryz.ntmps168 (by kernel_rfl) (by simp) (fun _ _=>A8.later) ?_
 intro hok V w0
 have hlen:z.length<=1073741824:=by simpa [znI] using hok.1.1
 refine g ?_
 repeat' (first | refine st_ rfl (g ?_) | refine Cy (fun h=>g ?_) (fun h=>g ?_) | refine A9 (Lv _) rfl (g ?_))
 ·rw [Mt,if_neg (by simpa using h)]
  exact Bg 2
 rw [Mt,if_pos (by simpa using h)]
 refine AW.adopt 3 9900 121 2 rfl rfl ?_
 refine AW.loop (fun m:{m:Nat // m<=z.length}=>⟨[(3,.own 9900),(9,.iv (znI z)),(10,.val (.int .i64 (z.length:Nat))),(11,.val (.int .i64 (m.1:Nat)))],[.row 9900 121 2 (((z.take m.1).map (·.span)).map Nl)]⟩) (fun m=>z.length - m.1) ⟨0,Nat.zero_le _⟩ id ⟨⟨rfl,rfl,rfl,rfl,trivial⟩,⟨rfl,trivial⟩,by simp [By,BA.id]⟩ fun ⟨m,hm⟩=>?_
 repeat (refine AW.seq ?_)
 refine AW.reg rfl fun KK hKK=>?_
 refine g ?_
 repeat' (refine hKK _ (g ?_);clear hKK KK)
 repeat (refine AW.seq ?_)
 refine st_ rfl ?_
 refine g ?_
 refine Al (fun h=>?_) (fun h=>?_)
 ·refine g ?_
  repeat' (first | refine st_ rfl (g ?_) | refine ix_ (by omega) (g ?_))
  have hlt:m < z.length:=by omega
  obtain ⟨-,o1,o2,-⟩:=Do (by simpa [znI] using hok.1.2) (enZ z[m]) (List.mem_map_of_mem (List.getElem_mem hlt))
  refine bs1 (by omega) rfl rfl rfl ⟨o1,o2,trivial⟩ ?_
  refine g ?_
  refine Co rfl (by kernel_rfl) (by omega) (by kernel_rfl) rfl (by simp;omega) ?_
  refine g ?_
  repeat' refine st_ rfl (g ?_)
  refine ⟨⟨m+1,hlt⟩,fun b=>if b=9900 then 2000 else b,⟨⟨rfl,rfl,rfl,rfl,trivial⟩,⟨?_,trivial⟩,by simp [By]⟩,by show z.length - (m+1) < z.length - m;omega⟩
  rw [List.take_succ_eq_append_getElem hlt,List.map_append,List.map_append]
  rfl
 ·obtain rfl:m=z.length:=by omega
  rw [List.take_length]
  refine AW.freeze 9900 _ rfl trivial ?_
  simp only [go_sem,reduceIte,Nat.reduceEqDiff]
  refine g ?_
  repeat' refine st_ rfl (g ?_)
  refine bs1 (by omega) rfl rfl rfl ⟨trivial,trivial⟩ ?_
  refine g ?_
  refine Np (Zv [z.map (·.span)] (by simp [F9];omega)) (by simp [Wy,J2,okA,okV]) rfl (Rg (Ca8 _)) (by exact Sbs.rfl_ _) rfl ?_
  refine g ?_
  refine AW.freeze 2400 _ rfl trivial ?_
  simp only [go_sem,reduceIte,Nat.reduceEqDiff]
  refine g ?_
  repeat' refine st_ rfl (g ?_)
  simp only [List.flatten_cons,List.flatten_nil,List.append_nil]
  exact Bz.rfl_ _
end Go.Proofs.YtblfjaedaijfoaaGreatDoor
namespace Go.Proofs.YtblfjaedaijfoaaGreatDoor
open Go.ChangeShapes Go.WideShapes Go.ChangeAt Go.RowKit
attribute [local irreducible] AW AWY Bo B4 vop Bj B7 Bf qop Bu C4 Aq Aj Bh A7 B9 Ge
attribute [local go_sem] Hv Dq G6 Cv Ae Af
theorem Yi (x:C1):A7 Tryz.prog A8 96 [boA x] (.val (.bool (Cc x))) []:=by
 refine A7.of (n:=22) (rs:=[.tmp 2]) Tryz.func96 rfl (by kernel_rfl) Tryz.ntmps96 (by kernel_rfl) (by simp) (fun _ _=>A8.later) ?_
 intro hok V w0
 obtain ⟨B,hB⟩ : ∃ B,Cc x=B:=⟨_,rfl⟩
 rw [hB]
 unfold Cc Dm at hB
 refine g ?_
 repeat' (first | refine st_ rfl (g ?_) | (refine B8 rfl rfl (fun h e=>?_) (fun h e=>?_)<;>simp only [e]<;>clear e<;>refine g ?_) | (refine Cn rfl rfl (fun h=>?_) (fun h=>?_)<;>simp only [h]<;>refine g ?_) | refine A9 (Px _ _) rfl (g ?_))
 all_goals (rw [<-hB,Bool.eq_iff_iff];simp [*];try omega)
theorem Aj3 (x:C1):A7 Tryz.prog A8 130 [boA x] (.val (.bool (Cc x))) []:=by
 refine A7.of (n:=22) (rs:=[.tmp 2]) Tryz.func130 rfl (by kernel_rfl) Tryz.ntmps130 (by kernel_rfl) (by simp) (fun _ _=>A8.later) ?_
 intro hok V w0
 obtain ⟨B,hB⟩ : ∃ B,Cc x=B:=⟨_,rfl⟩
 rw [hB]
 unfold Cc Dm at hB
 refine g ?_
 repeat' (first | refine st_ rfl (g ?_) | (refine B8 rfl rfl (fun h e=>?_) (fun h e=>?_)<;>simp only [e]<;>clear e<;>refine g ?_) | (refine Cn rfl rfl (fun h=>?_) (fun h=>?_)<;>simp only [h]<;>refine g ?_) | refine A9 (Xv _ _) rfl (g ?_))
 all_goals (rw [<-hB,Bool.eq_iff_iff];simp [*];try omega)
theorem A94 (l:List C1) (hl:l.length<=1000) (hb:∀ x∈l,x.value.length<=256):A7 Tryz.prog A8 97 [.iv (boI l)] (.val (.int .i64 (Gl l:Nat))) []:=by
 refine A7.of (n:=19) (rs:=[.tmp 2]) Tryz.func97 rfl (by kernel_rfl) Tryz.ntmps97 (by kernel_rfl) (by simp) (fun _ _=>A8.later) ?_
 intro hok V w0
 refine g ?_
 repeat' refine st_ rfl (g ?_)
 refine AW.loop (fun m:{m:Nat // m<=l.length}=>⟨[(3,.val (.int .i64 (Gl (l.take m.1):Nat))),(6,.iv (boI l)),(7,.val (.int .i64 (l.length:Nat))),(8,.val (.int .i64 (m.1:Nat)))],[]⟩) (fun m=>l.length - m.1) ⟨0,Nat.zero_le _⟩ id ⟨⟨rfl,rfl,rfl,rfl,trivial⟩,trivial,List.nodup_nil⟩ fun ⟨m,hm⟩=>?_
 have hu:=Yx (l.take m) fun x hx=>hb x (List.mem_of_mem_take hx)
 rw [List.length_take] at hu
 by_cases hlt:m < l.length
 ·have hv:=hb l[m] (List.getElem_mem hlt)
  have hs:=A93 hlt
  refine g ?_
  repeat' (first | refine st_ rfl (g ?_) | refine Al (fun h=>g ?_) (fun h=>g ?_) | refine ix_ (by omega) (g ?_))
  ·refine ⟨⟨m+1,hlt⟩,id,⟨⟨by rw [hs];rfl,rfl,rfl,rfl,trivial⟩,trivial,List.nodup_nil⟩,by show l.length - (m+1) < l.length - m;omega⟩
  ·omega
 ·obtain rfl:m=l.length:=by omega
  refine g ?_
  repeat' (first | refine st_ rfl (g ?_) | refine Al (fun h=>g ?_) (fun h=>g ?_) | refine ix_ (by omega) (g ?_))
  ·omega
  ·rw [List.take_length]
theorem B61 (l:List C1) (hl:l.length<=1000) (hb:∀ x∈l,x.value.length<=256):A7 Tryz.prog A8 204 [.iv (boI l)] (.val (.int .i64 (Gl l:Nat))) []:=by
 refine A7.of (n:=20) (rs:=[.tmp 2]) Tryz.func204 rfl (by kernel_rfl) Tryz.ntmps204 (by kernel_rfl) (by simp) (fun _ _=>A8.later) ?_
 intro hok V w0
 refine g ?_
 repeat' refine st_ rfl (g ?_)
 refine AW.loop (fun m:{m:Nat // m<=l.length}=>⟨[(0,.iv (boI l)),(3,.val (.int .i64 (Gl (l.take m.1):Nat))),(4,.val (.int .i64 (m.1:Nat)))],[]⟩) (fun m=>l.length - m.1) ⟨0,Nat.zero_le _⟩ id ⟨⟨rfl,rfl,rfl,trivial⟩,trivial,List.nodup_nil⟩ fun ⟨m,hm⟩=>?_
 have hu:=Yx (l.take m) fun x hx=>hb x (List.mem_of_mem_take hx)
 rw [List.length_take] at hu
 by_cases hlt:m < l.length
 ·have hv:=hb l[m] (List.getElem_mem hlt)
  have hs:=A93 hlt
  refine g ?_
  repeat' (first | refine st_ rfl (g ?_) | refine Al (fun h=>g ?_) (fun h=>g ?_) | refine ix_ (by omega) (g ?_))
  ·refine ⟨⟨m+1,hlt⟩,id,⟨⟨rfl,by rw [hs];rfl,rfl,trivial⟩,trivial,List.nodup_nil⟩,by show l.length - (m+1) < l.length - m;omega⟩
  ·omega
 ·obtain rfl:m=l.length:=by omega
  refine g ?_
  repeat' (first | refine st_ rfl (g ?_) | refine Al (fun h=>g ?_) (fun h=>g ?_) | refine ix_ (by omega) (g ?_))
  ·omega
  ·rw [List.take_length]
set_option maxRecDepth 100000 in
theorem A80 (l:List C1) (room:Int) (iR:I64 room):A7 Tryz.prog A8 119 [.iv (boI l),.val (.int .i64 room)] (.val (.bool (Bw l room))) []:=by
 refine A7.of (n:=49) (rs:=[.tmp 4]) Tryz.func119 rfl (by kernel_rfl) Tryz.ntmps119 (by kernel_rfl) (by simp) (fun _ _=>A8.later) ?_
 intro hok V w0
 have hlen:l.length<=1073741824:=by simpa [boI] using hok.1.1
 obtain ⟨B,hB⟩ : ∃ B,Bw l room=B:=⟨_,rfl⟩
 rw [hB]
 unfold Bw Ke at hB
 refine g ?_
 repeat' (first | refine st_ rfl (g ?_) | refine Al (fun h=>g ?_) (fun h=>g ?_) | (refine B8 rfl rfl (fun h e=>?_) (fun h e=>?_)<;>simp only [e]<;>clear e<;>refine g ?_))
 ·rw [<-hB,decide_eq_false (p:=0<=room) (by omega)];rfl
 ·rw [<-hB,decide_eq_false (p:=room<=16777216) (by omega)];simp
 ·rw [<-hB,decide_eq_false (p:=l.length<=256) (by omega)];simp
 rw [decide_eq_true (p:=0<=room) (by omega),decide_eq_true (p:=room<=16777216) (by omega),decide_eq_true (p:=l.length<=256) (by omega),Bool.true_and,Bool.true_and,Bool.true_and] at hB
 refine AW.loop (fun m:{m:Nat // m<=l.length/\Gp (l.take m)=true}=>⟨[(0,.iv (boI l)),(1,.val (.int .i64 room)),(5,.bp 600 0),(6,.val (.int .i64 (m.1:Nat)))],[.arr 600 (Ge fun o=>A84 (l.take m.1) o)]⟩) (fun m=>l.length - m.1) ⟨0,Nat.zero_le _,rfl⟩ id ⟨⟨rfl,rfl,rfl,rfl,trivial⟩,⟨?_,trivial⟩,by simp [By,BA.id]⟩ fun ⟨m,hm,ht⟩=>?_
 ·exact congrArg (fun C=>some (BA.arr 600 C)) (C79.trans (Zz fun o ho=>rfl))
 refine g ?_
 repeat' (first | refine st_ rfl (g ?_) | refine Al (fun h=>g ?_) (fun h=>g ?_) | (refine Cn rfl rfl (fun h=>?_) (fun h=>?_)<;>simp only [h]<;>refine g ?_) | refine ix_ (by omega) (g ?_) | refine A9 (Aj3 _) rfl (g ?_))
 ·rw [<-hB,Z2 (by omega) ht (.inl (by simpa using h))];rfl
 ·have hlt:m < l.length:=by omega
  have hr:Cc l[m]=true:=by simpa using h
  obtain ⟨r1,r2,r3⟩:=Fj hr
  have hto:((l[m].object.toNat:Nat):Int)=l[m].object:=by omega
  refine ⟨r1,r2,?_⟩
  rw [Nat.mul_one,Nat.zero_add]
  refine g ?_
  repeat' refine Bi (g ?_)
  refine ⟨_,Pw (by omega),?_⟩
  rw [hto]
  refine g ?_
  repeat' (first | refine st_ rfl (g ?_) | refine Bi (g ?_) | refine Cy (fun h=>g ?_) (fun h=>g ?_) | refine ix_ (by omega) (g ?_))
  ·rw [<-hB,Z2 hlt ht (.inr h)];rfl
  ·refine ⟨r1,r2,?_⟩
   rw [Nat.mul_one,Nat.zero_add]
   refine g ?_
   repeat' refine Bi (g ?_)
   refine ⟨_,rfl,⟨trivial,trivial⟩,by rw [Mh];omega,?_⟩
   refine g ?_
   repeat' (first | refine st_ rfl (g ?_) | refine Bi (g ?_))
   refine ⟨⟨m+1,hlt,by rw [Wx hlt ht,hr,h];rfl⟩,id,⟨⟨rfl,rfl,rfl,rfl,trivial⟩,⟨congrArg (fun C=>some (BA.arr 600 C)) ?_,trivial⟩,by simp [By,BA.id]⟩,by show l.length - (m+1) < l.length - m;omega⟩
   rw [Bv9 (by omega)]
   refine Zz fun o ho=>?_
   rw [Ae1 hlt]
   by_cases e:o=l[m].object.toNat
   ·rw [if_pos e,e,hto];simp
   ·rw [if_neg e,decide_eq_false (by omega),Bool.or_false]
 ·obtain rfl:m=l.length:=by omega
  rw [List.take_length] at ht
  refine A9 (B61 l (by omega) fun x hx=>(Fj (Pz ht x hx)).2.2) rfl ?_
  refine g ?_
  repeat' refine st_ rfl (g ?_)
  rw [<-hB,ht];rfl
end Go.Proofs.YtblfjaedaijfoaaGreatDoor
namespace Go.Proofs.YtblfjaedaijfoaaGreatDoor
open Go.ChangeShapes Go.WideShapes Go.ChangeAt Go.RowKit
attribute [local irreducible] AW AWY Bo B4 vop Bj B7 Bf qop Bu C4 Aq Aj Bh A7 B9 Ge
attribute [local go_sem] Ae Af
set_option maxRecDepth 100000 in
theorem A69 (a b:List Ab):A7 Tryz.prog A8 101 [.iv (stI a),.iv (stI b)] (.val (.int .i64 (Xc a b))) []:=by
 refine A7.of (n:=22) (rs:=[.tmp 4]) Tryz.func101 rfl (by kernel_rfl) Tryz.ntmps101 (by kernel_rfl) (by simp) (fun _ _=>A8.later) ?_
 intro hok V w0
 unfold Xc
 have h1:=Pn a b
 have h2:=Pn b a
 generalize Aw a b=x at h1 ⊢
 generalize Aw b a=y at h2 ⊢
 cases x<;>cases y
 ·refine g ?_
  repeat' refine st_ rfl (g ?_)
  refine ⟨fun v hv=>by simp at hv;subst hv;rfl,_,rfl,⟨rfl,rfl,rfl,rfl,trivial⟩,?_⟩
  refine g ?_
  repeat' (first | refine st_ rfl (g ?_) | refine Bi (g ?_) | exact trivial | refine A9 (h1) rfl (g ?_) | refine A9 (h2) rfl (g ?_))
 ·refine g ?_
  repeat' refine st_ rfl (g ?_)
  refine ⟨fun v hv=>by simp at hv;subst hv;rfl,_,rfl,⟨rfl,rfl,rfl,rfl,trivial⟩,?_⟩
  refine g ?_
  repeat' (first | refine st_ rfl (g ?_) | refine Bi (g ?_) | exact trivial | refine A9 (h1) rfl (g ?_) | refine A9 (h2) rfl (g ?_))
 ·refine g ?_
  repeat' refine st_ rfl (g ?_)
  refine ⟨fun v hv=>by simp at hv;subst hv;rfl,_,rfl,⟨rfl,rfl,rfl,rfl,trivial⟩,?_⟩
  refine g ?_
  repeat' (first | refine st_ rfl (g ?_) | refine Bi (g ?_) | exact trivial | refine A9 (h1) rfl (g ?_) | refine A9 (h2) rfl (g ?_))
 ·refine g ?_
  repeat' refine st_ rfl (g ?_)
  refine ⟨fun v hv=>by simp at hv;subst hv;rfl,_,rfl,⟨rfl,rfl,rfl,rfl,trivial⟩,?_⟩
  refine g ?_
  repeat' (first | refine st_ rfl (g ?_) | refine Bi (g ?_) | exact trivial | refine A9 (h1) rfl (g ?_) | refine A9 (h2) rfl (g ?_))
set_option maxRecDepth 100000 in
theorem A00 (a b:List Ab):A7 Tryz.prog A8 120 [.iv (stI a),.iv (stI b)] (.val (.int .i64 (Xc a b))) []:=by
 refine A7.of (n:=22) (rs:=[.tmp 4]) Tryz.func120 rfl (by kernel_rfl) Tryz.ntmps120 (by kernel_rfl) (by simp) (fun _ _=>A8.later) ?_
 intro hok V w0
 unfold Xc
 have h1:=T5 a b
 have h2:=T5 b a
 generalize Aw a b=x at h1 ⊢
 generalize Aw b a=y at h2 ⊢
 cases x<;>cases y
 ·refine g ?_
  repeat' (first | refine st_ rfl (g ?_) | exact trivial | refine A9 (h1) rfl (g ?_) | refine A9 (h2) rfl (g ?_))
 ·refine g ?_
  repeat' (first | refine st_ rfl (g ?_) | exact trivial | refine A9 (h1) rfl (g ?_) | refine A9 (h2) rfl (g ?_))
 ·refine g ?_
  repeat' (first | refine st_ rfl (g ?_) | exact trivial | refine A9 (h1) rfl (g ?_) | refine A9 (h2) rfl (g ?_))
 ·refine g ?_
  repeat' (first | refine st_ rfl (g ?_) | exact trivial | refine A9 (h1) rfl (g ?_) | refine A9 (h2) rfl (g ?_))
end Go.Proofs.YtblfjaedaijfoaaGreatDoor
namespace Go.Proofs.YtblfjaedaijfoaaGreatDoor
open Go.ChangeShapes Go.WideShapes Go.ChangeAt Go.RowKit
attribute [local irreducible] AW AWY Bo B4 vop Bj B7 Bf qop Bu C4 Aq Aj Bh A7 B9 Ge
attribute [local go_sem] Hv Dq G6 Cv Eb Cm Jc Hr Db Dk Ae Af
set_option maxRecDepth 100000 in
theorem V6 (z:List At) (known:List Ab) (w:Ap):A7 Tryz.prog A8 103 [.iv (znI z),.iv (stI known),wA w] (.val (.bool (Dx z known w))) []:=by
 refine A7.of (n:=15) (rs:=[.tmp 6]) Tryz.func103 rfl (by kernel_rfl) Tryz.ntmps103 (by kernel_rfl) (by simp) (fun _ _=>A8.later) ?_
 intro hok V w0
 refine g ?_
 repeat' refine st_ rfl (g ?_)
 refine AW.drawn (ds:=[7,8,9,10,11,12,13,14,6]) (fin:=[0]) (bs:=[1,1,1,1,1,1,1,1,1]) [⟨[],[],[],[],0⟩,⟨[],[],[],[],0⟩,⟨[],[],[],[],0⟩,⟨[(9,2)],[],[0],[],0⟩,⟨[(7,0),(8,1),(10,3)],[],[0],[],0⟩,⟨[],[],[],[],0⟩,⟨[(12,5)],[],[0],[],0⟩,⟨[(11,4),(13,6)],[],[0],[],0⟩,⟨[(14,7)],[],[],[],0⟩] (by kernel_rfl) rfl (by kernel_rfl) rfl rfl rfl fun KD hKD=>?_
 refine g ?_
 repeat' (first | refine st_ rfl (g ?_) | (refine hKD _ _ ⟨rfl,g ?_⟩;clear hKD KD) | refine A9 (Ao2 _ _ _) rfl (g ?_) | refine A9 (We _ w.stamp) rfl (g ?_))
 rfl
set_option maxRecDepth 100000 in
theorem A75 (v:Cr) (w:Ap):A7 Tryz.prog A8 121 [vwA v,wA w] (.val (.bool (Dx v.zones v.known w))) []:=by
 refine A7.of (n:=15) (rs:=[.tmp 4]) Tryz.func121 rfl (by kernel_rfl) Tryz.ntmps121 (by kernel_rfl) (by simp) (fun _ _=>A8.later) ?_
 intro hok V w0
 refine g ?_
 repeat' refine st_ rfl (g ?_)
 refine AW.drawn (ds:=[5,6,7,8,9,10,11,12,13,14,4]) (fin:=[0,1]) (bs:=[2,2,2,2,2,2,2,2,2,2,2]) [⟨[],[],[],[],0⟩,⟨[(5,0)],[],[0,1],[],0⟩,⟨[],[],[],[],0⟩,⟨[(7,2)],[],[0,1],[],0⟩,⟨[],[],[],[],0⟩,⟨[(9,4)],[],[0,1],[],0⟩,⟨[(6,1),(8,3),(10,5)],[],[0,1],[],0⟩,⟨[],[],[],[],0⟩,⟨[(12,7)],[],[0,1],[],0⟩,⟨[(11,6),(13,8)],[],[0,1],[],0⟩,⟨[(14,9)],[],[],[],0⟩] (by kernel_rfl) rfl (by kernel_rfl) rfl rfl rfl fun KD hKD=>?_
 refine g ?_
 repeat' (first | refine st_ rfl (g ?_) | (refine hKD _ _ ⟨rfl,g ?_⟩;clear hKD KD) | refine A9 (Ah8 _ _ _) rfl (g ?_) | refine A9 (B60 _ w.stamp) rfl (g ?_))
 rfl
theorem Me (x y:Operand) (p q r s:Int) (w:World):(do eqGuard .eql 53 x y (.agg #[.int .i64 p,.int .i64 q]) (.agg #[.int .i64 r,.int .i64 s]);binOp .eql 53 (.agg #[.int .i64 p,.int .i64 q]) (.agg #[.int .i64 r,.int .i64 s]):Sem Value).run Tryz.prog w=.ok (.bool (p==r&&q==s)) w:=by
 by_cases h1:p=r<;>by_cases h2:q=s<;>go_simp<;>simp [h1,h2]
theorem Rx {a b:Ab} : decide (a=b)=(a.count==b.count&&a.node==b.node):=by
 obtain ⟨c,n⟩:=a
 obtain ⟨d,m⟩:=b
 by_cases h1:c=d<;>by_cases h2:n=m<;>simp [h1,h2]
set_option maxRecDepth 100000 in
theorem Ai0 (v:Cr) (x:C1):A7 Tryz.prog A8 122 [vwA v,boA x] (.val (.bool (Fw v.held x))) []:=by
 refine A7.of (n:=28) (rs:=[.tmp 4]) Tryz.func122 rfl (by kernel_rfl) Tryz.ntmps122 (by kernel_rfl) (by simp) (fun _ _=>A8.later) ?_
 intro hok V w0
 obtain ⟨B,hB⟩ : ∃ B,Fw v.held x=B:=⟨_,rfl⟩
 rw [hB]
 unfold Fw Ag9 at hB
 have hat:=Bx7 v.held x.object
 cases hg:Jr v.held x.object with
 | none =>
  rw [hg] at hB hat
  refine g ?_
  repeat' (first | refine st_ rfl (g ?_) | refine A9 (hat) rfl (g ?_))
  exact hB
 | some w =>
  rw [hg] at hB hat
  simp only [Option.getD_some,Option.isSome_some] at hat hB
  rw [Rx] at hB
  refine g ?_
  repeat' (first | refine st_ rfl (g ?_) | refine A9 (hat) rfl (g ?_))
  refine ⟨_,fun u=>Me _ _ _ _ _ _ u,?_⟩
  refine g ?_
  repeat' (first | refine st_ rfl (g ?_) | refine Bi (g ?_) | (refine Cn rfl rfl (fun h=>?_) (fun h=>?_)<;>simp only [h]<;>refine g ?_))
  ·rw [<-hB,h];simp
  ·rw [<-hB,h];simp
end Go.Proofs.YtblfjaedaijfoaaGreatDoor
namespace Go.Proofs.YtblfjaedaijfoaaGreatDoor
open Go.ChangeShapes Go.WideShapes Go.ChangeAt Go.RowKit
theorem Bv3 {t:TypeId} {x y:Operand} {a b:ByteArray} {K:AV->Prop} (h:K (.val (.bool (decide (a=b))))):Bu Tryz.prog .eql t x y (.val (.string a)) (.val (.string b)) K:=⟨_,fun w=>by
 go_simp
 rw [ByteArray.toList_eq,ByteArray.toList_eq]
 by_cases e:a=b
 ·simp [e]
 ·rw [decide_eq_false e,beq_eq_false_iff_ne]
  exact fun h=>e (bytes_inj h),h⟩
theorem Bk9:∀ {a b:List Nat},(∀ x∈a,x < 256)->(∀ x∈b,x < 256)->(Zo a=Zo b↔a=b):=fun {a b} ha hb=>by
 refine ⟨fun h=>?_,fun h=>h ▸ rfl⟩
 unfold Zo strOfNums at h
 injection h with h
 have h:=congrArg Array.toList h
 simp only [List.map_map] at h
 have key:∀ {a b:List Nat},(∀ x∈a,x < 256)->(∀ x∈b,x < 256)->a.map (fun n=>UInt8.ofNat n)=b.map (fun n=>UInt8.ofNat n)->a=b:=by
  intro a
  induction a with
  | nil=>intro b _ _ h;cases b with
   | nil=>rfl
   | cons _ _=>cases h
  | cons x a ih=>intro b ha hb h;cases b with
   | nil=>cases h
   | cons y b =>
    injection h with h1 h2
    have e:=congrArg UInt8.toNat h1
    have p:=ha x (by simp)
    have q:=hb y (by simp)
    simp only [UInt8.toNat_ofNat'] at e
    rw [ih (fun z hz=>ha z (by simp [hz])) (fun z hz=>hb z (by simp [hz])) h2]
    congr 1
    omega
 exact key ha hb (by simpa [Function.comp_def] using h)
attribute [local irreducible] AW AWY Bo B4 vop Bj B7 Bf qop Bu C4 Aq Aj Bh A7 B9 Ge
attribute [local go_sem] G6 Cv Ae Af
theorem Cf1 {a:List Nat} (h:AV.okd (.iv (byI a))):∀ x∈a,x < 256:=fun x hx=>by
 have h2:=Do (by simpa [byI] using h.2) [IV.val (.int .u8 x)] (List.mem_map_of_mem (f:=fun (b:Nat)=>[IV.val (.int .u8 (b:Int))]) hx)
 have h3:(Lit.int .u8 (x:Int)).wf=true:=h2.2.1
 simp [Lit.wf,IntKind.max,IntKind.min,IntKind.signed,IntKind.bits] at h3
 omega
set_option maxRecDepth 100000 in
theorem V8 (a b:List Nat):A7 Tryz.prog A8 137 [.iv (byI a),.iv (byI b)] (.val (.bool (decide (a=b)))) []:=by
 refine A7.of (n:=10) (rs:=[.tmp 4]) Tryz.func137 rfl (by kernel_rfl) Tryz.ntmps137 (by kernel_rfl) (by simp) (fun _ _=>A8.later) ?_
 intro hok V w0
 obtain ⟨B,hB⟩ : ∃ B,decide (a=b)=B:=⟨_,rfl⟩
 rw [hB]
 refine g ?_
 repeat' refine st_ rfl (g ?_)
 refine ⟨a,rfl,Bi ?_⟩
 refine g ?_
 refine ⟨b,rfl,Bi ?_⟩
 refine g ?_
 refine Bv3 ?_
 refine g ?_
 repeat' refine st_ rfl (g ?_)
 rw [<-hB]
 exact decide_eq_decide.2 (Bk9 (Cf1 hok.1) (Cf1 hok.2.1))
set_option maxRecDepth 100000 in
theorem Va (x y:C1):A7 Tryz.prog A8 209 [boA x,boA y] (.val (.bool (decide (x=y)))) []:=by
 refine A7.of (n:=24) (rs:=[.tmp 4]) Tryz.func209 rfl (by kernel_rfl) Tryz.ntmps209 (by kernel_rfl) (by simp) (fun _ _=>A8.later) ?_
 intro hok V w0
 obtain ⟨B,hB⟩ : ∃ B,decide (x=y)=B:=⟨_,rfl⟩
 rw [hB]
 obtain ⟨xo,⟨xc,xn⟩,xv⟩:=x
 obtain ⟨yo,⟨yc,yn⟩,yv⟩:=y
 refine g ?_
 repeat' (first | refine st_ rfl (g ?_) | (refine B8 rfl rfl (fun h e=>?_) (fun h e=>?_)<;>simp only [e]<;>clear e<;>refine g ?_))
 ·refine ⟨_,fun u=>Me _ _ _ _ _ _ u,?_⟩
  refine g ?_
  repeat' (first | refine st_ rfl (g ?_) | refine Bi (g ?_) | (refine Cn rfl rfl (fun h=>?_) (fun h=>?_)<;>simp only [h]<;>refine g ?_) | refine A9 (V8 _ _) rfl (g ?_))
  ·rw [<-hB]
   have h3:xc=yc/\xn=yn:=by simpa using h
   rename_i h1
   rw [h1,h3.1,h3.2]
   simp
  ·rw [<-hB]
   refine (decide_eq_false ?_).symm
   intro e
   injection e with e1 e2 e3
   injection e2 with e4 e5
   simp [e4,e5] at h
 ·rw [<-hB]
  refine (decide_eq_false ?_).symm
  intro e
  injection e with e1
  exact h e1
end Go.Proofs.YtblfjaedaijfoaaGreatDoor
