/- Bodies: right, how many bytes they have; the reference's form. -/
import Derived.Test.YthlgnjlpakimaaaGreatDoorVZones
import Derived.Test.YthlgnjlpakimaaaGreatDoorVPlace
set_option linter.all false
set_option linter.unnecessarySimpa false
set_option linter.unusedSimpArgs false
set_option linter.unusedVariables false
namespace Go.Proofs.YthlgnjlpakimaaaGreatDoor
open Go.ChangeShapes Go.WideShapes Go.ChangeAt Go.RowKit
attribute [local irreducible] AW AWY Cf Bf vop Bw Bh Bx qop Cg Cz Az Aw C5 A7 Bl Cj
attribute [local go_sem] Gd Gn Ap Ar
theorem Vj:(rep 256 (.bool false)).map IV.val=Cj fun _=>false:=List.ext_getElem? fun o=>by
 unfold rep
 rw [List.map_replicate,List.getElem?_replicate]
 by_cases ho:o < 256
 ·rw [if_pos ho,Cv ho]
 ·rw [if_neg ho,List.getElem?_eq_none (by rw [Bj];omega)]
theorem Er {f:Nat->Bool} {p:Nat} {b:Bool} (hp:p < 256):(Cj f).set p (.val (.bool b))=Cj fun o=>if o=p then b else f o:=List.ext_getElem? fun o=>by
 rw [List.getElem?_set]
 by_cases e:p=o
 ·subst e;rw [if_pos rfl,Bj,if_pos hp,Cv hp,if_pos rfl]
 ·rw [if_neg e]
  by_cases ho:o < 256
  ·rw [Cv ho,Cv ho,if_neg fun h=>e h.symm]
  ·rw [List.getElem?_eq_none (by rw [Bj];omega),List.getElem?_eq_none (by rw [Bj];omega)]
theorem At5 (l:List Ao) (o:Int):decide (0<=Kq l o)=l.any fun x=>x.has o:=by
 unfold Kq
 rw [Bool.eq_iff_iff,decide_eq_true_eq,List.any_eq_true,<-List.findIdx_lt_length]
 by_cases h:l.findIdx (fun x=>x.has o) < l.length
 ·rw [if_pos h];simp [h]
 ·rw [if_neg h];simp [h]
set_option maxRecDepth 100000 in
theorem Za (z:List Ao):A7 Tryz.prog A9 68 [.iv (znI z)] (.iv (spI (Dr z))) []:=by
 refine A7.ofS (n:=24) (rs:=[.tmp 2]) Tryz.func68 rfl (by kernel_rfl) Tryz.ntmps68 (by kernel_rfl) (by simp) (fun _ _=>A9.later) ?_
 intro hok V w0
 have hlen:z.length<=1073741824:=by simpa [znI] using hok.1.1
 refine g ?_
 repeat' (first | refine st_ rfl (g ?_) | refine C9 (fun h=>g ?_) (fun h=>g ?_) | refine Ab (Lt _) rfl (g ?_))
 ·rw [Dr,if_neg (by simpa using h)]
  exact Cs 2
 rw [Dr,if_pos (by simpa using h)]
 refine AW.adopt 3 9900 66 2 rfl rfl ?_
 refine AW.loop (fun m:{m:Nat // m<=z.length}=>⟨[(3,.own 9900),(9,.iv (znI z)),(10,.val (.int .i64 (z.length:Nat))),(11,.val (.int .i64 (m.1:Nat)))],[.row 9900 66 2 (((z.take m.1).map (·.span)).map M1)]⟩) (fun m=>z.length - m.1) ⟨0,Nat.zero_le _⟩ id ⟨⟨rfl,rfl,rfl,rfl,trivial⟩,⟨rfl,trivial⟩,by simp [Au,BA.id]⟩ fun ⟨m,hm⟩=>?_
 repeat (refine AW.seq ?_)
 refine AW.reg rfl fun KK hKK=>?_
 refine g ?_
 repeat' (refine hKK _ (g ?_);clear hKK KK)
 repeat (refine AW.seq ?_)
 refine st_ rfl ?_
 refine g ?_
 refine Bq (fun h=>?_) (fun h=>?_)
 ·refine g ?_
  repeat' (first | refine st_ rfl (g ?_) | refine ix_ (by omega) (g ?_))
  have hlt:m < z.length:=by omega
  obtain ⟨-,o1,o2,-⟩:=En (by simpa [znI] using hok.1.2) (enZ z[m]) (List.mem_map_of_mem (List.getElem_mem hlt))
  refine bs1 (by omega) rfl rfl rfl ⟨o1,o2,trivial⟩ ?_
  refine g ?_
  refine C4 rfl (by kernel_rfl) (by omega) (by kernel_rfl) rfl (by simp;omega) ?_
  refine g ?_
  repeat' refine st_ rfl (g ?_)
  refine ⟨⟨m+1,hlt⟩,fun b=>if b=9900 then 2000 else b,⟨⟨rfl,rfl,rfl,rfl,trivial⟩,⟨?_,trivial⟩,by simp [Au]⟩,by show z.length - (m+1) < z.length - m;omega⟩
  rw [List.take_succ_eq_append_getElem hlt,List.map_append,List.map_append]
  rfl
 ·obtain rfl:m=z.length:=by omega
  rw [List.take_length]
  refine AW.freeze 9900 _ rfl trivial ?_
  simp only [go_sem,reduceIte,Nat.reduceEqDiff]
  refine g ?_
  repeat' refine st_ rfl (g ?_)
  refine bs1 (by omega) rfl rfl rfl ⟨trivial,trivial⟩ ?_
  refine g ?_
  refine Lo (Qi [z.map (·.span)] (by simp [Ec];omega)) (by simp [Ta,Gj,okA,okV]) rfl (Mw (Ag1 _)) (by exact Sbs.rfl_ _) rfl ?_
  refine g ?_
  refine AW.freeze 2400 _ rfl trivial ?_
  simp only [go_sem,reduceIte,Nat.reduceEqDiff]
  refine g ?_
  repeat' refine st_ rfl (g ?_)
  simp only [List.flatten_cons,List.flatten_nil,List.append_nil]
  exact D1.rfl_ _
set_option maxRecDepth 100000 in
theorem Ak2 (z:List Ao):A7 Tryz.prog A9 152 [.iv (znI z)] (.iv (spI (Dr z))) []:=by
 refine A7.ofS (n:=20) (rs:=[.tmp 2]) Tryz.func152 rfl (by kernel_rfl) Tryz.ntmps152 (by kernel_rfl) (by simp) (fun _ _=>A9.later) ?_
 intro hok V w0
 have hlen:z.length<=1073741824:=by simpa [znI] using hok.1.1
 refine g ?_
 repeat' (first | refine st_ rfl (g ?_) | refine C9 (fun h=>g ?_) (fun h=>g ?_) | refine Ab (Nt _) rfl (g ?_))
 ·rw [Dr,if_neg (by simpa using h)]
  exact Cs 2
 rw [Dr,if_pos (by simpa using h)]
 refine AW.loop (fun m:{m:Nat // m<=256}=>⟨[(0,.iv (znI z)),(3,.bp 400 0),(4,.val (.int .i64 (m.1:Nat)))],[.arr 400 (Cj fun o=>decide (o < m.1)&&(z.any fun x=>x.has o))]⟩) (fun m=>256 - m.1) ⟨0,Nat.zero_le _⟩ id ⟨⟨rfl,rfl,rfl,trivial⟩,⟨?_,trivial⟩,by simp [Au,BA.id]⟩ fun ⟨m,hm⟩=>?_
 ·exact congrArg (fun C=>some (BA.arr 400 C)) (Vj.trans (Bo fun o ho=>by simp))
 refine g ?_
 repeat' (first | refine st_ rfl (g ?_) | refine Bq (fun h=>g ?_) (fun h=>g ?_) | refine Ab (A86 _ _) rfl (g ?_))
 ·refine ⟨by omega,h,?_⟩
  rw [Nat.mul_one,Nat.zero_add]
  refine g ?_
  repeat' refine Am (g ?_)
  refine ⟨_,rfl,⟨trivial,trivial⟩,by rw [Bj];omega,?_⟩
  refine g ?_
  repeat' (first | refine st_ rfl (g ?_) | refine Am (g ?_))
  refine ⟨⟨m+1,by omega⟩,id,⟨⟨rfl,rfl,rfl,trivial⟩,⟨congrArg (fun C=>some (BA.arr 400 C)) ?_,trivial⟩,by simp [Au,BA.id]⟩,by show 256 - (m+1) < 256 - m;omega⟩
  rw [Er (by omega)]
  refine Bo fun o ho=>?_
  by_cases e:o=m
  ·subst e
   rw [if_pos rfl,At5]
   simp
  ·rw [if_neg e]
   congr 1
   rw [decide_eq_decide]
   show o < m↔o < m+1
   omega
 ·obtain rfl:m=256:=by omega
  refine ⟨(Bj _).symm,?_⟩
  refine g ?_
  repeat' (first | refine st_ rfl (g ?_) | refine Ab (B28 _) rfl (g ?_))
  rw [show C8 (fun o=>decide (o < 256)&&z.any fun x=>x.has o)=Ba (z.map (·.span)) from E4 fun o ho=>by
   rw [decide_eq_true ho,Bool.true_and,Ae,List.any_map]
   rfl]
  exact D1.rfl_ _
end Go.Proofs.YthlgnjlpakimaaaGreatDoor
namespace Go.Proofs.YthlgnjlpakimaaaGreatDoor
open Go.ChangeShapes Go.WideShapes Go.ChangeAt Go.RowKit
attribute [local irreducible] AW AWY Cf Bf vop Bw Bh Bx qop Cg Cz Az Aw C5 A7 Bl Cj
attribute [local go_sem] Jl Jo Hw Mx Ap Ar
theorem As4 (x:Ct):A7 Tryz.prog A9 108 [boA x] (.val (.bool (Do x))) []:=by
 refine A7.of (n:=22) (rs:=[.tmp 2]) Tryz.func108 rfl (by kernel_rfl) Tryz.ntmps108 (by kernel_rfl) (by simp) (fun _ _=>A9.later) ?_
 intro hok V w0
 obtain ⟨B,hB⟩ : ∃ B,Do x=B:=⟨_,rfl⟩
 rw [hB]
 unfold Do Fo at hB
 refine g ?_
 repeat' (first | refine st_ rfl (g ?_) | (refine Ef rfl rfl (fun h e=>?_) (fun h e=>?_)<;>simp only [e]<;>clear e<;>refine g ?_) | (refine G9 rfl rfl (fun h=>?_) (fun h=>?_)<;>simp only [h]<;>refine g ?_) | refine Ab (A07 _ _) rfl (g ?_))
 all_goals (rw [<-hB,Bool.eq_iff_iff];simp [*];try omega)
theorem Ae8 (x:Ct):A7 Tryz.prog A9 96 [boA x] (.val (.bool (Do x))) []:=by
 refine A7.of (n:=22) (rs:=[.tmp 2]) Tryz.func96 rfl (by kernel_rfl) Tryz.ntmps96 (by kernel_rfl) (by simp) (fun _ _=>A9.later) ?_
 intro hok V w0
 obtain ⟨B,hB⟩ : ∃ B,Do x=B:=⟨_,rfl⟩
 rw [hB]
 unfold Do Fo at hB
 refine g ?_
 repeat' (first | refine st_ rfl (g ?_) | (refine Ef rfl rfl (fun h e=>?_) (fun h e=>?_)<;>simp only [e]<;>clear e<;>refine g ?_) | (refine G9 rfl rfl (fun h=>?_) (fun h=>?_)<;>simp only [h]<;>refine g ?_) | refine Ab (Yc _ _) rfl (g ?_))
 all_goals (rw [<-hB,Bool.eq_iff_iff];simp [*];try omega)
theorem B67 (l:List Ct) (hl:l.length<=1000) (hb:∀ x∈l,x.value.length<=256):A7 Tryz.prog A9 109 [.iv (boI l)] (.val (.int .i64 (Mg l:Nat))) []:=by
 refine A7.of (n:=19) (rs:=[.tmp 2]) Tryz.func109 rfl (by kernel_rfl) Tryz.ntmps109 (by kernel_rfl) (by simp) (fun _ _=>A9.later) ?_
 intro hok V w0
 refine g ?_
 repeat' refine st_ rfl (g ?_)
 refine AW.loop (fun m:{m:Nat // m<=l.length}=>⟨[(3,.val (.int .i64 (Mg (l.take m.1):Nat))),(6,.iv (boI l)),(7,.val (.int .i64 (l.length:Nat))),(8,.val (.int .i64 (m.1:Nat)))],[]⟩) (fun m=>l.length - m.1) ⟨0,Nat.zero_le _⟩ id ⟨⟨rfl,rfl,rfl,rfl,trivial⟩,trivial,List.nodup_nil⟩ fun ⟨m,hm⟩=>?_
 have hu:=Ad0 (l.take m) fun x hx=>hb x (List.mem_of_mem_take hx)
 rw [List.length_take] at hu
 by_cases hlt:m < l.length
 ·have hv:=hb l[m] (List.getElem_mem hlt)
  have hs:=A73 hlt
  refine g ?_
  repeat' (first | refine st_ rfl (g ?_) | refine Bq (fun h=>g ?_) (fun h=>g ?_) | refine ix_ (by omega) (g ?_))
  ·refine ⟨⟨m+1,hlt⟩,id,⟨⟨by rw [hs];rfl,rfl,rfl,rfl,trivial⟩,trivial,List.nodup_nil⟩,by show l.length - (m+1) < l.length - m;omega⟩
  ·omega
 ·obtain rfl:m=l.length:=by omega
  refine g ?_
  repeat' (first | refine st_ rfl (g ?_) | refine Bq (fun h=>g ?_) (fun h=>g ?_) | refine ix_ (by omega) (g ?_))
  ·omega
  ·rw [List.take_length]
theorem Av9 (l:List Ct) (hl:l.length<=1000) (hb:∀ x∈l,x.value.length<=256):A7 Tryz.prog A9 155 [.iv (boI l)] (.val (.int .i64 (Mg l:Nat))) []:=by
 refine A7.of (n:=20) (rs:=[.tmp 2]) Tryz.func155 rfl (by kernel_rfl) Tryz.ntmps155 (by kernel_rfl) (by simp) (fun _ _=>A9.later) ?_
 intro hok V w0
 refine g ?_
 repeat' refine st_ rfl (g ?_)
 refine AW.loop (fun m:{m:Nat // m<=l.length}=>⟨[(0,.iv (boI l)),(3,.val (.int .i64 (Mg (l.take m.1):Nat))),(4,.val (.int .i64 (m.1:Nat)))],[]⟩) (fun m=>l.length - m.1) ⟨0,Nat.zero_le _⟩ id ⟨⟨rfl,rfl,rfl,trivial⟩,trivial,List.nodup_nil⟩ fun ⟨m,hm⟩=>?_
 have hu:=Ad0 (l.take m) fun x hx=>hb x (List.mem_of_mem_take hx)
 rw [List.length_take] at hu
 by_cases hlt:m < l.length
 ·have hv:=hb l[m] (List.getElem_mem hlt)
  have hs:=A73 hlt
  refine g ?_
  repeat' (first | refine st_ rfl (g ?_) | refine Bq (fun h=>g ?_) (fun h=>g ?_) | refine ix_ (by omega) (g ?_))
  ·refine ⟨⟨m+1,hlt⟩,id,⟨⟨rfl,by rw [hs];rfl,rfl,trivial⟩,trivial,List.nodup_nil⟩,by show l.length - (m+1) < l.length - m;omega⟩
  ·omega
 ·obtain rfl:m=l.length:=by omega
  refine g ?_
  repeat' (first | refine st_ rfl (g ?_) | refine Bq (fun h=>g ?_) (fun h=>g ?_) | refine ix_ (by omega) (g ?_))
  ·omega
  ·rw [List.take_length]
set_option maxRecDepth 100000 in
theorem A61 (l:List Ct) (room:Int) (iR:I64 room):A7 Tryz.prog A9 77 [.iv (boI l),.val (.int .i64 room)] (.val (.bool (Cy l room))) []:=by
 refine A7.of (n:=49) (rs:=[.tmp 4]) Tryz.func77 rfl (by kernel_rfl) Tryz.ntmps77 (by kernel_rfl) (by simp) (fun _ _=>A9.later) ?_
 intro hok V w0
 have hlen:l.length<=1073741824:=by simpa [boI] using hok.1.1
 obtain ⟨B,hB⟩ : ∃ B,Cy l room=B:=⟨_,rfl⟩
 rw [hB]
 unfold Cy B31 at hB
 refine g ?_
 repeat' (first | refine st_ rfl (g ?_) | refine Bq (fun h=>g ?_) (fun h=>g ?_) | (refine Ef rfl rfl (fun h e=>?_) (fun h e=>?_)<;>simp only [e]<;>clear e<;>refine g ?_))
 ·rw [<-hB,decide_eq_false (p:=0<=room) (by omega)];rfl
 ·rw [<-hB,decide_eq_false (p:=room<=16777216) (by omega)];simp
 ·rw [<-hB,decide_eq_false (p:=l.length<=256) (by omega)];simp
 rw [decide_eq_true (p:=0<=room) (by omega),decide_eq_true (p:=room<=16777216) (by omega),decide_eq_true (p:=l.length<=256) (by omega),Bool.true_and,Bool.true_and,Bool.true_and] at hB
 refine AW.loop (fun m:{m:Nat // m<=l.length/\Hm (l.take m)=true}=>⟨[(0,.iv (boI l)),(1,.val (.int .i64 room)),(5,.bp 600 0),(6,.val (.int .i64 (m.1:Nat)))],[.arr 600 (Cj fun o=>A65 (l.take m.1) o)]⟩) (fun m=>l.length - m.1) ⟨0,Nat.zero_le _,rfl⟩ id ⟨⟨rfl,rfl,rfl,rfl,trivial⟩,⟨?_,trivial⟩,by simp [Au,BA.id]⟩ fun ⟨m,hm,ht⟩=>?_
 ·exact congrArg (fun C=>some (BA.arr 600 C)) (Vj.trans (Bo fun o ho=>rfl))
 refine g ?_
 repeat' (first | refine st_ rfl (g ?_) | refine Bq (fun h=>g ?_) (fun h=>g ?_) | (refine G9 rfl rfl (fun h=>?_) (fun h=>?_)<;>simp only [h]<;>refine g ?_) | refine ix_ (by omega) (g ?_) | refine Ab (Ae8 _) rfl (g ?_))
 ·rw [<-hB,Z5 (by omega) ht (.inl (by simpa using h))];rfl
 ·have hlt:m < l.length:=by omega
  have hr:Do l[m]=true:=by simpa using h
  obtain ⟨r1,r2,r3⟩:=Lw hr
  have hto:((l[m].object.toNat:Nat):Int)=l[m].object:=by omega
  refine ⟨r1,r2,?_⟩
  rw [Nat.mul_one,Nat.zero_add]
  refine g ?_
  repeat' refine Am (g ?_)
  refine ⟨_,Cv (by omega),?_⟩
  rw [hto]
  refine g ?_
  repeat' (first | refine st_ rfl (g ?_) | refine Am (g ?_) | refine C9 (fun h=>g ?_) (fun h=>g ?_) | refine ix_ (by omega) (g ?_))
  ·rw [<-hB,Z5 hlt ht (.inr h)];rfl
  ·refine ⟨r1,r2,?_⟩
   rw [Nat.mul_one,Nat.zero_add]
   refine g ?_
   repeat' refine Am (g ?_)
   refine ⟨_,rfl,⟨trivial,trivial⟩,by rw [Bj];omega,?_⟩
   refine g ?_
   repeat' (first | refine st_ rfl (g ?_) | refine Am (g ?_))
   refine ⟨⟨m+1,hlt,by rw [Xd hlt ht,hr,h];rfl⟩,id,⟨⟨rfl,rfl,rfl,rfl,trivial⟩,⟨congrArg (fun C=>some (BA.arr 600 C)) ?_,trivial⟩,by simp [Au,BA.id]⟩,by show l.length - (m+1) < l.length - m;omega⟩
   rw [Er (by omega)]
   refine Bo fun o ho=>?_
   rw [Ab6 hlt]
   by_cases e:o=l[m].object.toNat
   ·rw [if_pos e,e,hto];simp
   ·rw [if_neg e,decide_eq_false (by omega),Bool.or_false]
 ·obtain rfl:m=l.length:=by omega
  rw [List.take_length] at ht
  refine Ab (Av9 l (by omega) fun x hx=>(Lw (Ud ht x hx)).2.2) rfl ?_
  refine g ?_
  repeat' refine st_ rfl (g ?_)
  rw [<-hB,ht];rfl
end Go.Proofs.YthlgnjlpakimaaaGreatDoor
