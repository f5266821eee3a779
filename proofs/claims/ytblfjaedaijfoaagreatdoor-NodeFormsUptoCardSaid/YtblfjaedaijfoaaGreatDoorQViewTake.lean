/- A view takes a note (the program's). -/
import Derived.Test.YtblfjaedaijfoaaGreatDoorQTurnRow
import Derived.Test.YtblfjaedaijfoaaGreatDoorQMarks
import Derived.Test.YtblfjaedaijfoaaGreatDoorQClone
import Derived.Test.YtblfjaedaijfoaaGreatDoorQEnc
import Derived.Test.YtblfjaedaijfoaaGreatDoorQPutLaw
import Derived.Test.YtblfjaedaijfoaaGreatDoorQLogWalk
import Derived.Test.YtblfjaedaijfoaaGreatDoorQTouch
import Derived.Test.YtblfjaedaijfoaaGreatDoorQPack
import Derived.Test.YtblfjaedaijfoaaGreatDoorQNodeSpec
import Derived.Test.YtblfjaedaijfoaaGreatDoorRows
import Derived.Shelf.SlGeneric
import Derived.Shelf.SlSortCmp.WholeK
import Derived.Ground.SlsfProg
import Derived.Test.YtblfjaedaijfoaaGreatDoorQStretch
import Derived.Test.YtblfjaedaijfoaaGreatDoorQSortSpan
import Derived.Test.YtblfjaedaijfoaaGreatDoorQBridge2
import Derived.Test.YtblfjaedaijfoaaGreatDoorQTakeLaw
import Derived.Test.YtblfjaedaijfoaaGreatDoorQAbsApp
import Derived.Test.YtblfjaedaijfoaaGreatDoorQSinceSame
set_option linter.all false
set_option linter.unnecessarySimpa false
set_option linter.unusedSimpArgs false
set_option linter.unusedVariables false
namespace Go.Proofs.YtblfjaedaijfoaaGreatDoor
open Go.ChangeShapes Go.WideShapes Go.ChangeAt Go.RowKit
section
variable {V w0 : World} {n : Nd} {ro : Option Nat} {σ : Ag} {K : Exit -> Ag -> Prop}
end
attribute [local irreducible] AW AWY Bo B4 vop Bj B7 Bf qop Bu C4 Aq Aj Bh A7 B9
attribute [local go_sem] Cm Eb Jc Ae Af
theorem C42 (l:List Ap):A7 Tryz.prog A8 285 [.iv (wrI l)] (.iv (wrI l)) []:=by
 refine A7.of (n:=9) (rs:=[.tmp 2]) Tryz.func285 rfl (by kernel_rfl) Tryz.ntmps285 (by kernel_rfl) (by simp) (fun _ _=>A8.later) ?_
 intro hok V w0
 refine g ?_
 repeat' refine st_ rfl (g ?_)
 refine ⟨0,l.length,rfl,rfl,by omega,by omega,l.length,rfl,by omega,by omega,?_⟩
 refine g ?_
 repeat' (first | refine st_ rfl (g ?_) | refine Bi (g ?_))
 rw [List.take_of_length_le (by simp)]
end Go.Proofs.YtblfjaedaijfoaaGreatDoor
namespace Go.Proofs.YtblfjaedaijfoaaGreatDoor
open Go.ChangeShapes Go.WideShapes Go.ChangeAt Go.RowKit
attribute [local irreducible] AW AWY Bo B4 vop Bj B7 Bf qop Bu C4 Aq Aj Bh A7 B9
attribute [local go_sem] Cm Eb Jc Ae Af
section
variable (f : FuncId) (C D : List IV) (p : Ap -> Bool) (hp : ∀ x, A7 Tryz.prog A8 f [wA x, .ip C, .ip D] (.val (.bool (p x))) [])
include hp
theorem Bq5 (l:List Ap):A7 Tryz.prog A8 282 [.iv (wrI l),.fn f [.ip C,.ip D]] (.val (.int .i64 (if l.any p=true then ((l.findIdx p:Nat):Int) else -1))) []:=by
 refine A7.of (n:=19) (rs:=[.tmp 4]) Tryz.func282 rfl (by kernel_rfl) Tryz.ntmps282 (by kernel_rfl) (by simp) (fun _ _=>A8.later) ?_
 intro hok V w0
 have hlen:l.length<=1073741824:=by simpa [wrI] using hok.1.1
 refine g ?_
 repeat' refine st_ rfl (g ?_)
 refine AW.loop (fun m:{m:Nat // m<=l.length/\∀ x∈l.take m,p x=false}=>⟨[(0,.iv (wrI l)),(1,.fn f [.ip C,.ip D]),(7,.val (.int .i64 (l.length:Nat))),(8,.val (.int .i64 (m.1:Nat)))],[]⟩) (fun m=>l.length - m.1) ⟨0,Nat.zero_le _,fun x hx=>by simp at hx⟩ id ⟨⟨rfl,rfl,rfl,rfl,trivial⟩,trivial,List.nodup_nil⟩ fun ⟨m,hm,ht⟩=>?_
 refine g ?_
 repeat' (first | refine st_ rfl (g ?_) | refine Al (fun h=>g ?_) (fun h=>g ?_) | refine Cy (fun h=>g ?_) (fun h=>g ?_) | refine ix_ (by omega) (g ?_) | refine A9 (hp _) rfl (g ?_))
 ·have hlt:m < l.length:=by omega
  rw [if_pos (List.any_eq_true.2 ⟨_,List.getElem_mem hlt,h⟩),(List.findIdx_eq hlt).2 ⟨h,fun j hj=>ht _ (List.mem_take_iff_getElem.2 ⟨j,by omega,rfl⟩)⟩]
 ·refine ⟨⟨m+1,by omega,fun x hx=>?_⟩,id,⟨⟨rfl,rfl,rfl,rfl,trivial⟩,trivial,List.nodup_nil⟩,by show l.length - (m+1) < l.length - m;omega⟩
  rw [List.take_succ_eq_append_getElem (by omega)] at hx
  rcases List.mem_append.1 hx with h1 | h1
  ·exact ht x h1
  ·rw [List.mem_singleton.1 h1];exact h
 ·obtain rfl:m=l.length:=by omega
  rw [List.take_length] at ht
  rw [if_neg]
  rw [List.any_eq_true]
  rintro ⟨x,hx,hp⟩
  rw [ht x hx] at hp
  cases hp
structure E58 (p:Ap->Bool) (l:List Ap) where
 i:Nat
 j:Nat
 M:List Ap
 hj:j<=l.length
 hij:i < j
 hl:M.length=l.length
 ht:M.take i=(l.take j).filter fun x=>!p x
 hd:M.drop j=l.drop j
end
end Go.Proofs.YtblfjaedaijfoaaGreatDoor
namespace Go.Proofs.YtblfjaedaijfoaaGreatDoor
open Go.ChangeShapes Go.WideShapes Go.ChangeAt Go.RowKit
attribute [local irreducible] AW AWY Bo B4 vop Bj B7 Bf qop Bu C4 Aq Aj Bh A7 B9
attribute [local go_sem] Hv Dq G6 Cv Ae Af
set_option maxRecDepth 100000 in
theorem A97 (x:C1):A7 Tryz.prog A8 286 [boA x] (boA x) []:=by
 refine A7.of (n:=8) (rs:=[.cell 2 79]) Tryz.func286 rfl (by kernel_rfl) Tryz.ntmps286 (by kernel_rfl) (by simp) (fun _ _=>A8.later) ?_
 intro hok V w0
 refine g ?_
 repeat' (first | refine st_ rfl (g ?_) | exact trivial | refine A9 (Qa _) rfl (g ?_))
set_option maxRecDepth 100000 in
theorem Y9 (l:List C1) (o:Int):A7 Tryz.prog A8 218 [.iv (boI l),.val (.int .i64 o)] (.own 0) [.row 0 79 4 ((Fk l o).map enB)]:=by
 refine A7.ofS (n:=25) (rs:=[.tmp 4]) Tryz.func218 rfl (by kernel_rfl) Tryz.ntmps218 (by kernel_rfl) (by simp) (fun _ _=>A8.later) ?_
 intro hok V w0
 have hlen:l.length<=1073741824:=by simpa [boI] using hok.1.1
 refine g ?_
 repeat' refine st_ rfl (g ?_)
 refine AW.adopt 5 9900 79 4 rfl rfl ?_
 refine AW.loop (fun m:{m:Nat // m<=l.length}=>⟨[(1,.val (.int .i64 o)),(5,.own 9900),(8,.iv (boI l)),(9,.val (.int .i64 (l.length:Nat))),(10,.val (.int .i64 (m.1:Nat)))],[.row 9900 79 4 ((Fk (l.take m.1) o).map enB)]⟩) (fun m=>l.length - m.1) ⟨0,Nat.zero_le _⟩ id ⟨⟨rfl,rfl,rfl,?_,rfl,trivial⟩,⟨rfl,trivial⟩,by simp [By,BA.id]⟩ fun ⟨m,hm⟩=>?_
 ·simp [AV.ren,Cq]
 simp only
 have hfl:(Fk (l.take m) o).length<=m:=by
  have:=List.length_filter_le (fun x:C1=>!decide (x.object=o)) (l.take m)
  rw [List.length_take] at this
  unfold Fk
  omega
 repeat (refine AW.seq ?_)
 refine AW.reg rfl fun KK hKK=>?_
 refine g ?_
 repeat' (refine hKK _ (g ?_);clear hKK KK)
 repeat (refine AW.seq ?_)
 refine st_ rfl ?_
 refine g ?_
 refine Cy (fun h=>?_) (fun h=>?_)
 ·have hlt:m < l.length:=by have:=of_decide_eq_true h;omega
  obtain ⟨-,o1,o2,o3,-⟩:=Do (by simpa [boI] using hok.1.2) (enB l[m]) (List.mem_map_of_mem (List.getElem_mem hlt))
  have hs:Fk (l.take (m+1)) o=Fk (l.take m) o++if l[m].object=o then [] else [l[m]]:=by
   unfold Fk
   rw [List.take_succ_eq_append_getElem hlt,List.filter_append]
   by_cases e:l[m].object=o<;>simp [e]
  refine g ?_
  repeat' (first | refine st_ rfl (g ?_) | refine Al (fun h=>g ?_) (fun h=>g ?_) | refine ix_ (by omega) (g ?_) | refine A9 (A97 _) rfl (g ?_))
  ·refine bs1 (by omega) rfl rfl rfl ⟨o1,o2,o3,trivial,trivial⟩ ?_
   refine g ?_
   refine Co rfl (by kernel_rfl) (by omega) (by kernel_rfl) rfl (by simp;omega) ?_
   refine g ?_
   repeat' refine st_ rfl (g ?_)
   refine ⟨⟨m+1,hlt⟩,fun b=>if b=9900 then 2300 else b,⟨⟨rfl,rfl,rfl,rfl,rfl,trivial⟩,⟨?_,trivial⟩,by simp [By,BA.id]⟩,by show l.length - (m+1) < l.length - m;omega⟩
   rw [hs,if_neg h,List.map_append]
   rfl
  ·refine ⟨⟨m+1,hlt⟩,id,⟨⟨rfl,rfl,rfl,rfl,rfl,trivial⟩,⟨?_,trivial⟩,by simp [By,BA.id]⟩,by show l.length - (m+1) < l.length - m;omega⟩
   rw [hs,if_pos (Decidable.of_not_not h),List.append_nil]
   rfl
 ·obtain rfl:m=l.length:=by have:=of_decide_eq_false h;omega
  rw [List.take_length]
  refine g ?_
  repeat' refine st_ rfl (g ?_)
  exact ⟨fun b=>if b=0 then 9900 else b,fun _ _ _ h=>h,rfl,by simp⟩
theorem C15 (x:C1) (o:Int) (s:Ab):A7 Tryz.prog A8 245 [boA x,.ip [.val (.int .i64 o)],.ip [.val (.int .i64 s.count),.val (.int .i64 s.node)]] (.val (.bool (isB o s x))) []:=by
 refine A7.of (n:=15) (rs:=[.tmp 4]) Tryz.func245 rfl (by kernel_rfl) Tryz.ntmps245 (by kernel_rfl) (by simp) (fun _ _=>A8.later) ?_
 intro hok V w0
 obtain ⟨B,hB⟩ : ∃ B,isB o s x=B:=⟨_,rfl⟩
 rw [hB]
 unfold isB at hB
 rw [Rx] at hB
 refine g ?_
 repeat' (first | refine st_ rfl (g ?_) | (refine B8 rfl rfl (fun h e=>?_) (fun h e=>?_)<;>simp only [e]<;>clear e<;>refine g ?_))
 ·refine ⟨_,fun u=>Me _ _ _ _ _ _ u,?_⟩
  refine g ?_
  repeat' (first | refine st_ rfl (g ?_) | refine Bi (g ?_))
  rw [<-hB,h]
  simp
 ·rw [<-hB,decide_eq_false h]
  rfl
set_option maxRecDepth 100000 in
theorem Bb0 (l:List C1) (f:FuncId) (C D:List IV) (p:C1->Bool) (hp:∀ x,A7 Tryz.prog A8 f [boA x,.ip C,.ip D] (.val (.bool (p x))) []):A7 Tryz.prog A8 198 [.iv (boI l),.fn f [.ip C,.ip D]] (.val (.int .i64 (if l.any p=true then ((l.findIdx p:Nat):Int) else -1))) []:=by
 refine A7.of (n:=19) (rs:=[.tmp 4]) Tryz.func198 rfl (by kernel_rfl) Tryz.ntmps198 (by kernel_rfl) (by simp) (fun _ _=>A8.later) ?_
 intro hok V w0
 have hlen:l.length<=1073741824:=by simpa [boI] using hok.1.1
 refine g ?_
 repeat' refine st_ rfl (g ?_)
 refine AW.loop (fun m:{m:Nat // m<=l.length/\∀ x∈l.take m,p x=false}=>⟨[(0,.iv (boI l)),(1,.fn f [.ip C,.ip D]),(7,.val (.int .i64 (l.length:Nat))),(8,.val (.int .i64 (m.1:Nat)))],[]⟩) (fun m=>l.length - m.1) ⟨0,Nat.zero_le _,fun x hx=>by simp at hx⟩ id ⟨⟨rfl,rfl,rfl,rfl,trivial⟩,trivial,List.nodup_nil⟩ fun ⟨m,hm,ht⟩=>?_
 refine g ?_
 repeat' (first | refine st_ rfl (g ?_) | refine Al (fun h=>g ?_) (fun h=>g ?_) | refine Cy (fun h=>g ?_) (fun h=>g ?_) | refine ix_ (by omega) (g ?_) | refine A9 (hp _) rfl (g ?_))
 ·have hlt:m < l.length:=by omega
  rw [if_pos (List.any_eq_true.2 ⟨_,List.getElem_mem hlt,h⟩),(List.findIdx_eq hlt).2 ⟨h,fun j hj=>ht _ (List.mem_take_iff_getElem.2 ⟨j,by omega,rfl⟩)⟩]
 ·refine ⟨⟨m+1,by omega,fun x hx=>?_⟩,id,⟨⟨rfl,rfl,rfl,rfl,trivial⟩,trivial,List.nodup_nil⟩,by show l.length - (m+1) < l.length - m;omega⟩
  rw [List.take_succ_eq_append_getElem (by omega)] at hx
  rcases List.mem_append.1 hx with h1 | h1
  ·exact ht x h1
  ·rw [List.mem_singleton.1 h1];exact h
 ·obtain rfl:m=l.length:=by omega
  rw [List.take_length] at ht
  rw [if_neg]
  rw [List.any_eq_true]
  rintro ⟨x,hx,hp⟩
  rw [ht x hx] at hp
  cases hp
theorem Ca9 {α:Type} {p:α->Bool} {l:List α} (h:l.any p=true):∃ hl:l.findIdx p < l.length,p l[l.findIdx p]=true/\l.find? p=some l[l.findIdx p]:=by
 have hl:l.findIdx p < l.length:=List.findIdx_lt_length.2 (List.any_eq_true.1 h)
 refine ⟨hl,List.findIdx_getElem (w:=hl),?_⟩
 obtain ⟨m,hm⟩ : ∃ m,l.findIdx p=m:=⟨_,rfl⟩
 have h1:=List.findIdx_getElem (p:=p) (xs:=l) (w:=hl)
 have h2:∀ x∈l.take m,p x=false:=fun x hx=>by
  obtain ⟨j,hj,rfl⟩:=List.mem_take_iff_getElem.1 hx
  have:=List.not_of_lt_findIdx (p:=p) (xs:=l) (i:=j) (by omega)
  simpa using this
 simp only [hm] at hl h1 ⊢
 conv=>lhs;rw [<-List.take_append_drop m l,List.drop_eq_getElem_cons hl]
 rw [List.find?_append,List.find?_eq_none.2 fun x hx=>by rw [h2 x hx];simp,Option.none_or]
 simp only [List.find?_cons,h1]
set_option maxRecDepth 100000 in
theorem Bs4 (l:List C1) (o:Int) (s:Ab) (i0:I64 o) (i1:I64 s.count) (i2:I64 s.node):A7 Tryz.prog A8 170 [.iv (boI l),.val (.int .i64 o),.agg [.val (.int .i64 s.count),.val (.int .i64 s.node)]] (.tup [.iv (byI (Al5 l o s).1),.val (.int .i64 (Al5 l o s).2)]) []:=by
 refine A7.ofS (n:=20) (rs:=[.tmp 6,.tmp 7]) Tryz.func170 rfl (by kernel_rfl) Tryz.ntmps170 (by kernel_rfl) (by simp) (fun _ _=>A8.later) ?_
 intro hok V w0
 have hlen:l.length<=1073741824:=by simpa [boI] using hok.1.1
 obtain ⟨R,hR⟩ : ∃ R,Al5 l o s=R:=⟨_,rfl⟩
 rw [hR]
 unfold Al5 at hR
 have hidx:=Bb0 l 245 [.val (.int .i64 o)] [.val (.int .i64 s.count),.val (.int .i64 s.node)] (isB o s) fun x=>C15 x o s
 refine g ?_
 refine AW.seq ?_
 refine AW.reg rfl fun KK hKK=>?_
 refine g ?_
 repeat' (refine hKK _ (g ?_);clear hKK KK)
 refine AW.freeze 500 _ rfl ⟨i0,trivial⟩ ?_
 simp only [go_sem,reduceIte,Nat.reduceEqDiff]
 refine AW.freeze 600 _ rfl ⟨i1,i2,trivial⟩ ?_
 simp only [go_sem,reduceIte,Nat.reduceEqDiff]
 cases ha:l.any (isB o s) with
 | false =>
  rw [ha,if_neg (by decide)] at hidx
  have hn:l.find? (isB o s)=none:=List.find?_eq_none.2 fun x hx=>by simpa using List.any_eq_false.1 ha x hx
  rw [hn] at hR
  subst hR
  refine g ?_
  repeat' (first | refine st_ rfl (g ?_) | refine A9 (hidx) rfl (g ?_))
  refine Ep rfl fun p hp=>?_
  simp only [List.zip_cons_cons,List.zip_nil_right,List.mem_cons,List.not_mem_nil,or_false] at hp
  rcases hp with rfl | rfl
  ·exact Bg 1
  ·exact Bz.rfl_ _
 | true =>
  obtain ⟨hl,hp1,hf⟩:=Ca9 ha
  rw [ha,if_pos rfl] at hidx
  rw [hf] at hR
  simp only at hR
  subst hR
  generalize l.findIdx (isB o s)=m at hl hp1 hf hidx ⊢
  refine g ?_
  repeat' (first | refine st_ rfl (g ?_) | refine ix_ (by omega) (g ?_) | refine A9 (hidx) rfl (g ?_) | refine A9 (Qa _) rfl (g ?_))
  exact Bz.rfl_ _
theorem C24 {room:Int} {l:List C1} {k:Nat} (h:k < l.length) (hu:¬ (Gl (l.drop k):Int)<=room):Nj room (l.drop k)=Nj room (l.drop (k+1)):=by
 have e:l.drop k=l[k] :: l.drop (k+1):=List.drop_eq_getElem_cons h
 rw [e] at hu ⊢
 rw [Nj,if_neg hu]
theorem Ay0 {room:Int} : ∀ {l:List C1},(Gl l:Int)<=room->Nj room l=l
 | [],_=>rfl
 | x :: l,h=>by rw [Nj,if_pos h]
theorem Bk5 {l:List C1} {k:Nat} (h:k < l.length):Gl (l.drop k)=l[k].value.length+Gl (l.drop (k+1)):=by
 unfold Gl
 rw [List.drop_eq_getElem_cons h,List.map_cons,List.sum_cons]
set_option maxRecDepth 100000 in
set_option maxHeartbeats 1600000 in
theorem Bs0 (l:List C1) (room:Int) (x:C1) (iR:I64 room) (i0:I64 x.object) (i1:I64 x.stamp.count) (i2:I64 x.stamp.node):A7 Tryz.prog A8 221 [.iv (boI l),.val (.int .i64 room),boA x] (.tup [.iv (boI (By0 l room x).1),.val (.int .i64 (By0 l room x).2)]) []:=by
 refine A7.ofS (n:=47) (rs:=[.tmp 6,.tmp 7]) Tryz.func221 rfl (by kernel_rfl) Tryz.ntmps221 (by kernel_rfl) (by simp) (fun _ _=>A8.later) ?_
 intro hok V w0
 have hlen:l.length<=1073741824:=by simpa [boI] using hok.1.1
 obtain ⟨R,hR⟩ : ∃ R,By0 l room x=R:=⟨_,rfl⟩
 rw [hR]
 unfold By0 at hR
 refine g ?_
 refine AW.seq ?_
 refine AW.reg rfl fun KK hKK=>?_
 refine g ?_
 repeat' (refine hKK _ (g ?_);clear hKK KK)
 refine AW.freeze 600 _ rfl ⟨i0,i1,i2,trivial,trivial⟩ ?_
 simp only [go_sem,reduceIte,Nat.reduceEqDiff]
 have hno:∀ {q:List C1×Int},q=([],1)->Bz (.tup [.val (.slice none 0 0),.val (.int .i64 1)]) (.tup [.iv (boI q.1),.val (.int .i64 q.2)]):=fun {q} e=>by
  subst e
  refine Ep rfl fun p hp=>?_
  simp only [List.zip_cons_cons,List.zip_nil_right,List.mem_cons,List.not_mem_nil,or_false] at hp
  rcases hp with rfl | rfl
  ·exact Bg 4
  ·exact Bz.rfl_ _
 refine g ?_
 repeat' (first | refine st_ rfl (g ?_) | refine Cy (fun h=>g ?_) (fun h=>g ?_) | (refine Cn rfl rfl (fun h=>?_) (fun h=>?_)<;>simp only [h]<;>refine g ?_) | refine A9 (M0 l room iR) rfl (g ?_) | refine A9 (Yi x) rfl (g ?_))
 ·rw [if_neg (by rintro ⟨a,_⟩;simp [a] at h)] at hR
  exact hno hR.symm
 ·rw [if_neg (by rintro ⟨_,a⟩;simp [a] at h)] at hR
  exact hno hR.symm
 rename_i h1
 have hc:Bw l room=true:=by simpa using h1
 have hb:Cc x=true:=by simpa using h
 rw [if_pos ⟨hc,hb⟩] at hR
 subst hR
 simp only [Bw,Ke,Bool.and_eq_true,decide_eq_true_eq] at hc
 obtain ⟨⟨⟨⟨c1,c2⟩,c3⟩,c4⟩,c5⟩:=hc
 have hcv:=Pz c4
 obtain ⟨O,hO⟩ : ∃ O,Fk l x.object++[x]=O:=⟨_,rfl⟩
 have hfl:(Fk l x.object).length<=256:=Nat.le_trans (List.length_filter_le _ _) c3
 have hOl:O.length<=257:=by rw [<-hO];simp;omega
 have hOv:∀ y∈O,y.value.length<=256:=fun y hy=>by
  rw [<-hO] at hy
  rcases List.mem_append.1 hy with hy | hy
  ·exact (Fj (hcv y (List.mem_filter.1 hy).1)).2.2
  ·rw [List.mem_singleton.1 hy];exact (Fj hb).2.2
 refine AW.drawn (ds:=[20,21,22,23,24,25,26,27,8]) (fin:=[1,2]) (bs:=[0,0,0,0,1,1,1,2,3]) [⟨[],[],[],[],0⟩,⟨[],[],[],[],0⟩,⟨[(21,1)],[],[],[],0⟩,⟨[(20,0),(22,2)],[],[],[],1⟩,⟨[],[],[],[],0⟩,⟨[(24,4)],[],[0],[],0⟩,⟨[(25,5)],[],[],[],1⟩,⟨[(23,3),(26,6)],[],[1],[0],1⟩,⟨[(27,7)],[],[],[],0⟩] (by kernel_rfl) rfl (by kernel_rfl) rfl rfl rfl fun KD hKD=>?_
 refine g ?_
 repeat' (first | refine A9 (Y9 l x.object) rfl (g ?_) | refine A9 (A97 x) rfl (g ?_))
 refine bs1 (by omega) rfl rfl rfl ⟨i0,i1,i2,trivial,trivial⟩ ?_
 refine g ?_
 refine Co rfl (by kernel_rfl) (by omega) (by kernel_rfl) rfl (by simp;omega) ?_
 refine g ?_
 repeat' (refine hKD _ _ ⟨rfl,g ?_⟩;clear hKD KD)
 have eO:List.map enB (Fk l x.object)++[[.val (.int .i64 x.object),.val (.int .i64 x.stamp.count),.val (.int .i64 x.stamp.node),byI x.value]]=O.map enB:=by rw [<-hO,List.map_append];rfl
 simp only [Cv] at eO
 rw [eO]
 refine AW.freeze 2800 _ rfl trivial ?_
 simp only [go_sem,reduceIte,Nat.reduceEqDiff]
 refine g ?_
 repeat' (first | refine st_ rfl (g ?_) | refine A9 (A94 O (by omega) hOv) rfl (g ?_))
 refine AW.loop (fun m:{m:Nat // m<=O.length/\Nj room O=Nj room (O.drop m)}=>⟨[(1,.val (.int .i64 room)),(8,.iv (boI O)),(9,.val (.int .i64 (Gl (O.drop m.1):Nat))),(10,.val (.int .i64 (m.1:Nat)))],[]⟩) (fun m=>O.length - m.1) ⟨0,Nat.zero_le _,rfl⟩ id ⟨⟨rfl,rfl,rfl,rfl,trivial⟩,trivial,List.nodup_nil⟩ fun ⟨m,hm,ht⟩=>?_
 have hu:=Yx (O.drop m) fun x hx=>hOv x (List.mem_of_mem_drop hx)
 rw [List.length_drop] at hu
 by_cases hlt:m < O.length
 ·have hv:=hOv O[m] (List.getElem_mem hlt)
  have hs:=Bk5 hlt
  refine g ?_
  repeat' (first | refine st_ rfl (g ?_) | refine Al (fun h=>g ?_) (fun h=>g ?_) | refine ix_ (by omega) (g ?_))
  ·refine ⟨⟨m+1,hlt,ht.trans (C24 hlt (by omega))⟩,id,⟨⟨rfl,rfl,?_,rfl,trivial⟩,trivial,List.nodup_nil⟩,by show O.length - (m+1) < O.length - m;omega⟩
   simp [Cq,AV.ren]
   omega
  ·refine ⟨m,O.length,rfl,rfl,hm,Nat.le_refl _,?_⟩
   have eS:((O.map enB).take O.length).drop m=(Nj room O).map enB:=by
    rw [ht,Ay0 (by omega),List.take_of_length_le (by simp),List.map_drop]
   rw [eS]
   refine g ?_
   repeat' (first | refine st_ rfl (g ?_) | refine Bi (g ?_) | refine A9 (Vu (Nj room O)) rfl (g ?_))
   rw [hO]
   exact Bz.rfl_ _
 ·obtain rfl:m=O.length:=by omega
  have hs0:Gl (O.drop O.length)=0:=by rw [List.drop_length];rfl
  refine g ?_
  repeat' (first | refine st_ rfl (g ?_) | refine Al (fun h=>g ?_) (fun h=>g ?_) | refine ix_ (by omega) (g ?_))
  ·exfalso
   omega
  ·refine ⟨O.length,O.length,rfl,rfl,hm,Nat.le_refl _,?_⟩
   have eS:((O.map enB).take O.length).drop O.length=(Nj room O).map enB:=by
    rw [ht,Ay0 (by omega),List.take_of_length_le (by simp),List.map_drop]
   rw [eS]
   refine g ?_
   repeat' (first | refine st_ rfl (g ?_) | refine Bi (g ?_) | refine A9 (Vu (Nj room O)) rfl (g ?_))
   rw [hO]
   exact Bz.rfl_ _
end Go.Proofs.YtblfjaedaijfoaaGreatDoor
namespace Go.Proofs.YtblfjaedaijfoaaGreatDoor
open Go.Proofs Go.Shelf
def Pq:Go.Shelf.Ren:=⟨fun | 6=>319 | 15=>176 | 14=>331 | 28=>255 | 29=>256 | 20=>335 | 21=>336 | 22=>337 | 23=>338 | 24=>339 | 25=>340 | 26=>341 | 27=>342 | 46=>352 | 47=>311 | 48=>312 | 49=>353 | 50=>354 | 57=>358 | n=>n,fun | 22=>23 | 24=>142 | 25=>317 | 3=>3 | 39=>195 | 0=>0 | 53=>241 | 55=>263 | 4=>4 | 46=>256 | 45=>255 | 50=>243 | 5=>5 | 9=>9 | 66=>307 | 70=>311 | 76=>324 | 77=>325 | n=>n,fun | n=>n⟩
theorem Aq6:Go.Proofs.SlLaysF0.n6 Tryz.prog Pq:={
 mixed:=by kernel_rfl
 f6:=⟨Tryz.f319.name,by decide,Tryz.func319.trans (congrArg some (by kernel_rfl))⟩
 f14:=⟨Tryz.f331.name,by decide,Tryz.func331.trans (congrArg some (by kernel_rfl))⟩
 f15:=Tryz.func176.trans (congrArg some (by kernel_rfl))
 f20:=⟨Tryz.f335.name,by decide,Tryz.func335.trans (congrArg some (by kernel_rfl))⟩
 f21:=⟨Tryz.f336.name,by decide,Tryz.func336.trans (congrArg some (by kernel_rfl))⟩
 f22:=⟨Tryz.f337.name,by decide,Tryz.func337.trans (congrArg some (by kernel_rfl))⟩
 f23:=⟨Tryz.f338.name,by decide,Tryz.func338.trans (congrArg some (by kernel_rfl))⟩
 f24:=⟨Tryz.f339.name,by decide,Tryz.func339.trans (congrArg some (by kernel_rfl))⟩
 f25:=⟨Tryz.f340.name,by decide,Tryz.func340.trans (congrArg some (by kernel_rfl))⟩
 f26:=⟨Tryz.f341.name,by decide,Tryz.func341.trans (congrArg some (by kernel_rfl))⟩
 f27:=⟨Tryz.f342.name,by decide,Tryz.func342.trans (congrArg some (by kernel_rfl))⟩
 f28:=Tryz.func255.trans (congrArg some (by kernel_rfl))
 f29:=Tryz.func256.trans (congrArg some (by kernel_rfl))
 f46:=⟨Tryz.f352.name,by decide,Tryz.func352.trans (congrArg some (by kernel_rfl))⟩
 f47:=Tryz.func311.trans (congrArg some (by kernel_rfl))
 f48:=Tryz.func312.trans (congrArg some (by kernel_rfl))
 f49:=⟨Tryz.f353.name,by decide,Tryz.func353.trans (congrArg some (by kernel_rfl))⟩
 f50:=⟨Tryz.f354.name,by decide,Tryz.func354.trans (congrArg some (by kernel_rfl))⟩
 f57:=⟨Tryz.f358.name,by decide,Tryz.func358.trans (congrArg some (by kernel_rfl))⟩
 t0:=Tryz.underlying0
 a0:=Tryz.isAgg0
 z0:=Tryz.sizeOf0
 v0:=Tryz.zeroValue0
 t3:=Tryz.underlying3
 a3:=Tryz.isAgg3
 z3:=Tryz.sizeOf3
 v3:=Tryz.zeroValue3
 t4:=Tryz.underlying4
 a4:=Tryz.isAgg4
 z4:=Tryz.sizeOf4
 v4:=Tryz.zeroValue4
 t5:=Tryz.underlying5
 a5:=Tryz.isAgg5
 z5:=Tryz.sizeOf5
 v5:=Tryz.zeroValue5
 t9:=Tryz.underlying9
 a9:=Tryz.isAgg9
 z9:=Tryz.sizeOf9
 v9:=Tryz.zeroValue9
 t22:=Tryz.underlying23
 a22:=Tryz.isAgg23
 z22:=Tryz.sizeOf23
 v22:=Tryz.zeroValue23
 t25:=Tryz.underlying317
 a25:=Tryz.isAgg317
 z25:=Tryz.sizeOf317
 v25:=Tryz.zeroValue317
 t39:=Tryz.underlying195
 a39:=Tryz.isAgg195
 z39:=Tryz.sizeOf195
 v39:=Tryz.zeroValue195
 t45:=Tryz.underlying255
 a45:=Tryz.isAgg255
 z45:=Tryz.sizeOf255
 v45:=Tryz.zeroValue255
 t46:=Tryz.underlying256
 a46:=Tryz.isAgg256
 z46:=Tryz.sizeOf256
 v46:=Tryz.zeroValue256
 t50:=Tryz.underlying243
 a50:=Tryz.isAgg243
 z50:=Tryz.sizeOf243
 v50:=Tryz.zeroValue243
 t53:=Tryz.underlying241
 a53:=Tryz.isAgg241
 z53:=Tryz.sizeOf241
 v53:=Tryz.zeroValue241
 t55:=Tryz.underlying263
 a55:=Tryz.isAgg263
 z55:=Tryz.sizeOf263
 v55:=Tryz.zeroValue263
 t66:=Tryz.underlying307
 a66:=Tryz.isAgg307
 z66:=Tryz.sizeOf307
 v66:=Tryz.zeroValue307
 t70:=Tryz.underlying311
 a70:=Tryz.isAgg311
 z70:=Tryz.sizeOf311
 v70:=Tryz.zeroValue311
 t76:=Tryz.underlying324
 a76:=Tryz.isAgg324
 z76:=Tryz.sizeOf324
 v76:=Tryz.zeroValue324
 t77:=Tryz.underlying325
 a77:=Tryz.isAgg325
 z77:=Tryz.sizeOf325
 v77:=Tryz.zeroValue325 }
end Go.Proofs.YtblfjaedaijfoaaGreatDoor
namespace Go.Proofs.YtblfjaedaijfoaaGreatDoor
open Go.ChangeShapes Go.WideShapes Go.ChangeAt Go.RowKit
attribute [local irreducible] AW AWY Bo B4 vop Bj B7 Bf qop Bu C4 Aq Aj Bh A7 B9
attribute [local go_sem] Hr Ae Af
theorem Ch3 (l:List Ao):spI l=.sl 2 (l.map Nl):=rfl
attribute [local go_sem] Ch3 Bi1
set_option maxRecDepth 100000 in
set_option maxHeartbeats 1600000 in
theorem At1 (l:List Ao) (reach now:List Ab) (z:List At) (hl:l.length<=128) (hz:z.length<=1000000):Cg Tryz.prog A8 275 [.iv (spI l),.iv (stI reach),.ip [stI now],.bp 0 0] (.tup []) [.row 1 142 3 (z.map enZ),.box 0 [.own 1]] [.row 2 142 3 ((z++Sk now l reach).map enZ)] [(0,[.own 2])] []:=by
 refine Cg.of [(3,0)] (n:=25) (rs:=[]) Tryz.func275 rfl (by kernel_rfl) Tryz.ntmps275 (by kernel_rfl) (by simp) ⟨rfl,trivial⟩ rfl rfl fun hok V w0 F=>?_
 have hle:l.length<=1073741824:=by omega
 obtain ⟨C,hC⟩ : ∃ C,Sk now l reach=C:=⟨_,rfl⟩
 rw [hC]
 unfold Sk at hC
 have hcov:=Pn reach now
 obtain ⟨B,hB⟩ : ∃ B,Aw reach now=B:=⟨_,rfl⟩
 rw [hB] at hcov hC
 cases B with
 | true =>
  rw [if_pos rfl] at hC
  subst hC
  rw [List.append_nil]
  refine g ?_
  repeat' (first | refine st_ rfl (g ?_) | refine A9 (hcov) rfl (g ?_))
  exact ⟨fun b=>if b=2 then 1 else b,fun _ _ _ h=>h,⟨rfl,trivial⟩,⟨rfl,rfl,rfl⟩,by simp⟩
 | false =>
  rw [if_neg (by decide)] at hC
  refine g ?_
  repeat' (first | refine st_ rfl (g ?_) | refine A9 (hcov) rfl (g ?_))
  refine AW.loop (fun m:{m:Nat // m<=l.length}=>⟨[(1,.iv (stI reach)),(3,.bp 0 0),(11,.iv (spI l)),(12,.val (.int .i64 (l.length:Nat))),(13,.val (.int .i64 (m.1:Nat)))],[.row 1 142 3 ((z++(l.take m.1).map fun s=>(⟨s,reach⟩ : At)).map enZ),.box 0 [.own 1],.opq 99 F]⟩) (fun m=>l.length - m.1) ⟨0,Nat.zero_le _⟩ id ⟨⟨rfl,rfl,rfl,?_,rfl,trivial⟩,⟨by simp;rfl,rfl,rfl,trivial⟩,by simp [By,BA.id]⟩ fun ⟨m,hm⟩=>?_
  ·simp [AV.ren,Cq]
  simp only
  repeat (refine AW.seq ?_)
  refine AW.reg rfl fun KK hKK=>?_
  refine g ?_
  repeat' (refine hKK _ (g ?_);clear hKK KK)
  repeat (refine AW.seq ?_)
  refine st_ rfl ?_
  refine g ?_
  refine Cy (fun h=>?_) (fun h=>?_)
  ·have hlt:m < l.length:=by have:=of_decide_eq_true h;omega
   obtain ⟨-,o1,o2,-⟩:=Do (by simpa [spI] using hok.1.2) (Nl l[m]) (List.mem_map_of_mem (List.getElem_mem hlt))
   refine g ?_
   repeat' refine st_ rfl (g ?_)
   refine ⟨by omega,_,Cx (List.getElem?_eq_getElem hlt),?_⟩
   refine g ?_
   repeat' refine Bi (g ?_)
   refine AW.freeze 800 _ rfl ⟨o1,o2,trivial⟩ ?_
   simp only [go_sem,reduceIte,Nat.reduceEqDiff]
   refine AW.drawn (ds:=[17,18,19,20,21,22,23]) (fin:=[2,3,4,5]) (bs:=[3,3,3,3,3,3,4,5]) [⟨[],[],[0,1,2],[],0⟩,⟨[],[],[0,1,2],[],0⟩,⟨[],[],[],[],0⟩,⟨[(19,2)],[],[0,1,2],[],0⟩,⟨[(18,1),(20,3)],[],[],[],0⟩,⟨[(21,4)],[],[],[],1⟩,⟨[(17,0),(22,5)],[],[1,2,3],[0],1⟩,⟨[(23,6)],[],[],[1],1⟩] (by kernel_rfl) rfl (by kernel_rfl) rfl rfl rfl fun KD hKD=>?_
   refine g ?_
   repeat' refine A9 (Ko _) rfl (g ?_)
   refine bs1 (by omega) rfl rfl rfl ⟨o1,o2,trivial,trivial⟩ ?_
   refine g ?_
   refine Co rfl (by kernel_rfl) (by omega) (by kernel_rfl) rfl (by simp;omega) ?_
   refine g ?_
   repeat' (first | refine st_ rfl (g ?_) | (refine hKD _ _ ⟨rfl,g ?_⟩;clear hKD KD))
   refine ⟨⟨m+1,hlt⟩,fun b=>if b=1 then 2400 else b,⟨⟨rfl,rfl,rfl,rfl,rfl,trivial⟩,⟨?_,rfl,rfl,trivial⟩,by simp [By,BA.id]⟩,by show l.length - (m+1) < l.length - m;omega⟩
   show some (BA.row _ _ _ _)=some (BA.row _ _ _ ((z++(l.take (m+1)).map fun s=>(⟨s,reach⟩ : At)).map enZ))
   rw [List.take_succ_eq_append_getElem hlt]
   simp only [List.map_append,List.append_assoc]
   rfl
  ·obtain rfl:m=l.length:=by have:=of_decide_eq_false h;omega
   refine AW.exit ?_
   simp only [reduceIte]
   rw [List.take_length,hC]
   refine g ?_
   exact ⟨.inr trivial,fun b=>if b=2 then 1 else b,fun _ _ _ h=>h,⟨rfl,trivial⟩,⟨rfl,rfl,rfl⟩,by simp⟩
end Go.Proofs.YtblfjaedaijfoaaGreatDoor
namespace Go.Proofs.YtblfjaedaijfoaaGreatDoor
open Go.ChangeShapes Go.WideShapes Go.ChangeAt Go.RowKit Go.Sort Go.Shelf
structure ZB where
 lo:Nat
 hi:Int
 v:Value
 small:lo < 256
 one:v.oneCell'=true
instance:Inhabited ZB:=⟨⟨0,0,.bool false,by decide,rfl⟩⟩
def Td (b:ZB):List Value:=[.int .i64 (b.lo:Nat),.int .i64 b.hi,b.v]
def Bd4 (a b:ZB):Int:=(a.lo:Int) - b.lo
theorem C96 (a b:ZB):ltOf Bd4 a b=decide (a.lo < b.lo):=by
 unfold ltOf Bd4
 rw [decide_eq_decide]
 omega
theorem D38:SWO (ltOf Bd4) where
 irrefl x:=by rw [C96];simp
 trans x y z h1 h2:=by rw [C96] at *;simp at *;omega
 ntrans x y z h1 h2:=by rw [C96] at *;simp at *;omega
theorem C99 (x y:ZB) (W:World):Calls Tryz.prog 320 #[.agg #[.int .i64 (x.lo:Nat),.int .i64 x.hi,x.v],.agg #[.int .i64 (y.lo:Nat),.int .i64 y.hi,y.v]] W fun e w'=>e=.returned (.int .i64 (Bd4 x y))/\∃ q os',w'=grow (W.drewN q) os':=by
 obtain ⟨a,b,u,ha,hu⟩:=x
 obtain ⟨c,d,v,hc,hv⟩:=y
 unfold Bd4
 simp only
 go_enter Tryz.func320,Tryz.ntmps320
 go_wp2_with fail
 go_ret
 exact ⟨rfl,0,_,by rw [alloc_eq_grow,alloc_eq_grow,grow_grow];rfl⟩
def Be1 (X:World):List At->List ZB->Prop
 | [],[]=>True
 | z :: l,b :: d=>((b.lo:Int)=z.span.lo/\b.hi=z.span.hi/\I64 z.span.hi/\Cp X b.v (stI z.vec))/\Be1 X l d
 | _,_=>False
theorem Bf8 {X:World} : ∀ {l:List At} {xs:List Value},(∀ z∈l,0<=z.span.lo/\z.span.lo<=255)->Bx (Ay X) 3 xs (l.map enZ)->∃ d,Bx (B21 Td) 3 xs d/\Be1 X l d
 | [],xs,_,h=>⟨[],h,trivial⟩
 | z :: l,xs,hz,⟨cs,rest,e,hk,h1,h2⟩=>by
  obtain ⟨d,h3,h4⟩:=Bf8 (fun y hy=>hz y (by simp [hy])) h2
  have hz0:=hz z (by simp)
  match cs,h1 with
  | [c0,c1,c2],⟨q0,q1,q2,_⟩ =>
   cases q0 with | val i0=>cases q1 with | val i1 =>
   refine ⟨⟨z.span.lo.toNat,z.span.hi,c2,by omega,q2.one⟩ :: d,⟨_,rest,e,hk,?_,h3⟩,⟨by show ((z.span.lo.toNat:Nat):Int)=_;omega,rfl,i1,q2⟩,h4⟩
   show _=Td _
   unfold Td
   simp only
   rw [show ((z.span.lo.toNat:Nat):Int)=z.span.lo by omega]
theorem Ab3 {X:World} : ∀ {l:List At} {d:List ZB} {xs:List Value},Be1 X l d->Bx (B21 Td) 3 xs d->Bx (Ay X) 3 xs (l.map enZ)
 | [],[],_,_,h=>h
 | z :: l,b :: d,xs,⟨⟨e0,e1,i1,h3⟩,h4⟩,⟨cs,rest,e,hk,h1,h2⟩=>by
  refine ⟨cs,rest,e,hk,?_,Ab3 h4 h2⟩
  rw [show cs=Td b from h1]
  unfold Td
  refine ⟨?_,?_,h3,trivial⟩
  ·rw [e0];exact .val (by rw [<-e0];have:=b.small;exact I64.of (by omega) (by omega))
  ·rw [e1];exact .val i1
 | [],_ :: _,_,h,_=>h.elim
 | _ :: _,[],_,h,_=>h.elim
theorem V3 {X:World} : ∀ {l:List At} {d:List ZB},Be1 X l d->l.length=d.length
 | [],[],_=>rfl
 | _ :: _,_ :: _,h=>congrArg (·+1) (V3 h.2)
 | [],_ :: _,h=>h.elim
 | _ :: _,[],h=>h.elim
theorem Bm7 {X:World} {d d':List ZB} (hp:d.Perm d'):∀ {l:List At},Be1 X l d->∃ l',l.Perm l'/\Be1 X l' d':=by
 induction hp with
 | nil=>exact fun {l} h=>⟨l,List.Perm.refl _,h⟩
 | cons x _ ih =>
  intro l h
  cases l with
  | nil=>exact h.elim
  | cons z l =>
   obtain ⟨l',h1,h2⟩:=ih h.2
   exact ⟨z :: l',h1.cons z,h.1,h2⟩
 | swap x y d =>
  intro l h
  match l,h with
  | z :: u :: l,⟨h1,h2,h3⟩=>exact ⟨u :: z :: l,List.Perm.swap _ _ _,h2,h1,h3⟩
 | trans _ _ ih1 ih2 =>
  intro l h
  obtain ⟨l',h1,h2⟩:=ih1 h
  obtain ⟨l'',h3,h4⟩:=ih2 h2
  exact ⟨l'',h1.trans h3,h4⟩
theorem Bf9 {X:World} : ∀ {l:List At} {d:List ZB},Be1 X l d->d.map (fun b=>(b.lo:Int))=l.map fun z=>z.span.lo
 | [],[],_=>rfl
 | _ :: _,_ :: _,h=>by rw [List.map_cons,List.map_cons,h.1.1,Bf9 h.2]
 | [],_ :: _,h=>h.elim
 | _ :: _,[],h=>h.elim
theorem Sx {α:Type} {k:α->Int} : ∀ {l m:List α},l.Pairwise (fun a b=>k a < k b)->m.Pairwise (fun a b=>k a < k b)->(∀ x,x∈l↔x∈m)->l=m
 | [],[],_,_,_=>rfl
 | [],y :: m,_,_,h=>by have:=(h y).2 (by simp);cases this
 | x :: l,[],_,_,h=>by have:=(h x).1 (by simp);cases this
 | x :: l,y :: m,h1,h2,h=>by
  obtain ⟨a1,a2⟩:=List.pairwise_cons.1 h1
  obtain ⟨b1,b2⟩:=List.pairwise_cons.1 h2
  have e:x=y:=by
   rcases List.mem_cons.1 ((h x).1 (by simp)) with e | hx
   ·exact e
   ·rcases List.mem_cons.1 ((h y).2 (by simp)) with e | hy
    ·exact e.symm
    ·have:=a1 y hy;have:=b1 x hx;omega
  subst e
  congr 1
  refine Sx a2 b2 fun w=>⟨fun hw=>?_,fun hw=>?_⟩
  ·rcases List.mem_cons.1 ((h w).1 (by simp [hw])) with e | h3
   ·have:=a1 w hw;rw [e] at this;omega
   ·exact h3
  ·rcases List.mem_cons.1 ((h w).2 (by simp [hw])) with e | h3
   ·have:=b1 w hw;rw [e] at this;omega
   ·exact h3
theorem B45 {l s:List At} (hl:∀ z∈l,0<=z.span.lo/\z.span.lo<=255) (hp:s.Perm l) (hs:s.Pairwise fun a b=>a.span.lo < b.span.lo) :
  Cg Tryz.prog A8 319 [.own 1,.fn 320 []] (.tup []) [.row 1 142 3 (l.map enZ)] [] [] [.row 1 142 3 (s.map enZ)]:=by
 refine Cg.keep (r:=.tuple #[]) Tryz.func319 rfl (by kernel_rfl) (fun E X=>.tup rfl fun j v c a b=>by simp at a) fun X w E v vs base hX hbase hG h hvs=>?_
 obtain ⟨u,rfl,hu⟩ : ∃ u,vs=[u]/\Bd E X u (.fn 320 []):=by
  obtain ⟨u,vs',e,h1,h2⟩:=Au.cons_iff.1 hvs
  rw [Au.nil_iff.1 h2] at e
  exact ⟨u,e,h1⟩
 cases hu with
 | @fn _ fv _ p1 p2 =>
 obtain rfl:fv=#[]:=Array.eq_empty_of_size_eq_zero (by simpa using p1)
 obtain ⟨xs,hown,hch,hbig⟩:=id h
 obtain ⟨d,hd1,hd2⟩:=Bf8 hl hch
 have hdl:=V3 hd2
 have hE:Ah (B21 Td) 3 w base 142 v d:=⟨xs,by rw [List.length_map] at hown;rw [<-hdl];exact hown,hd1,by rw [<-hdl];simpa using hbig⟩
 rcases hE.forms with ⟨rfl,hd0⟩ | ⟨g,c,rfl,hg1,hg2⟩
 ·have:=AnyF.slices_SortFunc_none (P:=Tryz.prog) (ρ:=Pq) { Aq6 with } none 0 (.func (.func 320) #[] #[]) w
  refine Calls.mono this ?_
  rintro e w' ⟨rfl,rfl⟩
  have hl0:l=[]:=List.eq_nil_of_length_eq_zero (by rw [hdl,hd0];rfl)
  subst hl0
  obtain rfl:s=[]:=List.Perm.eq_nil hp
  exact ⟨rfl,h,World.grownBy.refl _ _⟩
 ·have hcon:=AnyQ.slices_SortFunc (P:=Tryz.prog) (ρ:=Pq) Aq6 3 Tryz.isAgg142 Tryz.sizeOf142 Td (fun _=>rfl)
   (fun x v hv=>by simp [Td] at hv;rcases hv with rfl | rfl | rfl<;>first | rfl | exact x.one) Bd4 D38 320 #[] g 0 c d.toArray w (enters_of Tryz.func320 (by kernel_rfl) rfl)
   (fun _ _ _ _ x y=>C99 x y _) (Ae0 (k:=3) (fun _=>rfl) (by decide) hE) hg2 (by rw [List.length_map] at hbig;simp only [List.size_toArray];omega)
  refine Calls.mono hcon ?_
  rintro e w' ⟨rfl,d',n,os,hp',hs',rfl⟩
  obtain ⟨p1,p2⟩:=A15 hp'
  have hsz:d'.size=d.length:=by simpa using p2
  obtain ⟨o1,o2⟩:=Zs (k:=3) (enc:=Td) (fun _=>rfl) hE n d' os hsz
  have hpd:d.Perm d'.toList:=by simpa using p1.symm
  obtain ⟨l',q1,q2⟩:=Bm7 hpd hd2
  have hs2:SortedIn (ltOf Bd4) 0 d'.size d':=by rw [p2];exact hs'
  have hle:l'.Pairwise fun a b=>a.span.lo<=b.span.lo:=by
   have h1:(d'.toList.map fun b=>(b.lo:Int)).Pairwise (·<=·):=by
    rw [List.pairwise_map]
    refine (Ur hs2).imp ?_
    intro a b hab
    rw [C96,decide_eq_false_iff_not] at hab
    omega
   rw [Bf9 q2,List.pairwise_map] at h1
   exact h1
  have hne:l'.Pairwise fun a b=>a.span.lo≠b.span.lo:=by
   have:s.Pairwise fun a b=>a.span.lo≠b.span.lo:=hs.imp fun h=>by omega
   exact this.perm (hp.trans q1) fun h=>h.symm
  have hlt:l'.Pairwise fun a b=>a.span.lo < b.span.lo:=(hle.and hne).imp fun h=>by have:=h.1;have:=h.2;omega
  obtain rfl:s=l':=Sx (k:=fun z:At=>z.span.lo) hs hlt fun x=>(hp.mem_iff).trans q1.mem_iff
  obtain ⟨xs',r1,r2,r3⟩:=o1
  refine ⟨rfl,⟨xs',?_,Ab3 q2 r2,by rw [List.length_map,V3 q2];exact r3⟩,o2⟩
  rw [List.length_map,V3 q2]
  exact r1
end Go.Proofs.YtblfjaedaijfoaaGreatDoor
namespace Go.Proofs.YtblfjaedaijfoaaGreatDoor
open Go.ChangeShapes Go.WideShapes Go.ChangeAt Go.RowKit
attribute [local irreducible] AW AWY Bo B4 vop Bj B7 Bf qop Bu C4 Aq Aj Bh A7 B9
attribute [local go_sem] Hr Db Ae Af
theorem C52 {s:List At} (h:Rs s):s.Pairwise fun a b=>a.span.lo < b.span.lo :=
 h.1.imp_of_mem fun {a b} ha _ hab=>by
  have:=(h.2 a ha).2
  simp only [Cj,Bool.and_eq_true,decide_eq_true_eq] at this
  omega
theorem B13 {s:List At} (h:Rs s) {z:At} (hz:z∈s):0<=z.span.lo/\z.span.lo<=z.span.hi/\z.span.hi<=255:=by
 have:=h.2 z hz
 simp only [Cj,Bool.and_eq_true,decide_eq_true_eq] at this
 omega
set_option maxRecDepth 100000 in
set_option maxHeartbeats 1600000 in
theorem Aw5 {l s:List At} (hp:s.Perm l) (hA:Rs s) (hbig:s.length<=1000000):Cg Tryz.prog A8 281 [.own 1] (.own 0) [.row 1 142 3 (l.map enZ)] [.row 0 142 3 ((Kt s).map enZ)] [] []:=by
 refine Cg.of [] (n:=59) (rs:=[.tmp 2]) Tryz.func281 rfl (by kernel_rfl) Tryz.ntmps281 (by kernel_rfl) (by simp) trivial rfl rfl fun hok V w0 F=>?_
 have hl:∀ z∈l,0<=z.span.lo/\z.span.lo<=255:=fun z hz=>by have:=B13 hA (hp.mem_iff.2 hz);omega
 refine g ?_
 refine AW.seq ?_
 refine AW.reg rfl fun KK hKK=>?_
 refine g ?_
 repeat' (refine hKK _ (g ?_);clear hKK KK)
 refine AW.seq ?_
 refine AW.reg rfl fun KK hKK=>?_
 refine g ?_
 refine Kq [] [.opq 99 F] id (B45 hl hp (C52 hA)) rfl rfl rfl ?_
 refine g ?_
 repeat' (refine hKK _ (g ?_);clear hKK KK)
 refine AW.freeze 1 _ rfl trivial ?_
 simp only [go_sem,reduceIte,Nat.reduceEqDiff]
 refine g ?_
 repeat' refine st_ rfl (g ?_)
 refine AW.adopt 3 9900 142 3 rfl rfl ?_
 refine AW.loop (fun m:{m:Nat // m<=s.length}=>⟨[(3,.own 9900),(9,.iv (znI s)),(10,.val (.int .i64 (s.length:Nat))),(11,.val (.int .i64 (m.1:Nat)))],[.row 9900 142 3 ((Kt (s.take m.1)).map enZ),.opq 99 F]⟩) (fun m=>s.length - m.1) ⟨0,Nat.zero_le _⟩ id ⟨⟨rfl,rfl,?_,rfl,trivial⟩,⟨rfl,rfl,trivial⟩,by simp [By,BA.id]⟩ fun ⟨m,hm⟩=>?_
 ·simp [AV.ren,Cq]
 simp only
 repeat (refine AW.seq ?_)
 refine AW.reg rfl fun KK hKK=>?_
 refine g ?_
 repeat' (refine hKK _ (g ?_);clear hKK KK)
 repeat (refine AW.seq ?_)
 refine st_ rfl ?_
 refine g ?_
 refine Cy (fun h=>?_) (fun h=>?_)
 ·have hlt:m < s.length:=by have:=of_decide_eq_true h;omega
  have hin:=B13 hA (List.getElem_mem hlt)
  have hj:=Ad2 hA m hm
  have hs:=A36 (s.take m) s[m]
  rw [<-List.take_succ_eq_append_getElem hlt] at hs
  obtain ⟨x,hx⟩ : ∃ x,s[m]=x:=⟨_,rfl⟩
  have hget:=Cx (f:=enZ) (List.getElem?_eq_getElem hlt)
  rw [hx] at hin hs hget
  obtain ⟨J,hJ⟩ : ∃ J,Kt (s.take m)=J:=⟨_,rfl⟩
  rw [hJ] at hj hs ⊢
  have hJl:J.length<=m:=by have:=hj.len;rw [List.length_take] at this;omega
  refine g ?_
  repeat' refine st_ rfl (g ?_)
  refine ⟨by omega,_,hget,?_⟩
  refine g ?_
  repeat' (first | refine st_ rfl (g ?_) | refine Bi (g ?_))
  have w1:I64 x.span.lo:=I64.of (by omega) (by omega)
  have w2:I64 x.span.hi:=I64.of (by omega) (by omega)
  refine AW.freeze 600 _ rfl ⟨w1,w2,trivial,trivial⟩ ?_
  simp only [go_sem,reduceIte,Nat.reduceEqDiff]
  refine AW.drawn (ds:=[17,18,19,20,21,22,23,24,25,26,27,28,29,30,31,32,33,34,35,36,37,38,39,40,41,42,43]) (fin:=[0,1]) (bs:=[2,2,2,2,2,2,2,2,2,2,2,2,2,2,2,2,2,2,2,2,2,2,2,2,2,2,2]) [⟨[],[],[],[],0⟩,⟨[(17,0)],[],[],[],0⟩,⟨[(18,1)],[],[],[],0⟩,⟨[],[],[],[],0⟩,⟨[],[],[],[],0⟩,⟨[(21,4)],[],[],[],0⟩,⟨[(20,3),(22,5)],[],[0,1],[],0⟩,⟨[(23,6)],[],[],[],0⟩,⟨[(24,7)],[],[],[],0⟩,⟨[(25,8)],[],[0,1],[],0⟩,⟨[(26,9)],[],[],[],0⟩,⟨[],[],[],[],0⟩,⟨[(28,11)],[],[],[],0⟩,⟨[(29,12)],[],[0,1],[],0⟩,⟨[(27,10),(30,13)],[],[],[],0⟩,⟨[(19,2),(31,14)],[],[],[],0⟩,⟨[(32,15)],[],[],[],0⟩,⟨[],[],[],[],0⟩,⟨[],[],[],[],0⟩,⟨[(35,18)],[],[],[],0⟩,⟨[(34,17),(36,19)],[],[0,1],[],0⟩,⟨[(37,20)],[],[],[],0⟩,⟨[(38,21)],[],[0,1],[],0⟩,⟨[],[],[],[],0⟩,⟨[(40,23)],[],[0,1],[],0⟩,⟨[(39,22),(41,24)],[],[0,1],[],0⟩,⟨[(33,16),(42,25)],[],[],[],0⟩] (by kernel_rfl) rfl (by kernel_rfl) rfl rfl rfl fun KD hKD=>?_
  cases hy:J.getLast? with
  | none =>
   have hJ0:J=[]:=List.getLast?_eq_none_iff.1 hy
   subst hJ0
   simp only [P5,List.getLast?_nil] at hs
   refine g ?_
   repeat' (first | refine st_ rfl (g ?_) | (refine hKD _ _ ⟨rfl,g ?_⟩;clear hKD KD))
   refine bs1 (by omega) rfl rfl rfl ⟨w1,w2,trivial,trivial⟩ ?_
   refine g ?_
   refine Co rfl (by kernel_rfl) (by omega) (by kernel_rfl) rfl (by simp) ?_
   refine g ?_
   repeat' refine st_ rfl (g ?_)
   refine ⟨⟨m+1,hlt⟩,fun b=>if b=9900 then 5700 else b,⟨⟨rfl,rfl,rfl,rfl,trivial⟩,⟨?_,rfl,trivial⟩,by simp [By,BA.id]⟩,by show s.length - (m+1) < s.length - m;omega⟩
   show some (BA.row _ _ _ _)=some (BA.row _ _ _ ((Kt (s.take (m+1))).map enZ))
   rw [hs]
   rfl
  | some y =>
   obtain ⟨D,hD⟩ : ∃ D,J.dropLast=D:=⟨_,rfl⟩
   have hl2:=Sb hy
   rw [hD] at hl2
   have hyF:=Gr hj.formed y (List.mem_of_getLast? hy)
   simp only [Cj,Bool.and_eq_true,decide_eq_true_eq] at hyF
   have hye:=Ph hj.formed ⟨by decide,by decide⟩
   rw [Option.or_none,hy] at hye
   simp only [Bq] at hye
   simp only [P5,hy,hD] at hs
   have hlen:J.length=D.length+1:=by rw [<-hl2];simp
   have hJget:J[D.length]? = some y:=by rw [<-hl2];simp
   have hget2:=Cx (f:=enZ) hJget
   have hcast:((J.length:Nat):Int) - 1=(D.length:Nat):=by omega
   have hi:((J.length:Int) - 1).toNat=D.length:=by omega
   refine g ?_
   repeat' (refine M3 rfl rfl (fun h e=>?_) (fun h e=>?_)<;>simp only [e]<;>clear e<;>refine g ?_)
   ·refine ⟨by omega,by omega,?_⟩
    rw [hi]
    refine g ?_
    repeat' refine Bi (g ?_)
    refine ⟨_,hget2,?_⟩
    refine g ?_
    repeat' (first | refine st_ rfl (g ?_) | refine Bi (g ?_) | (refine hKD _ _ ⟨rfl,g ?_⟩;clear hKD KD) | (refine M3 rfl rfl (fun h e=>?_) (fun h e=>?_)<;>simp only [e]<;>clear e<;>refine g ?_))
    ·refine ⟨by omega,by omega,?_⟩
     rw [hi]
     refine g ?_
     repeat' refine Bi (g ?_)
     refine ⟨_,hget2,?_⟩
     refine g ?_
     repeat' (first | refine st_ rfl (g ?_) | refine Bi (g ?_) | refine Al (fun h=>g ?_) (fun h=>g ?_) | (refine hKD _ _ ⟨rfl,g ?_⟩;clear hKD KD) | refine A9 (Xb _ _) rfl (g ?_))
     ·refine ⟨by omega,by omega,?_⟩
      rw [hi]
      refine g ?_
      repeat' refine Bi (g ?_)
      refine ⟨_,_,rfl,⟨w2,trivial⟩,hget2,?_⟩
      refine g ?_
      repeat' (first | refine st_ rfl (g ?_) | refine Bi (g ?_))
      rename_i h1
      refine ⟨⟨m+1,hlt⟩,id,⟨⟨rfl,rfl,rfl,rfl,trivial⟩,⟨?_,rfl,trivial⟩,by simp [By,BA.id]⟩,by show s.length - (m+1) < s.length - m;omega⟩
      show some (BA.row _ _ _ _)=some (BA.row _ _ _ ((Kt (s.take (m+1))).map enZ))
      rw [hs,if_pos ⟨h1,h⟩,<-hl2,List.map_append,List.map_append,List.set_append_right _ _ (by simp)]
      simp
      rfl
     ·refine bs1 (by omega) rfl rfl rfl ⟨w1,w2,trivial,trivial⟩ ?_
      refine g ?_
      refine Co rfl (by kernel_rfl) (by omega) (by kernel_rfl) rfl (by simp;omega) ?_
      refine g ?_
      repeat' refine st_ rfl (g ?_)
      refine ⟨⟨m+1,hlt⟩,fun b=>if b=9900 then 5700 else b,⟨⟨rfl,rfl,rfl,rfl,trivial⟩,⟨?_,rfl,trivial⟩,by simp [By,BA.id]⟩,by show s.length - (m+1) < s.length - m;omega⟩
      show some (BA.row _ _ _ _)=some (BA.row _ _ _ ((Kt (s.take (m+1))).map enZ))
      rw [hs,if_neg (fun q=>h q.2),List.map_append]
      rfl
    ·refine bs1 (by omega) rfl rfl rfl ⟨w1,w2,trivial,trivial⟩ ?_
     refine g ?_
     refine Co rfl (by kernel_rfl) (by omega) (by kernel_rfl) rfl (by simp;omega) ?_
     refine g ?_
     repeat' refine st_ rfl (g ?_)
     refine ⟨⟨m+1,hlt⟩,fun b=>if b=9900 then 5700 else b,⟨⟨rfl,rfl,rfl,rfl,trivial⟩,⟨?_,rfl,trivial⟩,by simp [By,BA.id]⟩,by show s.length - (m+1) < s.length - m;omega⟩
     show some (BA.row _ _ _ _)=some (BA.row _ _ _ ((Kt (s.take (m+1))).map enZ))
     rw [hs,if_neg (fun q=>h q.1),List.map_append]
     rfl
   ·omega
 ·obtain rfl:m=s.length:=by have:=of_decide_eq_false h;omega
  refine AW.exit ?_
  simp only [reduceIte]
  rw [List.take_length]
  refine g ?_
  repeat' refine st_ rfl (g ?_)
  exact ⟨fun b=>if b=0 then 9900 else b,fun _ _ _ h=>h,trivial,⟨rfl,rfl⟩,by simp⟩
end Go.Proofs.YtblfjaedaijfoaaGreatDoor
namespace Go.Proofs.YtblfjaedaijfoaaGreatDoor
open Go.ChangeShapes Go.WideShapes Go.ChangeAt Go.RowKit
attribute [local irreducible] AW AWY Bo B4 vop Bj B7 Bf qop Bu C4 Aq Aj Bh A7 B9
attribute [local go_sem] Cm C9 Ae Af
theorem Bf2 (l m:List Ao):A7 Tryz.prog A8 279 [.iv (spI l),.iv (spI m)] (.iv (spI (J9 l m))) []:=(B46 l m).frz trivial
end Go.Proofs.YtblfjaedaijfoaaGreatDoor
namespace Go.Proofs.YtblfjaedaijfoaaGreatDoor
open Go.ChangeShapes Go.WideShapes Go.ChangeAt Go.RowKit
attribute [local irreducible] AW AWY Bo B4 vop Bj B7 Bf qop Bu C4 Aq Aj Bh A7 B9
attribute [local go_sem] Ae Af
theorem Ym (l:List Ao):spI l=.sl 2 (l.map Nl):=rfl
attribute [local go_sem] Ym Bi1
def Bb5 (n:Int) (s:Ao):List Ao:=if n < s.lo then [⟨n,s.lo - 1⟩] else []
def Gy (n:Int):List Ao->List Ao×Int
 | []=>([],n)
 | s :: l=>(Bb5 n s++(Gy (s.hi+1) l).1,(Gy (s.hi+1) l).2)
theorem A07:∀ (l:List Ao) (n:Int) (s:Ao),Gy n (l++[s])=((Gy n l).1++Bb5 (Gy n l).2 s,s.hi+1)
 | [],n,s=>by simp [Gy]
 | t :: l,n,s=>by rw [List.cons_append,Gy,A07 l];simp [Gy]
def Be9 (n:Int):List Ao:=if n<=255 then [⟨n,255⟩] else []
theorem Aa9:∀ (l:List Ao) (n:Int),Qv n l=(Gy n l).1++Be9 (Gy n l).2
 | [],n=>by rw [Qv,Gy,Be9,List.nil_append]
 | s :: l,n=>by rw [Qv,Gy,Aa9 l];simp [Bb5]
theorem Aa8:∀ (l:List Ao) (n:Int),(Gy n l).1.length<=l.length
 | [],n=>Nat.le_refl _
 | s :: l,n=>by
  have:=Aa8 l (s.hi+1)
  have h2:(Bb5 n s).length<=1:=by unfold Bb5;split<;>simp
  rw [Gy,List.length_append,List.length_cons]
  omega
def Bf6 (l:List Ao):List Ao:=Fa fun o=>!Bm l o
set_option maxRecDepth 100000 in
set_option maxHeartbeats 800000 in
theorem B43 (l:List Ao):A7 Tryz.prog A8 318 [.iv (spI l)] (.iv (spI (Bf6 l))) []:=by
 refine A7.ofS (n:=38) (rs:=[.tmp 2]) Tryz.func318 rfl (by kernel_rfl) Tryz.ntmps318 (by kernel_rfl) (by simp) (fun _ _=>A8.later) ?_
 intro hok V w0
 obtain ⟨T,hT⟩ : ∃ T,En l=T:=⟨_,rfl⟩
 have hin:∀ s∈T,0<=s.lo/\s.lo<=s.hi/\s.hi<=255:=fun s hs=>by
  have:=A46 (e:=-2) (by rw [<-hT];exact C5 _) s hs
  omega
 have hTl:T.length<=128:=by rw [<-hT];exact Gt _
 have hres:Bf6 l=(Gy 0 T).1++Be9 (Gy 0 T).2:=by rw [<-Aa9,<-hT,B66];rfl
 have hst:=Ch1 l
 rw [hT] at hst
 rw [hres]
 refine g ?_
 repeat' (first | refine st_ rfl (g ?_) | refine A9 (hst) rfl (g ?_))
 refine AW.adopt 3 9900 121 2 rfl rfl ?_
 refine AW.loop (fun m:{m:Nat // m<=T.length/\0<=(Gy 0 (T.take m)).2/\(Gy 0 (T.take m)).2<=256}=>⟨[(3,.own 9900),(4,.val (.int .i64 (Gy 0 (T.take m.1)).2)),(8,.iv (spI T)),(9,.val (.int .i64 (T.length:Nat))),(10,.val (.int .i64 (m.1:Nat)))],[.row 9900 121 2 ((Gy 0 (T.take m.1)).1.map Nl)]⟩) (fun m=>T.length - m.1) ⟨0,Nat.zero_le _,by simp [Gy],by simp [Gy]⟩ id ⟨⟨rfl,rfl,rfl,?_,rfl,trivial⟩,⟨rfl,trivial⟩,by simp [By,BA.id]⟩ fun ⟨m,hm,h0,h1⟩=>?_
 ·simp [AV.ren,Cq]
 simp only
 have hl1:=Aa8 (T.take m) 0
 rw [List.length_take] at hl1
 obtain ⟨fr,hfr⟩ : ∃ fr,(Gy 0 (T.take m)).2=fr:=⟨_,rfl⟩
 obtain ⟨O,hO⟩ : ∃ O,(Gy 0 (T.take m)).1=O:=⟨_,rfl⟩
 simp only [hfr,hO] at h0 h1 hl1 ⊢
 repeat (refine AW.seq ?_)
 refine AW.reg rfl fun KK hKK=>?_
 refine g ?_
 repeat' (refine hKK _ (g ?_);clear hKK KK)
 repeat (refine AW.seq ?_)
 refine st_ rfl ?_
 refine g ?_
 refine Cy (fun h=>?_) (fun h=>?_)
 ·have hlt:m < T.length:=by have:=of_decide_eq_true h;omega
  obtain ⟨x,hx⟩ : ∃ x,T[m]=x:=⟨_,rfl⟩
  have hi:=hin x (hx ▸ List.getElem_mem hlt)
  have hget:=Cx (f:=Nl) (List.getElem?_eq_getElem hlt)
  have hs:=A07 (T.take m) 0 T[m]
  rw [<-List.take_succ_eq_append_getElem hlt,hfr,hO] at hs
  rw [hx] at hs hget
  have w1:I64 x.lo:=I64.of (by omega) (by omega)
  have w2:I64 x.hi:=I64.of (by omega) (by omega)
  have w3:I64 fr:=I64.of (by omega) (by omega)
  have w4:I64 (x.lo - 1):=I64.of (by omega) (by omega)
  refine g ?_
  repeat' refine st_ rfl (g ?_)
  refine ⟨by omega,_,hget,?_⟩
  refine g ?_
  repeat' (first | refine st_ rfl (g ?_) | refine Bi (g ?_) | refine Al (fun h=>g ?_) (fun h=>g ?_))
  ·refine bs1 (by omega) rfl rfl rfl ⟨w3,w4,trivial⟩ ?_
   refine g ?_
   refine Co rfl (by kernel_rfl) (by omega) (by kernel_rfl) rfl (by simp;omega) ?_
   refine g ?_
   repeat' refine st_ rfl (g ?_)
   refine ⟨⟨m+1,hlt,by rw [hs];show 0<=x.hi+1;omega,by rw [hs];show x.hi+1<=256;omega⟩,fun b=>if b=9900 then 2600 else b,⟨⟨rfl,by rw [hs];rfl,rfl,rfl,rfl,trivial⟩,⟨?_,trivial⟩,by simp [By,BA.id]⟩,by show T.length - (m+1) < T.length - m;omega⟩
   rw [hs,Bb5,if_pos h,List.map_append]
   rfl
  ·refine ⟨⟨m+1,hlt,by rw [hs];show 0<=x.hi+1;omega,by rw [hs];show x.hi+1<=256;omega⟩,id,⟨⟨rfl,by rw [hs];rfl,rfl,rfl,rfl,trivial⟩,⟨?_,trivial⟩,by simp [By,BA.id]⟩,by show T.length - (m+1) < T.length - m;omega⟩
   rw [hs,Bb5,if_neg h,List.append_nil]
   rfl
 ·obtain rfl:m=T.length:=by have:=of_decide_eq_false h;omega
  rw [List.take_length] at hfr hO
  have w3:I64 fr:=I64.of (by omega) (by omega)
  refine AW.exit ?_
  simp only [reduceIte,hfr,hO]
  unfold Be9
  repeat (refine AW.seq ?_)
  refine AW.reg rfl fun KK hKK=>?_
  refine g ?_
  repeat' (refine hKK _ (g ?_);clear hKK KK)
  repeat (refine AW.seq ?_)
  refine st_ rfl ?_
  refine g ?_
  refine Al (fun h=>?_) (fun h=>?_)
  ·rw [if_pos h]
   refine g ?_
   repeat' refine st_ rfl (g ?_)
   refine bs1 (by omega) rfl rfl rfl ⟨w3,rfl,trivial⟩ ?_
   refine g ?_
   refine Co rfl (by kernel_rfl) (by omega) (by kernel_rfl) rfl (by simp;omega) ?_
   refine g ?_
   refine AW.freeze 3700 _ rfl trivial ?_
   simp only [go_sem,reduceIte,Nat.reduceEqDiff]
   refine g ?_
   repeat' refine st_ rfl (g ?_)
   rw [List.map_append]
   exact Bz.rfl_ _
  ·rw [if_neg h,List.append_nil]
   refine AW.freeze 9900 _ rfl trivial ?_
   simp only [go_sem,reduceIte,Nat.reduceEqDiff]
   refine g ?_
   repeat' refine st_ rfl (g ?_)
   exact Bz.rfl_ _
theorem C74 (l m:List Ao):A7 Tryz.prog A8 280 [.iv (spI l),.iv (spI m)] (.iv (spI (Mn l m))) []:=by
 have he:Mn l m=J9 l (Bf6 m):=by
  unfold Mn J9 Bf6
  exact Y3 fun o ho=>by rw [Hf _ ho]
 rw [he]
 refine A7.of (n:=9) (rs:=[.tmp 4]) Tryz.func280 rfl (by kernel_rfl) Tryz.ntmps280 (by kernel_rfl) (by simp) (fun _ _=>A8.later) ?_
 intro hok V w0
 refine g ?_
 repeat' (first | refine st_ rfl (g ?_) | exact trivial | refine A9 (B43 _) rfl (g ?_) | refine A9 (Bf2 _ _) rfl (g ?_))
end Go.Proofs.YtblfjaedaijfoaaGreatDoor
namespace Go.Proofs.YtblfjaedaijfoaaGreatDoor
open Go.ChangeShapes Go.WideShapes Go.ChangeAt Go.RowKit
attribute [local irreducible] AW AWY Bo B4 vop Bj B7 Bf qop Bu C4 Aq Aj Bh A7 B9
attribute [local go_sem] Cm Eb C9 Ae Af
theorem D42 (os:List Int):A7 Tryz.prog A8 278 [.iv (inI os)] (.iv (spI (En (Nn os)))) []:=(Bv7 os).frz trivial
def enI (n:Int):List IV:=[.val (.int .i64 n)]
end Go.Proofs.YtblfjaedaijfoaaGreatDoor
namespace Go.Proofs.YtblfjaedaijfoaaGreatDoor
open Go.ChangeShapes Go.WideShapes Go.ChangeAt Go.RowKit
attribute [local irreducible] AW AWY Bo B4 vop Bj B7 Bf qop Bu C4 Aq Aj Bh A7 B9
attribute [local go_sem] Hr Db C9 Cm Eb Ae Af
theorem Cg4 (ls:List (List Ab)):A7 Tryz.prog A8 199 [.iv (Ch0 ls)] (.iv (stI (Di ls))) []:=(Mb ls).frz trivial
theorem Ch4 (ls:List (List Ao)) (hs:F9 ls<=1073741824):A7 Tryz.prog A8 243 [.iv (Ch2 ls)] (.iv (spI (En ls.flatten))) []:=(Zv ls hs).frz trivial
theorem A53 (now:List Ab) (l:List Ao) (v:List Ab):(Sk now l v).length<=l.length:=by unfold Sk;split<;>simp
theorem B75 (n:Bc) (now:List Ab) (x:At):(Mj n now x).length<=256:=by
 unfold Mj
 rw [List.length_append]
 have h1:=A53 now (J9 [x.span] (Ha n (Jj x.vec n))) x.vec
 have h2:=A53 now (Mn [x.span] (Ha n (Jj x.vec n))) (Jj x.vec n)
 have h3:(J9 [x.span] (Ha n (Jj x.vec n))).length<=128:=Gt _
 have h4:(Mn [x.span] (Ha n (Jj x.vec n))).length<=128:=Gt _
 omega
theorem Wj (n:Bc) (now:List Ab):∀ l:List At,(Jw n now l).length<=256*l.length
 | []=>Nat.le_refl _
 | x :: l=>by
  have h1:=Wj n now l
  have h2:=B75 n now x
  have:Jw n now (x :: l)=Mj n now x++Jw n now l:=by simp [Jw]
  rw [this,List.length_append,List.length_cons]
  omega
theorem Bv4 {n:Bc} (h:Ax n=true) (far:List Ab):∀ m,((n.writes.take m).foldl (Hc far) n.blur).length<=128:=by
 intro m
 have:∀ (l:List Ap) (s:List Ao),s.length<=128->(l.foldl (Hc far) s).length<=128:=by
  intro l
  induction l with
  | nil=>exact fun s hs=>hs
  | cons w l ih =>
   intro s hs
   refine ih _ ?_
   unfold Hc
   split
   ·exact hs
   ·exact Gt _
 exact this _ _ ((E9 _).1 (R2.1 h).2.2.2.1).1
theorem Yy {q:List At×List Ab×Int} {e:Int} (h:q=([],[],e)):Bz (.tup [.val (.slice none 0 0),.val (.slice none 0 0),.val (.int .i64 e)]) (.tup [.iv (znI q.1),.iv (stI q.2.1),.val (.int .i64 q.2.2)]):=by
 subst h
 refine Ep rfl fun p hp=>?_
 simp only [List.zip_cons_cons,List.zip_nil_right,List.mem_cons,List.not_mem_nil,or_false] at hp
 rcases hp with rfl | rfl | rfl
 ·exact Bg 3
 ·exact Bg 2
 ·exact Bz.rfl_ _
set_option maxRecDepth 100000 in
set_option maxHeartbeats 3200000 in
theorem B34 (z:List At) (known:List Ab) (n:Bc):A7 Tryz.prog A8 213 [.iv (znI z),.iv (stI known),Ft n] (.tup [.iv (znI (Jv z known n).1),.iv (stI (Jv z known n).2.1),.val (.int .i64 (Jv z known n).2.2)]) []:=by
 refine A7.ofS (n:=90) (rs:=[.tmp 6,.tmp 7,.tmp 8]) Tryz.func213 rfl (by kernel_rfl) Tryz.ntmps213 (by kernel_rfl) (by simp) (fun _ _=>A8.later) ?_
 intro hok V w0
 obtain ⟨R,hR⟩ : ∃ R,Jv z known n=R:=⟨_,rfl⟩
 rw [hR]
 unfold Jv Qn at hR
 have hwl:n.writes.length<=1073741824:=by simpa [wrI] using hok.2.2.1.2.2.2.1.1
 refine g ?_
 refine AW.seq ?_
 refine AW.reg rfl fun KK hKK=>?_
 refine g ?_
 repeat' (refine hKK _ (g ?_);clear hKK KK)
 refine AW.freeze 600 _ rfl ⟨trivial,trivial,trivial,trivial,trivial⟩ ?_
 simp only [go_sem,reduceIte,Nat.reduceEqDiff]
 refine g ?_
 repeat' (first | refine st_ rfl (g ?_) | refine Cy (fun h=>g ?_) (fun h=>g ?_) | (refine Cn rfl rfl (fun h=>?_) (fun h=>?_)<;>simp only [h]<;>refine g ?_) | refine A9 (Lv _) rfl (g ?_) | refine A9 (Fh _) rfl (g ?_) | refine A9 (J4 _) rfl (g ?_) | refine A9 (Q2 _ _) rfl (g ?_))
 ·rw [if_neg (by simp at h;simp [h])] at hR
  exact Yy hR.symm
 ·rw [if_neg (by simp at h;simp [h])] at hR
  exact Yy hR.symm
 ·rw [if_neg (by simp at h;simp [h])] at hR
  exact Yy hR.symm
 ·rename_i h1 h2 h3
  rw [if_pos (by simp at *;simp [*]),if_neg (by simp at h;simp [h])] at hR
  exact Yy hR.symm
 rename_i h1 h2 h3
 have hz:Az z=true:=by simpa using h1
 have hk:Ak known=true:=by simpa using h2
 have hn:Ax n=true:=by simpa using h3
 rw [if_pos (by simp [hz,hk,hn]),if_pos (by simpa using h)] at hR
 refine bd2 (by omega) rfl rfl rfl ⟨trivial,trivial⟩ rfl rfl rfl ⟨trivial,trivial⟩ ?_
 refine g ?_
 refine A9 (Cg4 [known,n.end_]) rfl ?_
 refine g ?_
 refine AW.freeze 1000 _ rfl ⟨trivial,trivial⟩ ?_
 simp only [go_sem,reduceIte,Nat.reduceEqDiff]
 refine g ?_
 repeat' (first | refine st_ rfl (g ?_) | refine A9 (At6 _ _) rfl (g ?_))
 obtain ⟨now,hnow⟩ : ∃ now,Di [known,n.end_]=now:=⟨_,rfl⟩
 have hkt:Ct known n=now:=hnow
 rw [hnow]
 rw [hkt] at hR
 obtain ⟨Z,hZ⟩ : ∃ Z,Gx (Fy z known n)=Z:=⟨_,rfl⟩
 rw [hZ] at hR
 subst hR
 simp only
 have hpin:=Bn2 hz hk
 have hzl:z.length<=256:=by
  have:(z.length:Int)<=255 - -1:=Wb hz (by decide)
  omega
 refine AW.adoptB 1100 9900 142 3 rfl rfl ?_
 refine AW.le (S:=⟨[(10,.bp 1100 0),(11,.bp 1200 0),(5,.ip [stI n.start,stI n.end_,spI n.blur,wrI n.writes]),(9,.ip [stI now]),(43,.fn 317 [.ip [znI z],.ip [stI known]])],[.row 9900 142 3 ((Jw n now []).map enZ),.box 1100 [.own 9900],.box 1200 [.fn 275 [.ip [stI now],.bp 1100 0]]]⟩) (ρ:=id) ⟨⟨rfl,rfl,rfl,rfl,rfl,trivial⟩,⟨rfl,rfl,rfl,trivial⟩,by simp [By,BA.id]⟩ ?_
 refine AW.range (At5 z known hz) [(10,.bp 1100 0),(11,.bp 1200 0)] [(5,.ip [stI n.start,stI n.end_,spI n.blur,wrI n.writes]),(9,.ip [stI now]),(43,.fn 317 [.ip [znI z],.ip [stI known]])] (fun pre=>[.row 9900 142 3 ((Jw n now pre).map enZ),.box 1100 [.own 9900],.box 1200 [.fn 275 [.ip [stI now],.bp 1100 0]]]) (fun _=>True) rfl trivial rfl rfl rfl rfl (fun x=>⟨rfl,rfl⟩) (fun c pre x hsp hI=>?_) (fun xs hS hI=>?_)
 ·have hl:=hsp.length_le
  have hl2:=A14 z known
  rw [List.length_append,List.length_singleton] at hl
  have hx:=hpin x (hsp.subset (by simp))
  have htl:=Wj n now pre
  have w1:I64 x.span.lo:=Ax2 (by simp;omega)
  have w2:I64 x.span.hi:=Ax2 (by simp;omega)
  have hsn:=B37 n now pre x
  simp only [A17,Da1,zoA,List.cons_append,List.nil_append]
  refine g ?_
  refine AW.reg rfl fun KK hKK=>?_
  refine g ?_
  repeat' (refine hKK _ (g ?_);clear hKK KK)
  refine AW.freeze 1300 _ rfl ⟨w1,w2,trivial,trivial⟩ ?_
  simp only [go_sem,reduceIte,Nat.reduceEqDiff]
  refine g ?_
  repeat' refine st_ rfl (g ?_)
  refine bd1 (by omega) rfl rfl rfl ⟨w1,w2,trivial⟩ ?_
  refine g ?_
  repeat' (first | refine st_ rfl (g ?_) | refine A9 (Zn x.vec n hx.2) rfl (g ?_))
  obtain ⟨far,hfar⟩ : ∃ far,Jj x.vec n=far:=⟨_,rfl⟩
  have hsl:=Bv4 hn far
  have hst:Ha n (Jj x.vec n)=(n.writes.take n.writes.length).foldl (Hc far) n.blur:=by rw [hfar,List.take_length];rfl
  rw [hfar]
  refine AW.loop (fun m:{m:Nat // m<=n.writes.length}=>⟨[(10,.bp 1100 0),(11,.bp 1200 0),(12,.ip [.val (.int .i64 x.span.lo),.val (.int .i64 x.span.hi),stI x.vec]),(13,.iv (spI [x.span])),(14,.iv (stI far)),(15,.iv (spI ((n.writes.take m.1).foldl (Hc far) n.blur))),(55,.iv (wrI n.writes)),(56,.val (.int .i64 (n.writes.length:Nat))),(57,.val (.int .i64 (m.1:Nat)))],[.row 9900 142 3 ((Jw n now pre).map enZ),.box 1100 [.own 9900],.box 1200 [.fn 275 [.ip [stI now],.bp 1100 0]]]⟩) (fun m=>n.writes.length - m.1) ⟨0,Nat.zero_le _⟩ id ⟨⟨rfl,rfl,rfl,rfl,rfl,rfl,rfl,?_,rfl,trivial⟩,⟨rfl,rfl,rfl,trivial⟩,by simp [By,BA.id]⟩ fun ⟨m,hm⟩=>?_
  ·simp [AV.ren,Cq]
  simp only
  repeat (refine AW.seq ?_)
  refine AW.reg rfl fun KK hKK=>?_
  refine g ?_
  repeat' (refine hKK _ (g ?_);clear hKK KK)
  repeat (refine AW.seq ?_)
  refine st_ rfl ?_
  refine g ?_
  refine Cy (fun h=>?_) (fun h=>?_)
  ·have hlt:m < n.writes.length:=by have:=of_decide_eq_true h;omega
   have hget:=Cx (f:=enW) (List.getElem?_eq_getElem hlt)
   obtain ⟨-,o1,o2,o3,-⟩:=Do (by simpa [wrI] using hok.2.2.1.2.2.2.1.2) (enW n.writes[m]) (List.mem_map_of_mem (List.getElem_mem hlt))
   have hs:=List.foldl_append (f:=Hc far) (b:=n.blur) (l:=n.writes.take m) (l':=[n.writes[m]])
   rw [<-List.take_succ_eq_append_getElem hlt] at hs
   have hsm:=hsl m
   obtain ⟨S,hS⟩ : ∃ S,(n.writes.take m).foldl (Hc far) n.blur=S:=⟨_,rfl⟩
   rw [hS] at hs hsm ⊢
   simp only [List.foldl_cons,List.foldl_nil,Hc] at hs
   refine g ?_
   repeat' (first | refine st_ rfl (g ?_) | refine Cy (fun h=>g ?_) (fun h=>g ?_) | refine ix_ (by omega) (g ?_) | refine A9 (We far n.writes[m].stamp) rfl (g ?_))
   ·obtain ⟨o,ho⟩ : ∃ o,n.writes[m].object=o:=⟨_,rfl⟩
    rw [ho] at hs ⊢
    have o3:I64 o:=by rw [<-ho];exact o3
    refine bd1 (by omega) rfl rfl rfl ⟨o3,trivial⟩ ?_
    refine g ?_
    repeat' refine A9 (D42 [o]) rfl (g ?_)
    obtain ⟨T,hT⟩ : ∃ T,En (Nn [o])=T:=⟨_,rfl⟩
    have hTl:T.length<=128:=by rw [<-hT];exact Gt _
    rw [hT] at hs ⊢
    refine bd2 (by omega) rfl rfl rfl ⟨trivial,trivial⟩ rfl rfl rfl ⟨trivial,trivial⟩ ?_
    refine g ?_
    repeat' (first | refine st_ rfl (g ?_) | refine A9 (Ch4 [S,T] (by simp [F9];omega)) rfl (g ?_))
    refine ⟨⟨m+1,hlt⟩,id,⟨⟨rfl,rfl,rfl,rfl,rfl,?_,rfl,rfl,rfl,trivial⟩,⟨rfl,rfl,rfl,trivial⟩,by simp [By,BA.id]⟩,by show n.writes.length - (m+1) < n.writes.length - m;omega⟩
    show _=AV.iv (spI _)
    rw [hs,if_neg (by simpa using h)]
    simp
    rfl
   ·refine ⟨⟨m+1,hlt⟩,id,⟨⟨rfl,rfl,rfl,rfl,rfl,?_,rfl,rfl,rfl,trivial⟩,⟨rfl,rfl,rfl,trivial⟩,by simp [By,BA.id]⟩,by show n.writes.length - (m+1) < n.writes.length - m;omega⟩
    show _=AV.iv (spI _)
    rw [hs,if_pos (by simpa using h)]
    rfl
  ·obtain rfl:m=n.writes.length:=by have:=of_decide_eq_false h;omega
   refine AW.exit ?_
   simp only [reduceIte]
   rw [<-hst]
   have hp1:=At1 (J9 [x.span] (Ha n (Jj x.vec n))) x.vec now (Jw n now pre) (Gt _) (by omega)
   obtain ⟨Z1,hZ1⟩ : ∃ Z1,Jw n now pre++Sk now (J9 [x.span] (Ha n (Jj x.vec n))) x.vec=Z1:=⟨_,rfl⟩
   have hZl:Z1.length<=256*pre.length+128:=by
    rw [<-hZ1,List.length_append]
    have h1:=A53 now (J9 [x.span] (Ha n (Jj x.vec n))) x.vec
    have h2:(J9 [x.span] (Ha n (Jj x.vec n))).length<=128:=Gt _
    omega
   rw [hZ1] at hp1
   have hp2:=At1 (Mn [x.span] (Ha n (Jj x.vec n))) far now Z1 (Gt _) (by omega)
   have hend:Z1++Sk now (Mn [x.span] (Ha n (Jj x.vec n))) far=Jw n now (pre++[x]):=by
    rw [hsn,<-hZ1,List.append_assoc,<-hfar]
    rfl
   rw [hend] at hp2
   generalize Ha n (Jj x.vec n)=stays at hp1 hp2 ⊢
   refine AW.seq ?_
   refine AW.drawn (ds:=[74,75,76,77,78,79,80]) (fin:=[2,3,4]) (bs:=[3,3,3,3,3,3,3]) [⟨[],[],[0,1,2],[],0⟩,⟨[],[],[],[],0⟩,⟨[],[],[],[],0⟩,⟨[(75,1),(76,2)],[],[0,1,2],[],0⟩,⟨[],[],[],[],0⟩,⟨[(78,4)],[],[0,1,2],[],0⟩,⟨[(74,0),(77,3),(79,5)],[],[2],[0,1],2⟩] (by kernel_rfl) rfl (by kernel_rfl) rfl rfl rfl fun KD hKD=>?_
   refine g ?_
   repeat' refine A9 (Bf2 _ _) rfl (g ?_)
   refine Kq [] [.box 1200 [.fn 275 [.ip [stI now],.bp 1100 0]]] (fun b=>if b=0 then 1100 else 9900) hp1 rfl rfl rfl (g ?_)
   refine g ?_
   repeat' (refine hKD _ _ ⟨rfl,g ?_⟩;clear hKD KD)
   refine AW.drawn (ds:=[81,82,83,84,85,86]) (fin:=[0,3,4]) (bs:=[3,3,3,3,3,3]) [⟨[],[],[0,1,2],[],0⟩,⟨[],[],[],[],0⟩,⟨[],[],[],[],0⟩,⟨[(82,1),(83,2)],[],[0,1,2],[],0⟩,⟨[],[],[],[],0⟩,⟨[(81,0),(84,3),(85,4)],[],[0],[1,2],2⟩] (by kernel_rfl) rfl (by kernel_rfl) rfl rfl rfl fun KD hKD=>?_
   refine g ?_
   repeat' refine A9 (C74 _ _) rfl (g ?_)
   refine Kq [] [.box 1200 [.fn 275 [.ip [stI now],.bp 1100 0]]] (fun b=>if b=0 then 1100 else 8102) hp2 rfl rfl rfl (g ?_)
   refine g ?_
   repeat' (refine hKD _ _ ⟨rfl,g ?_⟩;clear hKD KD)
   exact ⟨trivial,fun b=>if b=9900 then 8702 else b,⟨rfl,rfl,trivial⟩,⟨rfl,rfl,rfl,trivial⟩,by simp [By,BA.id]⟩
 ·subst hS
  obtain ⟨s,hs⟩ : ∃ s,(Jw n now (Dg z known)).mergeSort (fun a b=>decide (a.span.lo<=b.span.lo))=s:=⟨_,rfl⟩
  have hp:s.Perm (Jw n now (Dg z known)):=by rw [<-hs];exact List.mergeSort_perm _ _
  have hle:s.Pairwise fun a b=>a.span.lo<=b.span.lo:=by
   have h1:=List.pairwise_mergeSort (le:=fun a b:At=>decide (a.span.lo<=b.span.lo)) (fun a b c h1 h2=>by simp at *;omega) (fun a b=>by simp;omega) (Jw n now (Dg z known))
   rw [hs] at h1
   exact h1.imp fun h=>by simpa using h
  have hpf:=Ta hz hk
  have hA:Rs s:=Us hp hle (Wi hpf.2 hpf.1) fun x hx=>Aa1 hpf.1 hx
  have hT:=Bk8 (z:=z) (known:=known) (n:=n) (by simp [Qn,hz,hk,hn]) (by rw [hkt];exact hp) hle
  have hsl:s.length<=1000000:=by
   have h1:=Wj n now (Dg z known)
   have h2:=A14 z known
   rw [hp.length_eq]
   omega
  have hj:=Aw5 hp hA hsl
  rw [hT,hZ] at hj
  refine g ?_
  refine AW.seq ?_
  refine AW.drawn (ds:=[87,88,89,6,7,8]) (fin:=[1,2,3]) (bs:=[3,3,4,4,4,4]) [⟨[],[],[0,1,2],[],0⟩,⟨[(87,0)],[],[1,2],[0],1⟩,⟨[],[],[1,2],[],0⟩,⟨[(88,1)],[],[],[],0⟩,⟨[(89,2)],[],[],[],0⟩,⟨[],[],[],[],0⟩] (by kernel_rfl) rfl (by kernel_rfl) rfl rfl rfl fun KD hKD=>?_
  refine g ?_
  refine Kq [] [.box 1100 [.own 9900],.box 1200 [.fn 275 [.ip [stI now],.bp 1100 0]]] (fun _=>9900) hj rfl rfl rfl (g ?_)
  refine g ?_
  repeat' (refine hKD _ _ ⟨rfl,g ?_⟩;clear hKD KD)
  refine AW.freeze 8900 _ rfl trivial ?_
  simp only [go_sem,reduceIte,Nat.reduceEqDiff]
  refine g ?_
  repeat' refine st_ rfl (g ?_)
  exact Bz.rfl_ _
end Go.Proofs.YtblfjaedaijfoaaGreatDoor
namespace Go.Proofs.YtblfjaedaijfoaaGreatDoor
open Go.ChangeShapes Go.WideShapes Go.ChangeAt Go.RowKit
attribute [local irreducible] AW AWY Bo B4 vop Bj B7 Bf qop Bu C4 Aq Aj Bh A7 B9
attribute [local go_sem] Hr Db Hv Dq G6 Cv Eb Cm Jc Dk C9 Ae Af
theorem Ba1 (z:List At) (k:List Ab) (w:Ap):A7 Tryz.prog A8 216 [wA w,.ip [znI z],.ip [stI k]] (.val (.bool (!Dx z k w))) []:=by
 refine A7.of (n:=10) (rs:=[.tmp 4]) Tryz.func216 rfl (by kernel_rfl) Tryz.ntmps216 (by kernel_rfl) (by simp) (fun _ _=>A8.later) ?_
 intro hok V w0
 refine g ?_
 repeat' (first | refine st_ rfl (g ?_) | exact trivial | refine A9 (V6 _ _ _) rfl (g ?_))
theorem B56 (w:Ap) (x:C1):A7 Tryz.prog A8 219 [boA x,.ip (enW w)] (.val (.bool (decide (x.object=w.object)))) []:=by
 refine A7.of (n:=9) (rs:=[.tmp 3]) Tryz.func219 rfl (by kernel_rfl) Tryz.ntmps219 (by kernel_rfl) (by simp) (fun _ _=>A8.later) ?_
 intro hok V w0
 refine g ?_
 repeat' (first | refine st_ rfl (g ?_) | exact trivial)
theorem Ru {q:Cr×Int} {e:Int} (h:q=(Ln,e)):Bz (.tup [.agg [.val (.slice none 0 0),.val (.slice none 0 0),.val (.slice none 0 0),.val (.slice none 0 0),.val (.int .i64 0)],.val (.int .i64 e)]) (.tup [vwA q.1,.val (.int .i64 q.2)]):=by
 subst h
 refine Ep rfl fun p hp=>?_
 simp only [List.zip_cons_cons,List.zip_nil_right,List.mem_cons,List.not_mem_nil,or_false] at hp
 rcases hp with rfl | rfl
 ·refine Es rfl fun p hp=>?_
  simp only [List.zip_cons_cons,List.zip_nil_right,List.mem_cons,List.not_mem_nil,or_false] at hp
  rcases hp with rfl | rfl | rfl | rfl | rfl
  ·exact Bg 2
  ·exact Bg 3
  ·exact Bg 4
  ·exact Bg 4
  ·exact Bz.rfl_ _
 ·exact Bz.rfl_ _
end Go.Proofs.YtblfjaedaijfoaaGreatDoor
