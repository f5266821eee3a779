/- The place of an object's write, and the write itself (the program's). -/
import Derived.Test.YtahgkllhbggmgaaGreatDoorLZones
import Derived.Test.YtahgkllhbggmgaaGreatDoorLRep
import Derived.Test.YtahgkllhbggmgaaGreatDoorLVec
set_option linter.all false
set_option linter.unnecessarySimpa false
set_option linter.unusedSimpArgs false
set_option linter.unusedVariables false
namespace Go.Proofs.YtahgkllhbggmgaaGreatDoor
open Go.ChangeShapes Go.WideShapes Go.ChangeAt Go.RowKit
attribute [local irreducible] AW AWY Be As vop Az Aq Ax qop Bd Bv Aj Ag Ay A7 Aw Du
attribute [local go_sem] Dz Ch Gu Ae Af
theorem Rh (c n:Int):A7 Tryz.prog A8 93 [.agg [.val (.int .i64 c),.val (.int .i64 n)]] (.val (.bool (Bj c n))) [] :=
 Bu Tryz.func93 rfl (by kernel_rfl) fun V w E vs hV hG hr=>by
  obtain ⟨v0,rfl,h0⟩:=Hu hr
  obtain rfl:=Wg h0
  exact Wy c n w
theorem Nz (c n:Int):A7 Tryz.prog A8 94 [.agg [.val (.int .i64 c),.val (.int .i64 n)]] (.val (.bool (Bj c n))) [] :=
 Bu Tryz.func94 rfl (by kernel_rfl) fun V w E vs hV hG hr=>by
  obtain ⟨v0,rfl,h0⟩:=Hu hr
  obtain rfl:=Wg h0
  exact Ah5 c n w
theorem Ac6 (w:Ar):A7 Tryz.prog A8 262 [wA w] (.val (.bool (J7 w))) []:=by
 refine A7.of (n:=16) (rs:=[.tmp 2]) Tryz.func262 rfl (by kernel_rfl) Tryz.ntmps262 (by kernel_rfl) (by simp) (fun _ _=>A8.later) ?_
 intro hok V w0
 obtain ⟨B,hB⟩ : ∃ B,J7 w=B:=⟨_,rfl⟩
 rw [hB]
 unfold J7 Jt at hB
 refine g ?_
 repeat' (first | refine st_ rfl (g ?_) | (refine B8 rfl rfl (fun h e=>?_) (fun h e=>?_)<;>simp only [e]<;>clear e<;>refine g ?_) | refine Aa (Rh _ _) rfl (g ?_))
 all_goals (rw [<-hB,Bool.eq_iff_iff];simp [*];try omega)
theorem A58 (w:Ar):A7 Tryz.prog A8 278 [wA w] (.val (.bool (J7 w))) []:=by
 refine A7.of (n:=16) (rs:=[.tmp 2]) Tryz.func278 rfl (by kernel_rfl) Tryz.ntmps278 (by kernel_rfl) (by simp) (fun _ _=>A8.later) ?_
 intro hok V w0
 obtain ⟨B,hB⟩ : ∃ B,J7 w=B:=⟨_,rfl⟩
 rw [hB]
 unfold J7 Jt at hB
 refine g ?_
 repeat' (first | refine st_ rfl (g ?_) | (refine B8 rfl rfl (fun h e=>?_) (fun h e=>?_)<;>simp only [e]<;>clear e<;>refine g ?_) | refine Aa (Nz _ _) rfl (g ?_))
 all_goals (rw [<-hB,Bool.eq_iff_iff];simp [*];try omega)
set_option maxRecDepth 100000 in
theorem Jd (l:List Ar):A7 Tryz.prog A8 132 [.iv (wrI l)] (.val (.bool (Cd l))) []:=by
 refine A7.of (n:=24) (rs:=[.tmp 2]) Tryz.func132 rfl (by kernel_rfl) Tryz.ntmps132 (by kernel_rfl) (by simp) (fun _ _=>A8.later) ?_
 intro hok V w0
 have hlen:l.length<=1073741824:=by simpa [wrI] using hok.1.1
 obtain ⟨B,hB⟩ : ∃ B,Cd l=B:=⟨_,rfl⟩
 rw [hB]
 refine g ?_
 repeat' refine st_ rfl (g ?_)
 refine AW.loop (fun m:{m:Nat // m<=l.length/\Ci (-1) (l.take m)=true}=>⟨[(3,.val (.int .i64 (Fg (-1) (l.take m.1)))),(6,.iv (wrI l)),(7,.val (.int .i64 (l.length:Nat))),(8,.val (.int .i64 (m.1:Nat)))],[]⟩) (fun m=>l.length - m.1) ⟨0,Nat.zero_le _,rfl⟩ id ⟨⟨rfl,rfl,rfl,rfl,trivial⟩,trivial,List.nodup_nil⟩ fun ⟨m,hm,ht⟩=>?_
 refine g ?_
 repeat' (first | refine st_ rfl (g ?_) | refine Al (fun h=>g ?_) (fun h=>g ?_) | (refine E9 rfl rfl (fun h=>?_) (fun h=>?_)<;>simp only [h]<;>refine g ?_) | refine ix_ (by omega) (g ?_) | refine Aa (Ac6 _) rfl (g ?_))
 ·rw [<-hB,Sb (by omega) ht];simp at h;simp [h]
 ·rw [<-hB,Sb (by omega) ht,decide_eq_false (by omega)];simp
 ·obtain ⟨g1,g2⟩:=Re (by omega) ht (by simp at *;assumption) (by omega)
  refine ⟨⟨m+1,by omega,g1⟩,id,⟨⟨by rw [g2];rfl,rfl,rfl,rfl,trivial⟩,trivial,List.nodup_nil⟩,by show l.length - (m+1) < l.length - m;omega⟩
 ·obtain rfl:m=l.length:=by omega
  rw [List.take_length] at ht
  rw [<-hB];exact ht.symm
set_option maxRecDepth 100000 in
theorem Xa (l:List Ar):A7 Tryz.prog A8 157 [.iv (wrI l)] (.val (.bool (Cd l))) []:=by
 refine A7.of (n:=34) (rs:=[.tmp 2]) Tryz.func157 rfl (by kernel_rfl) Tryz.ntmps157 (by kernel_rfl) (by simp) (fun _ _=>A8.later) ?_
 intro hok V w0
 have hlen:l.length<=1073741824:=by simpa [wrI] using hok.1.1
 obtain ⟨B,hB⟩ : ∃ B,Cd l=B:=⟨_,rfl⟩
 rw [hB]
 refine g ?_
 repeat' refine st_ rfl (g ?_)
 refine AW.loop (fun m:{m:Nat // m<=l.length/\Ci (-1) (l.take m)=true}=>⟨[(0,.iv (wrI l)),(3,.val (.int .i64 (m.1:Nat)))],[]⟩) (fun m=>l.length - m.1) ⟨0,Nat.zero_le _,rfl⟩ id ⟨⟨rfl,rfl,trivial⟩,trivial,List.nodup_nil⟩ fun ⟨m,hm,ht⟩=>?_
 refine g ?_
 repeat' (first | refine st_ rfl (g ?_) | refine Al (fun h=>g ?_) (fun h=>g ?_))
 ·refine AW.drawn (ds:=[10,11,12,13,14,15,16,17,18,19,20,21,22,23,24,25,26,27,28,29,30,31,32,33]) (fin:=[]) (bs:=[0,0,0,0,0,0,0,0,0,0,0,0,0,0,0,0,0,0,0,0,0,0,0,0]) [⟨[],[],[],[],0⟩,⟨[],[],[],[],0⟩,⟨[(10,0),(11,1)],[],[],[],0⟩,⟨[(12,2)],[],[],[],0⟩,⟨[(13,3)],[],[],[],0⟩,⟨[(14,4)],[],[],[],0⟩,⟨[(15,5)],[],[],[],0⟩,⟨[],[],[],[],0⟩,⟨[(17,7)],[],[],[],0⟩,⟨[(18,8)],[],[],[],0⟩,⟨[],[],[],[],0⟩,⟨[],[],[],[],0⟩,⟨[(21,11)],[],[],[],0⟩,⟨[(20,10),(22,12)],[],[],[],0⟩,⟨[(23,13)],[],[],[],0⟩,⟨[(24,14)],[],[],[],0⟩,⟨[],[],[],[],0⟩,⟨[],[],[],[],0⟩,⟨[(26,16),(27,17)],[],[],[],0⟩,⟨[(28,18)],[],[],[],0⟩,⟨[(29,19)],[],[],[],0⟩,⟨[(25,15),(30,20)],[],[],[],0⟩,⟨[(19,9),(31,21)],[],[],[],0⟩,⟨[(16,6),(32,22)],[],[],[],0⟩] (by kernel_rfl) rfl (by kernel_rfl) rfl rfl rfl fun KD hKD=>?_
  refine g ?_
  repeat' (first | refine st_ rfl (g ?_) | refine Al (fun h=>g ?_) (fun h=>g ?_) | (refine hKD _ _ ⟨rfl,g ?_⟩;clear hKD KD) | (refine Lz rfl rfl (fun h e=>?_) (fun h e=>?_)<;>simp only [e]<;>clear e<;>refine g ?_) | (refine S2 rfl rfl (fun h=>?_) (fun h=>?_)<;>simp only [h]<;>refine g ?_) | refine ix_ (by omega) (g ?_) | refine Aa (A58 _) rfl (g ?_) | (refine ixm (m - 1) (by omega) (by omega) (by omega) ?_)<;>refine g ?_)
  ·rw [<-hB,Sb (by omega) ht];simp at h;simp [h]
  ·rw [<-hB,Sb (by omega) ht,V0 (by omega) (by omega),decide_eq_false (by omega)];simp
  ·obtain ⟨g1,g2⟩:=Re (m:=m) (by omega) ht (by simp at *;assumption) (by rw [V0 (by omega) (by omega)];omega)
   refine ⟨⟨m+1,by omega,g1⟩,id,⟨⟨rfl,rfl,trivial⟩,trivial,List.nodup_nil⟩,by show l.length - (m+1) < l.length - m;omega⟩
  ·have hw:J7 l[m]=true:=by simp at *;assumption
   obtain ⟨g1,g2⟩:=Re (m:=m) (by omega) ht hw (by
    rw [show l.take m=[] by rw [show m=0 by omega];rfl]
    simp only [J7,Jt,Bool.and_eq_true,decide_eq_true_eq] at hw
    show (-1:Int) < _
    omega)
   refine ⟨⟨m+1,by omega,g1⟩,id,⟨⟨rfl,rfl,trivial⟩,trivial,List.nodup_nil⟩,by show l.length - (m+1) < l.length - m;omega⟩
 ·obtain rfl:m=l.length:=by omega
  rw [List.take_length] at ht
  rw [<-hB];exact ht.symm
set_option maxRecDepth 100000 in
theorem Bk3 (l:List Ar) (o:Int):A7 Tryz.prog A8 282 [.iv (wrI l),.val (.int .i64 o)] (.tup [wA ((N8 l o).getD noW),.val (.bool (N8 l o).isSome)]) []:=by
 refine A7.of (n:=25) (rs:=[.cell 4 128,.tmp 5]) Tryz.func282 rfl (by kernel_rfl) Tryz.ntmps282 (by kernel_rfl) (by simp) (fun _ _=>A8.later) ?_
 intro hok V w0
 have hlen:l.length<=1073741824:=by simpa [wrI] using hok.1.1
 refine g ?_
 repeat' refine st_ rfl (g ?_)
 refine AW.loop (fun m:{m:Nat // m<=l.length/\∀ w∈l.take m,¬ w.object=o}=>⟨[(0,.iv (wrI l)),(1,.val (.int .i64 o)),(4,.bp 500 0),(6,.val (.int .i64 (m.1:Nat)))],[.box 500 [.val (.int .i64 0),.val (.int .i64 0),.val (.int .i64 0),.val (.bool false)]]⟩) (fun m=>l.length - m.1) ⟨0,Nat.zero_le _,fun w hw=>by simp at hw⟩ id ⟨⟨rfl,rfl,rfl,rfl,trivial⟩,⟨rfl,trivial⟩,by simp [Bw,BA.id]⟩ fun ⟨m,hm,ht⟩=>?_
 refine g ?_
 repeat' (first | refine st_ rfl (g ?_) | refine Al (fun h=>g ?_) (fun h=>g ?_) | refine ix_ (by omega) (g ?_))
 ·rw [A25 ht (by omega) h];rfl
 ·refine ⟨⟨m+1,by omega,Bc1 (by omega) ht h⟩,id,⟨⟨rfl,rfl,rfl,rfl,trivial⟩,⟨rfl,trivial⟩,by simp [Bw,BA.id]⟩,by show l.length - (m+1) < l.length - m;omega⟩
 ·obtain rfl:m=l.length:=by omega
  rw [List.take_length] at ht
  rw [Uc ht];rfl
end Go.Proofs.YtahgkllhbggmgaaGreatDoor
namespace Go.Proofs.YtahgkllhbggmgaaGreatDoor
open Go.ChangeShapes Go.WideShapes Go.ChangeAt Go.RowKit
attribute [local irreducible] AW AWY Be As vop Az Aq Ax qop Bd Bv Aj Ag Ay A7 Aw Du
attribute [local go_sem] Dz Ch Gu Ae Af
theorem Bd4 (a b:Int):A7 Tryz.prog A8 292 [.val (.int .i64 a),.val (.int .i64 b)] (.val (.int .i64 (Vu a b))) [] :=
 Bu Tryz.func292 rfl (by kernel_rfl) fun V w E vs hV hG hr=>by
  obtain ⟨v0,v1,rfl,h0,h1⟩:=Lo hr
  cases h0
  cases h1
  exact (Yp a b w).mono fun e w' h=>⟨h.1,h.2 ▸ Below.refl _ _⟩
theorem V4 (w:Ar) (o:Int):A7 Tryz.prog A8 422 [wA w,.val (.int .i64 o)] (.val (.int .i64 (Vu w.object o))) []:=by
 refine A7.of (n:=9) (rs:=[.tmp 4]) Tryz.func422 rfl (by kernel_rfl) Tryz.ntmps422 (by kernel_rfl) (by simp) (fun _ _=>A8.later) ?_
 intro hok V w0
 refine g ?_
 repeat' (first | refine st_ rfl (g ?_) | exact trivial | refine Aa (Bd4 _ _) rfl (g ?_))
def My (l:List Ar) (o:Int):Nat:=l.findIdx fun w=>decide (o<=w.object)
def Ao8 (l:List Ar):Prop:=∀ (i j:Nat) (x y:Ar),i < j->l[i]? = some x->l[j]? = some y->x.object < y.object
theorem Bk4 {l:List Ar} {o:Int} {lo:Nat} (hs:Ao8 l) (h2:lo<=l.length) (h3:∀ (k:Nat) (x:Ar),k < lo->l[k]? = some x->x.object < o) (h4:∀ (k:Nat) (x:Ar),lo<=k->l[k]? = some x->o<=x.object) :
  My l o=lo/\((∃ h:lo < l.length,l[lo].object=o/\N8 l o=some l[lo])\/((∀ h:lo < l.length,l[lo].object≠o)/\N8 l o=none)):=by
 have hb:∀ w∈l.take lo,¬ w.object=o:=fun w hw=>by
  obtain ⟨j,hj,rfl⟩:=List.mem_take_iff_getElem.1 hw
  have:=h3 j l[j] (by omega) (List.getElem?_eq_getElem (by omega))
  omega
 rcases Nat.lt_or_ge lo l.length with hlt | hge
 ·have h5:=h4 lo l[lo] (Nat.le_refl _) (List.getElem?_eq_getElem hlt)
  refine ⟨(List.findIdx_eq hlt).2 ⟨by simpa using h5,fun j hj=>by
   have:=h3 j l[j] hj (List.getElem?_eq_getElem (by omega))
   simp
   omega⟩,?_⟩
  by_cases he:l[lo].object=o
  ·exact .inl ⟨hlt,he,A25 hb hlt he⟩
  ·refine .inr ⟨fun _=>he,Uc fun w hw e=>?_⟩
   obtain ⟨j,hj,rfl⟩:=List.mem_iff_getElem.1 hw
   rcases Nat.lt_trichotomy j lo with c | c | c
   ·have:=h3 j _ c (List.getElem?_eq_getElem hj);omega
   ·subst c;exact he e
   ·have:=hs lo j _ _ c (List.getElem?_eq_getElem hlt) (List.getElem?_eq_getElem hj);omega
 ·obtain rfl:lo=l.length:=by omega
  refine ⟨List.findIdx_eq_length.2 fun x hx=>?_,.inr ⟨fun h=>absurd h (Nat.lt_irrefl _),Uc (by rwa [List.take_length] at hb)⟩⟩
  obtain ⟨j,hj,rfl⟩:=List.mem_iff_getElem.1 hx
  have:=h3 j _ hj (List.getElem?_eq_getElem hj)
  simp
  omega
set_option maxRecDepth 100000 in
set_option maxHeartbeats 1600000 in
theorem Ab1 (l:List Ar) (o:Int) (hs:Ao8 l):A7 Tryz.prog A8 421 [.iv (wrI l),.val (.int .i64 o),.fn 422 []] (.tup [.val (.int .i64 (My l o:Nat)),.val (.bool (N8 l o).isSome)]) []:=by
 refine A7.of (n:=49) (rs:=[.tmp 6,.tmp 7]) Tryz.func421 rfl (by kernel_rfl) Tryz.ntmps421 (by kernel_rfl) (by simp) (fun _ _=>A8.later) ?_
 intro hok V w0
 have hlen:l.length<=1073741824:=by simpa [wrI] using hok.1.1
 refine g ?_
 repeat' refine st_ rfl (g ?_)
 refine AW.loop (fun p:{p:Nat×Nat // p.1<=p.2/\p.2<=l.length/\(∀ (k:Nat) (x:Ar),k < p.1->l[k]? = some x->x.object < o)/\(∀ (k:Nat) (x:Ar),p.2<=k->l[k]? = some x->o<=x.object)}=>⟨[(0,.iv (wrI l)),(1,.val (.int .i64 o)),(2,.fn 422 []),(8,.val (.int .i64 (l.length:Nat))),(9,.val (.int .i64 (p.1.1:Nat))),(10,.val (.int .i64 (p.1.2:Nat)))],[]⟩) (fun p=>p.1.2 - p.1.1) ⟨(0,l.length),Nat.zero_le _,Nat.le_refl _,fun k x hk=>by omega,fun k x hk hx=>by have:=(List.getElem?_eq_some_iff.1 hx).1;omega⟩ id ⟨⟨rfl,rfl,rfl,rfl,rfl,rfl,trivial⟩,trivial,List.nodup_nil⟩ fun ⟨⟨lo,hi⟩,h1,h2,h3,h4⟩=>?_
 simp only at h1 h2 h3 h4
 refine g ?_
 repeat' (first | refine st_ rfl (g ?_) | refine Al (fun h=>g ?_) (fun h=>g ?_) | (refine B8 rfl rfl (fun h e=>?_) (fun h e=>?_)<;>simp only [e]<;>clear e<;>refine g ?_) | refine ix_ (by omega) (g ?_) | refine Aa (V4 _ _) rfl (g ?_))
 ·have hlt:lo < hi:=by omega
  refine ⟨((lo+hi:Nat):Int),by rw [IntKind.wrap_u64];omega,?_⟩
  refine g ?_
  repeat' refine B9 (g ?_)
  refine ⟨.int .u64 (((lo+hi) / 2:Nat):Int),fun w=>by rw [show ((lo+hi:Nat):Int) / 2 ^ min 1 64=(((lo+hi) / 2:Nat):Int) from (by show ((lo+hi:Nat):Int) / 2=_;omega)];rfl,?_⟩
  obtain ⟨q,hq⟩ : ∃ q,(lo+hi) / 2=q:=⟨_,rfl⟩
  rw [hq]
  have hq1:lo<=q:=by omega
  have hq2:q < hi:=by omega
  have hql:q < l.length:=by omega
  refine g ?_
  repeat' (first | refine st_ rfl (g ?_) | refine B9 (g ?_) | refine Al (fun h=>g ?_) (fun h=>g ?_) | refine ix_ (by omega) (g ?_) | refine Aa (V4 _ _) rfl (g ?_))
  ·have h:=Aa5.1 h
   refine ⟨⟨(q+1,hi),by show q+1<=hi;omega,h2,fun k x hk hx=>?_,h4⟩,id,⟨⟨rfl,rfl,rfl,rfl,rfl,rfl,trivial⟩,trivial,List.nodup_nil⟩,by show hi - (q+1) < hi - lo;omega⟩
   rcases Nat.lt_or_ge k q with c | c
   ·have:=hs k q _ _ c hx (List.getElem?_eq_getElem hql);omega
   ·obtain rfl:k=q:=by simp only at hk;omega
    rw [List.getElem?_eq_getElem hql] at hx
    obtain rfl:=Option.some.inj hx
    exact h
  ·have h:¬ l[q].object < o:=fun e=>h (Aa5.2 e)
   refine ⟨⟨(lo,q),hq1,by show q<=l.length;omega,h3,fun k x hk hx=>?_⟩,id,⟨⟨rfl,rfl,rfl,rfl,rfl,rfl,trivial⟩,trivial,List.nodup_nil⟩,by show q - lo < hi - lo;omega⟩
   rcases Nat.lt_or_ge q k with c | c
   ·have:=hs q k _ _ c (List.getElem?_eq_getElem hql) hx;omega
   ·obtain rfl:k=q:=by simp only at hk;omega
    rw [List.getElem?_eq_getElem hql] at hx
    obtain rfl:=Option.some.inj hx
    omega
 ·obtain rfl:hi=lo:=by omega
  obtain ⟨g1,⟨hl,he,hg⟩ | ⟨hn,hg⟩⟩:=Bk4 hs h2 h3 h4
  ·rw [g1,hg,decide_eq_true (B45.2 he)];rfl
  ·rw [g1,hg,decide_eq_false (fun e=>hn (by omega) (B45.1 e))];rfl
 ·obtain rfl:hi=lo:=by omega
  obtain ⟨g1,⟨hl,he,hg⟩ | ⟨hn,hg⟩⟩:=Bk4 hs h2 h3 h4
  ·omega
  ·rw [g1,hg];rfl
theorem Uz:∀ {l:List Ar} {e:Int},Ci e l=true->Ao8 l/\∀ x∈l,e < x.object
 | [],e,_=>⟨fun i j x y _ hi=>by simp at hi,fun x hx=>by cases hx⟩
 | w :: l,e,h=>by
  simp only [Ci,Bool.and_eq_true,decide_eq_true_eq] at h
  obtain ⟨⟨_,h2⟩,h3⟩:=h
  obtain ⟨g1,g2⟩:=Uz h3
  refine ⟨fun i j x y hij hi hj=>?_,fun x hx=>?_⟩
  ·cases j with
   | zero=>omega
   | succ j =>
    simp only [List.getElem?_cons_succ] at hj
    cases i with
    | zero =>
     simp only [List.getElem?_cons_zero,Option.some.injEq] at hi
     subst hi
     exact g2 y (List.mem_of_getElem? hj)
    | succ i=>exact g1 i j x y (by omega) (by simpa using hi) hj
  ·rcases List.mem_cons.1 hx with rfl | hx
   ·exact h2
   ·have:=g2 x hx;omega
theorem Sa (l:List Ar) (o:Int) (hs:Ao8 l):A7 Tryz.prog A8 351 [.iv (wrI l),.val (.int .i64 o)] (.tup [.val (.int .i64 (My l o:Nat)),.val (.bool (N8 l o).isSome)]) []:=by
 refine A7.of (n:=11) (rs:=[.tmp 4,.tmp 5]) Tryz.func351 rfl (by kernel_rfl) Tryz.ntmps351 (by kernel_rfl) (by simp) (fun _ _=>A8.later) ?_
 intro hok V w0
 refine g ?_
 repeat' (first | refine st_ rfl (g ?_) | exact trivial | refine Aa (Ab1 _ _ hs) rfl (g ?_))
theorem B89 {l:List Ar} {o:Int} (hs:Ao8 l) {w:Ar} (h:N8 l o=some w):∃ hl:My l o < l.length,l[My l o]=w:=by
 have hw:=List.find?_some h
 simp only [decide_eq_true_eq] at hw
 obtain ⟨j,hj,rfl⟩:=List.mem_iff_getElem.1 (List.mem_of_find?_eq_some h)
 have e:My l o=j:=(List.findIdx_eq hj).2 ⟨by simp [hw],fun i hi=>by
  have:=hs i j _ _ hi (List.getElem?_eq_getElem (by omega)) (List.getElem?_eq_getElem hj)
  simp
  omega⟩
 exact ⟨by omega,by simp only [e]⟩
set_option maxRecDepth 100000 in
theorem Ar6 (l:List Ar) (o:Int):A7 Tryz.prog A8 267 [.iv (wrI l),.val (.int .i64 o)] (.tup [wA (A97 l o).1,.val (.int .i64 (A97 l o).2)]) []:=by
 refine A7.of (n:=25) (rs:=[.cell 4 128,.tmp 5]) Tryz.func267 rfl (by kernel_rfl) Tryz.ntmps267 (by kernel_rfl) (by simp) (fun _ _=>A8.later) ?_
 intro hok V w0
 have hlen:l.length<=1073741824:=by simpa [wrI] using hok.1.1
 cases hf:Cd l with
 | false =>
  have h1:=Jd l
  rw [hf] at h1
  rw [show A97 l o=(noW,1) by unfold A97;rw [if_neg (by simp [hf])]]
  refine g ?_
  repeat' (first | refine st_ rfl (g ?_) | refine Aa (h1) rfl (g ?_))
  rfl
 | true =>
  have h1:=Jd l
  rw [hf] at h1
  have hs:=(Uz hf).1
  cases hg:N8 l o with
  | none =>
   have h2:=Sa l o hs
   rw [hg] at h2
   rw [show A97 l o=(noW,8) by unfold A97;rw [if_pos hf,hg]]
   refine g ?_
   repeat' (first | refine st_ rfl (g ?_) | refine Aa (h1) rfl (g ?_) | refine Aa (h2) rfl (g ?_))
   rfl
  | some w =>
   have h2:=Sa l o hs
   obtain ⟨hl,he⟩:=B89 hs hg
   rw [hg] at h2
   rw [show A97 l o=(w,0) by unfold A97;rw [if_pos hf,hg],<-he]
   refine g ?_
   repeat' (first | refine st_ rfl (g ?_) | exact trivial | refine ix_ (by omega) (g ?_) | refine Aa (h1) rfl (g ?_) | refine Aa (h2) rfl (g ?_))
end Go.Proofs.YtahgkllhbggmgaaGreatDoor
