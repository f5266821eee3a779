/- The place of an object's write, and the write itself (the program's). -/
import Derived.Test.YtblfjaedaijfoaaGreatDoorQZones
import Derived.Test.YtblfjaedaijfoaaGreatDoorQRep
import Derived.Test.YtblfjaedaijfoaaGreatDoorQVec
set_option linter.all false
set_option linter.unnecessarySimpa false
set_option linter.unusedSimpArgs false
set_option linter.unusedVariables false
namespace Go.Proofs.YtblfjaedaijfoaaGreatDoor
open Go.ChangeShapes Go.WideShapes Go.ChangeAt Go.RowKit
attribute [local irreducible] AW AWY Bo B4 vop Bj B7 Bf qop Bu C4 Aq Aj Bh A7 B9 Ge
attribute [local go_sem] Eb Cm Jc Ae Af
theorem Px (c n:Int):A7 Tryz.prog A8 192 [.agg [.val (.int .i64 c),.val (.int .i64 n)]] (.val (.bool (Bl c n))) [] :=
 Bt Tryz.func192 rfl (by kernel_rfl) fun V w E vs hV hG hr=>by
  obtain ⟨v0,rfl,h0⟩:=H6 hr
  obtain rfl:=Vz h0
  exact Tr c n w
theorem Xv (c n:Int):A7 Tryz.prog A8 202 [.agg [.val (.int .i64 c),.val (.int .i64 n)]] (.val (.bool (Bl c n))) [] :=
 Bt Tryz.func202 rfl (by kernel_rfl) fun V w E vs hV hG hr=>by
  obtain ⟨v0,rfl,h0⟩:=H6 hr
  obtain rfl:=Vz h0
  exact A10 c n w
theorem Xl (w:Ap):A7 Tryz.prog A8 193 [wA w] (.val (.bool (Fp w))) []:=by
 refine A7.of (n:=16) (rs:=[.tmp 2]) Tryz.func193 rfl (by kernel_rfl) Tryz.ntmps193 (by kernel_rfl) (by simp) (fun _ _=>A8.later) ?_
 intro hok V w0
 obtain ⟨B,hB⟩ : ∃ B,Fp w=B:=⟨_,rfl⟩
 rw [hB]
 unfold Fp Dm at hB
 refine g ?_
 repeat' (first | refine st_ rfl (g ?_) | (refine B8 rfl rfl (fun h e=>?_) (fun h e=>?_)<;>simp only [e]<;>clear e<;>refine g ?_) | refine A9 (Px _ _) rfl (g ?_))
 all_goals (rw [<-hB,Bool.eq_iff_iff];simp [*];try omega)
theorem Ah9 (w:Ap):A7 Tryz.prog A8 203 [wA w] (.val (.bool (Fp w))) []:=by
 refine A7.of (n:=16) (rs:=[.tmp 2]) Tryz.func203 rfl (by kernel_rfl) Tryz.ntmps203 (by kernel_rfl) (by simp) (fun _ _=>A8.later) ?_
 intro hok V w0
 obtain ⟨B,hB⟩ : ∃ B,Fp w=B:=⟨_,rfl⟩
 rw [hB]
 unfold Fp Dm at hB
 refine g ?_
 repeat' (first | refine st_ rfl (g ?_) | (refine B8 rfl rfl (fun h e=>?_) (fun h e=>?_)<;>simp only [e]<;>clear e<;>refine g ?_) | refine A9 (Xv _ _) rfl (g ?_))
 all_goals (rw [<-hB,Bool.eq_iff_iff];simp [*];try omega)
set_option maxRecDepth 100000 in
theorem Gs (l:List Ap):A7 Tryz.prog A8 100 [.iv (wrI l)] (.val (.bool (C6 l))) []:=by
 refine A7.of (n:=24) (rs:=[.tmp 2]) Tryz.func100 rfl (by kernel_rfl) Tryz.ntmps100 (by kernel_rfl) (by simp) (fun _ _=>A8.later) ?_
 intro hok V w0
 have hlen:l.length<=1073741824:=by simpa [wrI] using hok.1.1
 obtain ⟨B,hB⟩ : ∃ B,C6 l=B:=⟨_,rfl⟩
 rw [hB]
 refine g ?_
 repeat' refine st_ rfl (g ?_)
 refine AW.loop (fun m:{m:Nat // m<=l.length/\Ck (-1) (l.take m)=true}=>⟨[(3,.val (.int .i64 (Gn (-1) (l.take m.1)))),(6,.iv (wrI l)),(7,.val (.int .i64 (l.length:Nat))),(8,.val (.int .i64 (m.1:Nat)))],[]⟩) (fun m=>l.length - m.1) ⟨0,Nat.zero_le _,rfl⟩ id ⟨⟨rfl,rfl,rfl,rfl,trivial⟩,trivial,List.nodup_nil⟩ fun ⟨m,hm,ht⟩=>?_
 refine g ?_
 repeat' (first | refine st_ rfl (g ?_) | refine Al (fun h=>g ?_) (fun h=>g ?_) | (refine Cn rfl rfl (fun h=>?_) (fun h=>?_)<;>simp only [h]<;>refine g ?_) | refine ix_ (by omega) (g ?_) | refine A9 (Xl _) rfl (g ?_))
 ·rw [<-hB,Uv (by omega) ht];simp at h;simp [h]
 ·rw [<-hB,Uv (by omega) ht,decide_eq_false (by omega)];simp
 ·obtain ⟨g1,g2⟩:=Tu (by omega) ht (by simp at *;assumption) (by omega)
  refine ⟨⟨m+1,by omega,g1⟩,id,⟨⟨by rw [g2];rfl,rfl,rfl,rfl,trivial⟩,trivial,List.nodup_nil⟩,by show l.length - (m+1) < l.length - m;omega⟩
 ·obtain rfl:m=l.length:=by omega
  rw [List.take_length] at ht
  rw [<-hB];exact ht.symm
set_option maxRecDepth 100000 in
theorem A02 (l:List Ap):A7 Tryz.prog A8 118 [.iv (wrI l)] (.val (.bool (C6 l))) []:=by
 refine A7.of (n:=34) (rs:=[.tmp 2]) Tryz.func118 rfl (by kernel_rfl) Tryz.ntmps118 (by kernel_rfl) (by simp) (fun _ _=>A8.later) ?_
 intro hok V w0
 have hlen:l.length<=1073741824:=by simpa [wrI] using hok.1.1
 obtain ⟨B,hB⟩ : ∃ B,C6 l=B:=⟨_,rfl⟩
 rw [hB]
 refine g ?_
 repeat' refine st_ rfl (g ?_)
 refine AW.loop (fun m:{m:Nat // m<=l.length/\Ck (-1) (l.take m)=true}=>⟨[(0,.iv (wrI l)),(3,.val (.int .i64 (m.1:Nat)))],[]⟩) (fun m=>l.length - m.1) ⟨0,Nat.zero_le _,rfl⟩ id ⟨⟨rfl,rfl,trivial⟩,trivial,List.nodup_nil⟩ fun ⟨m,hm,ht⟩=>?_
 refine g ?_
 repeat' (first | refine st_ rfl (g ?_) | refine Al (fun h=>g ?_) (fun h=>g ?_))
 ·refine AW.drawn (ds:=[10,11,12,13,14,15,16,17,18,19,20,21,22,23,24,25,26,27,28,29,30,31,32,33]) (fin:=[]) (bs:=[0,0,0,0,0,0,0,0,0,0,0,0,0,0,0,0,0,0,0,0,0,0,0,0]) [⟨[],[],[],[],0⟩,⟨[],[],[],[],0⟩,⟨[(10,0),(11,1)],[],[],[],0⟩,⟨[(12,2)],[],[],[],0⟩,⟨[(13,3)],[],[],[],0⟩,⟨[(14,4)],[],[],[],0⟩,⟨[(15,5)],[],[],[],0⟩,⟨[],[],[],[],0⟩,⟨[(17,7)],[],[],[],0⟩,⟨[(18,8)],[],[],[],0⟩,⟨[],[],[],[],0⟩,⟨[],[],[],[],0⟩,⟨[(21,11)],[],[],[],0⟩,⟨[(20,10),(22,12)],[],[],[],0⟩,⟨[(23,13)],[],[],[],0⟩,⟨[(24,14)],[],[],[],0⟩,⟨[],[],[],[],0⟩,⟨[],[],[],[],0⟩,⟨[(26,16),(27,17)],[],[],[],0⟩,⟨[(28,18)],[],[],[],0⟩,⟨[(29,19)],[],[],[],0⟩,⟨[(25,15),(30,20)],[],[],[],0⟩,⟨[(19,9),(31,21)],[],[],[],0⟩,⟨[(16,6),(32,22)],[],[],[],0⟩] (by kernel_rfl) rfl (by kernel_rfl) rfl rfl rfl fun KD hKD=>?_
  refine g ?_
  repeat' (first | refine st_ rfl (g ?_) | refine Al (fun h=>g ?_) (fun h=>g ?_) | (refine hKD _ _ ⟨rfl,g ?_⟩;clear hKD KD) | (refine M3 rfl rfl (fun h e=>?_) (fun h e=>?_)<;>simp only [e]<;>clear e<;>refine g ?_) | (refine Ul rfl rfl (fun h=>?_) (fun h=>?_)<;>simp only [h]<;>refine g ?_) | refine ix_ (by omega) (g ?_) | refine A9 (Ah9 _) rfl (g ?_) | (refine ixm (m - 1) (by omega) (by omega) (by omega) ?_)<;>refine g ?_)
  ·rw [<-hB,Uv (by omega) ht];simp at h;simp [h]
  ·rw [<-hB,Uv (by omega) ht,Xr (by omega) (by omega),decide_eq_false (by omega)];simp
  ·obtain ⟨g1,g2⟩:=Tu (m:=m) (by omega) ht (by simp at *;assumption) (by rw [Xr (by omega) (by omega)];omega)
   refine ⟨⟨m+1,by omega,g1⟩,id,⟨⟨rfl,rfl,trivial⟩,trivial,List.nodup_nil⟩,by show l.length - (m+1) < l.length - m;omega⟩
  ·have hw:Fp l[m]=true:=by simp at *;assumption
   obtain ⟨g1,g2⟩:=Tu (m:=m) (by omega) ht hw (by
    rw [show l.take m=[] by rw [show m=0 by omega];rfl]
    simp only [Fp,Dm,Bool.and_eq_true,decide_eq_true_eq] at hw
    show (-1:Int) < _
    omega)
   refine ⟨⟨m+1,by omega,g1⟩,id,⟨⟨rfl,rfl,trivial⟩,trivial,List.nodup_nil⟩,by show l.length - (m+1) < l.length - m;omega⟩
 ·obtain rfl:m=l.length:=by omega
  rw [List.take_length] at ht
  rw [<-hB];exact ht.symm
set_option maxRecDepth 100000 in
theorem Bx7 (l:List Ap) (o:Int):A7 Tryz.prog A8 173 [.iv (wrI l),.val (.int .i64 o)] (.tup [wA ((Jr l o).getD noW),.val (.bool (Jr l o).isSome)]) []:=by
 refine A7.of (n:=25) (rs:=[.cell 4 102,.tmp 5]) Tryz.func173 rfl (by kernel_rfl) Tryz.ntmps173 (by kernel_rfl) (by simp) (fun _ _=>A8.later) ?_
 intro hok V w0
 have hlen:l.length<=1073741824:=by simpa [wrI] using hok.1.1
 refine g ?_
 repeat' refine st_ rfl (g ?_)
 refine AW.loop (fun m:{m:Nat // m<=l.length/\∀ w∈l.take m,¬ w.object=o}=>⟨[(0,.iv (wrI l)),(1,.val (.int .i64 o)),(4,.bp 500 0),(6,.val (.int .i64 (m.1:Nat)))],[.box 500 [.val (.int .i64 0),.val (.int .i64 0),.val (.int .i64 0),.val (.bool false)]]⟩) (fun m=>l.length - m.1) ⟨0,Nat.zero_le _,fun w hw=>by simp at hw⟩ id ⟨⟨rfl,rfl,rfl,rfl,trivial⟩,⟨rfl,trivial⟩,by simp [By,BA.id]⟩ fun ⟨m,hm,ht⟩=>?_
 refine g ?_
 repeat' (first | refine st_ rfl (g ?_) | refine Al (fun h=>g ?_) (fun h=>g ?_) | refine ix_ (by omega) (g ?_))
 ·rw [Ae3 ht (by omega) h];rfl
 ·refine ⟨⟨m+1,by omega,Bq8 (by omega) ht h⟩,id,⟨⟨rfl,rfl,rfl,rfl,trivial⟩,⟨rfl,trivial⟩,by simp [By,BA.id]⟩,by show l.length - (m+1) < l.length - m;omega⟩
 ·obtain rfl:m=l.length:=by omega
  rw [List.take_length] at ht
  rw [X6 ht];rfl
end Go.Proofs.YtblfjaedaijfoaaGreatDoor
namespace Go.Proofs.YtblfjaedaijfoaaGreatDoor
open Go.ChangeShapes Go.WideShapes Go.ChangeAt Go.RowKit
attribute [local irreducible] AW AWY Bo B4 vop Bj B7 Bf qop Bu C4 Aq Aj Bh A7 B9 Ge
attribute [local go_sem] Eb Cm Jc Ae Af
theorem Af7 (a b:Int):A7 Tryz.prog A8 299 [.val (.int .i64 a),.val (.int .i64 b)] (.val (.int .i64 (Xd a b))) [] :=
 Bt Tryz.func299 rfl (by kernel_rfl) fun V w E vs hV hG hr=>by
  obtain ⟨v0,v1,rfl,h0,h1⟩:=Kr hr
  cases h0
  cases h1
  exact (A60 a b w).mono fun e w' h=>⟨h.1,h.2 ▸ Below.refl _ _⟩
theorem Xz (w:Ap) (o:Int):A7 Tryz.prog A8 309 [wA w,.val (.int .i64 o)] (.val (.int .i64 (Xd w.object o))) []:=by
 refine A7.of (n:=9) (rs:=[.tmp 4]) Tryz.func309 rfl (by kernel_rfl) Tryz.ntmps309 (by kernel_rfl) (by simp) (fun _ _=>A8.later) ?_
 intro hok V w0
 refine g ?_
 repeat' (first | refine st_ rfl (g ?_) | exact trivial | refine A9 (Af7 _ _) rfl (g ?_))
def F4 (l:List Ap) (o:Int):Nat:=l.findIdx fun w=>decide (o<=w.object)
def B18 (l:List Ap):Prop:=∀ (i j:Nat) (x y:Ap),i < j->l[i]? = some x->l[j]? = some y->x.object < y.object
theorem By2 {l:List Ap} {o:Int} {lo:Nat} (hs:B18 l) (h2:lo<=l.length) (h3:∀ (k:Nat) (x:Ap),k < lo->l[k]? = some x->x.object < o) (h4:∀ (k:Nat) (x:Ap),lo<=k->l[k]? = some x->o<=x.object) :
  F4 l o=lo/\((∃ h:lo < l.length,l[lo].object=o/\Jr l o=some l[lo])\/((∀ h:lo < l.length,l[lo].object≠o)/\Jr l o=none)):=by
 have hb:∀ w∈l.take lo,¬ w.object=o:=fun w hw=>by
  obtain ⟨j,hj,rfl⟩:=List.mem_take_iff_getElem.1 hw
  have:=h3 j l[j] (by omega) (List.getElem?_eq_getElem (by omega))
  omega
 rcases Nat.lt_or_ge lo l.length with hlt | hge
 ·have h5:=h4 lo l[lo] (Nat.le_refl _) (List.getElem?_eq_getElem hlt)
  refine ⟨(List.findIdx_eq hlt).2 ⟨by simpa using h5,fun j hj=>by
   have:=h3 j l[j] hj (List.getElem?_eq_getElem (by omega))
   simp
   omega⟩,?_⟩
  by_cases he:l[lo].object=o
  ·exact .inl ⟨hlt,he,Ae3 hb hlt he⟩
  ·refine .inr ⟨fun _=>he,X6 fun w hw e=>?_⟩
   obtain ⟨j,hj,rfl⟩:=List.mem_iff_getElem.1 hw
   rcases Nat.lt_trichotomy j lo with c | c | c
   ·have:=h3 j _ c (List.getElem?_eq_getElem hj);omega
   ·subst c;exact he e
   ·have:=hs lo j _ _ c (List.getElem?_eq_getElem hlt) (List.getElem?_eq_getElem hj);omega
 ·obtain rfl:lo=l.length:=by omega
  refine ⟨List.findIdx_eq_length.2 fun x hx=>?_,.inr ⟨fun h=>absurd h (Nat.lt_irrefl _),X6 (by rwa [List.take_length] at hb)⟩⟩
  obtain ⟨j,hj,rfl⟩:=List.mem_iff_getElem.1 hx
  have:=h3 j _ hj (List.getElem?_eq_getElem hj)
  simp
  omega
set_option maxRecDepth 100000 in
set_option maxHeartbeats 1600000 in
theorem An0 (l:List Ap) (o:Int) (hs:B18 l):A7 Tryz.prog A8 308 [.iv (wrI l),.val (.int .i64 o),.fn 309 []] (.tup [.val (.int .i64 (F4 l o:Nat)),.val (.bool (Jr l o).isSome)]) []:=by
 refine A7.of (n:=49) (rs:=[.tmp 6,.tmp 7]) Tryz.func308 rfl (by kernel_rfl) Tryz.ntmps308 (by kernel_rfl) (by simp) (fun _ _=>A8.later) ?_
 intro hok V w0
 have hlen:l.length<=1073741824:=by simpa [wrI] using hok.1.1
 refine g ?_
 repeat' refine st_ rfl (g ?_)
 refine AW.loop (fun p:{p:Nat×Nat // p.1<=p.2/\p.2<=l.length/\(∀ (k:Nat) (x:Ap),k < p.1->l[k]? = some x->x.object < o)/\(∀ (k:Nat) (x:Ap),p.2<=k->l[k]? = some x->o<=x.object)}=>⟨[(0,.iv (wrI l)),(1,.val (.int .i64 o)),(2,.fn 309 []),(8,.val (.int .i64 (l.length:Nat))),(9,.val (.int .i64 (p.1.1:Nat))),(10,.val (.int .i64 (p.1.2:Nat)))],[]⟩) (fun p=>p.1.2 - p.1.1) ⟨(0,l.length),Nat.zero_le _,Nat.le_refl _,fun k x hk=>by omega,fun k x hk hx=>by have:=(List.getElem?_eq_some_iff.1 hx).1;omega⟩ id ⟨⟨rfl,rfl,rfl,rfl,rfl,rfl,trivial⟩,trivial,List.nodup_nil⟩ fun ⟨⟨lo,hi⟩,h1,h2,h3,h4⟩=>?_
 simp only at h1 h2 h3 h4
 refine g ?_
 repeat' (first | refine st_ rfl (g ?_) | refine Al (fun h=>g ?_) (fun h=>g ?_) | (refine B8 rfl rfl (fun h e=>?_) (fun h e=>?_)<;>simp only [e]<;>clear e<;>refine g ?_) | refine ix_ (by omega) (g ?_) | refine A9 (Xz _ _) rfl (g ?_))
 ·have hlt:lo < hi:=by omega
  refine ⟨((lo+hi:Nat):Int),by rw [IntKind.wrap_u64];omega,?_⟩
  refine g ?_
  repeat' refine Bi (g ?_)
  refine ⟨.int .u64 (((lo+hi) / 2:Nat):Int),fun w=>by rw [show ((lo+hi:Nat):Int) / 2 ^ min 1 64=(((lo+hi) / 2:Nat):Int) from (by show ((lo+hi:Nat):Int) / 2=_;omega)];rfl,?_⟩
  obtain ⟨q,hq⟩ : ∃ q,(lo+hi) / 2=q:=⟨_,rfl⟩
  rw [hq]
  have hq1:lo<=q:=by omega
  have hq2:q < hi:=by omega
  have hql:q < l.length:=by omega
  refine g ?_
  repeat' (first | refine st_ rfl (g ?_) | refine Bi (g ?_) | refine Al (fun h=>g ?_) (fun h=>g ?_) | refine ix_ (by omega) (g ?_) | refine A9 (Xz _ _) rfl (g ?_))
  ·have h:=Vt.1 h
   refine ⟨⟨(q+1,hi),by show q+1<=hi;omega,h2,fun k x hk hx=>?_,h4⟩,id,⟨⟨rfl,rfl,rfl,rfl,rfl,rfl,trivial⟩,trivial,List.nodup_nil⟩,by show hi - (q+1) < hi - lo;omega⟩
   rcases Nat.lt_or_ge k q with c | c
   ·have:=hs k q _ _ c hx (List.getElem?_eq_getElem hql);omega
   ·obtain rfl:k=q:=by simp only at hk;omega
    rw [List.getElem?_eq_getElem hql] at hx
    obtain rfl:=Option.some.inj hx
    exact h
  ·have h:¬ l[q].object < o:=fun e=>h (Vt.2 e)
   refine ⟨⟨(lo,q),hq1,by show q<=l.length;omega,h3,fun k x hk hx=>?_⟩,id,⟨⟨rfl,rfl,rfl,rfl,rfl,rfl,trivial⟩,trivial,List.nodup_nil⟩,by show q - lo < hi - lo;omega⟩
   rcases Nat.lt_or_ge q k with c | c
   ·have:=hs q k _ _ c (List.getElem?_eq_getElem hql) hx;omega
   ·obtain rfl:k=q:=by simp only at hk;omega
    rw [List.getElem?_eq_getElem hql] at hx
    obtain rfl:=Option.some.inj hx
    omega
 ·obtain rfl:hi=lo:=by omega
  obtain ⟨g1,⟨hl,he,hg⟩ | ⟨hn,hg⟩⟩:=By2 hs h2 h3 h4
  ·rw [g1,hg,decide_eq_true (Z8.2 he)];rfl
  ·rw [g1,hg,decide_eq_false (fun e=>hn (by omega) (Z8.1 e))];rfl
 ·obtain rfl:hi=lo:=by omega
  obtain ⟨g1,⟨hl,he,hg⟩ | ⟨hn,hg⟩⟩:=By2 hs h2 h3 h4
  ·omega
  ·rw [g1,hg];rfl
theorem Qr:∀ {l:List Ap} {e:Int},Ck e l=true->B18 l/\∀ x∈l,e < x.object
 | [],e,_=>⟨fun i j x y _ hi=>by simp at hi,fun x hx=>by cases hx⟩
 | w :: l,e,h=>by
  simp only [Ck,Bool.and_eq_true,decide_eq_true_eq] at h
  obtain ⟨⟨_,h2⟩,h3⟩:=h
  obtain ⟨g1,g2⟩:=Qr h3
  refine ⟨fun i j x y hij hi hj=>?_,fun x hx=>?_⟩
  ·cases j with
   | zero=>omega
   | succ j =>
    simp only [List.getElem?_cons_succ] at hj
    cases i with
    | zero =>
     simp only [List.getElem?_cons_zero,Option.some.injEq] at hi
     subst hi
     exact g2 y (List.mem_of_getElem? hj)
    | succ i=>exact g1 i j x y (by omega) (by simpa using hi) hj
  ·rcases List.mem_cons.1 hx with rfl | hx
   ·exact h2
   ·have:=g2 x hx;omega
theorem Pt (l:List Ap) (o:Int) (hs:B18 l):A7 Tryz.prog A8 244 [.iv (wrI l),.val (.int .i64 o)] (.tup [.val (.int .i64 (F4 l o:Nat)),.val (.bool (Jr l o).isSome)]) []:=by
 refine A7.of (n:=11) (rs:=[.tmp 4,.tmp 5]) Tryz.func244 rfl (by kernel_rfl) Tryz.ntmps244 (by kernel_rfl) (by simp) (fun _ _=>A8.later) ?_
 intro hok V w0
 refine g ?_
 repeat' (first | refine st_ rfl (g ?_) | exact trivial | refine A9 (An0 _ _ hs) rfl (g ?_))
theorem Ab6 {l:List Ap} {o:Int} (hs:B18 l) {w:Ap} (h:Jr l o=some w):∃ hl:F4 l o < l.length,l[F4 l o]=w:=by
 have hw:=List.find?_some h
 simp only [decide_eq_true_eq] at hw
 obtain ⟨j,hj,rfl⟩:=List.mem_iff_getElem.1 (List.mem_of_find?_eq_some h)
 have e:F4 l o=j:=(List.findIdx_eq hj).2 ⟨by simp [hw],fun i hi=>by
  have:=hs i j _ _ hi (List.getElem?_eq_getElem (by omega)) (List.getElem?_eq_getElem hj)
  simp
  omega⟩
 exact ⟨by omega,by simp only [e]⟩
set_option maxRecDepth 100000 in
theorem Zw (l:List Ap) (o:Int):A7 Tryz.prog A8 169 [.iv (wrI l),.val (.int .i64 o)] (.tup [wA (A85 l o).1,.val (.int .i64 (A85 l o).2)]) []:=by
 refine A7.of (n:=25) (rs:=[.cell 4 102,.tmp 5]) Tryz.func169 rfl (by kernel_rfl) Tryz.ntmps169 (by kernel_rfl) (by simp) (fun _ _=>A8.later) ?_
 intro hok V w0
 have hlen:l.length<=1073741824:=by simpa [wrI] using hok.1.1
 cases hf:C6 l with
 | false =>
  have h1:=Gs l
  rw [hf] at h1
  rw [show A85 l o=(noW,1) by unfold A85;rw [if_neg (by simp [hf])]]
  refine g ?_
  repeat' (first | refine st_ rfl (g ?_) | refine A9 (h1) rfl (g ?_))
  rfl
 | true =>
  have h1:=Gs l
  rw [hf] at h1
  have hs:=(Qr hf).1
  cases hg:Jr l o with
  | none =>
   have h2:=Pt l o hs
   rw [hg] at h2
   rw [show A85 l o=(noW,8) by unfold A85;rw [if_pos hf,hg]]
   refine g ?_
   repeat' (first | refine st_ rfl (g ?_) | refine A9 (h1) rfl (g ?_) | refine A9 (h2) rfl (g ?_))
   rfl
  | some w =>
   have h2:=Pt l o hs
   obtain ⟨hl,he⟩:=Ab6 hs hg
   rw [hg] at h2
   rw [show A85 l o=(w,0) by unfold A85;rw [if_pos hf,hg],<-he]
   refine g ?_
   repeat' (first | refine st_ rfl (g ?_) | exact trivial | refine ix_ (by omega) (g ?_) | refine A9 (h1) rfl (g ?_) | refine A9 (h2) rfl (g ?_))
end Go.Proofs.YtblfjaedaijfoaaGreatDoor
