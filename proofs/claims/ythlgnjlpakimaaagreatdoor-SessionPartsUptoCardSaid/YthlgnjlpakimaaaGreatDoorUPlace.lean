/- The place of an object's write, and the write itself (the program's). -/
import Derived.Test.YthlgnjlpakimaaaGreatDoorUShelf
import Derived.Test.YthlgnjlpakimaaaGreatDoorUArr
set_option linter.all false
set_option linter.unnecessarySimpa false
set_option linter.unusedSimpArgs false
set_option linter.unusedVariables false
namespace Go.Proofs.YthlgnjlpakimaaaGreatDoor
open Go.ChangeShapes Go.WideShapes Go.ChangeAt Go.RowKit
attribute [local irreducible] AW AWY Bw Bc vop Bj Az Bi qop By Ce Ar Ap Bo A7 Bd C5
attribute [local go_sem] Ei Dp J9 Ai An
theorem B56 (a b:Int):A7 Tryz.prog A8 181 [.val (.int .i64 a),.val (.int .i64 b)] (.val (.int .i64 (Wj a b))) [] :=
 Bq Tryz.func181 rfl (by kernel_rfl) fun V w E vs hV hG hr=>by
  obtain ⟨v0,v1,rfl,h0,h1⟩:=J4 hr
  cases h0
  cases h1
  exact (Yx a b w).mono fun e w' h=>⟨h.1,h.2 ▸ Below.refl _ _⟩
theorem Vu (w:Aq) (o:Int):A7 Tryz.prog A8 195 [wA w,.val (.int .i64 o)] (.val (.int .i64 (Wj w.object o))) []:=by
 refine A7.of (n:=9) (rs:=[.tmp 4]) Tryz.func195 rfl (by kernel_rfl) Tryz.ntmps195 (by kernel_rfl) (by simp) (fun _ _=>A8.later) ?_
 intro hok V w0
 refine g ?_
 repeat' (first | refine st_ rfl (g ?_) | exact trivial | refine Aa (B56 _ _) rfl (g ?_))
def P1 (l:List Aq) (o:Int):Nat:=l.findIdx fun w=>decide (o<=w.object)
def Am0 (l:List Aq):Prop:=∀ (i j:Nat) (x y:Aq),i < j->l[i]? = some x->l[j]? = some y->x.object < y.object
theorem Ba2 {l:List Aq} {o:Int} {lo:Nat} (hs:Am0 l) (h2:lo<=l.length) (h3:∀ (k:Nat) (x:Aq),k < lo->l[k]? = some x->x.object < o) (h4:∀ (k:Nat) (x:Aq),lo<=k->l[k]? = some x->o<=x.object) :
  P1 l o=lo/\((∃ h:lo < l.length,l[lo].object=o/\M3 l o=some l[lo])\/((∀ h:lo < l.length,l[lo].object≠o)/\M3 l o=none)):=by
 have hb:∀ w∈l.take lo,¬ w.object=o:=fun w hw=>by
  obtain ⟨j,hj,rfl⟩:=List.mem_take_iff_getElem.1 hw
  have:=h3 j l[j] (by omega) (List.getElem?_eq_getElem (by omega))
  omega
 rcases Nat.lt_or_ge lo l.length with hlt | hge
 ·have h5:=h4 lo l[lo] (Nat.le_refl _) (List.getElem?_eq_getElem hlt)
  refine ⟨(List.findIdx_eq hlt).2 ⟨by simpa using h5,fun j hj=>by
   have:=h3 j l[j] hj (List.getElem?_eq_getElem (by omega))
   simp
   omega⟩,?_⟩
  by_cases he:l[lo].object=o
  ·exact .inl ⟨hlt,he,A37 hb hlt he⟩
  ·refine .inr ⟨fun _=>he,Uw fun w hw e=>?_⟩
   obtain ⟨j,hj,rfl⟩:=List.mem_iff_getElem.1 hw
   rcases Nat.lt_trichotomy j lo with c | c | c
   ·have:=h3 j _ c (List.getElem?_eq_getElem hj);omega
   ·subst c;exact he e
   ·have:=hs lo j _ _ c (List.getElem?_eq_getElem hlt) (List.getElem?_eq_getElem hj);omega
 ·obtain rfl:lo=l.length:=by omega
  refine ⟨List.findIdx_eq_length.2 fun x hx=>?_,.inr ⟨fun h=>absurd h (Nat.lt_irrefl _),Uw (by rwa [List.take_length] at hb)⟩⟩
  obtain ⟨j,hj,rfl⟩:=List.mem_iff_getElem.1 hx
  have:=h3 j _ hj (List.getElem?_eq_getElem hj)
  simp
  omega
set_option maxRecDepth 100000 in
set_option maxHeartbeats 1600000 in
theorem Aa2 (l:List Aq) (o:Int) (hs:Am0 l):A7 Tryz.prog A8 194 [.iv (wrI l),.val (.int .i64 o),.fn 195 []] (.tup [.val (.int .i64 (P1 l o:Nat)),.val (.bool (M3 l o).isSome)]) []:=by
 refine A7.of (n:=49) (rs:=[.tmp 6,.tmp 7]) Tryz.func194 rfl (by kernel_rfl) Tryz.ntmps194 (by kernel_rfl) (by simp) (fun _ _=>A8.later) ?_
 intro hok V w0
 have hlen:l.length<=1073741824:=by simpa [wrI] using hok.1.1
 refine g ?_
 repeat' refine st_ rfl (g ?_)
 refine AW.loop (fun p:{p:Nat×Nat // p.1<=p.2/\p.2<=l.length/\(∀ (k:Nat) (x:Aq),k < p.1->l[k]? = some x->x.object < o)/\(∀ (k:Nat) (x:Aq),p.2<=k->l[k]? = some x->o<=x.object)}=>⟨[(0,.iv (wrI l)),(1,.val (.int .i64 o)),(2,.fn 195 []),(8,.val (.int .i64 (l.length:Nat))),(9,.val (.int .i64 (p.1.1:Nat))),(10,.val (.int .i64 (p.1.2:Nat)))],[]⟩) (fun p=>p.1.2 - p.1.1) ⟨(0,l.length),Nat.zero_le _,Nat.le_refl _,fun k x hk=>by omega,fun k x hk hx=>by have:=(List.getElem?_eq_some_iff.1 hx).1;omega⟩ id ⟨⟨rfl,rfl,rfl,rfl,rfl,rfl,trivial⟩,trivial,List.nodup_nil⟩ fun ⟨⟨lo,hi⟩,h1,h2,h3,h4⟩=>?_
 simp only at h1 h2 h3 h4
 refine g ?_
 repeat' (first | refine st_ rfl (g ?_) | refine Bk (fun h=>g ?_) (fun h=>g ?_) | (refine Cz rfl rfl (fun h e=>?_) (fun h e=>?_)<;>simp only [e]<;>clear e<;>refine g ?_) | refine ix_ (by omega) (g ?_) | refine Aa (Vu _ _) rfl (g ?_))
 ·have hlt:lo < hi:=by omega
  refine ⟨((lo+hi:Nat):Int),by rw [IntKind.wrap_u64];omega,?_⟩
  refine g ?_
  repeat' refine Aj (g ?_)
  refine ⟨.int .u64 (((lo+hi) / 2:Nat):Int),fun w=>by rw [show ((lo+hi:Nat):Int) / 2 ^ min 1 64=(((lo+hi) / 2:Nat):Int) from (by show ((lo+hi:Nat):Int) / 2=_;omega)];rfl,?_⟩
  obtain ⟨q,hq⟩ : ∃ q,(lo+hi) / 2=q:=⟨_,rfl⟩
  rw [hq]
  have hq1:lo<=q:=by omega
  have hq2:q < hi:=by omega
  have hql:q < l.length:=by omega
  refine g ?_
  repeat' (first | refine st_ rfl (g ?_) | refine Aj (g ?_) | refine Bk (fun h=>g ?_) (fun h=>g ?_) | refine ix_ (by omega) (g ?_) | refine Aa (Vu _ _) rfl (g ?_))
  ·have h:=A98.1 h
   refine ⟨⟨(q+1,hi),by show q+1<=hi;omega,h2,fun k x hk hx=>?_,h4⟩,id,⟨⟨rfl,rfl,rfl,rfl,rfl,rfl,trivial⟩,trivial,List.nodup_nil⟩,by show hi - (q+1) < hi - lo;omega⟩
   rcases Nat.lt_or_ge k q with c | c
   ·have:=hs k q _ _ c hx (List.getElem?_eq_getElem hql);omega
   ·obtain rfl:k=q:=by simp only at hk;omega
    rw [List.getElem?_eq_getElem hql] at hx
    obtain rfl:=Option.some.inj hx
    exact h
  ·have h:¬ l[q].object < o:=fun e=>h (A98.2 e)
   refine ⟨⟨(lo,q),hq1,by show q<=l.length;omega,h3,fun k x hk hx=>?_⟩,id,⟨⟨rfl,rfl,rfl,rfl,rfl,rfl,trivial⟩,trivial,List.nodup_nil⟩,by show q - lo < hi - lo;omega⟩
   rcases Nat.lt_or_ge q k with c | c
   ·have:=hs q k _ _ c (List.getElem?_eq_getElem hql) hx;omega
   ·obtain rfl:k=q:=by simp only at hk;omega
    rw [List.getElem?_eq_getElem hql] at hx
    obtain rfl:=Option.some.inj hx
    omega
 ·obtain rfl:hi=lo:=by omega
  obtain ⟨g1,⟨hl,he,hg⟩ | ⟨hn,hg⟩⟩:=Ba2 hs h2 h3 h4
  ·rw [g1,hg,decide_eq_true (Ax1.2 he)];rfl
  ·rw [g1,hg,decide_eq_false (fun e=>hn (by omega) (Ax1.1 e))];rfl
 ·obtain rfl:hi=lo:=by omega
  obtain ⟨g1,⟨hl,he,hg⟩ | ⟨hn,hg⟩⟩:=Ba2 hs h2 h3 h4
  ·omega
  ·rw [g1,hg];rfl
theorem Vh:∀ {l:List Aq} {e:Int},C9 e l=true->Am0 l/\∀ x∈l,e < x.object
 | [],e,_=>⟨fun i j x y _ hi=>by simp at hi,fun x hx=>by cases hx⟩
 | w :: l,e,h=>by
  simp only [C9,Bool.and_eq_true,decide_eq_true_eq] at h
  obtain ⟨⟨_,h2⟩,h3⟩:=h
  obtain ⟨g1,g2⟩:=Vh h3
  refine ⟨fun i j x y hij hi hj=>?_,fun x hx=>?_⟩
  ·cases j with
   | zero=>omega
   | succ j =>
    simp only [List.getElem?_cons_succ] at hj
    cases i with
    | zero =>
     simp only [List.getElem?_cons_zero,Option.some.injEq] at hi
     subst hi
     exact g2 y (List.mem_of_getElem? hj)
    | succ i=>exact g1 i j x y (by omega) (by simpa using hi) hj
  ·rcases List.mem_cons.1 hx with rfl | hx
   ·exact h2
   ·have:=g2 x hx;omega
theorem T0 (l:List Aq) (o:Int) (hs:Am0 l):A7 Tryz.prog A8 133 [.iv (wrI l),.val (.int .i64 o)] (.tup [.val (.int .i64 (P1 l o:Nat)),.val (.bool (M3 l o).isSome)]) []:=by
 refine A7.of (n:=11) (rs:=[.tmp 4,.tmp 5]) Tryz.func133 rfl (by kernel_rfl) Tryz.ntmps133 (by kernel_rfl) (by simp) (fun _ _=>A8.later) ?_
 intro hok V w0
 refine g ?_
 repeat' (first | refine st_ rfl (g ?_) | exact trivial | refine Aa (Aa2 _ _ hs) rfl (g ?_))
theorem B11 {l:List Aq} {o:Int} (hs:Am0 l) {w:Aq} (h:M3 l o=some w):∃ hl:P1 l o < l.length,l[P1 l o]=w:=by
 have hw:=List.find?_some h
 simp only [decide_eq_true_eq] at hw
 obtain ⟨j,hj,rfl⟩:=List.mem_iff_getElem.1 (List.mem_of_find?_eq_some h)
 have e:P1 l o=j:=(List.findIdx_eq hj).2 ⟨by simp [hw],fun i hi=>by
  have:=hs i j _ _ hi (List.getElem?_eq_getElem (by omega)) (List.getElem?_eq_getElem hj)
  simp
  omega⟩
 exact ⟨by omega,by simp only [e]⟩
set_option maxRecDepth 100000 in
theorem An6 (l:List Aq) (o:Int):A7 Tryz.prog A8 69 [.iv (wrI l),.val (.int .i64 o)] (.tup [wA (A87 l o).1,.val (.int .i64 (A87 l o).2)]) []:=by
 refine A7.of (n:=25) (rs:=[.cell 4 49,.tmp 5]) Tryz.func69 rfl (by kernel_rfl) Tryz.ntmps69 (by kernel_rfl) (by simp) (fun _ _=>A8.later) ?_
 intro hok V w0
 have hlen:l.length<=1073741824:=by simpa [wrI] using hok.1.1
 cases hf:Bp l with
 | false =>
  have h1:=Gs l
  rw [hf] at h1
  rw [show A87 l o=(noW,1) by unfold A87;rw [if_neg (by simp [hf])]]
  refine g ?_
  repeat' (first | refine st_ rfl (g ?_) | refine Aa (h1) rfl (g ?_))
  rfl
 | true =>
  have h1:=Gs l
  rw [hf] at h1
  have hs:=(Vh hf).1
  cases hg:M3 l o with
  | none =>
   have h2:=T0 l o hs
   rw [hg] at h2
   rw [show A87 l o=(noW,8) by unfold A87;rw [if_pos hf,hg]]
   refine g ?_
   repeat' (first | refine st_ rfl (g ?_) | refine Aa (h1) rfl (g ?_) | refine Aa (h2) rfl (g ?_))
   rfl
  | some w =>
   have h2:=T0 l o hs
   obtain ⟨hl,he⟩:=B11 hs hg
   rw [hg] at h2
   rw [show A87 l o=(w,0) by unfold A87;rw [if_pos hf,hg],<-he]
   refine g ?_
   repeat' (first | refine st_ rfl (g ?_) | exact trivial | refine ix_ (by omega) (g ?_) | refine Aa (h1) rfl (g ?_) | refine Aa (h2) rfl (g ?_))
end Go.Proofs.YthlgnjlpakimaaaGreatDoor
