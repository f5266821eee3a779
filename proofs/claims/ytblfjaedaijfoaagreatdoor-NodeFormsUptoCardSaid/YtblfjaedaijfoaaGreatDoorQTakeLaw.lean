/- A note is taken: the pieces' zones are the objects' zones. No program is known here. -/
import Derived.Test.YtblfjaedaijfoaaGreatDoorQSinceSame
set_option linter.all false
set_option linter.unnecessarySimpa false
set_option linter.unusedSimpArgs false
set_option linter.unusedVariables false
namespace Go.Proofs.YtblfjaedaijfoaaGreatDoor
def InZ (l:List At) (o:Int) (v:List Ab):Prop:=∃ x∈l,x.span.lo<=o/\o<=x.span.hi/\x.vec=v
theorem Gi {l m:List At} {o:Int} {v:List Ab} : InZ (l++m) o v↔InZ l o v\/InZ m o v:=by
 unfold InZ
 constructor
 ·rintro ⟨x,hx,h⟩
  rcases List.mem_append.1 hx with hx | hx
  ·exact .inl ⟨x,hx,h⟩
  ·exact .inr ⟨x,hx,h⟩
 ·rintro (⟨x,hx,h⟩ | ⟨x,hx,h⟩)
  ·exact ⟨x,List.mem_append_left _ hx,h⟩
  ·exact ⟨x,List.mem_append_right _ hx,h⟩
theorem Sd {x:At} {o:Int} {v:List Ab} : InZ [x] o v↔x.span.lo<=o/\o<=x.span.hi/\x.vec=v:=by simp [InZ]
def P5 (out:List At) (x:At):List At :=
 match out.getLast? with
 | some y=>if y.span.hi+1=x.span.lo/\y.vec=x.vec then out.dropLast++[⟨⟨y.span.lo,x.span.hi⟩,y.vec⟩] else out++[x]
 | none=>out++[x]
def Kt (l:List At):List At:=l.foldl P5 []
theorem A36 (l:List At) (x:At):Kt (l++[x])=P5 (Kt l) x:=by simp [Kt]
structure Nb (s l:List At):Prop where
 formed:Ba none l=true
 mem:∀ o v,InZ l o v↔InZ s o v
 last:Bq l.getLast? = Bq s.getLast?
 len:l.length<=s.length
theorem Nb.nil:Nb [] []:=⟨rfl,fun _ _=>Iff.rfl,rfl,Nat.le_refl _⟩
theorem M9 {l:List At} {x:At} : Ba none (l++[x])=(Ba none l&&(D9 l.getLast? x&&Cj x)):=by
 rw [Fz,Ba,Ba,Bool.and_true,Option.or_none]
theorem Nb.step {s l:List At} {x:At} (h:Nb s l) (h1:Bq s.getLast? < x.span.lo) (h2:Cj x=true):Nb (s++[x]) (P5 l x):=by
 obtain ⟨a,b,c,d⟩:=h
 rw [<-c] at h1
 have hplain:Ew l.getLast? x=false->Nb (s++[x]) (l++[x]):=fun ht=>by
  refine ⟨?_,fun o v=>by rw [Gi,Gi,b],by rw [List.getLast?_concat,List.getLast?_concat],by simp;exact d⟩
  rw [M9,a,h2,D9,ht]
  simp [h1]
 unfold P5
 split
 ·rename_i y hy
  split
  ·rename_i he
   obtain ⟨e1,e2⟩:=he
   have hl:=Sb hy
   obtain ⟨D,hD⟩ : ∃ D,l.dropLast=D:=⟨_,rfl⟩
   rw [hD] at hl ⊢
   subst hl
   rw [M9,Bool.and_eq_true,Bool.and_eq_true] at a
   obtain ⟨a1,a2,a3⟩:=a
   simp only [Cj,Bool.and_eq_true,decide_eq_true_eq] at a3 h2
   refine ⟨?_,fun o v=>?_,by rw [List.getLast?_concat,List.getLast?_concat];rfl,by simp at d ⊢;omega⟩
   ·rw [M9,a1,Bool.true_and,Bool.and_eq_true]
    refine ⟨a2,?_⟩
    simp only [Cj,Bool.and_eq_true,decide_eq_true_eq]
    exact ⟨⟨by omega,h2.1.2⟩,a3.2⟩
   ·rw [Gi,Gi,<-b,Gi,Sd,Sd,Sd]
    refine Iff.trans ?_ or_assoc.symm
    refine or_congr Iff.rfl ?_
    rw [<-e2]
    simp only
    constructor
    ·rintro ⟨p,q,r⟩
     rcases Int.lt_or_le y.span.hi o with h | h
     ·exact .inr ⟨by omega,q,r⟩
     ·exact .inl ⟨p,h,r⟩
    ·rintro (⟨p,q,r⟩ | ⟨p,q,r⟩)
     ·exact ⟨p,by omega,r⟩
     ·exact ⟨by omega,q,r⟩
  ·rename_i he
   refine hplain ?_
   rw [hy]
   simp only [Ew,Bool.and_eq_false_iff,decide_eq_false_iff_not]
   exact Decidable.not_and_iff_or_not.1 he
 ·rename_i hn
  exact hplain (by rw [hn];rfl)
def Rs (s:List At):Prop:=s.Pairwise (fun x y=>x.span.hi < y.span.lo)/\∀ x∈s,0<=x.span.lo/\Cj x=true
theorem Bt2 {s:List At} {x:At} (h:Rs (s++[x])):Bq s.getLast? < x.span.lo:=by
 cases hs:s.getLast? with
 | none=>have:=(h.2 x (by simp)).1;show (-1:Int) < _;omega
 | some y=>exact (List.pairwise_append.1 h.1).2.2 y (List.mem_of_getLast? hs) x (by simp)
theorem Ad2 {s:List At} (h:Rs s):∀ n,n<=s.length->Nb (s.take n) (Kt (s.take n)):=by
 intro n
 induction n with
 | zero=>exact fun _=>Nb.nil
 | succ n ih =>
  intro hn
  have hs:=List.take_succ_eq_append_getElem (show n < s.length from hn)
  have hA:Rs (s.take (n+1)):=⟨h.1.sublist (List.take_sublist _ _),fun x hx=>h.2 x (List.mem_of_mem_take hx)⟩
  rw [hs] at hA
  rw [hs,A36]
  exact (ih (by omega)).step (Bt2 hA) (hA.2 _ (List.mem_append_right _ (List.mem_singleton.2 rfl))).2
theorem Vk {s:List At} (h:Rs s):Az (Kt s)=true/\∀ o v,InZ (Kt s) o v↔InZ s o v:=by
 have:=Ad2 h s.length (Nat.le_refl _)
 rw [List.take_length] at this
 exact ⟨this.formed,this.mem⟩
theorem Ue:∀ {l m:List At} {p q:Option At},Ba p l=true->Ba q m=true->(∀ o v,InZ l o v↔InZ m o v)->l=m
 | [],[],_,_,_,_,_=>rfl
 | x :: l,[],p,q,h1,_,h=>by
  have:=(Ej h1).2 x (by simp)
  obtain ⟨y,hy,_⟩:=(h x.span.lo x.vec).1 ⟨x,by simp,Int.le_refl _,this.2,rfl⟩
  cases hy
 | [],y :: m,p,q,_,h2,h=>by
  have:=(Ej h2).2 y (by simp)
  obtain ⟨x,hx,_⟩:=(h y.span.lo y.vec).2 ⟨y,by simp,Int.le_refl _,this.2,rfl⟩
  cases hx
 | x :: l,y :: m,p,q,h1,h2,h=>by
  have a1:=Ej h1
  have a2:=Ej h2
  obtain ⟨b1,b2⟩:=List.pairwise_cons.1 a1.1
  obtain ⟨c1,c2⟩:=List.pairwise_cons.1 a2.1
  have hx:=a1.2 x (by simp)
  have hy:=a2.2 y (by simp)
  have go:∀ {x y:At} {l m:List At} {p q:Option At},Ba p (x :: l)=true->Ba q (y :: m)=true->(∀ o v,InZ (x :: l) o v↔InZ (y :: m) o v)->y.span.lo<=x.span.lo:=by
   intro x y l m p q h1 h2 h
   have hx:=(Ej h1).2 x (by simp)
   obtain ⟨z,hz,h3,_⟩:=(h x.span.lo x.vec).1 ⟨x,by simp,Int.le_refl _,hx.2,rfl⟩
   rcases List.mem_cons.1 hz with rfl | hz
   ·exact h3
   ·have:=(List.pairwise_cons.1 (Ej h2).1).1 z hz
    have:=(Ej h2).2 y (by simp)
    omega
  have e1:x.span.lo=y.span.lo:=Int.le_antisymm (go h2 h1 fun o v=>(h o v).symm) (go h1 h2 h)
  have e2:x.vec=y.vec:=by
   obtain ⟨z,hz,h3,h4,h5⟩:=(h x.span.lo x.vec).1 ⟨x,by simp,Int.le_refl _,hx.2,rfl⟩
   rcases List.mem_cons.1 hz with rfl | hz
   ·exact h5.symm
   ·have:=c1 z hz;omega
  have le:∀ {x y:At} {l m:List At} {p q:Option At},Ba p (x :: l)=true->Ba q (y :: m)=true->(∀ o v,InZ (x :: l) o v↔InZ (y :: m) o v)->x.span.lo=y.span.lo->x.vec=y.vec->y.span.hi<=x.span.hi:=by
   intro x y l m p q h1 h2 h e1 e2
   rcases Int.lt_or_le x.span.hi y.span.hi with h3 | h3
   ·exfalso
    have hx:=(Ej h1).2 x (by simp)
    obtain ⟨z,hz,h4,h5,h6⟩:=(h (x.span.hi+1) y.vec).2 ⟨y,by simp,by omega,by omega,rfl⟩
    rcases List.mem_cons.1 hz with rfl | hz
    ·omega
    ·rw [Ba,Bool.and_eq_true] at h1
     cases l with
     | nil=>cases hz
     | cons w l =>
      have g1:=h1.2
      have g3:=Ej g1
      rw [Ba,Bool.and_eq_true,Bool.and_eq_true,D9,Bool.and_eq_true,decide_eq_true_eq] at g1
      have g2:x.span.hi < w.span.lo:=g1.1.1.1
      have g4:¬ (x.span.hi+1=w.span.lo/\x.vec=w.vec):=by
       have:=g1.1.1.2
       simp only [Ew,Bool.not_eq_true',Bool.and_eq_false_iff,decide_eq_false_iff_not] at this
       exact Decidable.not_and_iff_or_not.2 this
      rcases List.mem_cons.1 hz with rfl | hz
      ·exact g4 ⟨by omega,by rw [e2,h6]⟩
      ·have:=(List.pairwise_cons.1 g3.1).1 z hz
       have:=(g3.2 w (by simp)).2
       omega
   ·exact h3
  have e3:x.span.hi=y.span.hi:=Int.le_antisymm (le h2 h1 (fun o v=>(h o v).symm) e1.symm e2.symm) (le h1 h2 h e1 e2)
  have e:x=y:=by
   obtain ⟨⟨xl,xh⟩,xv⟩:=x
   obtain ⟨⟨yl,yh⟩,yv⟩:=y
   simp only at e1 e2 e3
   subst e1 e2 e3
   rfl
  subst e
  rw [Ba,Bool.and_eq_true] at h1 h2
  congr 1
  refine Ue h1.2 h2.2 fun o v=>?_
  have hh:=h o v
  rw [show x :: l=[x]++l from rfl,show x :: m=[x]++m from rfl,Gi,Gi,Sd] at hh
  constructor
  ·intro hi
   rcases hh.1 (.inr hi) with h7 | h7
   ·obtain ⟨z,hz,h8,_⟩:=hi
    have:=b1 z hz;omega
   ·exact h7
  ·intro hi
   rcases hh.2 (.inr hi) with h7 | h7
   ·obtain ⟨z,hz,h8,_⟩:=hi
    have:=c1 z hz;omega
   ·exact h7
def Qe (f:Nat->Option (List Ab)):Nat->List At
 | 0=>[]
 | n+1=>Qe f n++(match f n with | some v=>[⟨⟨(n:Nat),(n:Nat)⟩,v⟩] | none=>[])
theorem Ay8 {f:Nat->Option (List Ab)} : ∀ {n:Nat} {o:Int} {v:List Ab},InZ (Qe f n) o v↔∃ k:Nat,k < n/\o=k/\f k=some v
 | 0,o,v=>by simp [Qe,InZ]
 | n+1,o,v=>by
  rw [Qe,Gi,Ay8]
  constructor
  ·rintro (⟨k,h1,h2⟩ | h)
   ·exact ⟨k,by omega,h2⟩
   ·cases hf:f n with
    | none=>rw [hf] at h;simp [InZ] at h
    | some u =>
     rw [hf,Sd] at h
     simp only at h
     exact ⟨n,by omega,by omega,by rw [hf,h.2.2]⟩
  ·rintro ⟨k,h1,h2,h3⟩
   rcases Nat.lt_or_ge k n with h | h
   ·exact .inl ⟨k,h,h2,h3⟩
   ·obtain rfl:k=n:=by omega
    right
    rw [h3,Sd]
    exact ⟨by simp;omega,by simp;omega,rfl⟩
theorem Ay9 {f:Nat->Option (List Ab)} (hf:∀ o v,f o=some v->Ak v=true):∀ n,n<=256->Rs (Qe f n)/\∀ x∈Qe f n,x.span.hi < n:=by
 intro n
 induction n with
 | zero=>exact fun _=>⟨⟨.nil,fun x hx=>by cases hx⟩,fun x hx=>by cases hx⟩
 | succ n ih =>
  intro hn
  obtain ⟨⟨h1,h2⟩,h3⟩:=ih (by omega)
  rw [Qe]
  cases h:f n with
  | none=>rw [List.append_nil];exact ⟨⟨h1,h2⟩,fun x hx=>by have:=h3 x hx;omega⟩
  | some v =>
   refine ⟨⟨List.pairwise_append.2 ⟨h1,by simp,fun x hx y hy=>?_⟩,fun x hx=>?_⟩,fun x hx=>?_⟩
   ·rw [List.mem_singleton.1 hy];exact h3 x hx
   ·rcases List.mem_append.1 hx with hx | hx
    ·exact h2 x hx
    ·rw [List.mem_singleton.1 hx]
     simp only [Cj,Bool.and_eq_true,decide_eq_true_eq]
     exact ⟨by omega,⟨Int.le_refl _,by omega⟩,hf n v h⟩
   ·rcases List.mem_append.1 hx with hx | hx
    ·have:=h3 x hx;omega
    ·rw [List.mem_singleton.1 hx];simp only;omega
def Gx (f:Nat->Option (List Ab)):List At:=Kt (Qe f 256)
theorem B22 {f:Nat->Option (List Ab)} (hf:∀ o v,f o=some v->Ak v=true) (n:Nat) (hn:n<=256):Az (Kt (Qe f n))=true/\∀ o v,InZ (Kt (Qe f n)) o v↔∃ k:Nat,k < n/\o=k/\f k=some v:=by
 obtain ⟨h1,h2⟩:=Vk (Ay9 hf n hn).1
 exact ⟨h1,fun o v=>(h2 o v).trans Ay8⟩
theorem Pg {f:Nat->Option (List Ab)} (hf:∀ o v,f o=some v->Ak v=true):Az (Gx f)=true/\∀ o v,InZ (Gx f) o v↔∃ k:Nat,k < 256/\o=k/\f k=some v:=B22 hf 256 (Nat.le_refl _)
theorem C12 {f:Nat->Option (List Ab)} (hf:∀ o v,f o=some v->Ak v=true) {s:List At} (hs:Rs s) (h:∀ o v,InZ s o v↔∃ k:Nat,k < 256/\o=k/\f k=some v):Kt s=Gx f:=by
 obtain ⟨h1,h2⟩:=Vk hs
 obtain ⟨Z,hZ⟩ : ∃ Z,Gx f=Z:=⟨_,rfl⟩
 have hz:=Pg hf
 rw [hZ] at hz ⊢
 exact Ue h1 hz.1 fun o v=>((h2 o v).trans (h o v)).trans (hz.2 o v).symm
-- what the document says, object by object
def F1 (v:List Ab) (n:Bc) (k:Nat):Int:=if Aa n.start k<=Aa v k then max (Aa v k) (Aa n.end_ k) else Aa v k
def Jj (v:List Ab) (n:Bc):List Ab:=Fi (F1 v n)
def Ld (v:List Ab) (n:Bc) (o:Int):List Ab:=match Jr n.writes o with
 | some w=>if E4 (Jj v n) w.stamp=true then Jj v n else v
 | none=>Jj v n
def Ex (z:List At) (known:List Ab) (n:Bc) (o:Nat):List Ab:=if Bm n.blur o=true then Cw z known o else Ld (Cw z known o) n o
def Ct (known:List Ab) (n:Bc):List Ab:=Di [known,n.end_]
def Fy (z:List At) (known:List Ab) (n:Bc) (o:Nat):Option (List Ab):=if Aw (Ex z known n o) (Ct known n)=true then none else some (Ex z known n o)
def Qn (z:List At) (known:List Ab) (n:Bc):Bool:=Az z&&Ak known&&Ax n
def Jv (z:List At) (known:List Ab) (n:Bc):List At×List Ab×Int :=
 if Qn z known n=true then (if Aw known n.start=true then (Gx (Fy z known n),Ct known n,0) else ([],[],3)) else ([],[],1)
-- what the program does, piece by piece
def Mn (a b:List Ao):List Ao:=Fa fun o=>Bm a o&&!Bm b o
def Hc (far:List Ab) (s:List Ao) (w:Ap):List Ao:=if E4 far w.stamp=true then s else En (s++En (Nn [w.object]))
def Ha (n:Bc) (far:List Ab):List Ao:=n.writes.foldl (Hc far) n.blur
def Sk (now:List Ab) (l:List Ao) (v:List Ab):List At:=if Aw v now=true then [] else l.map fun s=>⟨s,v⟩
def Mj (n:Bc) (now:List Ab) (x:At):List At:=Sk now (J9 [x.span] (Ha n (Jj x.vec n))) x.vec++Sk now (Mn [x.span] (Ha n (Jj x.vec n))) (Jj x.vec n)
def Jw (n:Bc) (now:List Ab) (l:List At):List At:=l.flatMap (Mj n now)
theorem B37 (n:Bc) (now:List Ab) (l:List At) (x:At):Jw n now (l++[x])=Jw n now l++Mj n now x:=by simp [Jw]
theorem Aq3 {far:List Ab} : ∀ (l:List Ap) (s:List Ao) {o:Nat},o < 256->Bm (l.foldl (Hc far) s) o=(Bm s o || l.any fun w=>!E4 far w.stamp&&decide (w.object=o))
 | [],s,o,_=>by simp
 | w :: l,s,o,ho=>by
  rw [List.foldl_cons,Aq3 l _ ho,List.any_cons]
  unfold Hc
  split
  ·rename_i h;simp [h]
  ·rename_i h
   rw [show En (s++En (Nn [w.object]))=Fa fun o=>Bm (s++En (Nn [w.object])) o from rfl,Hf _ ho,D7,show En (Nn [w.object])=Fa fun o=>Bm (Nn [w.object]) o from rfl,Hf _ ho,Bp0]
   simp [h,Bool.or_assoc]
theorem A41 {x:Bc} (h:Ax x=true) {o:Int} {w:Ap} : Jr x.writes o=some w↔w∈x.writes/\w.object=o:=by
 have hp:=(Qi.1 (R2.1 h).2.2.2.2).2
 unfold Jr
 constructor
 ·intro hh
  exact ⟨List.mem_of_find?_eq_some hh,by simpa using List.find?_some hh⟩
 ·rintro ⟨h1,h2⟩
  cases hf:x.writes.find? (fun w=>decide (w.object=o)) with
  | none=>have:=List.find?_eq_none.1 hf w h1;simp [h2] at this
  | some u =>
   have h3:=List.mem_of_find?_eq_some hf
   have h4:u.object=o:=by simpa using List.find?_some hf
   by_cases e:u=w
   ·rw [e]
   ·obtain ⟨i,hi,rfl⟩:=List.mem_iff_getElem.1 h1
    obtain ⟨j,hj,rfl⟩:=List.mem_iff_getElem.1 h3
    rcases Nat.lt_trichotomy i j with h5 | h5 | h5
    ·have:=List.pairwise_iff_getElem.1 hp i j hi hj h5;omega
    ·subst h5;exact absurd rfl e
    ·have:=List.pairwise_iff_getElem.1 hp j i hj hi h5;omega
theorem Zq {n:Bc} (h:Ax n=true) (v:List Ab) {o:Nat} (ho:o < 256):(if Bm (Ha n (Jj v n)) o=true then v else Jj v n)=if Bm n.blur o=true then v else Ld v n o:=by
 unfold Ha
 rw [Aq3 _ _ ho]
 cases hb:Bm n.blur o with
 | true=>simp
 | false =>
  simp only [Bool.false_or,Bool.false_eq_true,if_false]
  unfold Ld
  cases hg:Jr n.writes o with
  | none =>
   have:(n.writes.any fun w=>!E4 (Jj v n) w.stamp&&decide (w.object=(o:Int)))=false:=by
    rw [List.any_eq_false]
    intro w hw hh
    simp only [Bool.and_eq_true,decide_eq_true_eq] at hh
    have:=(A41 h).2 ⟨hw,hh.2⟩
    rw [hg] at this;cases this
   rw [this];simp
  | some w =>
   obtain ⟨h1,h2⟩:=(A41 h).1 hg
   have:(n.writes.any fun w=>!E4 (Jj v n) w.stamp&&decide (w.object=(o:Int)))=!E4 (Jj v n) w.stamp:=by
    rw [Bool.eq_iff_iff,List.any_eq_true]
    constructor
    ·rintro ⟨u,hu,hh⟩
     simp only [Bool.and_eq_true,decide_eq_true_eq] at hh
     have:=(A41 h).2 ⟨hu,hh.2⟩
     rw [hg] at this
     cases this
     exact hh.1
    ·intro hh
     exact ⟨w,h1,by simp [hh,h2]⟩
   rw [this]
   simp only
   cases E4 (Jj v n) w.stamp<;>simp
theorem Bi4 {now:List Ab} {l:List Ao} {v u:List Ab} {o:Int} : InZ (Sk now l v) o u↔Bm l o=true/\v=u/\Aw v now=false:=by
 unfold Sk
 cases hc:Aw v now with
 | true=>simp [InZ]
 | false =>
  simp only [Bool.false_eq_true,if_false,and_true]
  rw [Ml]
  unfold InZ
  constructor
  ·rintro ⟨x,hx,h1,h2,h3⟩
   obtain ⟨s,hs,rfl⟩:=List.mem_map.1 hx
   exact ⟨⟨s,hs,h1,h2⟩,h3⟩
  ·rintro ⟨⟨s,hs,h1,h2⟩,h3⟩
   exact ⟨⟨s,v⟩,List.mem_map_of_mem hs,h1,h2,h3⟩
theorem P3 {s:Ao} {o:Int} : Bm [s] o=true↔s.lo<=o/\o<=s.hi:=by simp [Bm]
theorem Ki {f:Nat->Bool} {o:Int} (h:Bm (Fa f) o=true):∃ k:Nat,k < 256/\o=k/\f k=true:=by
 obtain ⟨h0,h1⟩:=C7 (C5 f) h
 obtain ⟨k,rfl⟩ : ∃ k:Nat,o=k:=⟨o.toNat,by omega⟩
 have:=(M4 f k).1 h
 exact ⟨k,this.1,rfl,this.2⟩
theorem Ab8 {n:Bc} (h:Ax n=true) {now:List Ab} {x:At} {o:Int} {u:List Ab} : InZ (Mj n now x) o u↔∃ k:Nat,k < 256/\o=k/\(x.span.lo<=k/\(k:Int)<=x.span.hi)/\(if Bm n.blur k=true then x.vec else Ld x.vec n k)=u/\Aw u now=false:=by
 unfold Mj
 rw [Gi,Bi4,Bi4]
 unfold J9 Mn
 constructor
 ·rintro (⟨h1,rfl,h3⟩ | ⟨h1,rfl,h3⟩)
  ·obtain ⟨k,hk,rfl,h4⟩:=Ki h1
   simp only [Bool.and_eq_true,P3] at h4
   refine ⟨k,hk,rfl,h4.1,?_,h3⟩
   rw [<-Zq h x.vec hk,if_pos h4.2]
  ·obtain ⟨k,hk,rfl,h4⟩:=Ki h1
   simp only [Bool.and_eq_true,P3,Bool.not_eq_true'] at h4
   refine ⟨k,hk,rfl,h4.1,?_,h3⟩
   rw [<-Zq h x.vec hk,if_neg (by rw [h4.2];simp)]
 ·rintro ⟨k,hk,rfl,h1,h2,h3⟩
  rw [<-Zq h x.vec hk] at h2
  cases hs:Bm (Ha n (Jj x.vec n)) k with
  | true =>
   rw [if_pos hs] at h2
   subst h2
   exact .inl ⟨by rw [Hf _ hk,Bool.and_eq_true];exact ⟨P3.2 h1,hs⟩,rfl,h3⟩
  | false =>
   rw [if_neg (by rw [hs];simp)] at h2
   subst h2
   exact .inr ⟨by rw [Hf _ hk,Bool.and_eq_true,hs];exact ⟨P3.2 h1,rfl⟩,rfl,h3⟩
def Off (x y:At):Prop:=x.span.hi < y.span.lo\/y.span.hi < x.span.lo
theorem X7:∀ {l:List Ao} {e:Int},Bb e l=true->l.Pairwise fun a b=>a.hi < b.lo
 | [],_,_=>.nil
 | s :: l,e,h=>by
  obtain ⟨h1,h2⟩:=Be.1 h
  refine .cons (fun t ht=>?_) (X7 h2)
  have:Bm l t.lo=true:=Ml.2 ⟨t,ht,Int.le_refl _,(formed_all' h2 t ht)⟩
  have:=(C7 h2 this).1
  omega
where formed_all':∀ {l:List Ao} {e:Int},Bb e l=true->∀ t∈l,t.lo<=t.hi
 | s :: l,e,h,t,ht=>by
  obtain ⟨h1,h2⟩:=Be.1 h
  rcases List.mem_cons.1 ht with rfl | ht
  ·omega
  ·exact formed_all' h2 t ht
theorem Az2 {now:List Ab} {f:Nat->Bool} {v:List Ab} : (Sk now (Fa f) v).Pairwise Off:=by
 unfold Sk
 split
 ·exact .nil
 ·rw [List.pairwise_map]
  exact (X7 (C5 f)).imp fun h=>.inl h
theorem A52 {now:List Ab} {f:Nat->Bool} {v:List Ab} {x:At} (h:x∈Sk now (Fa f) v):0<=x.span.lo/\x.span.lo<=x.span.hi/\x.span.hi<=255/\x.vec=v/\∀ o:Int,x.span.lo<=o->o<=x.span.hi->Bm (Fa f) o=true:=by
 unfold Sk at h
 split at h
 ·cases h
 ·obtain ⟨s,hs,rfl⟩:=List.mem_map.1 h
  have h2:∀ o:Int,s.lo<=o->o<=s.hi->Bm (Fa f) o=true:=fun o h1 h2=>Ml.2 ⟨s,hs,h1,h2⟩
  have h3:=X7.formed_all' (C5 f) s hs
  have h4:=C7 (C5 f) (h2 s.lo (Int.le_refl _) h3)
  have h5:=C7 (C5 f) (h2 s.hi h3 (Int.le_refl _))
  exact ⟨h4.2.1,h3,h5.2.2,rfl,h2⟩
theorem Bz1 {x y:At} (h1:x.span.lo<=x.span.hi) (h2:y.span.lo<=y.span.hi) (h:∀ o:Int,x.span.lo<=o->o<=x.span.hi->y.span.lo<=o->o<=y.span.hi->False):Off x y:=by
 unfold Off
 by_cases a:x.span.hi < y.span.lo
 ·exact .inl a
 ·by_cases b:y.span.hi < x.span.lo
  ·exact .inr b
  ·exact (h (max x.span.lo y.span.lo) (by omega) (by omega) (by omega) (by omega)).elim
theorem Ty {n:Bc} {now:List Ab} {x y:At} (hv:Ak x.vec=true) (h:y∈Mj n now x):0<=y.span.lo/\Cj y=true/\∀ o:Int,y.span.lo<=o->o<=y.span.hi->x.span.lo<=o/\o<=x.span.hi:=by
 have go:∀ {f:Nat->Bool} {v:List Ab},Ak v=true->(∀ k:Nat,f k=true->x.span.lo<=k/\(k:Int)<=x.span.hi)->y∈Sk now (Fa f) v->0<=y.span.lo/\Cj y=true/\∀ o:Int,y.span.lo<=o->o<=y.span.hi->x.span.lo<=o/\o<=x.span.hi:=by
  intro f v hv hf hy
  obtain ⟨h1,h2,h3,h4,h5⟩:=A52 hy
  refine ⟨h1,?_,fun o a b=>?_⟩
  ·simp only [Cj,Bool.and_eq_true,decide_eq_true_eq]
   exact ⟨⟨h2,h3⟩,by rw [h4];exact hv⟩
  ·obtain ⟨k,_,rfl,hk⟩:=Ki (h5 o a b)
   exact hf k hk
 unfold Mj J9 Mn at h
 rcases List.mem_append.1 h with h | h
 ·exact go hv (fun k hk=>P3.1 (Bool.and_eq_true _ _ ▸ hk).1) h
 ·exact go (J0 _) (fun k hk=>P3.1 (Bool.and_eq_true _ _ ▸ hk).1) h
theorem B74 {n:Bc} {now:List Ab} {x:At} : (Mj n now x).Pairwise Off:=by
 unfold Mj J9 Mn
 refine List.pairwise_append.2 ⟨Az2,Az2,fun a ha b hb=>?_⟩
 obtain ⟨_,a2,_,_,a5⟩:=A52 ha
 obtain ⟨_,b2,_,_,b5⟩:=A52 hb
 refine Bz1 a2 b2 fun o c1 c2 d1 d2=>?_
 obtain ⟨k,hk,rfl,e1⟩:=Ki (a5 o c1 c2)
 obtain ⟨j,hj,e,e2⟩:=Ki (b5 _ d1 d2)
 obtain rfl:k=j:=by omega
 simp only [Bool.and_eq_true,Bool.not_eq_true'] at e1 e2
 rw [e1.2] at e2
 exact absurd e2.2 (by simp)
theorem Wi {n:Bc} {now:List Ab} : ∀ {l:List At},l.Pairwise (fun x y=>x.span.hi < y.span.lo)->(∀ x∈l,Ak x.vec=true)->(Jw n now l).Pairwise Off
 | [],_,_=>.nil
 | x :: l,h,hv=>by
  obtain ⟨h1,h2⟩:=List.pairwise_cons.1 h
  rw [Jw,List.flatMap_cons]
  refine List.pairwise_append.2 ⟨B74,Wi h2 fun y hy=>hv y (List.mem_cons_of_mem _ hy),fun a ha b hb=>?_⟩
  obtain ⟨y,hy,hb⟩:=List.mem_flatMap.1 hb
  obtain ⟨_,a2,a3⟩:=Ty (hv x (by simp)) ha
  obtain ⟨_,b2,b3⟩:=Ty (hv y (List.mem_cons_of_mem _ hy)) hb
  simp only [Cj,Bool.and_eq_true,decide_eq_true_eq] at a2 b2
  refine Bz1 a2.1.1 b2.1.1 fun o c1 c2 d1 d2=>?_
  have:=a3 o c1 c2
  have:=b3 o d1 d2
  have:=h1 y hy
  omega
theorem Aa1 {n:Bc} {now:List Ab} {l:List At} (hv:∀ x∈l,Ak x.vec=true) {y:At} (h:y∈Jw n now l):0<=y.span.lo/\Cj y=true:=by
 obtain ⟨x,hx,h⟩:=List.mem_flatMap.1 h
 have:=Ty (hv x hx) h
 exact ⟨this.1,this.2.1⟩
theorem Us {s l:List At} (hp:s.Perm l) (hs:s.Pairwise fun a b=>a.span.lo<=b.span.lo) (ho:l.Pairwise Off) (hm:∀ x∈l,0<=x.span.lo/\Cj x=true):Rs s:=by
 refine ⟨?_,fun x hx=>hm x (hp.mem_iff.1 hx)⟩
 have h1:s.Pairwise Off:=ho.perm hp.symm fun h=>h.symm
 refine (hs.and h1).imp_of_mem fun {a b} ha hb h=>?_
 have h3:=(hm a (hp.mem_iff.1 ha)).2
 have h4:=(hm b (hp.mem_iff.1 hb)).2
 simp only [Cj,Bool.and_eq_true,decide_eq_true_eq] at h3 h4
 rcases h.2 with h2 | h2
 ·exact h2
 ·have:=h.1;omega
theorem C16 {s l:List At} (hp:s.Perm l) {o:Int} {v:List Ab} : InZ s o v↔InZ l o v:=⟨fun ⟨x,hx,h⟩=>⟨x,hp.mem_iff.1 hx,h⟩,fun ⟨x,hx,h⟩=>⟨x,hp.mem_iff.2 hx,h⟩⟩
theorem Ta {z:List At} {known:List Ab} (hz:Az z=true) (hk:Ak known=true):(∀ x∈Dg z known,Ak x.vec=true)/\(Dg z known).Pairwise fun x y=>x.span.hi < y.span.lo:=by
 have hu:∀ i,i<=z.length->((∀ x∈Gm z known i,Ak x.vec=true/\x.span.hi<=Bq (z.take i).getLast?)/\(Gm z known i).Pairwise fun x y=>x.span.hi < y.span.lo):=by
  intro i
  induction i with
  | zero=>exact fun _=>⟨fun x hx=>by simp [Gm] at hx,by simp [Gm]⟩
  | succ i ih =>
   intro hi
   obtain ⟨h1,h2⟩:=ih (by omega)
   have hlt:=C32 hz (i:=i) (by omega)
   have hle:=Yv hz (i:=i) (by omega)
   have hve:Ak z[i].vec=true:=by
    have:=Gr hz z[i] (List.getElem_mem (by omega))
    simp only [Cj,Bool.and_eq_true] at this
    exact this.2
   have he:Bq (z.take (i+1)).getLast? = z[i].span.hi:=by rw [Z5 (l:=z) (by omega) (by omega)];rfl
   rw [Ns (by omega)]
   have hgap:∀ x∈A43 known (z.take i).getLast? z[i],x.vec=known/\x.span.hi < z[i].span.lo/\Bq (z.take i).getLast? < x.span.lo/\x.span.lo<=x.span.hi:=by
    intro x hx
    unfold A43 at hx
    split at hx
    ·rw [List.mem_singleton] at hx
     rw [hx]
     refine ⟨rfl,?_,?_,?_⟩<;>simp only<;>omega
    ·cases hx
   refine ⟨fun x hx=>?_,?_⟩
   ·rw [he]
    rw [List.mem_append,List.mem_append,List.mem_singleton] at hx
    rcases hx with hx | hx | hx
    ·have:=h1 x hx;exact ⟨this.1,by omega⟩
    ·have:=hgap x hx;exact ⟨by rw [this.1];exact hk,by omega⟩
    ·rw [hx];exact ⟨hve,Int.le_refl _⟩
   ·refine List.pairwise_append.2 ⟨h2,List.pairwise_append.2 ⟨?_,by simp,fun a ha b hb=>?_⟩,fun a ha b hb=>?_⟩
    ·unfold A43;split<;>simp
    ·rw [List.mem_singleton.1 hb];exact (hgap a ha).2.1
    ·have:=(h1 a ha).2
     rcases List.mem_append.1 hb with hb | hb
     ·have:=hgap b hb;omega
     ·rw [List.mem_singleton.1 hb];omega
 obtain ⟨h1,h2⟩:=hu _ (Nat.le_refl _)
 rw [List.take_length] at h1
 unfold Dg
 refine ⟨fun x hx=>?_,List.pairwise_append.2 ⟨h2,?_,fun a ha b hb=>?_⟩⟩
 ·rcases List.mem_append.1 hx with hx | hx
  ·exact (h1 x hx).1
  ·unfold Qd at hx
   split at hx
   ·rw [List.mem_singleton] at hx;rw [hx];exact hk
   ·cases hx
 ·unfold Qd;split<;>simp
 ·have:=(h1 a ha).2
  unfold Qd at hb
  split at hb
  ·rw [List.mem_singleton] at hb;rw [hb];simp only;omega
  ·cases hb
theorem Nz {z:List At} {known:List Ab} (hz:Az z=true) (hk:Ak known=true) (n:Bc) (o:Nat):Ak (Ex z known n o)=true:=by
 have h1:Ak (Cw z known o)=true:=by
  unfold Cw
  split
  ·rename_i x hx
   have:=Gr hz x (List.mem_of_find?_eq_some hx)
   simp only [Cj,Bool.and_eq_true] at this
   exact this.2
  ·exact hk
 unfold Ex
 split
 ·exact h1
 ·unfold Ld
  split
  ·split
   ·exact J0 _
   ·exact h1
  ·exact J0 _
theorem Hz {z:List At} {known:List Ab} (hz:Az z=true) (hk:Ak known=true) (n:Bc):∀ o v,Fy z known n o=some v->Ak v=true:=fun o v h=>by
 unfold Fy at h
 split at h
 ·cases h
 ·rw [<-Option.some.inj h];exact Nz hz hk n o
theorem Bk8 {z:List At} {known:List Ab} {n:Bc} (h:Qn z known n=true) {s:List At} (hp:s.Perm (Jw n (Ct known n) (Dg z known))) (hs:s.Pairwise fun a b=>a.span.lo<=b.span.lo):Kt s=Gx (Fy z known n):=by
 simp only [Qn,Bool.and_eq_true] at h
 obtain ⟨⟨hz,hk⟩,hn⟩:=h
 obtain ⟨hv,hpw⟩:=Ta hz hk
 refine C12 (Hz hz hk n) (Us hp hs (Wi hpw hv) fun x hx=>Aa1 hv hx) fun o v=>?_
 rw [C16 hp]
 constructor
 ·rintro ⟨y,hy,h1⟩
  obtain ⟨x,hx,hy⟩:=List.mem_flatMap.1 hy
  obtain ⟨k,hk,rfl,h2,h3,h4⟩:=(Ab8 hn).1 ⟨y,hy,h1⟩
  refine ⟨k,hk,rfl,?_⟩
  have:=Y0 hz known x hx k h2.1 h2.2
  unfold Fy Ex
  rw [this,h3,h4]
  simp
 ·rintro ⟨k,hk,rfl,h1⟩
  obtain ⟨x,hx,h2⟩:=By6 hz known (o:=(k:Int)) (by omega) (by omega)
  have h3:=Y0 hz known x hx k h2.1 h2.2
  unfold Fy at h1
  split at h1
  ·cases h1
  ·rename_i hc
   have h1:=Option.some.inj h1
   rw [<-h1]
   unfold Ex at hc ⊢
   rw [h3] at hc ⊢
   obtain ⟨y,hy,h4⟩:=(Ab8 (n:=n) (now:=Ct known n) (x:=x) (o:=k) hn).2 ⟨k,hk,rfl,h2,rfl,by simpa using hc⟩
   exact ⟨y,List.mem_flatMap.2 ⟨x,hx,hy⟩,h4⟩
end Go.Proofs.YtblfjaedaijfoaaGreatDoor
