/- A note is taken: the pieces' zones are the objects' zones. No program is known here. -/
import Derived.Test.YthlgnjlpakimaaaGreatDoorVSinceSame
set_option linter.all false
set_option linter.unnecessarySimpa false
set_option linter.unusedSimpArgs false
set_option linter.unusedVariables false
namespace Go.Proofs.YthlgnjlpakimaaaGreatDoor
def InZ (l:List Ao) (o:Int) (v:List Aa):Prop:=∃ x∈l,x.span.lo<=o/\o<=x.span.hi/\x.vec=v
theorem Gc {l m:List Ao} {o:Int} {v:List Aa} : InZ (l++m) o v↔InZ l o v\/InZ m o v:=by
 unfold InZ
 constructor
 ·rintro ⟨x,hx,h⟩
  rcases List.mem_append.1 hx with hx | hx
  ·exact .inl ⟨x,hx,h⟩
  ·exact .inr ⟨x,hx,h⟩
 ·rintro (⟨x,hx,h⟩ | ⟨x,hx,h⟩)
  ·exact ⟨x,List.mem_append_left _ hx,h⟩
  ·exact ⟨x,List.mem_append_right _ hx,h⟩
theorem T4 {x:Ao} {o:Int} {v:List Aa} : InZ [x] o v↔x.span.lo<=o/\o<=x.span.hi/\x.vec=v:=by simp [InZ]
def Pu (out:List Ao) (x:Ao):List Ao :=
 match out.getLast? with
 | some y=>if y.span.hi+1=x.span.lo/\y.vec=x.vec then out.dropLast++[⟨⟨y.span.lo,x.span.hi⟩,y.vec⟩] else out++[x]
 | none=>out++[x]
def Kn (l:List Ao):List Ao:=l.foldl Pu []
theorem A26 (l:List Ao) (x:Ao):Kn (l++[x])=Pu (Kn l) x:=by simp [Kn]
structure Nr (s l:List Ao):Prop where
 formed:B6 none l=true
 mem:∀ o v,InZ l o v↔InZ s o v
 last:Bb l.getLast? = Bb s.getLast?
 len:l.length<=s.length
theorem Nr.nil:Nr [] []:=⟨rfl,fun _ _=>Iff.rfl,rfl,Nat.le_refl _⟩
theorem Md {l:List Ao} {x:Ao} : B6 none (l++[x])=(B6 none l&&(Dc l.getLast? x&&Ch x)):=by
 rw [Ew,B6,B6,Bool.and_true,Option.or_none]
theorem Nr.step {s l:List Ao} {x:Ao} (h:Nr s l) (h1:Bb s.getLast? < x.span.lo) (h2:Ch x=true):Nr (s++[x]) (Pu l x):=by
 obtain ⟨a,b,c,d⟩:=h
 rw [<-c] at h1
 have hplain:Ex l.getLast? x=false->Nr (s++[x]) (l++[x]):=fun ht=>by
  refine ⟨?_,fun o v=>by rw [Gc,Gc,b],by rw [List.getLast?_concat,List.getLast?_concat],by simp;exact d⟩
  rw [Md,a,h2,Dc,ht]
  simp [h1]
 unfold Pu
 split
 ·rename_i y hy
  split
  ·rename_i he
   obtain ⟨e1,e2⟩:=he
   have hl:=Pt hy
   obtain ⟨D,hD⟩ : ∃ D,l.dropLast=D:=⟨_,rfl⟩
   rw [hD] at hl ⊢
   subst hl
   rw [Md,Bool.and_eq_true,Bool.and_eq_true] at a
   obtain ⟨a1,a2,a3⟩:=a
   simp only [Ch,Bool.and_eq_true,decide_eq_true_eq] at a3 h2
   refine ⟨?_,fun o v=>?_,by rw [List.getLast?_concat,List.getLast?_concat];rfl,by simp at d ⊢;omega⟩
   ·rw [Md,a1,Bool.true_and,Bool.and_eq_true]
    refine ⟨a2,?_⟩
    simp only [Ch,Bool.and_eq_true,decide_eq_true_eq]
    exact ⟨⟨by omega,h2.1.2⟩,a3.2⟩
   ·rw [Gc,Gc,<-b,Gc,T4,T4,T4]
    refine Iff.trans ?_ or_assoc.symm
    refine or_congr Iff.rfl ?_
    rw [<-e2]
    simp only
    constructor
    ·rintro ⟨p,q,r⟩
     rcases Int.lt_or_le y.span.hi o with h | h
     ·exact .inr ⟨by omega,q,r⟩
     ·exact .inl ⟨p,h,r⟩
    ·rintro (⟨p,q,r⟩ | ⟨p,q,r⟩)
     ·exact ⟨p,by omega,r⟩
     ·exact ⟨by omega,q,r⟩
  ·rename_i he
   refine hplain ?_
   rw [hy]
   simp only [Ex,Bool.and_eq_false_iff,decide_eq_false_iff_not]
   exact Decidable.not_and_iff_or_not.1 he
 ·rename_i hn
  exact hplain (by rw [hn];rfl)
def Sk (s:List Ao):Prop:=s.Pairwise (fun x y=>x.span.hi < y.span.lo)/\∀ x∈s,0<=x.span.lo/\Ch x=true
theorem Bd7 {s:List Ao} {x:Ao} (h:Sk (s++[x])):Bb s.getLast? < x.span.lo:=by
 cases hs:s.getLast? with
 | none=>have:=(h.2 x (by simp)).1;show (-1:Int) < _;omega
 | some y=>exact (List.pairwise_append.1 h.1).2.2 y (List.mem_of_getLast? hs) x (by simp)
theorem Ab0 {s:List Ao} (h:Sk s):∀ n,n<=s.length->Nr (s.take n) (Kn (s.take n)):=by
 intro n
 induction n with
 | zero=>exact fun _=>Nr.nil
 | succ n ih =>
  intro hn
  have hs:=List.take_succ_eq_append_getElem (show n < s.length from hn)
  have hA:Sk (s.take (n+1)):=⟨h.1.sublist (List.take_sublist _ _),fun x hx=>h.2 x (List.mem_of_mem_take hx)⟩
  rw [hs] at hA
  rw [hs,A26]
  exact (ih (by omega)).step (Bd7 hA) (hA.2 _ (List.mem_append_right _ (List.mem_singleton.2 rfl))).2
theorem Vu {s:List Ao} (h:Sk s):Ay (Kn s)=true/\∀ o v,InZ (Kn s) o v↔InZ s o v:=by
 have:=Ab0 h s.length (Nat.le_refl _)
 rw [List.take_length] at this
 exact ⟨this.formed,this.mem⟩
theorem Uu:∀ {l m:List Ao} {p q:Option Ao},B6 p l=true->B6 q m=true->(∀ o v,InZ l o v↔InZ m o v)->l=m
 | [],[],_,_,_,_,_=>rfl
 | x :: l,[],p,q,h1,_,h=>by
  have:=(E7 h1).2 x (by simp)
  obtain ⟨y,hy,_⟩:=(h x.span.lo x.vec).1 ⟨x,by simp,Int.le_refl _,this.2,rfl⟩
  cases hy
 | [],y :: m,p,q,_,h2,h=>by
  have:=(E7 h2).2 y (by simp)
  obtain ⟨x,hx,_⟩:=(h y.span.lo y.vec).2 ⟨y,by simp,Int.le_refl _,this.2,rfl⟩
  cases hx
 | x :: l,y :: m,p,q,h1,h2,h=>by
  have a1:=E7 h1
  have a2:=E7 h2
  obtain ⟨b1,b2⟩:=List.pairwise_cons.1 a1.1
  obtain ⟨c1,c2⟩:=List.pairwise_cons.1 a2.1
  have hx:=a1.2 x (by simp)
  have hy:=a2.2 y (by simp)
  have go:∀ {x y:Ao} {l m:List Ao} {p q:Option Ao},B6 p (x :: l)=true->B6 q (y :: m)=true->(∀ o v,InZ (x :: l) o v↔InZ (y :: m) o v)->y.span.lo<=x.span.lo:=by
   intro x y l m p q h1 h2 h
   have hx:=(E7 h1).2 x (by simp)
   obtain ⟨z,hz,h3,_⟩:=(h x.span.lo x.vec).1 ⟨x,by simp,Int.le_refl _,hx.2,rfl⟩
   rcases List.mem_cons.1 hz with rfl | hz
   ·exact h3
   ·have:=(List.pairwise_cons.1 (E7 h2).1).1 z hz
    have:=(E7 h2).2 y (by simp)
    omega
  have e1:x.span.lo=y.span.lo:=Int.le_antisymm (go h2 h1 fun o v=>(h o v).symm) (go h1 h2 h)
  have e2:x.vec=y.vec:=by
   obtain ⟨z,hz,h3,h4,h5⟩:=(h x.span.lo x.vec).1 ⟨x,by simp,Int.le_refl _,hx.2,rfl⟩
   rcases List.mem_cons.1 hz with rfl | hz
   ·exact h5.symm
   ·have:=c1 z hz;omega
  have le:∀ {x y:Ao} {l m:List Ao} {p q:Option Ao},B6 p (x :: l)=true->B6 q (y :: m)=true->(∀ o v,InZ (x :: l) o v↔InZ (y :: m) o v)->x.span.lo=y.span.lo->x.vec=y.vec->y.span.hi<=x.span.hi:=by
   intro x y l m p q h1 h2 h e1 e2
   rcases Int.lt_or_le x.span.hi y.span.hi with h3 | h3
   ·exfalso
    have hx:=(E7 h1).2 x (by simp)
    obtain ⟨z,hz,h4,h5,h6⟩:=(h (x.span.hi+1) y.vec).2 ⟨y,by simp,by omega,by omega,rfl⟩
    rcases List.mem_cons.1 hz with rfl | hz
    ·omega
    ·rw [B6,Bool.and_eq_true] at h1
     cases l with
     | nil=>cases hz
     | cons w l =>
      have g1:=h1.2
      have g3:=E7 g1
      rw [B6,Bool.and_eq_true,Bool.and_eq_true,Dc,Bool.and_eq_true,decide_eq_true_eq] at g1
      have g2:x.span.hi < w.span.lo:=g1.1.1.1
      have g4:¬ (x.span.hi+1=w.span.lo/\x.vec=w.vec):=by
       have:=g1.1.1.2
       simp only [Ex,Bool.not_eq_true',Bool.and_eq_false_iff,decide_eq_false_iff_not] at this
       exact Decidable.not_and_iff_or_not.2 this
      rcases List.mem_cons.1 hz with rfl | hz
      ·exact g4 ⟨by omega,by rw [e2,h6]⟩
      ·have:=(List.pairwise_cons.1 g3.1).1 z hz
       have:=(g3.2 w (by simp)).2
       omega
   ·exact h3
  have e3:x.span.hi=y.span.hi:=Int.le_antisymm (le h2 h1 (fun o v=>(h o v).symm) e1.symm e2.symm) (le h1 h2 h e1 e2)
  have e:x=y:=by
   obtain ⟨⟨xl,xh⟩,xv⟩:=x
   obtain ⟨⟨yl,yh⟩,yv⟩:=y
   simp only at e1 e2 e3
   subst e1 e2 e3
   rfl
  subst e
  rw [B6,Bool.and_eq_true] at h1 h2
  congr 1
  refine Uu h1.2 h2.2 fun o v=>?_
  have hh:=h o v
  rw [show x :: l=[x]++l from rfl,show x :: m=[x]++m from rfl,Gc,Gc,T4] at hh
  constructor
  ·intro hi
   rcases hh.1 (.inr hi) with h7 | h7
   ·obtain ⟨z,hz,h8,_⟩:=hi
    have:=b1 z hz;omega
   ·exact h7
  ·intro hi
   rcases hh.2 (.inr hi) with h7 | h7
   ·obtain ⟨z,hz,h8,_⟩:=hi
    have:=c1 z hz;omega
   ·exact h7
def Ra (f:Nat->Option (List Aa)):Nat->List Ao
 | 0=>[]
 | n+1=>Ra f n++(match f n with | some v=>[⟨⟨(n:Nat),(n:Nat)⟩,v⟩] | none=>[])
theorem Aq8 {f:Nat->Option (List Aa)} : ∀ {n:Nat} {o:Int} {v:List Aa},InZ (Ra f n) o v↔∃ k:Nat,k < n/\o=k/\f k=some v
 | 0,o,v=>by simp [Ra,InZ]
 | n+1,o,v=>by
  rw [Ra,Gc,Aq8]
  constructor
  ·rintro (⟨k,h1,h2⟩ | h)
   ·exact ⟨k,by omega,h2⟩
   ·cases hf:f n with
    | none=>rw [hf] at h;simp [InZ] at h
    | some u =>
     rw [hf,T4] at h
     simp only at h
     exact ⟨n,by omega,by omega,by rw [hf,h.2.2]⟩
  ·rintro ⟨k,h1,h2,h3⟩
   rcases Nat.lt_or_ge k n with h | h
   ·exact .inl ⟨k,h,h2,h3⟩
   ·obtain rfl:k=n:=by omega
    right
    rw [h3,T4]
    exact ⟨by simp;omega,by simp;omega,rfl⟩
theorem Aq9 {f:Nat->Option (List Aa)} (hf:∀ o v,f o=some v->Ak v=true):∀ n,n<=256->Sk (Ra f n)/\∀ x∈Ra f n,x.span.hi < n:=by
 intro n
 induction n with
 | zero=>exact fun _=>⟨⟨.nil,fun x hx=>by cases hx⟩,fun x hx=>by cases hx⟩
 | succ n ih =>
  intro hn
  obtain ⟨⟨h1,h2⟩,h3⟩:=ih (by omega)
  rw [Ra]
  cases h:f n with
  | none=>rw [List.append_nil];exact ⟨⟨h1,h2⟩,fun x hx=>by have:=h3 x hx;omega⟩
  | some v =>
   refine ⟨⟨List.pairwise_append.2 ⟨h1,by simp,fun x hx y hy=>?_⟩,fun x hx=>?_⟩,fun x hx=>?_⟩
   ·rw [List.mem_singleton.1 hy];exact h3 x hx
   ·rcases List.mem_append.1 hx with hx | hx
    ·exact h2 x hx
    ·rw [List.mem_singleton.1 hx]
     simp only [Ch,Bool.and_eq_true,decide_eq_true_eq]
     exact ⟨by omega,⟨Int.le_refl _,by omega⟩,hf n v h⟩
   ·rcases List.mem_append.1 hx with hx | hx
    ·have:=h3 x hx;omega
    ·rw [List.mem_singleton.1 hx];simp only;omega
def Ft (f:Nat->Option (List Aa)):List Ao:=Kn (Ra f 256)
theorem At4 {f:Nat->Option (List Aa)} (hf:∀ o v,f o=some v->Ak v=true) (n:Nat) (hn:n<=256):Ay (Kn (Ra f n))=true/\∀ o v,InZ (Kn (Ra f n)) o v↔∃ k:Nat,k < n/\o=k/\f k=some v:=by
 obtain ⟨h1,h2⟩:=Vu (Aq9 hf n hn).1
 exact ⟨h1,fun o v=>(h2 o v).trans Aq8⟩
theorem Q4 {f:Nat->Option (List Aa)} (hf:∀ o v,f o=some v->Ak v=true):Ay (Ft f)=true/\∀ o v,InZ (Ft f) o v↔∃ k:Nat,k < 256/\o=k/\f k=some v:=At4 hf 256 (Nat.le_refl _)
theorem Bk2 {f:Nat->Option (List Aa)} (hf:∀ o v,f o=some v->Ak v=true) {s:List Ao} (hs:Sk s) (h:∀ o v,InZ s o v↔∃ k:Nat,k < 256/\o=k/\f k=some v):Kn s=Ft f:=by
 obtain ⟨h1,h2⟩:=Vu hs
 obtain ⟨Z,hZ⟩ : ∃ Z,Ft f=Z:=⟨_,rfl⟩
 have hz:=Q4 hf
 rw [hZ] at hz ⊢
 exact Uu h1 hz.1 fun o v=>((h2 o v).trans (h o v)).trans (hz.2 o v).symm
-- what the document says, object by object
def Eh (v:List Aa) (n:Aq) (k:Nat):Int:=if A8 n.start k<=A8 v k then max (A8 v k) (A8 n.end_ k) else A8 v k
def Hc (v:List Aa) (n:Aq):List Aa:=Eg (Eh v n)
def J4 (v:List Aa) (n:Aq) (o:Int):List Aa:=match E6 n.writes o with
 | some w=>if Dv (Hc v n) w.stamp=true then Hc v n else v
 | none=>Hc v n
def Cw (z:List Ao) (known:List Aa) (n:Aq) (o:Nat):List Aa:=if Ae n.blur o=true then Bd z known o else J4 (Bd z known o) n o
def Bv (known:List Aa) (n:Aq):List Aa:=Dq [known,n.end_]
def Fc (z:List Ao) (known:List Aa) (n:Aq) (o:Nat):Option (List Aa):=if At (Cw z known n o) (Bv known n)=true then none else some (Cw z known n o)
def Qd (z:List Ao) (known:List Aa) (n:Aq):Bool:=Ay z&&Ak known&&Ag n
def Hj (z:List Ao) (known:List Aa) (n:Aq):List Ao×List Aa×Int :=
 if Qd z known n=true then (if At known n.start=true then (Ft (Fc z known n),Bv known n,0) else ([],[],3)) else ([],[],1)
-- what the program does, piece by piece
def Fp (a b:List Ad):List Ad:=C8 fun o=>Ae a o&&!Ae b o
def Gy (far:List Aa) (s:List Ad) (w:Ai):List Ad:=if Dv far w.stamp=true then s else Ba (s++Ba (Ln [w.object]))
def Gx (n:Aq) (far:List Aa):List Ad:=n.writes.foldl (Gy far) n.blur
def Tb (now:List Aa) (l:List Ad) (v:List Aa):List Ao:=if At v now=true then [] else l.map fun s=>⟨s,v⟩
def Mp (n:Aq) (now:List Aa) (x:Ao):List Ao:=Tb now (Ci [x.span] (Gx n (Hc x.vec n))) x.vec++Tb now (Fp [x.span] (Gx n (Hc x.vec n))) (Hc x.vec n)
def Jr (n:Aq) (now:List Aa) (l:List Ao):List Ao:=l.flatMap (Mp n now)
theorem Au3 (n:Aq) (now:List Aa) (l:List Ao) (x:Ao):Jr n now (l++[x])=Jr n now l++Mp n now x:=by simp [Jr]
theorem Aj3 {far:List Aa} : ∀ (l:List Ai) (s:List Ad) {o:Nat},o < 256->Ae (l.foldl (Gy far) s) o=(Ae s o || l.any fun w=>!Dv far w.stamp&&decide (w.object=o))
 | [],s,o,_=>by simp
 | w :: l,s,o,ho=>by
  rw [List.foldl_cons,Aj3 l _ ho,List.any_cons]
  unfold Gy
  split
  ·rename_i h;simp [h]
  ·rename_i h
   rw [show Ba (s++Ba (Ln [w.object]))=C8 fun o=>Ae (s++Ba (Ln [w.object])) o from rfl,C3 _ ho,Cn,show Ba (Ln [w.object])=C8 fun o=>Ae (Ln [w.object]) o from rfl,C3 _ ho,Aa7]
   simp [h,Bool.or_assoc]
theorem Pw {x:Aq} (h:Ag x=true) {o:Int} {w:Ai} : E6 x.writes o=some w↔w∈x.writes/\w.object=o:=by
 have hp:=(Fv.1 (Cl.1 h).2.2.2.2).2
 unfold E6
 constructor
 ·intro hh
  exact ⟨List.mem_of_find?_eq_some hh,by simpa using List.find?_some hh⟩
 ·rintro ⟨h1,h2⟩
  cases hf:x.writes.find? (fun w=>decide (w.object=o)) with
  | none=>have:=List.find?_eq_none.1 hf w h1;simp [h2] at this
  | some u =>
   have h3:=List.mem_of_find?_eq_some hf
   have h4:u.object=o:=by simpa using List.find?_some hf
   by_cases e:u=w
   ·rw [e]
   ·obtain ⟨i,hi,rfl⟩:=List.mem_iff_getElem.1 h1
    obtain ⟨j,hj,rfl⟩:=List.mem_iff_getElem.1 h3
    rcases Nat.lt_trichotomy i j with h5 | h5 | h5
    ·have:=List.pairwise_iff_getElem.1 hp i j hi hj h5;omega
    ·subst h5;exact absurd rfl e
    ·have:=List.pairwise_iff_getElem.1 hp j i hj hi h5;omega
theorem Zo {n:Aq} (h:Ag n=true) (v:List Aa) {o:Nat} (ho:o < 256):(if Ae (Gx n (Hc v n)) o=true then v else Hc v n)=if Ae n.blur o=true then v else J4 v n o:=by
 unfold Gx
 rw [Aj3 _ _ ho]
 cases hb:Ae n.blur o with
 | true=>simp
 | false =>
  simp only [Bool.false_or,Bool.false_eq_true,if_false]
  unfold J4
  cases hg:E6 n.writes o with
  | none =>
   have:(n.writes.any fun w=>!Dv (Hc v n) w.stamp&&decide (w.object=(o:Int)))=false:=by
    rw [List.any_eq_false]
    intro w hw hh
    simp only [Bool.and_eq_true,decide_eq_true_eq] at hh
    have:=(Pw h).2 ⟨hw,hh.2⟩
    rw [hg] at this;cases this
   rw [this];simp
  | some w =>
   obtain ⟨h1,h2⟩:=(Pw h).1 hg
   have:(n.writes.any fun w=>!Dv (Hc v n) w.stamp&&decide (w.object=(o:Int)))=!Dv (Hc v n) w.stamp:=by
    rw [Bool.eq_iff_iff,List.any_eq_true]
    constructor
    ·rintro ⟨u,hu,hh⟩
     simp only [Bool.and_eq_true,decide_eq_true_eq] at hh
     have:=(Pw h).2 ⟨hu,hh.2⟩
     rw [hg] at this
     cases this
     exact hh.1
    ·intro hh
     exact ⟨w,h1,by simp [hh,h2]⟩
   rw [this]
   simp only
   cases Dv (Hc v n) w.stamp<;>simp
theorem B51 {now:List Aa} {l:List Ad} {v u:List Aa} {o:Int} : InZ (Tb now l v) o u↔Ae l o=true/\v=u/\At v now=false:=by
 unfold Tb
 cases hc:At v now with
 | true=>simp [InZ]
 | false =>
  simp only [Bool.false_eq_true,if_false,and_true]
  rw [Kf]
  unfold InZ
  constructor
  ·rintro ⟨x,hx,h1,h2,h3⟩
   obtain ⟨s,hs,rfl⟩:=List.mem_map.1 hx
   exact ⟨⟨s,hs,h1,h2⟩,h3⟩
  ·rintro ⟨⟨s,hs,h1,h2⟩,h3⟩
   exact ⟨⟨s,v⟩,List.mem_map_of_mem hs,h1,h2,h3⟩
theorem J7 {s:Ad} {o:Int} : Ae [s] o=true↔s.lo<=o/\o<=s.hi:=by simp [Ae]
theorem Hg {f:Nat->Bool} {o:Int} (h:Ae (C8 f) o=true):∃ k:Nat,k < 256/\o=k/\f k=true:=by
 obtain ⟨h0,h1⟩:=Ca (Be f) h
 obtain ⟨k,rfl⟩ : ∃ k:Nat,o=k:=⟨o.toNat,by omega⟩
 have:=(M9 f k).1 h
 exact ⟨k,this.1,rfl,this.2⟩
theorem Aa0 {n:Aq} (h:Ag n=true) {now:List Aa} {x:Ao} {o:Int} {u:List Aa} : InZ (Mp n now x) o u↔∃ k:Nat,k < 256/\o=k/\(x.span.lo<=k/\(k:Int)<=x.span.hi)/\(if Ae n.blur k=true then x.vec else J4 x.vec n k)=u/\At u now=false:=by
 unfold Mp
 rw [Gc,B51,B51]
 unfold Ci Fp
 constructor
 ·rintro (⟨h1,rfl,h3⟩ | ⟨h1,rfl,h3⟩)
  ·obtain ⟨k,hk,rfl,h4⟩:=Hg h1
   simp only [Bool.and_eq_true,J7] at h4
   refine ⟨k,hk,rfl,h4.1,?_,h3⟩
   rw [<-Zo h x.vec hk,if_pos h4.2]
  ·obtain ⟨k,hk,rfl,h4⟩:=Hg h1
   simp only [Bool.and_eq_true,J7,Bool.not_eq_true'] at h4
   refine ⟨k,hk,rfl,h4.1,?_,h3⟩
   rw [<-Zo h x.vec hk,if_neg (by rw [h4.2];simp)]
 ·rintro ⟨k,hk,rfl,h1,h2,h3⟩
  rw [<-Zo h x.vec hk] at h2
  cases hs:Ae (Gx n (Hc x.vec n)) k with
  | true =>
   rw [if_pos hs] at h2
   subst h2
   exact .inl ⟨by rw [C3 _ hk,Bool.and_eq_true];exact ⟨J7.2 h1,hs⟩,rfl,h3⟩
  | false =>
   rw [if_neg (by rw [hs];simp)] at h2
   subst h2
   exact .inr ⟨by rw [C3 _ hk,Bool.and_eq_true,hs];exact ⟨J7.2 h1,rfl⟩,rfl,h3⟩
def Off (x y:Ao):Prop:=x.span.hi < y.span.lo\/y.span.hi < x.span.lo
theorem Xk:∀ {l:List Ad} {e:Int},B7 e l=true->l.Pairwise fun a b=>a.hi < b.lo
 | [],_,_=>.nil
 | s :: l,e,h=>by
  obtain ⟨h1,h2⟩:=B4.1 h
  refine .cons (fun t ht=>?_) (Xk h2)
  have:Ae l t.lo=true:=Kf.2 ⟨t,ht,Int.le_refl _,(formed_all' h2 t ht)⟩
  have:=(Ca h2 this).1
  omega
where formed_all':∀ {l:List Ad} {e:Int},B7 e l=true->∀ t∈l,t.lo<=t.hi
 | s :: l,e,h,t,ht=>by
  obtain ⟨h1,h2⟩:=B4.1 h
  rcases List.mem_cons.1 ht with rfl | ht
  ·omega
  ·exact formed_all' h2 t ht
theorem Ar1 {now:List Aa} {f:Nat->Bool} {v:List Aa} : (Tb now (C8 f) v).Pairwise Off:=by
 unfold Tb
 split
 ·exact .nil
 ·rw [List.pairwise_map]
  exact (Xk (Be f)).imp fun h=>.inl h
theorem A35 {now:List Aa} {f:Nat->Bool} {v:List Aa} {x:Ao} (h:x∈Tb now (C8 f) v):0<=x.span.lo/\x.span.lo<=x.span.hi/\x.span.hi<=255/\x.vec=v/\∀ o:Int,x.span.lo<=o->o<=x.span.hi->Ae (C8 f) o=true:=by
 unfold Tb at h
 split at h
 ·cases h
 ·obtain ⟨s,hs,rfl⟩:=List.mem_map.1 h
  have h2:∀ o:Int,s.lo<=o->o<=s.hi->Ae (C8 f) o=true:=fun o h1 h2=>Kf.2 ⟨s,hs,h1,h2⟩
  have h3:=Xk.formed_all' (Be f) s hs
  have h4:=Ca (Be f) (h2 s.lo (Int.le_refl _) h3)
  have h5:=Ca (Be f) (h2 s.hi h3 (Int.le_refl _))
  exact ⟨h4.2.1,h3,h5.2.2,rfl,h2⟩
theorem Bi9 {x y:Ao} (h1:x.span.lo<=x.span.hi) (h2:y.span.lo<=y.span.hi) (h:∀ o:Int,x.span.lo<=o->o<=x.span.hi->y.span.lo<=o->o<=y.span.hi->False):Off x y:=by
 unfold Off
 by_cases a:x.span.hi < y.span.lo
 ·exact .inl a
 ·by_cases b:y.span.hi < x.span.lo
  ·exact .inr b
  ·exact (h (max x.span.lo y.span.lo) (by omega) (by omega) (by omega) (by omega)).elim
theorem Uc {n:Aq} {now:List Aa} {x y:Ao} (hv:Ak x.vec=true) (h:y∈Mp n now x):0<=y.span.lo/\Ch y=true/\∀ o:Int,y.span.lo<=o->o<=y.span.hi->x.span.lo<=o/\o<=x.span.hi:=by
 have go:∀ {f:Nat->Bool} {v:List Aa},Ak v=true->(∀ k:Nat,f k=true->x.span.lo<=k/\(k:Int)<=x.span.hi)->y∈Tb now (C8 f) v->0<=y.span.lo/\Ch y=true/\∀ o:Int,y.span.lo<=o->o<=y.span.hi->x.span.lo<=o/\o<=x.span.hi:=by
  intro f v hv hf hy
  obtain ⟨h1,h2,h3,h4,h5⟩:=A35 hy
  refine ⟨h1,?_,fun o a b=>?_⟩
  ·simp only [Ch,Bool.and_eq_true,decide_eq_true_eq]
   exact ⟨⟨h2,h3⟩,by rw [h4];exact hv⟩
  ·obtain ⟨k,_,rfl,hk⟩:=Hg (h5 o a b)
   exact hf k hk
 unfold Mp Ci Fp at h
 rcases List.mem_append.1 h with h | h
 ·exact go hv (fun k hk=>J7.1 (Bool.and_eq_true _ _ ▸ hk).1) h
 ·exact go (Ff _) (fun k hk=>J7.1 (Bool.and_eq_true _ _ ▸ hk).1) h
theorem Ax1 {n:Aq} {now:List Aa} {x:Ao} : (Mp n now x).Pairwise Off:=by
 unfold Mp Ci Fp
 refine List.pairwise_append.2 ⟨Ar1,Ar1,fun a ha b hb=>?_⟩
 obtain ⟨_,a2,_,_,a5⟩:=A35 ha
 obtain ⟨_,b2,_,_,b5⟩:=A35 hb
 refine Bi9 a2 b2 fun o c1 c2 d1 d2=>?_
 obtain ⟨k,hk,rfl,e1⟩:=Hg (a5 o c1 c2)
 obtain ⟨j,hj,e,e2⟩:=Hg (b5 _ d1 d2)
 obtain rfl:k=j:=by omega
 simp only [Bool.and_eq_true,Bool.not_eq_true'] at e1 e2
 rw [e1.2] at e2
 exact absurd e2.2 (by simp)
theorem Wr {n:Aq} {now:List Aa} : ∀ {l:List Ao},l.Pairwise (fun x y=>x.span.hi < y.span.lo)->(∀ x∈l,Ak x.vec=true)->(Jr n now l).Pairwise Off
 | [],_,_=>.nil
 | x :: l,h,hv=>by
  obtain ⟨h1,h2⟩:=List.pairwise_cons.1 h
  rw [Jr,List.flatMap_cons]
  refine List.pairwise_append.2 ⟨Ax1,Wr h2 fun y hy=>hv y (List.mem_cons_of_mem _ hy),fun a ha b hb=>?_⟩
  obtain ⟨y,hy,hb⟩:=List.mem_flatMap.1 hb
  obtain ⟨_,a2,a3⟩:=Uc (hv x (by simp)) ha
  obtain ⟨_,b2,b3⟩:=Uc (hv y (List.mem_cons_of_mem _ hy)) hb
  simp only [Ch,Bool.and_eq_true,decide_eq_true_eq] at a2 b2
  refine Bi9 a2.1.1 b2.1.1 fun o c1 c2 d1 d2=>?_
  have:=a3 o c1 c2
  have:=b3 o d1 d2
  have:=h1 y hy
  omega
theorem A76 {n:Aq} {now:List Aa} {l:List Ao} (hv:∀ x∈l,Ak x.vec=true) {y:Ao} (h:y∈Jr n now l):0<=y.span.lo/\Ch y=true:=by
 obtain ⟨x,hx,h⟩:=List.mem_flatMap.1 h
 have:=Uc (hv x hx) h
 exact ⟨this.1,this.2.1⟩
theorem Va {s l:List Ao} (hp:s.Perm l) (hs:s.Pairwise fun a b=>a.span.lo<=b.span.lo) (ho:l.Pairwise Off) (hm:∀ x∈l,0<=x.span.lo/\Ch x=true):Sk s:=by
 refine ⟨?_,fun x hx=>hm x (hp.mem_iff.1 hx)⟩
 have h1:s.Pairwise Off:=ho.perm hp.symm fun h=>h.symm
 refine (hs.and h1).imp_of_mem fun {a b} ha hb h=>?_
 have h3:=(hm a (hp.mem_iff.1 ha)).2
 have h4:=(hm b (hp.mem_iff.1 hb)).2
 simp only [Ch,Bool.and_eq_true,decide_eq_true_eq] at h3 h4
 rcases h.2 with h2 | h2
 ·exact h2
 ·have:=h.1;omega
theorem Bk5 {s l:List Ao} (hp:s.Perm l) {o:Int} {v:List Aa} : InZ s o v↔InZ l o v:=⟨fun ⟨x,hx,h⟩=>⟨x,hp.mem_iff.1 hx,h⟩,fun ⟨x,hx,h⟩=>⟨x,hp.mem_iff.2 hx,h⟩⟩
theorem Tq {z:List Ao} {known:List Aa} (hz:Ay z=true) (hk:Ak known=true):(∀ x∈Dt z known,Ak x.vec=true)/\(Dt z known).Pairwise fun x y=>x.span.hi < y.span.lo:=by
 have hu:∀ i,i<=z.length->((∀ x∈Gf z known i,Ak x.vec=true/\x.span.hi<=Bb (z.take i).getLast?)/\(Gf z known i).Pairwise fun x y=>x.span.hi < y.span.lo):=by
  intro i
  induction i with
  | zero=>exact fun _=>⟨fun x hx=>by simp [Gf] at hx,by simp [Gf]⟩
  | succ i ih =>
   intro hi
   obtain ⟨h1,h2⟩:=ih (by omega)
   have hlt:=B03 hz (i:=i) (by omega)
   have hle:=Uv hz (i:=i) (by omega)
   have hve:Ak z[i].vec=true:=by
    have:=Eu hz z[i] (List.getElem_mem (by omega))
    simp only [Ch,Bool.and_eq_true] at this
    exact this.2
   have he:Bb (z.take (i+1)).getLast? = z[i].span.hi:=by rw [Vz (l:=z) (by omega) (by omega)];rfl
   rw [Pc (by omega)]
   have hgap:∀ x∈A29 known (z.take i).getLast? z[i],x.vec=known/\x.span.hi < z[i].span.lo/\Bb (z.take i).getLast? < x.span.lo/\x.span.lo<=x.span.hi:=by
    intro x hx
    unfold A29 at hx
    split at hx
    ·rw [List.mem_singleton] at hx
     rw [hx]
     refine ⟨rfl,?_,?_,?_⟩<;>simp only<;>omega
    ·cases hx
   refine ⟨fun x hx=>?_,?_⟩
   ·rw [he]
    rw [List.mem_append,List.mem_append,List.mem_singleton] at hx
    rcases hx with hx | hx | hx
    ·have:=h1 x hx;exact ⟨this.1,by omega⟩
    ·have:=hgap x hx;exact ⟨by rw [this.1];exact hk,by omega⟩
    ·rw [hx];exact ⟨hve,Int.le_refl _⟩
   ·refine List.pairwise_append.2 ⟨h2,List.pairwise_append.2 ⟨?_,by simp,fun a ha b hb=>?_⟩,fun a ha b hb=>?_⟩
    ·unfold A29;split<;>simp
    ·rw [List.mem_singleton.1 hb];exact (hgap a ha).2.1
    ·have:=(h1 a ha).2
     rcases List.mem_append.1 hb with hb | hb
     ·have:=hgap b hb;omega
     ·rw [List.mem_singleton.1 hb];omega
 obtain ⟨h1,h2⟩:=hu _ (Nat.le_refl _)
 rw [List.take_length] at h1
 unfold Dt
 refine ⟨fun x hx=>?_,List.pairwise_append.2 ⟨h2,?_,fun a ha b hb=>?_⟩⟩
 ·rcases List.mem_append.1 hx with hx | hx
  ·exact (h1 x hx).1
  ·unfold R8 at hx
   split at hx
   ·rw [List.mem_singleton] at hx;rw [hx];exact hk
   ·cases hx
 ·unfold R8;split<;>simp
 ·have:=(h1 a ha).2
  unfold R8 at hb
  split at hb
  ·rw [List.mem_singleton] at hb;rw [hb];simp only;omega
  ·cases hb
theorem Po {z:List Ao} {known:List Aa} (hz:Ay z=true) (hk:Ak known=true) (n:Aq) (o:Nat):Ak (Cw z known n o)=true:=by
 have h1:Ak (Bd z known o)=true:=by
  unfold Bd
  split
  ·rename_i x hx
   have:=Eu hz x (List.mem_of_find?_eq_some hx)
   simp only [Ch,Bool.and_eq_true] at this
   exact this.2
  ·exact hk
 unfold Cw
 split
 ·exact h1
 ·unfold J4
  split
  ·split
   ·exact Ff _
   ·exact h1
  ·exact Ff _
theorem He {z:List Ao} {known:List Aa} (hz:Ay z=true) (hk:Ak known=true) (n:Aq):∀ o v,Fc z known n o=some v->Ak v=true:=fun o v h=>by
 unfold Fc at h
 split at h
 ·cases h
 ·rw [<-Option.some.inj h];exact Po hz hk n o
theorem B72 {z:List Ao} {known:List Aa} {n:Aq} (h:Qd z known n=true) {s:List Ao} (hp:s.Perm (Jr n (Bv known n) (Dt z known))) (hs:s.Pairwise fun a b=>a.span.lo<=b.span.lo):Kn s=Ft (Fc z known n):=by
 simp only [Qd,Bool.and_eq_true] at h
 obtain ⟨⟨hz,hk⟩,hn⟩:=h
 obtain ⟨hv,hpw⟩:=Tq hz hk
 refine Bk2 (He hz hk n) (Va hp hs (Wr hpw hv) fun x hx=>A76 hv hx) fun o v=>?_
 rw [Bk5 hp]
 constructor
 ·rintro ⟨y,hy,h1⟩
  obtain ⟨x,hx,hy⟩:=List.mem_flatMap.1 hy
  obtain ⟨k,hk,rfl,h2,h3,h4⟩:=(Aa0 hn).1 ⟨y,hy,h1⟩
  refine ⟨k,hk,rfl,?_⟩
  have:=Yf hz known x hx k h2.1 h2.2
  unfold Fc Cw
  rw [this,h3,h4]
  simp
 ·rintro ⟨k,hk,rfl,h1⟩
  obtain ⟨x,hx,h2⟩:=Bi4 hz known (o:=(k:Int)) (by omega) (by omega)
  have h3:=Yf hz known x hx k h2.1 h2.2
  unfold Fc at h1
  split at h1
  ·cases h1
  ·rename_i hc
   have h1:=Option.some.inj h1
   rw [<-h1]
   unfold Cw at hc ⊢
   rw [h3] at hc ⊢
   obtain ⟨y,hy,h4⟩:=(Aa0 (n:=n) (now:=Bv known n) (x:=x) (o:=k) hn).2 ⟨k,hk,rfl,h2,rfl,by simpa using hc⟩
   exact ⟨y,List.mem_flatMap.2 ⟨x,hx,hy⟩,h4⟩
end Go.Proofs.YthlgnjlpakimaaaGreatDoor
