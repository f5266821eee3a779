/- A note is taken: the pieces' zones are the objects' zones. No program is known here. -/
import Derived.Test.YthlgnjlpakimaaaGreatDoorQSinceSame
set_option linter.all false
set_option linter.unnecessarySimpa false
set_option linter.unusedSimpArgs false
set_option linter.unusedVariables false
namespace Go.Proofs.YthlgnjlpakimaaaGreatDoor
def InZ (l:List Av) (o:Int) (v:List Ab):Prop:=∃ x∈l,x.span.lo<=o/\o<=x.span.hi/\x.vec=v
theorem J7 {l m:List Av} {o:Int} {v:List Ab} : InZ (l++m) o v↔InZ l o v\/InZ m o v:=by
 unfold InZ
 constructor
 ·rintro ⟨x,hx,h⟩
  rcases List.mem_append.1 hx with hx | hx
  ·exact .inl ⟨x,hx,h⟩
  ·exact .inr ⟨x,hx,h⟩
 ·rintro (⟨x,hx,h⟩ | ⟨x,hx,h⟩)
  ·exact ⟨x,List.mem_append_left _ hx,h⟩
  ·exact ⟨x,List.mem_append_right _ hx,h⟩
theorem Wi {x:Av} {o:Int} {v:List Ab} : InZ [x] o v↔x.span.lo<=o/\o<=x.span.hi/\x.vec=v:=by simp [InZ]
def Se (out:List Av) (x:Av):List Av :=
 match out.getLast? with
 | some y=>if y.span.hi+1=x.span.lo/\y.vec=x.vec then out.dropLast++[⟨⟨y.span.lo,x.span.hi⟩,y.vec⟩] else out++[x]
 | none=>out++[x]
def Mp (l:List Av):List Av:=l.foldl Se []
theorem Aj2 (l:List Av) (x:Av):Mp (l++[x])=Se (Mp l) x:=by simp [Mp]
structure Rj (s l:List Av):Prop where
 formed:Bc none l=true
 mem:∀ o v,InZ l o v↔InZ s o v
 last:Bu l.getLast? = Bu s.getLast?
 len:l.length<=s.length
theorem Rj.nil:Rj [] []:=⟨rfl,fun _ _=>Iff.rfl,rfl,Nat.le_refl _⟩
theorem Q3 {l:List Av} {x:Av} : Bc none (l++[x])=(Bc none l&&(Dy l.getLast? x&&Cu x)):=by
 rw [Fu,Bc,Bc,Bool.and_true,Option.or_none]
theorem Rj.step {s l:List Av} {x:Av} (h:Rj s l) (h1:Bu s.getLast? < x.span.lo) (h2:Cu x=true):Rj (s++[x]) (Se l x):=by
 obtain ⟨a,b,c,d⟩:=h
 rw [<-c] at h1
 have hplain:Fv l.getLast? x=false->Rj (s++[x]) (l++[x]):=fun ht=>by
  refine ⟨?_,fun o v=>by rw [J7,J7,b],by rw [List.getLast?_concat,List.getLast?_concat],by simp;exact d⟩
  rw [Q3,a,h2,Dy,ht]
  simp [h1]
 unfold Se
 split
 ·rename_i y hy
  split
  ·rename_i he
   obtain ⟨e1,e2⟩:=he
   have hl:=Sd hy
   obtain ⟨D,hD⟩ : ∃ D,l.dropLast=D:=⟨_,rfl⟩
   rw [hD] at hl ⊢
   subst hl
   rw [Q3,Bool.and_eq_true,Bool.and_eq_true] at a
   obtain ⟨a1,a2,a3⟩:=a
   simp only [Cu,Bool.and_eq_true,decide_eq_true_eq] at a3 h2
   refine ⟨?_,fun o v=>?_,by rw [List.getLast?_concat,List.getLast?_concat];rfl,by simp at d ⊢;omega⟩
   ·rw [Q3,a1,Bool.true_and,Bool.and_eq_true]
    refine ⟨a2,?_⟩
    simp only [Cu,Bool.and_eq_true,decide_eq_true_eq]
    exact ⟨⟨by omega,h2.1.2⟩,a3.2⟩
   ·rw [J7,J7,<-b,J7,Wi,Wi,Wi]
    refine Iff.trans ?_ or_assoc.symm
    refine or_congr Iff.rfl ?_
    rw [<-e2]
    simp only
    constructor
    ·rintro ⟨p,q,r⟩
     rcases Int.lt_or_le y.span.hi o with h | h
     ·exact .inr ⟨by omega,q,r⟩
     ·exact .inl ⟨p,h,r⟩
    ·rintro (⟨p,q,r⟩ | ⟨p,q,r⟩)
     ·exact ⟨p,by omega,r⟩
     ·exact ⟨by omega,q,r⟩
  ·rename_i he
   refine hplain ?_
   rw [hy]
   simp only [Fv,Bool.and_eq_false_iff,decide_eq_false_iff_not]
   exact Decidable.not_and_iff_or_not.1 he
 ·rename_i hn
  exact hplain (by rw [hn];rfl)
def Vt (s:List Av):Prop:=s.Pairwise (fun x y=>x.span.hi < y.span.lo)/\∀ x∈s,0<=x.span.lo/\Cu x=true
theorem C46 {s:List Av} {x:Av} (h:Vt (s++[x])):Bu s.getLast? < x.span.lo:=by
 cases hs:s.getLast? with
 | none=>have:=(h.2 x (by simp)).1;show (-1:Int) < _;omega
 | some y=>exact (List.pairwise_append.1 h.1).2.2 y (List.mem_of_getLast? hs) x (by simp)
theorem At0 {s:List Av} (h:Vt s):∀ n,n<=s.length->Rj (s.take n) (Mp (s.take n)):=by
 intro n
 induction n with
 | zero=>exact fun _=>Rj.nil
 | succ n ih =>
  intro hn
  have hs:=List.take_succ_eq_append_getElem (show n < s.length from hn)
  have hA:Vt (s.take (n+1)):=⟨h.1.sublist (List.take_sublist _ _),fun x hx=>h.2 x (List.mem_of_mem_take hx)⟩
  rw [hs] at hA
  rw [hs,Aj2]
  exact (ih (by omega)).step (C46 hA) (hA.2 _ (List.mem_append_right _ (List.mem_singleton.2 rfl))).2
theorem Zv {s:List Av} (h:Vt s):B7 (Mp s)=true/\∀ o v,InZ (Mp s) o v↔InZ s o v:=by
 have:=At0 h s.length (Nat.le_refl _)
 rw [List.take_length] at this
 exact ⟨this.formed,this.mem⟩
theorem Ss:∀ {l m:List Av} {p q:Option Av},Bc p l=true->Bc q m=true->(∀ o v,InZ l o v↔InZ m o v)->l=m
 | [],[],_,_,_,_,_=>rfl
 | x :: l,[],p,q,h1,_,h=>by
  have:=(Ew h1).2 x (by simp)
  obtain ⟨y,hy,_⟩:=(h x.span.lo x.vec).1 ⟨x,by simp,Int.le_refl _,this.2,rfl⟩
  cases hy
 | [],y :: m,p,q,_,h2,h=>by
  have:=(Ew h2).2 y (by simp)
  obtain ⟨x,hx,_⟩:=(h y.span.lo y.vec).2 ⟨y,by simp,Int.le_refl _,this.2,rfl⟩
  cases hx
 | x :: l,y :: m,p,q,h1,h2,h=>by
  have a1:=Ew h1
  have a2:=Ew h2
  obtain ⟨b1,b2⟩:=List.pairwise_cons.1 a1.1
  obtain ⟨c1,c2⟩:=List.pairwise_cons.1 a2.1
  have hx:=a1.2 x (by simp)
  have hy:=a2.2 y (by simp)
  have go:∀ {x y:Av} {l m:List Av} {p q:Option Av},Bc p (x :: l)=true->Bc q (y :: m)=true->(∀ o v,InZ (x :: l) o v↔InZ (y :: m) o v)->y.span.lo<=x.span.lo:=by
   intro x y l m p q h1 h2 h
   have hx:=(Ew h1).2 x (by simp)
   obtain ⟨z,hz,h3,_⟩:=(h x.span.lo x.vec).1 ⟨x,by simp,Int.le_refl _,hx.2,rfl⟩
   rcases List.mem_cons.1 hz with rfl | hz
   ·exact h3
   ·have:=(List.pairwise_cons.1 (Ew h2).1).1 z hz
    have:=(Ew h2).2 y (by simp)
    omega
  have e1:x.span.lo=y.span.lo:=Int.le_antisymm (go h2 h1 fun o v=>(h o v).symm) (go h1 h2 h)
  have e2:x.vec=y.vec:=by
   obtain ⟨z,hz,h3,h4,h5⟩:=(h x.span.lo x.vec).1 ⟨x,by simp,Int.le_refl _,hx.2,rfl⟩
   rcases List.mem_cons.1 hz with rfl | hz
   ·exact h5.symm
   ·have:=c1 z hz;omega
  have le:∀ {x y:Av} {l m:List Av} {p q:Option Av},Bc p (x :: l)=true->Bc q (y :: m)=true->(∀ o v,InZ (x :: l) o v↔InZ (y :: m) o v)->x.span.lo=y.span.lo->x.vec=y.vec->y.span.hi<=x.span.hi:=by
   intro x y l m p q h1 h2 h e1 e2
   rcases Int.lt_or_le x.span.hi y.span.hi with h3 | h3
   ·exfalso
    have hx:=(Ew h1).2 x (by simp)
    obtain ⟨z,hz,h4,h5,h6⟩:=(h (x.span.hi+1) y.vec).2 ⟨y,by simp,by omega,by omega,rfl⟩
    rcases List.mem_cons.1 hz with rfl | hz
    ·omega
    ·rw [Bc,Bool.and_eq_true] at h1
     cases l with
     | nil=>cases hz
     | cons w l =>
      have g1:=h1.2
      have g3:=Ew g1
      rw [Bc,Bool.and_eq_true,Bool.and_eq_true,Dy,Bool.and_eq_true,decide_eq_true_eq] at g1
      have g2:x.span.hi < w.span.lo:=g1.1.1.1
      have g4:¬ (x.span.hi+1=w.span.lo/\x.vec=w.vec):=by
       have:=g1.1.1.2
       simp only [Fv,Bool.not_eq_true',Bool.and_eq_false_iff,decide_eq_false_iff_not] at this
       exact Decidable.not_and_iff_or_not.2 this
      rcases List.mem_cons.1 hz with rfl | hz
      ·exact g4 ⟨by omega,by rw [e2,h6]⟩
      ·have:=(List.pairwise_cons.1 g3.1).1 z hz
       have:=(g3.2 w (by simp)).2
       omega
   ·exact h3
  have e3:x.span.hi=y.span.hi:=Int.le_antisymm (le h2 h1 (fun o v=>(h o v).symm) e1.symm e2.symm) (le h1 h2 h e1 e2)
  have e:x=y:=by
   obtain ⟨⟨xl,xh⟩,xv⟩:=x
   obtain ⟨⟨yl,yh⟩,yv⟩:=y
   simp only at e1 e2 e3
   subst e1 e2 e3
   rfl
  subst e
  rw [Bc,Bool.and_eq_true] at h1 h2
  congr 1
  refine Ss h1.2 h2.2 fun o v=>?_
  have hh:=h o v
  rw [show x :: l=[x]++l from rfl,show x :: m=[x]++m from rfl,J7,J7,Wi] at hh
  constructor
  ·intro hi
   rcases hh.1 (.inr hi) with h7 | h7
   ·obtain ⟨z,hz,h8,_⟩:=hi
    have:=b1 z hz;omega
   ·exact h7
  ·intro hi
   rcases hh.2 (.inr hi) with h7 | h7
   ·obtain ⟨z,hz,h8,_⟩:=hi
    have:=c1 z hz;omega
   ·exact h7
def Nv (f:Nat->Option (List Ab)):Nat->List Av
 | 0=>[]
 | n+1=>Nv f n++(match f n with | some v=>[⟨⟨(n:Nat),(n:Nat)⟩,v⟩] | none=>[])
theorem Bd3 {f:Nat->Option (List Ab)} : ∀ {n:Nat} {o:Int} {v:List Ab},InZ (Nv f n) o v↔∃ k:Nat,k < n/\o=k/\f k=some v
 | 0,o,v=>by simp [Nv,InZ]
 | n+1,o,v=>by
  rw [Nv,J7,Bd3]
  constructor
  ·rintro (⟨k,h1,h2⟩ | h)
   ·exact ⟨k,by omega,h2⟩
   ·cases hf:f n with
    | none=>rw [hf] at h;simp [InZ] at h
    | some u =>
     rw [hf,Wi] at h
     simp only at h
     exact ⟨n,by omega,by omega,by rw [hf,h.2.2]⟩
  ·rintro ⟨k,h1,h2,h3⟩
   rcases Nat.lt_or_ge k n with h | h
   ·exact .inl ⟨k,h,h2,h3⟩
   ·obtain rfl:k=n:=by omega
    right
    rw [h3,Wi]
    exact ⟨by simp;omega,by simp;omega,rfl⟩
theorem Bd4 {f:Nat->Option (List Ab)} (hf:∀ o v,f o=some v->Ak v=true):∀ n,n<=256->Vt (Nv f n)/\∀ x∈Nv f n,x.span.hi < n:=by
 intro n
 induction n with
 | zero=>exact fun _=>⟨⟨.nil,fun x hx=>by cases hx⟩,fun x hx=>by cases hx⟩
 | succ n ih =>
  intro hn
  obtain ⟨⟨h1,h2⟩,h3⟩:=ih (by omega)
  rw [Nv]
  cases h:f n with
  | none=>rw [List.append_nil];exact ⟨⟨h1,h2⟩,fun x hx=>by have:=h3 x hx;omega⟩
  | some v =>
   refine ⟨⟨List.pairwise_append.2 ⟨h1,by simp,fun x hx y hy=>?_⟩,fun x hx=>?_⟩,fun x hx=>?_⟩
   ·rw [List.mem_singleton.1 hy];exact h3 x hx
   ·rcases List.mem_append.1 hx with hx | hx
    ·exact h2 x hx
    ·rw [List.mem_singleton.1 hx]
     simp only [Cu,Bool.and_eq_true,decide_eq_true_eq]
     exact ⟨by omega,⟨Int.le_refl _,by omega⟩,hf n v h⟩
   ·rcases List.mem_append.1 hx with hx | hx
    ·have:=h3 x hx;omega
    ·rw [List.mem_singleton.1 hx];simp only;omega
def Et (f:Nat->Option (List Ab)):List Av:=Mp (Nv f 256)
theorem Bg3 {f:Nat->Option (List Ab)} (hf:∀ o v,f o=some v->Ak v=true) (n:Nat) (hn:n<=256):B7 (Mp (Nv f n))=true/\∀ o v,InZ (Mp (Nv f n)) o v↔∃ k:Nat,k < n/\o=k/\f k=some v:=by
 obtain ⟨h1,h2⟩:=Zv (Bd4 hf n hn).1
 exact ⟨h1,fun o v=>(h2 o v).trans Bd3⟩
theorem Su {f:Nat->Option (List Ab)} (hf:∀ o v,f o=some v->Ak v=true):B7 (Et f)=true/\∀ o v,InZ (Et f) o v↔∃ k:Nat,k < 256/\o=k/\f k=some v:=Bg3 hf 256 (Nat.le_refl _)
theorem Cc5 {f:Nat->Option (List Ab)} (hf:∀ o v,f o=some v->Ak v=true) {s:List Av} (hs:Vt s) (h:∀ o v,InZ s o v↔∃ k:Nat,k < 256/\o=k/\f k=some v):Mp s=Et f:=by
 obtain ⟨h1,h2⟩:=Zv hs
 obtain ⟨Z,hZ⟩ : ∃ Z,Et f=Z:=⟨_,rfl⟩
 have hz:=Su hf
 rw [hZ] at hz ⊢
 exact Ss h1 hz.1 fun o v=>((h2 o v).trans (h o v)).trans (hz.2 o v).symm
-- what the document says, object by object
def Ec (v:List Ab) (n:At) (k:Nat):Int:=if Aa n.start k<=Aa v k then max (Aa v k) (Aa n.end_ k) else Aa v k
def He (v:List Ab) (n:At):List Ab:=F6 (Ec v n)
def G1 (v:List Ab) (n:At) (o:Int):List Ab:=match D5 n.writes o with
 | some w=>if Dr (He v n) w.stamp=true then He v n else v
 | none=>He v n
def Cp (z:List Av) (known:List Ab) (n:At) (o:Nat):List Ab:=if Al n.blur o=true then Bb z known o else G1 (Bb z known o) n o
def Bi (known:List Ab) (n:At):List Ab:=E4 [known,n.end_]
def Ex (z:List Av) (known:List Ab) (n:At) (o:Nat):Option (List Ab):=if Ay (Cp z known n o) (Bi known n)=true then none else some (Cp z known n o)
def T5 (z:List Av) (known:List Ab) (n:At):Bool:=B7 z&&Ak known&&Ae n
def Kl (z:List Av) (known:List Ab) (n:At):List Av×List Ab×Int :=
 if T5 z known n=true then (if Ay known n.start=true then (Et (Ex z known n),Bi known n,0) else ([],[],3)) else ([],[],1)
-- what the program does, piece by piece
def Gn (a b:List Ad):List Ad:=Ch fun o=>Al a o&&!Al b o
def K3 (far:List Ab) (s:List Ad) (w:Ai):List Ad:=if Dr far w.stamp=true then s else Br (s++Br (Pa [w.object]))
def K1 (n:At) (far:List Ab):List Ad:=n.writes.foldl (K3 far) n.blur
def Wp (now:List Ab) (l:List Ad) (v:List Ab):List Av:=if Ay v now=true then [] else l.map fun s=>⟨s,v⟩
def Qh (n:At) (now:List Ab) (x:Av):List Av:=Wp now (Cw [x.span] (K1 n (He x.vec n))) x.vec++Wp now (Gn [x.span] (K1 n (He x.vec n))) (He x.vec n)
def Lr (n:At) (now:List Ab) (l:List Av):List Av:=l.flatMap (Qh n now)
theorem Bh5 (n:At) (now:List Ab) (l:List Av) (x:Av):Lr n now (l++[x])=Lr n now l++Qh n now x:=by simp [Lr]
theorem B45 {far:List Ab} : ∀ (l:List Ai) (s:List Ad) {o:Nat},o < 256->Al (l.foldl (K3 far) s) o=(Al s o || l.any fun w=>!Dr far w.stamp&&decide (w.object=o))
 | [],s,o,_=>by simp
 | w :: l,s,o,ho=>by
  rw [List.foldl_cons,B45 l _ ho,List.any_cons]
  unfold K3
  split
  ·rename_i h;simp [h]
  ·rename_i h
   rw [show Br (s++Br (Pa [w.object]))=Ch fun o=>Al (s++Br (Pa [w.object])) o from rfl,Cc _ ho,D2,show Br (Pa [w.object])=Ch fun o=>Al (Pa [w.object]) o from rfl,Cc _ ho,As7]
   simp [h,Bool.or_assoc]
theorem Sg {x:At} (h:Ae x=true) {o:Int} {w:Ai} : D5 x.writes o=some w↔w∈x.writes/\w.object=o:=by
 have hp:=(Fz.1 (Cs.1 h).2.2.2.2).2
 unfold D5
 constructor
 ·intro hh
  exact ⟨List.mem_of_find?_eq_some hh,by simpa using List.find?_some hh⟩
 ·rintro ⟨h1,h2⟩
  cases hf:x.writes.find? (fun w=>decide (w.object=o)) with
  | none=>have:=List.find?_eq_none.1 hf w h1;simp [h2] at this
  | some u =>
   have h3:=List.mem_of_find?_eq_some hf
   have h4:u.object=o:=by simpa using List.find?_some hf
   by_cases e:u=w
   ·rw [e]
   ·obtain ⟨i,hi,rfl⟩:=List.mem_iff_getElem.1 h1
    obtain ⟨j,hj,rfl⟩:=List.mem_iff_getElem.1 h3
    rcases Nat.lt_trichotomy i j with h5 | h5 | h5
    ·have:=List.pairwise_iff_getElem.1 hp i j hi hj h5;omega
    ·subst h5;exact absurd rfl e
    ·have:=List.pairwise_iff_getElem.1 hp j i hj hi h5;omega
theorem Ae9 {n:At} (h:Ae n=true) (v:List Ab) {o:Nat} (ho:o < 256):(if Al (K1 n (He v n)) o=true then v else He v n)=if Al n.blur o=true then v else G1 v n o:=by
 unfold K1
 rw [B45 _ _ ho]
 cases hb:Al n.blur o with
 | true=>simp
 | false =>
  simp only [Bool.false_or,Bool.false_eq_true,if_false]
  unfold G1
  cases hg:D5 n.writes o with
  | none =>
   have:(n.writes.any fun w=>!Dr (He v n) w.stamp&&decide (w.object=(o:Int)))=false:=by
    rw [List.any_eq_false]
    intro w hw hh
    simp only [Bool.and_eq_true,decide_eq_true_eq] at hh
    have:=(Sg h).2 ⟨hw,hh.2⟩
    rw [hg] at this;cases this
   rw [this];simp
  | some w =>
   obtain ⟨h1,h2⟩:=(Sg h).1 hg
   have:(n.writes.any fun w=>!Dr (He v n) w.stamp&&decide (w.object=(o:Int)))=!Dr (He v n) w.stamp:=by
    rw [Bool.eq_iff_iff,List.any_eq_true]
    constructor
    ·rintro ⟨u,hu,hh⟩
     simp only [Bool.and_eq_true,decide_eq_true_eq] at hh
     have:=(Sg h).2 ⟨hu,hh.2⟩
     rw [hg] at this
     cases this
     exact hh.1
    ·intro hh
     exact ⟨w,h1,by simp [hh,h2]⟩
   rw [this]
   simp only
   cases Dr (He v n) w.stamp<;>simp
theorem Bt2 {now:List Ab} {l:List Ad} {v u:List Ab} {o:Int} : InZ (Wp now l v) o u↔Al l o=true/\v=u/\Ay v now=false:=by
 unfold Wp
 cases hc:Ay v now with
 | true=>simp [InZ]
 | false =>
  simp only [Bool.false_eq_true,if_false,and_true]
  rw [Mf]
  unfold InZ
  constructor
  ·rintro ⟨x,hx,h1,h2,h3⟩
   obtain ⟨s,hs,rfl⟩:=List.mem_map.1 hx
   exact ⟨⟨s,hs,h1,h2⟩,h3⟩
  ·rintro ⟨⟨s,hs,h1,h2⟩,h3⟩
   exact ⟨⟨s,v⟩,List.mem_map_of_mem hs,h1,h2,h3⟩
theorem L5 {s:Ad} {o:Int} : Al [s] o=true↔s.lo<=o/\o<=s.hi:=by simp [Al]
theorem J6 {f:Nat->Bool} {o:Int} (h:Al (Ch f) o=true):∃ k:Nat,k < 256/\o=k/\f k=true:=by
 obtain ⟨h0,h1⟩:=Cn (Bt f) h
 obtain ⟨k,rfl⟩ : ∃ k:Nat,o=k:=⟨o.toNat,by omega⟩
 have:=(Q0 f k).1 h
 exact ⟨k,this.1,rfl,this.2⟩
theorem Ar7 {n:At} (h:Ae n=true) {now:List Ab} {x:Av} {o:Int} {u:List Ab} : InZ (Qh n now x) o u↔∃ k:Nat,k < 256/\o=k/\(x.span.lo<=k/\(k:Int)<=x.span.hi)/\(if Al n.blur k=true then x.vec else G1 x.vec n k)=u/\Ay u now=false:=by
 unfold Qh
 rw [J7,Bt2,Bt2]
 unfold Cw Gn
 constructor
 ·rintro (⟨h1,rfl,h3⟩ | ⟨h1,rfl,h3⟩)
  ·obtain ⟨k,hk,rfl,h4⟩:=J6 h1
   simp only [Bool.and_eq_true,L5] at h4
   refine ⟨k,hk,rfl,h4.1,?_,h3⟩
   rw [<-Ae9 h x.vec hk,if_pos h4.2]
  ·obtain ⟨k,hk,rfl,h4⟩:=J6 h1
   simp only [Bool.and_eq_true,L5,Bool.not_eq_true'] at h4
   refine ⟨k,hk,rfl,h4.1,?_,h3⟩
   rw [<-Ae9 h x.vec hk,if_neg (by rw [h4.2];simp)]
 ·rintro ⟨k,hk,rfl,h1,h2,h3⟩
  rw [<-Ae9 h x.vec hk] at h2
  cases hs:Al (K1 n (He x.vec n)) k with
  | true =>
   rw [if_pos hs] at h2
   subst h2
   exact .inl ⟨by rw [Cc _ hk,Bool.and_eq_true];exact ⟨L5.2 h1,hs⟩,rfl,h3⟩
  | false =>
   rw [if_neg (by rw [hs];simp)] at h2
   subst h2
   exact .inr ⟨by rw [Cc _ hk,Bool.and_eq_true,hs];exact ⟨L5.2 h1,rfl⟩,rfl,h3⟩
def Off (x y:Av):Prop:=x.span.hi < y.span.lo\/y.span.hi < x.span.lo
theorem A60:∀ {l:List Ad} {e:Int},Bj e l=true->l.Pairwise fun a b=>a.hi < b.lo
 | [],_,_=>.nil
 | s :: l,e,h=>by
  obtain ⟨h1,h2⟩:=Be.1 h
  refine .cons (fun t ht=>?_) (A60 h2)
  have:Al l t.lo=true:=Mf.2 ⟨t,ht,Int.le_refl _,(formed_all' h2 t ht)⟩
  have:=(Cn h2 this).1
  omega
where formed_all':∀ {l:List Ad} {e:Int},Bj e l=true->∀ t∈l,t.lo<=t.hi
 | s :: l,e,h,t,ht=>by
  obtain ⟨h1,h2⟩:=Be.1 h
  rcases List.mem_cons.1 ht with rfl | ht
  ·omega
  ·exact formed_all' h2 t ht
theorem Bd6 {now:List Ab} {f:Nat->Bool} {v:List Ab} : (Wp now (Ch f) v).Pairwise Off:=by
 unfold Wp
 split
 ·exact .nil
 ·rw [List.pairwise_map]
  exact (A60 (Bt f)).imp fun h=>.inl h
theorem Ak4 {now:List Ab} {f:Nat->Bool} {v:List Ab} {x:Av} (h:x∈Wp now (Ch f) v):0<=x.span.lo/\x.span.lo<=x.span.hi/\x.span.hi<=255/\x.vec=v/\∀ o:Int,x.span.lo<=o->o<=x.span.hi->Al (Ch f) o=true:=by
 unfold Wp at h
 split at h
 ·cases h
 ·obtain ⟨s,hs,rfl⟩:=List.mem_map.1 h
  have h2:∀ o:Int,s.lo<=o->o<=s.hi->Al (Ch f) o=true:=fun o h1 h2=>Mf.2 ⟨s,hs,h1,h2⟩
  have h3:=A60.formed_all' (Bt f) s hs
  have h4:=Cn (Bt f) (h2 s.lo (Int.le_refl _) h3)
  have h5:=Cn (Bt f) (h2 s.hi h3 (Int.le_refl _))
  exact ⟨h4.2.1,h3,h5.2.2,rfl,h2⟩
theorem Ca6 {x y:Av} (h1:x.span.lo<=x.span.hi) (h2:y.span.lo<=y.span.hi) (h:∀ o:Int,x.span.lo<=o->o<=x.span.hi->y.span.lo<=o->o<=y.span.hi->False):Off x y:=by
 unfold Off
 by_cases a:x.span.hi < y.span.lo
 ·exact .inl a
 ·by_cases b:y.span.hi < x.span.lo
  ·exact .inr b
  ·exact (h (max x.span.lo y.span.lo) (by omega) (by omega) (by omega) (by omega)).elim
theorem Y7 {n:At} {now:List Ab} {x y:Av} (hv:Ak x.vec=true) (h:y∈Qh n now x):0<=y.span.lo/\Cu y=true/\∀ o:Int,y.span.lo<=o->o<=y.span.hi->x.span.lo<=o/\o<=x.span.hi:=by
 have go:∀ {f:Nat->Bool} {v:List Ab},Ak v=true->(∀ k:Nat,f k=true->x.span.lo<=k/\(k:Int)<=x.span.hi)->y∈Wp now (Ch f) v->0<=y.span.lo/\Cu y=true/\∀ o:Int,y.span.lo<=o->o<=y.span.hi->x.span.lo<=o/\o<=x.span.hi:=by
  intro f v hv hf hy
  obtain ⟨h1,h2,h3,h4,h5⟩:=Ak4 hy
  refine ⟨h1,?_,fun o a b=>?_⟩
  ·simp only [Cu,Bool.and_eq_true,decide_eq_true_eq]
   exact ⟨⟨h2,h3⟩,by rw [h4];exact hv⟩
  ·obtain ⟨k,_,rfl,hk⟩:=J6 (h5 o a b)
   exact hf k hk
 unfold Qh Cw Gn at h
 rcases List.mem_append.1 h with h | h
 ·exact go hv (fun k hk=>L5.1 (Bool.and_eq_true _ _ ▸ hk).1) h
 ·exact go (E7 _) (fun k hk=>L5.1 (Bool.and_eq_true _ _ ▸ hk).1) h
theorem Bl0 {n:At} {now:List Ab} {x:Av} : (Qh n now x).Pairwise Off:=by
 unfold Qh Cw Gn
 refine List.pairwise_append.2 ⟨Bd6,Bd6,fun a ha b hb=>?_⟩
 obtain ⟨_,a2,_,_,a5⟩:=Ak4 ha
 obtain ⟨_,b2,_,_,b5⟩:=Ak4 hb
 refine Ca6 a2 b2 fun o c1 c2 d1 d2=>?_
 obtain ⟨k,hk,rfl,e1⟩:=J6 (a5 o c1 c2)
 obtain ⟨j,hj,e,e2⟩:=J6 (b5 _ d1 d2)
 obtain rfl:k=j:=by omega
 simp only [Bool.and_eq_true,Bool.not_eq_true'] at e1 e2
 rw [e1.2] at e2
 exact absurd e2.2 (by simp)
theorem A30 {n:At} {now:List Ab} : ∀ {l:List Av},l.Pairwise (fun x y=>x.span.hi < y.span.lo)->(∀ x∈l,Ak x.vec=true)->(Lr n now l).Pairwise Off
 | [],_,_=>.nil
 | x :: l,h,hv=>by
  obtain ⟨h1,h2⟩:=List.pairwise_cons.1 h
  rw [Lr,List.flatMap_cons]
  refine List.pairwise_append.2 ⟨Bl0,A30 h2 fun y hy=>hv y (List.mem_cons_of_mem _ hy),fun a ha b hb=>?_⟩
  obtain ⟨y,hy,hb⟩:=List.mem_flatMap.1 hb
  obtain ⟨_,a2,a3⟩:=Y7 (hv x (by simp)) ha
  obtain ⟨_,b2,b3⟩:=Y7 (hv y (List.mem_cons_of_mem _ hy)) hb
  simp only [Cu,Bool.and_eq_true,decide_eq_true_eq] at a2 b2
  refine Ca6 a2.1.1 b2.1.1 fun o c1 c2 d1 d2=>?_
  have:=a3 o c1 c2
  have:=b3 o d1 d2
  have:=h1 y hy
  omega
theorem Ap3 {n:At} {now:List Ab} {l:List Av} (hv:∀ x∈l,Ak x.vec=true) {y:Av} (h:y∈Lr n now l):0<=y.span.lo/\Cu y=true:=by
 obtain ⟨x,hx,h⟩:=List.mem_flatMap.1 h
 have:=Y7 (hv x hx) h
 exact ⟨this.1,this.2.1⟩
theorem Z9 {s l:List Av} (hp:s.Perm l) (hs:s.Pairwise fun a b=>a.span.lo<=b.span.lo) (ho:l.Pairwise Off) (hm:∀ x∈l,0<=x.span.lo/\Cu x=true):Vt s:=by
 refine ⟨?_,fun x hx=>hm x (hp.mem_iff.1 hx)⟩
 have h1:s.Pairwise Off:=ho.perm hp.symm fun h=>h.symm
 refine (hs.and h1).imp_of_mem fun {a b} ha hb h=>?_
 have h3:=(hm a (hp.mem_iff.1 ha)).2
 have h4:=(hm b (hp.mem_iff.1 hb)).2
 simp only [Cu,Bool.and_eq_true,decide_eq_true_eq] at h3 h4
 rcases h.2 with h2 | h2
 ·exact h2
 ·have:=h.1;omega
theorem Cc8 {s l:List Av} (hp:s.Perm l) {o:Int} {v:List Ab} : InZ s o v↔InZ l o v:=⟨fun ⟨x,hx,h⟩=>⟨x,hp.mem_iff.1 hx,h⟩,fun ⟨x,hx,h⟩=>⟨x,hp.mem_iff.2 hx,h⟩⟩
theorem Xa {z:List Av} {known:List Ab} (hz:B7 z=true) (hk:Ak known=true):(∀ x∈Ef z known,Ak x.vec=true)/\(Ef z known).Pairwise fun x y=>x.span.hi < y.span.lo:=by
 have hu:∀ i,i<=z.length->((∀ x∈Jc z known i,Ak x.vec=true/\x.span.hi<=Bu (z.take i).getLast?)/\(Jc z known i).Pairwise fun x y=>x.span.hi < y.span.lo):=by
  intro i
  induction i with
  | zero=>exact fun _=>⟨fun x hx=>by simp [Jc] at hx,by simp [Jc]⟩
  | succ i ih =>
   intro hi
   obtain ⟨h1,h2⟩:=ih (by omega)
   have hlt:=Bp0 hz (i:=i) (by omega)
   have hle:=Yr hz (i:=i) (by omega)
   have hve:Ak z[i].vec=true:=by
    have:=F3 hz z[i] (List.getElem_mem (by omega))
    simp only [Cu,Bool.and_eq_true] at this
    exact this.2
   have he:Bu (z.take (i+1)).getLast? = z[i].span.hi:=by rw [A01 (l:=z) (by omega) (by omega)];rfl
   rw [Rw (by omega)]
   have hgap:∀ x∈Aj8 known (z.take i).getLast? z[i],x.vec=known/\x.span.hi < z[i].span.lo/\Bu (z.take i).getLast? < x.span.lo/\x.span.lo<=x.span.hi:=by
    intro x hx
    unfold Aj8 at hx
    split at hx
    ·rw [List.mem_singleton] at hx
     rw [hx]
     refine ⟨rfl,?_,?_,?_⟩<;>simp only<;>omega
    ·cases hx
   refine ⟨fun x hx=>?_,?_⟩
   ·rw [he]
    rw [List.mem_append,List.mem_append,List.mem_singleton] at hx
    rcases hx with hx | hx | hx
    ·have:=h1 x hx;exact ⟨this.1,by omega⟩
    ·have:=hgap x hx;exact ⟨by rw [this.1];exact hk,by omega⟩
    ·rw [hx];exact ⟨hve,Int.le_refl _⟩
   ·refine List.pairwise_append.2 ⟨h2,List.pairwise_append.2 ⟨?_,by simp,fun a ha b hb=>?_⟩,fun a ha b hb=>?_⟩
    ·unfold Aj8;split<;>simp
    ·rw [List.mem_singleton.1 hb];exact (hgap a ha).2.1
    ·have:=(h1 a ha).2
     rcases List.mem_append.1 hb with hb | hb
     ·have:=hgap b hb;omega
     ·rw [List.mem_singleton.1 hb];omega
 obtain ⟨h1,h2⟩:=hu _ (Nat.le_refl _)
 rw [List.take_length] at h1
 unfold Ef
 refine ⟨fun x hx=>?_,List.pairwise_append.2 ⟨h2,?_,fun a ha b hb=>?_⟩⟩
 ·rcases List.mem_append.1 hx with hx | hx
  ·exact (h1 x hx).1
  ·unfold U8 at hx
   split at hx
   ·rw [List.mem_singleton] at hx;rw [hx];exact hk
   ·cases hx
 ·unfold U8;split<;>simp
 ·have:=(h1 a ha).2
  unfold U8 at hb
  split at hb
  ·rw [List.mem_singleton] at hb;rw [hb];simp only;omega
  ·cases hb
theorem S7 {z:List Av} {known:List Ab} (hz:B7 z=true) (hk:Ak known=true) (n:At) (o:Nat):Ak (Cp z known n o)=true:=by
 have h1:Ak (Bb z known o)=true:=by
  unfold Bb
  split
  ·rename_i x hx
   have:=F3 hz x (List.mem_of_find?_eq_some hx)
   simp only [Cu,Bool.and_eq_true] at this
   exact this.2
  ·exact hk
 unfold Cp
 split
 ·exact h1
 ·unfold G1
  split
  ·split
   ·exact E7 _
   ·exact h1
  ·exact E7 _
theorem Kd {z:List Av} {known:List Ab} (hz:B7 z=true) (hk:Ak known=true) (n:At):∀ o v,Ex z known n o=some v->Ak v=true:=fun o v h=>by
 unfold Ex at h
 split at h
 ·cases h
 ·rw [<-Option.some.inj h];exact S7 hz hk n o
theorem Bv5 {z:List Av} {known:List Ab} {n:At} (h:T5 z known n=true) {s:List Av} (hp:s.Perm (Lr n (Bi known n) (Ef z known))) (hs:s.Pairwise fun a b=>a.span.lo<=b.span.lo):Mp s=Et (Ex z known n):=by
 simp only [T5,Bool.and_eq_true] at h
 obtain ⟨⟨hz,hk⟩,hn⟩:=h
 obtain ⟨hv,hpw⟩:=Xa hz hk
 refine Cc5 (Kd hz hk n) (Z9 hp hs (A30 hpw hv) fun x hx=>Ap3 hv hx) fun o v=>?_
 rw [Cc8 hp]
 constructor
 ·rintro ⟨y,hy,h1⟩
  obtain ⟨x,hx,hy⟩:=List.mem_flatMap.1 hy
  obtain ⟨k,hk,rfl,h2,h3,h4⟩:=(Ar7 hn).1 ⟨y,hy,h1⟩
  refine ⟨k,hk,rfl,?_⟩
  have:=A90 hz known x hx k h2.1 h2.2
  unfold Ex Cp
  rw [this,h3,h4]
  simp
 ·rintro ⟨k,hk,rfl,h1⟩
  obtain ⟨x,hx,h2⟩:=Ca0 hz known (o:=(k:Int)) (by omega) (by omega)
  have h3:=A90 hz known x hx k h2.1 h2.2
  unfold Ex at h1
  split at h1
  ·cases h1
  ·rename_i hc
   have h1:=Option.some.inj h1
   rw [<-h1]
   unfold Cp at hc ⊢
   rw [h3] at hc ⊢
   obtain ⟨y,hy,h4⟩:=(Ar7 (n:=n) (now:=Bi known n) (x:=x) (o:=k) hn).2 ⟨k,hk,rfl,h2,rfl,by simpa using hc⟩
   exact ⟨y,List.mem_flatMap.2 ⟨x,hx,hy⟩,h4⟩
end Go.Proofs.YthlgnjlpakimaaaGreatDoor
