/- Up to where an interest is known: the program's and the reference's are one. -/
import Derived.Test.YthlgnjlpakimaaaGreatDoorQCacheForm
set_option linter.all false
set_option linter.unnecessarySimpa false
set_option linter.unusedSimpArgs false
set_option linter.unusedVariables false
namespace Go.Proofs.YthlgnjlpakimaaaGreatDoor
open Go.ChangeShapes Go.WideShapes Go.ChangeAt Go.RowKit
attribute [local irreducible] AW AWY Cd Bk vop C5 Bl Bz qop Cj Cv B4 Aw C4 A7 Bq Ct
attribute [local go_sem] Ao As
theorem Bb9 {n:Int} (h:(-9223372036854775808<=n&&n<=9223372036854775807)=true):I64 n:=by
 simp only [Bool.and_eq_true,decide_eq_true_eq] at h
 exact I64.of h.1 h.2
def C89 (it:List Ad) (ps:List Av):List (List Ab):=(ps.filter fun x=>Ko it [x.span]).map (·.vec)
def Cr0 (z:List Av) (known:List Ab) (it:List Ad):List Ab:=if B7 z=true/\Ak known=true then (if (C89 it (Ef z known)).length=0 then known else Cn8 (C89 it (Ef z known))) else []
theorem Ah3 (z:List Av) (known:List Ab):(Ef z known).length<=2*z.length+1:=by
 have h:∀ i,(Jc z known i).length<=2*i:=fun i=>by
  induction i with
  | zero=>exact Nat.le_refl _
  | succ i ih =>
   rw [Jc,List.length_append]
   split
   ·unfold Aj8
    split<;>simp<;>omega
   ·simp;omega
 have:=h z.length
 rw [Ef,List.length_append]
 have:(U8 z known).length<=1:=by unfold U8;split<;>simp
 omega
theorem A21:∀ {l:List Av} {p:Option Av},Bc p l=true->Bu p<=255->(l.length:Int)<=255 - Bu p
 | [],p,_,hp=>by simp;omega
 | y :: l,p,h,hp=>by
  simp only [Bc,Dy,Cu,Bool.and_eq_true,decide_eq_true_eq] at h
  obtain ⟨⟨⟨h1,_⟩,⟨h2,h3⟩,_⟩,h4⟩:=h
  have h5:(l.length:Int)<=255 - y.span.hi:=A21 h4 h3
  rw [List.length_cons]
  omega
theorem Bq2 {z:List Av} {known:List Ab} (hF:B7 z=true) (hk:Ak known=true):∀ i,∀ x∈Jc z known i,(0<=x.span.lo/\x.span.lo<=255/\0<=x.span.hi/\x.span.hi<=255)/\Ak x.vec=true
 | 0,x,hx=>by simp [Jc] at hx
 | i+1,x,hx=>by
  rw [Jc,List.mem_append] at hx
  rcases hx with hx | hx
  ·exact Bq2 hF hk i x hx
  ·cases hc:z[i]? with
   | none=>rw [hc] at hx;simp at hx
   | some y =>
    rw [hc] at hx
    have hy:y∈z:=List.mem_of_getElem? hc
    have h1:=Xi hF (by decide) y hy
    have h2:=F3 hF y hy
    simp only [Cu,Bool.and_eq_true] at h2
    have h3:=Mt (A20 hF i)
    simp only [List.mem_append,List.mem_singleton] at hx
    rcases hx with hx | rfl
    ·unfold Aj8 at hx
     split at hx
     ·rw [List.mem_singleton] at hx
      subst hx
      exact ⟨⟨by show 0<=Bu _+1;omega,by show Bu _+1<=255;omega,by show 0<=y.span.lo - 1;omega,by show y.span.lo - 1<=255;omega⟩,hk⟩
     ·simp at hx
    ·exact ⟨by omega,h2.2⟩
theorem By4 {z:List Av} {known:List Ab} (hF:B7 z=true) (hk:Ak known=true):∀ x∈Ef z known,(0<=x.span.lo/\x.span.lo<=255/\0<=x.span.hi/\x.span.hi<=255)/\Ak x.vec=true:=fun x hx=>by
 rw [Ef,List.mem_append] at hx
 rcases hx with hx | hx
 ·exact Bq2 hF hk _ x hx
 ·unfold U8 at hx
  have h3:=Mt (A20 hF z.length)
  rw [List.take_length] at h3
  split at hx
  ·rw [List.mem_singleton] at hx
   subst hx
   exact ⟨⟨by show 0<=Bu _+1;omega,by show Bu _+1<=255;omega,by show (0:Int)<=255;decide,by show (255:Int)<=255;decide⟩,hk⟩
  ·simp at hx
end Go.Proofs.YthlgnjlpakimaaaGreatDoor
namespace Go.Proofs.YthlgnjlpakimaaaGreatDoor
theorem Ew:∀ {l:List Av} {p:Option Av},Bc p l=true->l.Pairwise (fun x y=>x.span.hi < y.span.lo)/\∀ x∈l,Bu p < x.span.lo/\x.span.lo<=x.span.hi
 | [],_,_=>⟨.nil,fun x hx=>by simp at hx⟩
 | x :: l,p,h=>by
  simp only [Bc,Dy,Cu,Bool.and_eq_true,decide_eq_true_eq] at h
  obtain ⟨⟨⟨h1,_⟩,⟨h2,h3⟩,_⟩,h4⟩:=h
  obtain ⟨g1,g2⟩:=Ew h4
  have g3:∀ y∈l,x.span.hi < y.span.lo:=fun y hy=>(g2 y hy).1
  refine ⟨.cons g3 g1,fun y hy=>?_⟩
  rcases List.mem_cons.1 hy with rfl | hy
  ·exact ⟨h1,h2⟩
  ·have:=g3 y hy
   have:=(g2 y hy).2
   omega
theorem Ab3 {z:List Av} (hF:B7 z=true) {i j:Nat} (h:i < j) (hj:j < z.length):z[i].span.hi < z[j].span.lo:=List.pairwise_iff_getElem.1 (Ew hF).1 i j (by omega) hj h
theorem Yr {z:List Av} (hF:B7 z=true) {i:Nat} (hi:i < z.length):-1 < z[i].span.lo/\z[i].span.lo<=z[i].span.hi:=(Ew hF).2 z[i] (List.getElem_mem hi)
theorem A01 {l:List Av} {m:Nat} (h0:0 < m) (h:m - 1 < l.length):Bu (l.take m).getLast? = l[m - 1].span.hi:=by
 rw [Xt h0 h];rfl
theorem B02 {z:List Av} (hF:B7 z=true) {i j:Nat} (hj:j < i) (hi:i<=z.length):z[j].span.hi<=Bu (z.take i).getLast? := by
 rw [A01 (l:=z) (m:=i) (by omega) (by omega)]
 rcases Nat.lt_or_ge j (i - 1) with h | h
 ·have:=Ab3 hF h (by omega)
  have:=Yr hF (show i - 1 < z.length by omega)
  omega
 ·obtain rfl:j=i - 1:=by omega
  exact Int.le_refl _
theorem Cb3 {z:List Av} (hF:B7 z=true) {i:Nat} (hi:i<=z.length) {o:Int} (ho:Bu (z.take i).getLast? < o):∀ x∈z.take i,x.has o=false:=fun x hx=>by
 obtain ⟨j,hj,rfl⟩:=List.mem_take_iff_getElem.1 hx
 have:=B02 hF (show j < i by omega) hi
 simp [Av.has];omega
theorem Bp0 {z:List Av} (hF:B7 z=true) {i:Nat} (hi:i < z.length):Bu (z.take i).getLast? < z[i].span.lo:=by
 rcases Nat.eq_zero_or_pos i with rfl | h
 ·exact (Yr hF hi).1
 ·rw [A01 h (by omega)]
  exact Ab3 hF (by omega) hi
theorem Uy {z:List Av} (hF:B7 z=true) (known:List Ab) {i:Nat} (hi:i < z.length) {o:Int} (h:z[i].span.lo<=o/\o<=z[i].span.hi):Bb z known o=z[i].vec:=by
 have:=Bp0 hF hi
 unfold Bb
 rw [Ue (Cb3 hF (by omega) (by omega)) hi (by simp [Av.has];omega)]
theorem Ar2 {z:List Av} (hF:B7 z=true) (known:List Ab) {i:Nat} (hi:i<=z.length) {o:Int} (h:Bu (z.take i).getLast? < o) (h2:∀ hl:i < z.length,o < z[i].span.lo):Bb z known o=known:=by
 unfold Bb
 rw [A68]
 intro x hx
 obtain ⟨k,hk,rfl⟩:=List.mem_iff_getElem.1 hx
 rcases Nat.lt_or_ge k i with h3 | h3
 ·have:=B02 hF h3 hi
  simp [Av.has];omega
 ·have h4:=h2 (by omega)
  have h5:z[i].span.lo<=z[k].span.lo:=by
   rcases Nat.eq_or_lt_of_le h3 with rfl | h6
   ·exact Int.le_refl _
   ·have:=Ab3 hF h6 hk
    have:=Yr hF (show i < z.length by omega)
    omega
  simp [Av.has];omega
theorem A90 {z:List Av} (hF:B7 z=true) (known:List Ab):∀ x∈Ef z known,∀ o,x.span.lo<=o->o<=x.span.hi->Bb z known o=x.vec:=by
 have hu:∀ i,i<=z.length->∀ x∈Jc z known i,∀ o,x.span.lo<=o->o<=x.span.hi->Bb z known o=x.vec:=by
  intro i
  induction i with
  | zero=>intro _ x hx;simp [Jc] at hx
  | succ i ih =>
   intro hi x hx o h1 h2
   rw [Rw (by omega),List.mem_append,List.mem_append,List.mem_singleton] at hx
   rcases hx with hx | hx | hx
   ·exact ih (by omega) x hx o h1 h2
   ·unfold Aj8 at hx
    split at hx
    ·rw [List.mem_singleton] at hx
     rw [hx] at h1 h2 ⊢
     simp only at h1 h2 ⊢
     exact Ar2 hF known (i:=i) (by omega) (by omega) fun _=>by omega
    ·simp at hx
   ·rw [hx] at h1 h2 ⊢
    exact Uy hF known (by omega) ⟨h1,h2⟩
 intro x hx o h1 h2
 rw [Ef,List.mem_append] at hx
 rcases hx with hx | hx
 ·exact hu _ (Nat.le_refl _) x hx o h1 h2
 ·unfold U8 at hx
  split at hx
  ·rw [List.mem_singleton] at hx
   subst hx
   simp only at h1 h2 ⊢
   refine Ar2 hF known (i:=z.length) (Nat.le_refl _) ?_ fun hl=>absurd hl (Nat.lt_irrefl _)
   rw [List.take_length];omega
  ·simp at hx
theorem Ca0 {z:List Av} (hF:B7 z=true) (known:List Ab) {o:Int} (h0:0<=o) (h1:o<=255):∃ x∈Ef z known,x.span.lo<=o/\o<=x.span.hi:=by
 obtain ⟨i,hi⟩ : ∃ i,z.findIdx (fun x=>decide (o<=x.span.hi))=i:=⟨_,rfl⟩
 have hil:i<=z.length:=hi ▸ List.findIdx_le_length
 have hlow:Bu (z.take i).getLast? < o:=by
  rcases Nat.eq_zero_or_pos i with rfl | h
  ·show (-1:Int) < o;omega
  ·rw [A01 (l:=z) (m:=i) h (by omega)]
   have:=List.not_of_lt_findIdx (p:=fun x:Av=>decide (o<=x.span.hi)) (xs:=z) (i:=i - 1) (by rw [hi];omega)
   simp at this
   exact this
 rcases Nat.lt_or_ge i z.length with h | h
 ·have h3:o<=z[i].span.hi:=by
   have:=List.findIdx_getElem (p:=fun x:Av=>decide (o<=x.span.hi)) (xs:=z) (w:=by rw [hi];exact h)
   simp only [hi] at this
   simpa using this
  have hs:=Yy (known:=known) (show i+1<=z.length from h)
  rw [Rw h] at hs
  rcases Int.lt_or_le o z[i].span.lo with h4 | h4
  ·refine ⟨⟨⟨Bu (z.take i).getLast? + 1,z[i].span.lo - 1⟩,known⟩,hs.subset ?_,by show Bu _+1<=o;omega,by show o<=z[i].span.lo - 1;omega⟩
   rw [Aj8,if_pos (by omega)]
   simp
  ·exact ⟨z[i],hs.subset (by simp),h4,h3⟩
 ·obtain rfl:i=z.length:=by omega
  rw [List.take_length] at hlow
  refine ⟨⟨⟨Bu z.getLast? + 1,255⟩,known⟩,?_,by show Bu _+1<=o;omega,h1⟩
  rw [Ef,U8,if_pos (by omega)]
  simp
theorem Bv3 (a b:List Ad):Ko a b=true↔∃ o:Nat,o < 256/\Al a o=true/\Al b o=true:=by
 rw [Ko,decide_eq_true_eq]
 constructor
 ·intro hp
  obtain ⟨x,hx⟩ : ∃ x,x∈Cw a b:=by
   cases hc:Cw a b with
   | nil=>rw [hc] at hp;simp at hp
   | cons x l=>exact ⟨x,by simp⟩
  have hf:=(N4 (Bt _) x hx).2
  obtain ⟨o,ho⟩ : ∃ o:Nat,(o:Int)=x.lo:=⟨x.lo.toNat,by omega⟩
  have ho':o < 256:=by omega
  have m3:Al (Cw a b) o=true:=by
   rw [Al,List.any_eq_true]
   exact ⟨x,hx,by simp;omega⟩
  unfold Cw at m3
  rw [Cc _ ho',Bool.and_eq_true] at m3
  exact ⟨o,ho',m3⟩
 ·rintro ⟨o,ho,h1,h2⟩
  have m3:Al (Cw a b) o=true:=by
   unfold Cw
   rw [Cc _ ho,h1,h2];rfl
  cases hc:Cw a b with
  | nil=>rw [hc] at m3;simp [Al] at m3
  | cons x l=>simp
end Go.Proofs.YthlgnjlpakimaaaGreatDoor
