/- Up to where an interest is known: the program's and the reference's are one. -/
import Derived.Test.YthlgnjlpakimaaaGreatDoorVPieces
set_option linter.all false
set_option linter.unnecessarySimpa false
set_option linter.unusedSimpArgs false
set_option linter.unusedVariables false
namespace Go.Proofs.YthlgnjlpakimaaaGreatDoor
open Go.ChangeShapes Go.WideShapes Go.ChangeAt Go.RowKit
attribute [local irreducible] AW AWY Cf Bf vop Bw Bh Bx qop Cg Cz Az Aw C5 A7 Bl Cj
attribute [local go_sem] Ap Ar
theorem Ap6 {n:Int} (h:(-9223372036854775808<=n&&n<=9223372036854775807)=true):I64 n:=by
 simp only [Bool.and_eq_true,decide_eq_true_eq] at h
 exact I64.of h.1 h.2
def Bh5 (it:List Ad) (ps:List Ao):List (List Aa):=(ps.filter fun x=>Hu it [x.span]).map (·.vec)
def Bw8 (z:List Ao) (known:List Aa) (it:List Ad):List Aa:=if Ay z=true/\Ak known=true then (if (Bh5 it (Dt z known)).length=0 then known else Bt7 (Bh5 it (Dt z known))) else []
theorem A13 (z:List Ao) (known:List Aa):(Dt z known).length<=2*z.length+1:=by
 have h:∀ i,(Gf z known i).length<=2*i:=fun i=>by
  induction i with
  | zero=>exact Nat.le_refl _
  | succ i ih =>
   rw [Gf,List.length_append]
   split
   ·unfold A29
    split<;>simp<;>omega
   ·simp;omega
 have:=h z.length
 rw [Dt,List.length_append]
 have:(R8 z known).length<=1:=by unfold R8;split<;>simp
 omega
theorem Wl:∀ {l:List Ao} {p:Option Ao},B6 p l=true->Bb p<=255->(l.length:Int)<=255 - Bb p
 | [],p,_,hp=>by simp;omega
 | y :: l,p,h,hp=>by
  simp only [B6,Dc,Ch,Bool.and_eq_true,decide_eq_true_eq] at h
  obtain ⟨⟨⟨h1,_⟩,⟨h2,h3⟩,_⟩,h4⟩:=h
  have h5:(l.length:Int)<=255 - y.span.hi:=Wl h4 h3
  rw [List.length_cons]
  omega
theorem B21 {z:List Ao} {known:List Aa} (hF:Ay z=true) (hk:Ak known=true):∀ i,∀ x∈Gf z known i,(0<=x.span.lo/\x.span.lo<=255/\0<=x.span.hi/\x.span.hi<=255)/\Ak x.vec=true
 | 0,x,hx=>by simp [Gf] at hx
 | i+1,x,hx=>by
  rw [Gf,List.mem_append] at hx
  rcases hx with hx | hx
  ·exact B21 hF hk i x hx
  ·cases hc:z[i]? with
   | none=>rw [hc] at hx;simp at hx
   | some y =>
    rw [hc] at hx
    have hy:y∈z:=List.mem_of_getElem? hc
    have h1:=Tv hF (by decide) y hy
    have h2:=Eu hF y hy
    simp only [Ch,Bool.and_eq_true] at h2
    have h3:=Kr (Wk hF i)
    simp only [List.mem_append,List.mem_singleton] at hx
    rcases hx with hx | rfl
    ·unfold A29 at hx
     split at hx
     ·rw [List.mem_singleton] at hx
      subst hx
      exact ⟨⟨by show 0<=Bb _+1;omega,by show Bb _+1<=255;omega,by show 0<=y.span.lo - 1;omega,by show y.span.lo - 1<=255;omega⟩,hk⟩
     ·simp at hx
    ·exact ⟨by omega,h2.2⟩
theorem B94 {z:List Ao} {known:List Aa} (hF:Ay z=true) (hk:Ak known=true):∀ x∈Dt z known,(0<=x.span.lo/\x.span.lo<=255/\0<=x.span.hi/\x.span.hi<=255)/\Ak x.vec=true:=fun x hx=>by
 rw [Dt,List.mem_append] at hx
 rcases hx with hx | hx
 ·exact B21 hF hk _ x hx
 ·unfold R8 at hx
  have h3:=Kr (Wk hF z.length)
  rw [List.take_length] at h3
  split at hx
  ·rw [List.mem_singleton] at hx
   subst hx
   exact ⟨⟨by show 0<=Bb _+1;omega,by show Bb _+1<=255;omega,by show (0:Int)<=255;decide,by show (255:Int)<=255;decide⟩,hk⟩
  ·simp at hx
end Go.Proofs.YthlgnjlpakimaaaGreatDoor
namespace Go.Proofs.YthlgnjlpakimaaaGreatDoor
theorem E7:∀ {l:List Ao} {p:Option Ao},B6 p l=true->l.Pairwise (fun x y=>x.span.hi < y.span.lo)/\∀ x∈l,Bb p < x.span.lo/\x.span.lo<=x.span.hi
 | [],_,_=>⟨.nil,fun x hx=>by simp at hx⟩
 | x :: l,p,h=>by
  simp only [B6,Dc,Ch,Bool.and_eq_true,decide_eq_true_eq] at h
  obtain ⟨⟨⟨h1,_⟩,⟨h2,h3⟩,_⟩,h4⟩:=h
  obtain ⟨g1,g2⟩:=E7 h4
  have g3:∀ y∈l,x.span.hi < y.span.lo:=fun y hy=>(g2 y hy).1
  refine ⟨.cons g3 g1,fun y hy=>?_⟩
  rcases List.mem_cons.1 hy with rfl | hy
  ·exact ⟨h1,h2⟩
  ·have:=g3 y hy
   have:=(g2 y hy).2
   omega
theorem Yz {z:List Ao} (hF:Ay z=true) {i j:Nat} (h:i < j) (hj:j < z.length):z[i].span.hi < z[j].span.lo:=List.pairwise_iff_getElem.1 (E7 hF).1 i j (by omega) hj h
theorem Uv {z:List Ao} (hF:Ay z=true) {i:Nat} (hi:i < z.length):-1 < z[i].span.lo/\z[i].span.lo<=z[i].span.hi:=(E7 hF).2 z[i] (List.getElem_mem hi)
theorem Vz {l:List Ao} {m:Nat} (h0:0 < m) (h:m - 1 < l.length):Bb (l.take m).getLast? = l[m - 1].span.hi:=by
 rw [U3 h0 h];rfl
theorem Ag4 {z:List Ao} (hF:Ay z=true) {i j:Nat} (hj:j < i) (hi:i<=z.length):z[j].span.hi<=Bb (z.take i).getLast? := by
 rw [Vz (l:=z) (m:=i) (by omega) (by omega)]
 rcases Nat.lt_or_ge j (i - 1) with h | h
 ·have:=Yz hF h (by omega)
  have:=Uv hF (show i - 1 < z.length by omega)
  omega
 ·obtain rfl:j=i - 1:=by omega
  exact Int.le_refl _
theorem Bj4 {z:List Ao} (hF:Ay z=true) {i:Nat} (hi:i<=z.length) {o:Int} (ho:Bb (z.take i).getLast? < o):∀ x∈z.take i,x.has o=false:=fun x hx=>by
 obtain ⟨j,hj,rfl⟩:=List.mem_take_iff_getElem.1 hx
 have:=Ag4 hF (show j < i by omega) hi
 simp [Ao.has];omega
theorem B03 {z:List Ao} (hF:Ay z=true) {i:Nat} (hi:i < z.length):Bb (z.take i).getLast? < z[i].span.lo:=by
 rcases Nat.eq_zero_or_pos i with rfl | h
 ·exact (Uv hF hi).1
 ·rw [Vz h (by omega)]
  exact Yz hF (by omega) hi
theorem Rw {z:List Ao} (hF:Ay z=true) (known:List Aa) {i:Nat} (hi:i < z.length) {o:Int} (h:z[i].span.lo<=o/\o<=z[i].span.hi):Bd z known o=z[i].vec:=by
 have:=B03 hF hi
 unfold Bd
 rw [Re (Bj4 hF (by omega) (by omega)) hi (by simp [Ao.has];omega)]
theorem A95 {z:List Ao} (hF:Ay z=true) (known:List Aa) {i:Nat} (hi:i<=z.length) {o:Int} (h:Bb (z.take i).getLast? < o) (h2:∀ hl:i < z.length,o < z[i].span.lo):Bd z known o=known:=by
 unfold Bd
 rw [Xu]
 intro x hx
 obtain ⟨k,hk,rfl⟩:=List.mem_iff_getElem.1 hx
 rcases Nat.lt_or_ge k i with h3 | h3
 ·have:=Ag4 hF h3 hi
  simp [Ao.has];omega
 ·have h4:=h2 (by omega)
  have h5:z[i].span.lo<=z[k].span.lo:=by
   rcases Nat.eq_or_lt_of_le h3 with rfl | h6
   ·exact Int.le_refl _
   ·have:=Yz hF h6 hk
    have:=Uv hF (show i < z.length by omega)
    omega
  simp [Ao.has];omega
theorem Yf {z:List Ao} (hF:Ay z=true) (known:List Aa):∀ x∈Dt z known,∀ o,x.span.lo<=o->o<=x.span.hi->Bd z known o=x.vec:=by
 have hu:∀ i,i<=z.length->∀ x∈Gf z known i,∀ o,x.span.lo<=o->o<=x.span.hi->Bd z known o=x.vec:=by
  intro i
  induction i with
  | zero=>intro _ x hx;simp [Gf] at hx
  | succ i ih =>
   intro hi x hx o h1 h2
   rw [Pc (by omega),List.mem_append,List.mem_append,List.mem_singleton] at hx
   rcases hx with hx | hx | hx
   ·exact ih (by omega) x hx o h1 h2
   ·unfold A29 at hx
    split at hx
    ·rw [List.mem_singleton] at hx
     rw [hx] at h1 h2 ⊢
     simp only at h1 h2 ⊢
     exact A95 hF known (i:=i) (by omega) (by omega) fun _=>by omega
    ·simp at hx
   ·rw [hx] at h1 h2 ⊢
    exact Rw hF known (by omega) ⟨h1,h2⟩
 intro x hx o h1 h2
 rw [Dt,List.mem_append] at hx
 rcases hx with hx | hx
 ·exact hu _ (Nat.le_refl _) x hx o h1 h2
 ·unfold R8 at hx
  split at hx
  ·rw [List.mem_singleton] at hx
   subst hx
   simp only at h1 h2 ⊢
   refine A95 hF known (i:=z.length) (Nat.le_refl _) ?_ fun hl=>absurd hl (Nat.lt_irrefl _)
   rw [List.take_length];omega
  ·simp at hx
theorem Bi4 {z:List Ao} (hF:Ay z=true) (known:List Aa) {o:Int} (h0:0<=o) (h1:o<=255):∃ x∈Dt z known,x.span.lo<=o/\o<=x.span.hi:=by
 obtain ⟨i,hi⟩ : ∃ i,z.findIdx (fun x=>decide (o<=x.span.hi))=i:=⟨_,rfl⟩
 have hil:i<=z.length:=hi ▸ List.findIdx_le_length
 have hlow:Bb (z.take i).getLast? < o:=by
  rcases Nat.eq_zero_or_pos i with rfl | h
  ·show (-1:Int) < o;omega
  ·rw [Vz (l:=z) (m:=i) h (by omega)]
   have:=List.not_of_lt_findIdx (p:=fun x:Ao=>decide (o<=x.span.hi)) (xs:=z) (i:=i - 1) (by rw [hi];omega)
   simp at this
   exact this
 rcases Nat.lt_or_ge i z.length with h | h
 ·have h3:o<=z[i].span.hi:=by
   have:=List.findIdx_getElem (p:=fun x:Ao=>decide (o<=x.span.hi)) (xs:=z) (w:=by rw [hi];exact h)
   simp only [hi] at this
   simpa using this
  have hs:=V0 (known:=known) (show i+1<=z.length from h)
  rw [Pc h] at hs
  rcases Int.lt_or_le o z[i].span.lo with h4 | h4
  ·refine ⟨⟨⟨Bb (z.take i).getLast? + 1,z[i].span.lo - 1⟩,known⟩,hs.subset ?_,by show Bb _+1<=o;omega,by show o<=z[i].span.lo - 1;omega⟩
   rw [A29,if_pos (by omega)]
   simp
  ·exact ⟨z[i],hs.subset (by simp),h4,h3⟩
 ·obtain rfl:i=z.length:=by omega
  rw [List.take_length] at hlow
  refine ⟨⟨⟨Bb z.getLast? + 1,255⟩,known⟩,?_,by show Bb _+1<=o;omega,h1⟩
  rw [Dt,R8,if_pos (by omega)]
  simp
theorem B70 (a b:List Ad):Hu a b=true↔∃ o:Nat,o < 256/\Ae a o=true/\Ae b o=true:=by
 rw [Hu,decide_eq_true_eq]
 constructor
 ·intro hp
  obtain ⟨x,hx⟩ : ∃ x,x∈Ci a b:=by
   cases hc:Ci a b with
   | nil=>rw [hc] at hp;simp at hp
   | cons x l=>exact ⟨x,by simp⟩
  have hf:=(L0 (Be _) x hx).2
  obtain ⟨o,ho⟩ : ∃ o:Nat,(o:Int)=x.lo:=⟨x.lo.toNat,by omega⟩
  have ho':o < 256:=by omega
  have m3:Ae (Ci a b) o=true:=by
   rw [Ae,List.any_eq_true]
   exact ⟨x,hx,by simp;omega⟩
  unfold Ci at m3
  rw [C3 _ ho',Bool.and_eq_true] at m3
  exact ⟨o,ho',m3⟩
 ·rintro ⟨o,ho,h1,h2⟩
  have m3:Ae (Ci a b) o=true:=by
   unfold Ci
   rw [C3 _ ho,h1,h2];rfl
  cases hc:Ci a b with
  | nil=>rw [hc] at m3;simp [Ae] at m3
  | cons x l=>simp
end Go.Proofs.YthlgnjlpakimaaaGreatDoor
