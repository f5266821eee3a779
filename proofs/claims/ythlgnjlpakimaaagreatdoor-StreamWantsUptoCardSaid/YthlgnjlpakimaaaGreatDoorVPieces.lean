/- Zones and what is sharp between them: told one by one (the program's). -/
import Derived.Test.YthlgnjlpakimaaaGreatDoorVRefTouch
import Derived.Test.YthlgnjlpakimaaaGreatDoorVTidy
import Derived.Test.YthlgnjlpakimaaaGreatDoorVShelfAll
set_option linter.all false
set_option linter.unnecessarySimpa false
set_option linter.unusedSimpArgs false
set_option linter.unusedVariables false
namespace Go.Proofs.YthlgnjlpakimaaaGreatDoor
open Go.ChangeShapes Go.WideShapes Go.ChangeAt Go.RowKit
attribute [local irreducible] AW AWY Cf Bf vop Bw Bh Bx qop Cg Cz Az Aw C5 A7 Bl Cj R4
attribute [local go_sem] M1 Ap Ar
theorem Au5 (l:List Ad):A7 Tryz.prog A9 189 [.iv (spI l)] (.own 0) [.row 0 66 2 ((Ba l).map M1)] :=
 Dj (fun _ _ _ h=>Qf h) Tryz.func189 rfl (by kernel_rfl) fun V w E vs hV hG hr=>by
  obtain ⟨v0,rfl,h0⟩:=Ja hr
  exact Ro l _ w (Fi hV h0)
theorem Au6 (l:List Ad):A7 Tryz.prog A9 189 [.iv (spI l)] (.iv (spI (Ba l))) []:=(Au5 l).frz trivial
theorem L0:∀ {l:List Ad} {e:Int},B7 e l=true->∀ s∈l,e < s.lo/\s.lo<=s.hi/\s.hi<=255/\0<=s.lo
 | [],_,_,s,hs=>by simp at hs
 | x :: l,e,h,s,hs=>by
  obtain ⟨h1,h2⟩:=B4.1 h
  rcases List.mem_cons.1 hs with rfl | hs
  ·omega
  ·have:=L0 h2 s hs
   omega
theorem Yk:∀ {l:List Ad} {e:Int},B7 e l=true->l.Pairwise fun s t=>s.hi < t.lo
 | [],_,_=>.nil
 | x :: l,e,h=>by
  obtain ⟨h1,h2⟩:=B4.1 h
  exact .cons (fun t ht=>(L0 h2 t ht).1) (Yk h2)
theorem Zj (l:List Ad):∀ s∈Ba l,s.lo<=s.hi/\s.hi<=255/\0<=s.lo:=fun s hs=>(L0 (Be _) s hs).2
def ovS (s t:Ad):Prop:=s.lo<=t.hi/\t.lo<=s.hi
theorem Sy (l:List Ad) {o:Nat} (ho:o < 256):Ae (Ba l) o=Ae l o:=C3 (fun o=>Ae l o) ho
theorem B69 {a b:List Ad} {s t:Ad} (hs:s∈Ba a) (ht:t∈Ba b) (h:ovS s t):Hu a b=true:=by
 have h1:=Zj a s hs
 have h2:=Zj b t ht
 obtain ⟨o,ho⟩ : ∃ o:Nat,(o:Int)=max s.lo t.lo:=⟨(max s.lo t.lo).toNat,by omega⟩
 obtain ⟨k1,k2⟩:=h
 have ho':o < 256:=by omega
 have m1:Ae a o=true:=by
  rw [<-Sy a ho',Ae,List.any_eq_true]
  exact ⟨s,hs,by simp;omega⟩
 have m2:Ae b o=true:=by
  rw [<-Sy b ho',Ae,List.any_eq_true]
  exact ⟨t,ht,by simp;omega⟩
 have m3:Ae (Ci a b) o=true:=by
  unfold Ci
  rw [C3 _ ho',m1,m2];rfl
 rw [Hu,decide_eq_true_eq]
 cases hc:Ci a b with
 | nil=>rw [hc] at m3;simp [Ae] at m3
 | cons x l=>simp
theorem Bf6 {a b:List Ad} (h:∀ s∈Ba a,∀ t∈Ba b,¬ ovS s t):Hu a b=false:=by
 rw [Hu,decide_eq_false_iff_not]
 intro hp
 obtain ⟨x,hx⟩ : ∃ x,x∈Ci a b:=by
  cases hc:Ci a b with
  | nil=>rw [hc] at hp;simp at hp
  | cons x l=>exact ⟨x,by simp⟩
 have hf:=(L0 (Be _) x hx).2
 obtain ⟨o,ho⟩ : ∃ o:Nat,(o:Int)=x.lo:=⟨x.lo.toNat,by omega⟩
 have ho':o < 256:=by omega
 have m3:Ae (Ci a b) o=true:=by
  rw [Ae,List.any_eq_true]
  exact ⟨x,hx,by simp;omega⟩
 unfold Ci at m3
 rw [C3 _ ho',Bool.and_eq_true,<-Sy a ho',<-Sy b ho',Ae,Ae,List.any_eq_true,List.any_eq_true] at m3
 obtain ⟨⟨s,hs,h1⟩,⟨t,ht,h2⟩⟩:=m3
 simp at h1 h2
 exact h s hs t ht ⟨by omega,by omega⟩
theorem B39 {l m:List Ad} {i:Nat} (h:i < l.length) (hI:∀ s∈l.take i,∀ t∈m,¬ ovS s t) (hx:∀ t∈m,¬ ovS l[i] t):∀ s∈l.take (i+1),∀ t∈m,¬ ovS s t:=fun s hs=>by
 rw [List.take_succ_eq_append_getElem h] at hs
 rcases List.mem_append.1 hs with h1 | h1
 ·exact hI s h1
 ·rw [List.mem_singleton.1 h1];exact hx
theorem B95 {x:Ad} {l:List Ad} {j:Nat} (h:j < l.length) (hp:l.Pairwise fun s t=>s.hi < t.lo) (hf:∀ s∈l,s.lo<=s.hi) (hJ:∀ t∈l.take j,t.hi < x.lo) (hx:x.hi < l[j].lo):∀ t∈l,¬ ovS x t:=fun t ht hov=>by
 have e:l=l.take j++l[j] :: l.drop (j+1):=by rw [<-List.drop_eq_getElem_cons h,List.take_append_drop]
 rw [e] at ht
 rcases List.mem_append.1 ht with h1 | h1
 ·have:=hJ t h1
  have:=hov.1
  omega
 ·rcases List.mem_cons.1 h1 with rfl | h1
  ·have:=hov.2
   omega
  ·rw [e] at hp
   have hp2:=(List.pairwise_cons.1 (List.pairwise_append.1 hp).2.1).1 t h1
   have:=hf l[j] (List.getElem_mem h)
   have:=hov.2
   omega
set_option maxRecDepth 100000 in
theorem Aj0 (a b:List Ad):A7 Tryz.prog A9 150 [.iv (spI a),.iv (spI b)] (.val (.bool (Hu a b))) []:=by
 refine A7.of (n:=37) (rs:=[.tmp 4]) Tryz.func150 rfl (by kernel_rfl) Tryz.ntmps150 (by kernel_rfl) (by simp) (fun _ _=>A9.later) ?_
 intro hok V w0
 have hla:(Ba a).length<=1073741824:=Nat.le_trans (Ea _) (by decide)
 have hlb:(Ba b).length<=1073741824:=Nat.le_trans (Ea _) (by decide)
 obtain ⟨B,hB⟩ : ∃ B,Hu a b=B:=⟨_,rfl⟩
 rw [hB]
 refine g ?_
 repeat' (first | refine st_ rfl (g ?_) | refine Ab (Au6 _) rfl (g ?_))
 unfold spI
 refine g ?_
 repeat' refine st_ rfl (g ?_)
 refine AW.loop (fun i:{i:Nat // i<=(Ba a).length/\∀ s∈(Ba a).take i,∀ t∈Ba b,¬ ovS s t}=>⟨[(1,.iv (spI b)),(10,.iv (.sl 2 ((Ba a).map M1))),(11,.val (.int .i64 ((Ba a).length:Nat))),(12,.val (.int .i64 (i.1:Nat)))],[]⟩) (fun i=>(Ba a).length - i.1) ⟨0,Nat.zero_le _,fun s hs=>by simp at hs⟩ id ⟨⟨rfl,rfl,rfl,rfl,trivial⟩,trivial,List.nodup_nil⟩ fun ⟨i,hi,hI⟩=>?_
 refine g ?_
 repeat' (first | refine st_ rfl (g ?_) | refine Bq (fun h=>g ?_) (fun h=>g ?_) | refine ix_ (by omega) (g ?_) | refine Ab (Au6 _) rfl (g ?_))
 ·have hlt:i < (Ba a).length:=by omega
  unfold spI
  refine g ?_
  repeat' refine st_ rfl (g ?_)
  refine AW.loop (fun j:{j:Nat // j<=(Ba b).length/\∀ t∈(Ba b).take j,t.hi < (Ba a)[i].lo}=>⟨[(1,.iv (spI b)),(6,.bp 700 0),(10,.iv (.sl 2 ((Ba a).map M1))),(11,.val (.int .i64 ((Ba a).length:Nat))),(12,.val (.int .i64 (i:Nat))),(17,.iv (.sl 2 ((Ba b).map M1))),(18,.val (.int .i64 ((Ba b).length:Nat))),(19,.val (.int .i64 (j.1:Nat)))],[.box 700 [.val (.int .i64 (Ba a)[i].lo),.val (.int .i64 (Ba a)[i].hi)]]⟩) (fun j=>(Ba b).length - j.1) ⟨0,Nat.zero_le _,fun s hs=>by simp at hs⟩ id ⟨⟨rfl,rfl,rfl,rfl,rfl,rfl,rfl,rfl,trivial⟩,⟨rfl,trivial⟩,by simp [Au,BA.id]⟩ fun ⟨j,hj,hJ⟩=>?_
  refine g ?_
  repeat' (first | refine st_ rfl (g ?_) | refine Bq (fun h=>g ?_) (fun h=>g ?_) | refine ix_ (by omega) (g ?_))
  ·refine ⟨⟨j+1,by omega,fun t ht=>?_⟩,id,⟨⟨rfl,rfl,rfl,rfl,rfl,rfl,rfl,rfl,trivial⟩,⟨rfl,trivial⟩,by simp [Au,BA.id]⟩,by show (Ba b).length - (j+1) < (Ba b).length - j;omega⟩
   rw [List.take_succ_eq_append_getElem (by omega)] at ht
   rcases List.mem_append.1 ht with h1 | h1
   ·exact hJ t h1
   ·rw [List.mem_singleton.1 h1];omega
  ·exact ⟨⟨i+1,hlt,B39 hlt hI (B95 (by omega) (Yk (Be _)) (fun s hs=>(Zj b s hs).1) hJ h)⟩,id,⟨⟨rfl,rfl,rfl,rfl,trivial⟩,trivial,List.nodup_nil⟩,by show (Ba a).length - (i+1) < (Ba a).length - i;omega⟩
  ·rw [<-hB]
   have hjt:j < (Ba b).length:=by omega
   exact (B69 (List.getElem_mem hlt) (List.getElem_mem hjt) ⟨by omega,by omega⟩).symm
  ·obtain rfl:j=(Ba b).length:=by omega
   rw [List.take_length] at hJ
   exact ⟨⟨i+1,hlt,B39 hlt hI fun t ht hov=>by have:=hJ t ht;have:=hov.1;omega⟩,id,⟨⟨rfl,rfl,rfl,rfl,trivial⟩,trivial,List.nodup_nil⟩,by show (Ba a).length - (i+1) < (Ba a).length - i;omega⟩
 ·obtain rfl:i=(Ba a).length:=by omega
  rw [List.take_length] at hI
  rw [<-hB,Bf6 hI]
end Go.Proofs.YthlgnjlpakimaaaGreatDoor
namespace Go.Proofs.YthlgnjlpakimaaaGreatDoor
open Go.ChangeShapes Go.WideShapes Go.ChangeAt Go.RowKit
attribute [local irreducible] AW AWY Cf Bf vop Bw Bh Bx qop Cg Cz Az Aw C5 A7 Bl Cj
attribute [local go_sem] Gd Gn Ap Ar
theorem Am7 (z:List Ao) (known:List Aa):A7 Tryz.prog A9 122 [.iv (znI z),.iv (stI known)] (.fn 188 [.ip [znI z],.ip [stI known]]) []:=by
 have h:A7 Tryz.prog A9 122 [.iv (znI z),.iv (stI known)] (.fn 188 [.bp 0 0,.bp 1 0]) [.box 0 [.iv (znI z)],.box 1 [.iv (stI known)]]:=by
  refine A7.of (n:=6) (rs:=[.tmp 4]) Tryz.func122 rfl (by kernel_rfl) Tryz.ntmps122 (by kernel_rfl) (by simp) (fun _ _=>A9.later) ?_
  intro hok V w0
  refine g ?_
  repeat' refine st_ rfl (g ?_)
  exact ⟨fun b=>300+100*b,rfl,⟨rfl,rfl⟩,by simp⟩
 exact (h.frz ⟨trivial,trivial⟩).frz ⟨trivial,trivial⟩
def zoA (x:Ao):AV:=.agg [.val (.int .i64 x.span.lo),.val (.int .i64 x.span.hi),.iv (stI x.vec)]
def Cj5 (x:Ao):List AV:=[zoA x]
def A29 (known:List Aa) (p:Option Ao) (x:Ao):List Ao:=if Bb p+1 < x.span.lo then [⟨⟨Bb p+1,x.span.lo - 1⟩,known⟩] else []
def Gf (z:List Ao) (known:List Aa):Nat->List Ao
 | 0=>[]
 | i+1=>Gf z known i++(match z[i]? with
  | some x=>A29 known (z.take i).getLast? x++[x]
  | none=>[])
def R8 (z:List Ao) (known:List Aa):List Ao:=if Bb z.getLast? + 1<=255 then [⟨⟨Bb z.getLast? + 1,255⟩,known⟩] else []
def Dt (z:List Ao) (known:List Aa):List Ao:=Gf z known z.length++R8 z known
theorem Pc {z:List Ao} {known:List Aa} {i:Nat} (h:i < z.length):Gf z known (i+1)=Gf z known i++(A29 known (z.take i).getLast? z[i]++[z[i]]):=by
 rw [Gf,List.getElem?_eq_getElem h]
theorem Bf2 (z : List Ao) (known : List Aa) : ∀ {i k : Nat}, i <= k -> Gf z known i <+: Gf z known k := fun {i k} h => by
  induction k with
  | zero => obtain rfl : i = 0 := by omega
            exact List.prefix_rfl
  | succ k ih =>
    rcases Nat.lt_or_ge i (k + 1) with h1 | h1
    · exact (ih (by omega)).trans (List.prefix_append _ _)
    · obtain rfl : i = k + 1 := by omega
      exact List.prefix_rfl
theorem V0 {z:List Ao} {known:List Aa} {i:Nat} (h:i<=z.length):Gf z known i <+: Dt z known:=(Bf2 z known h).trans (List.prefix_append _ _)
theorem Tv:∀ {l:List Ao} {p:Option Ao},B6 p l=true->-1<=Bb p->∀ x∈l,0<=x.span.lo/\x.span.lo<=x.span.hi/\x.span.hi<=255
 | [],_,_,_,x,hx=>by simp at hx
 | y :: l,p,h,hp,x,hx=>by
  simp only [B6,Dc,Ch,Bool.and_eq_true,decide_eq_true_eq] at h
  obtain ⟨⟨⟨h1,_⟩,⟨h2,h3⟩,_⟩,h4⟩:=h
  rcases List.mem_cons.1 hx with rfl | hx
  ·omega
  ·exact Tv h4 (show -1<=y.span.hi by omega) x hx
theorem Wk {z:List Ao} (h:Ay z=true) (i:Nat):B6 none (z.take i)=true:=by
 unfold Ay at h
 rw [<-List.take_append_drop i z,Ew,Bool.and_eq_true] at h
 exact h.1
set_option maxRecDepth 100000 in
theorem Am6 (z : List Ao) (known : List Aa) (hf : Ay z = true) : Bl Tryz.prog A9 188 [.ip [znI z], .ip [stI known]] Cj5 (fun ys => ys = Dt z known) (fun pre => pre <+: Dt z known) := by
  refine Bl.of (n := 48) Tryz.func188 rfl (by kernel_rfl) Tryz.ntmps188 (by kernel_rfl) (by simp) (fun _ _ => A9.later) ?_
  intro hok Y
  have hlen : z.length <= 1073741824 := by simpa [znI] using hok.1.1.1
  refine g ?_
  refine g ?_
  repeat' refine Gs rfl (g ?_)
  refine AWY.loop (fun i : {i : Nat // i <= z.length} => (.going (Gf z known i.1), ⟨[(0, .val (.func (.yield Y.l) #[] #[])), (2, .ip [stI known]), (4, .val (.int .i64 (Bb (z.take i.1).getLast? + 1))), (7, .iv (znI z)), (8, .val (.int .i64 (z.length : Nat))), (9, .val (.int .i64 (i.1 : Nat)))], []⟩)) (fun i => z.length - i.1) ⟨0, Nat.zero_le _⟩ id ⟨rfl, ⟨rfl, rfl, rfl, rfl, rfl, rfl, trivial⟩, trivial, List.nodup_nil⟩ fun ⟨i, hi⟩ => ?_
  have hE := Q6 (l := z.take i) (p := none) (Wk hf i) ⟨by decide, by decide⟩
  rw [Option.or_none] at hE
  refine g ?_
  repeat' (first | refine Gs rfl (g ?_) | refine C9 (fun h => g ?_) (fun h => g ?_))
  · have hlt : i < z.length := by simpa using h
    obtain ⟨-, o1, o2, o3, -⟩ := En (by simpa [znI] using hok.1.1.2) (enZ z[i]) (List.mem_map_of_mem (List.getElem_mem hlt))
    have hz := Tv hf (by decide) z[i] (List.getElem_mem hlt)
    refine ⟨by omega, _, Cb (List.getElem?_eq_getElem hlt), ?_⟩
    refine g ?_
    repeat' (first | refine Gs rfl (g ?_) | refine Am (g ?_))
    cases hg : decide (Bb (List.take i z).getLast? + 1 < z[i].span.lo)
    · have hs : Gf z known i ++ [z[i]] = Gf z known (i + 1) := by rw [Pc hlt, A29, if_neg (of_decide_eq_false hg), List.nil_append]
      refine g ?_
      repeat' refine Gs rfl (g ?_)
      refine Q7 (x := z[i]) ?_ ?_ ?_ ?_
      · rfl
      · exact Sbs.rfl_ _
      · rw [hs]; exact V0 hlt
      simp only [go_sem, reduceIte]
      rw [hs]
      refine ⟨⟨o1, o2, trivial, trivial⟩, ?_, ?_⟩
      · refine g ?_
        repeat' refine Gs rfl (g ?_)
        exact ⟨⟨i + 1, hlt⟩, id, rfl, ⟨⟨rfl, rfl, by rw [Jq hlt]; rfl, rfl, rfl, rfl, trivial⟩, trivial, List.nodup_nil⟩, by show z.length - (i + 1) < z.length - i; omega⟩
      · refine g ?_
        repeat' (first | refine Gs rfl (g ?_) | exact trivial)
    · have hs : Gf z known i ++ [(⟨⟨Bb (z.take i).getLast? + 1, z[i].span.lo - 1⟩, known⟩ : Ao), z[i]] = Gf z known (i + 1) := by rw [Pc hlt, A29, if_pos (of_decide_eq_true hg)]; rfl
      refine g ?_
      refine Be3 (x := (⟨⟨Bb (z.take i).getLast? + 1, z[i].span.lo - 1⟩, known⟩ : Ao)) rfl ?_ ?_ ?_ ?_
      · rfl
      · exact Sbs.rfl_ _
      · refine List.IsPrefix.trans ?_ (V0 hlt)
        rw [<- hs]
        exact ⟨[z[i]], by simp⟩
      simp only [go_sem, reduceIte]
      refine ⟨⟨o1, o2, trivial, trivial⟩, ?_, ?_⟩
      · refine g ?_
        repeat' refine Gs rfl (g ?_)
        refine Q7 (x := z[i]) ?_ ?_ ?_ ?_
        · rfl
        · exact Sbs.rfl_ _
        · rw [List.append_assoc]
          show Gf z known i ++ [_, z[i]] <+: _
          rw [hs]; exact V0 hlt
        simp only [go_sem, reduceIte]
        rw [List.append_assoc, List.singleton_append, hs]
        refine ⟨?_, ?_⟩
        · refine g ?_
          repeat' refine Gs rfl (g ?_)
          exact ⟨⟨i + 1, hlt⟩, id, rfl, ⟨⟨rfl, rfl, by rw [Jq hlt]; rfl, rfl, rfl, rfl, trivial⟩, trivial, List.nodup_nil⟩, by show z.length - (i + 1) < z.length - i; omega⟩
        · refine g ?_
          repeat' (first | refine Gs rfl (g ?_) | exact trivial)
      · refine g ?_
        repeat' (first | refine Gs rfl (g ?_) | exact trivial)
  · rename_i h0
    obtain rfl : i = z.length := by have : z.length <= i := by simpa using h0
                                    omega
    rw [List.take_length] at *
    refine Q7 (x := ⟨⟨Bb z.getLast? + 1, 255⟩, known⟩) ?_ ?_ ?_ ?_
    · rfl
    · exact Sbs.rfl_ _
    · rw [Dt, R8, if_pos (of_decide_eq_true h)]; exact List.prefix_rfl
    simp only [go_sem]
    refine ⟨⟨.inr trivial, ?_⟩, .inr trivial⟩
    rw [Dt, R8, if_pos (of_decide_eq_true h)]
  · rename_i h0
    obtain rfl : i = z.length := by have : z.length <= i := by simpa using h0
                                    omega
    rw [List.take_length] at *
    refine ⟨.inr trivial, ?_⟩
    rw [Dt, R8, if_neg (of_decide_eq_false h), List.append_nil]
end Go.Proofs.YthlgnjlpakimaaaGreatDoor
