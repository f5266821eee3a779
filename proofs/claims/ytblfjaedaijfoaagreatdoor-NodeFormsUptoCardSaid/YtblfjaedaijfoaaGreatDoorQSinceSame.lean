/- Up to where an interest is known: the program's and the reference's are one. -/
import Derived.Test.YtblfjaedaijfoaaGreatDoorQPlace
import Derived.Test.YtblfjaedaijfoaaGreatDoorQByte
import Derived.Test.YtblfjaedaijfoaaGreatDoorQLogKnown
import Derived.Test.YtblfjaedaijfoaaGreatDoorQTouch
set_option linter.all false
set_option linter.unnecessarySimpa false
set_option linter.unusedSimpArgs false
set_option linter.unusedVariables false
namespace Go.Proofs.YtblfjaedaijfoaaGreatDoor
open Go.ChangeShapes Go.WideShapes Go.ChangeAt Go.RowKit
attribute [local irreducible] AW AWY Bo B4 vop Bj B7 Bf qop Bu C4 Aq Aj Bh A7 B9 Ge
attribute [local go_sem] Hv Dq G6 Cv Eb Cm Jc Hr Db Dk Ae Af
set_option maxRecDepth 100000 in
theorem Xm (l:List Ap) (x:C1) (hf:C6 l=true):A7 Tryz.prog A8 106 [.iv (wrI l),boA x] (.val (.bool (Fw l x))) []:=by
 refine A7.of (n:=28) (rs:=[.tmp 4]) Tryz.func106 rfl (by kernel_rfl) Tryz.ntmps106 (by kernel_rfl) (by simp) (fun _ _=>A8.later) ?_
 intro hok V w0
 obtain ⟨B,hB⟩ : ∃ B,Fw l x=B:=⟨_,rfl⟩
 rw [hB]
 unfold Fw Ag9 at hB
 have hat:=Zw l x.object
 unfold A85 at hat
 rw [if_pos hf] at hat
 cases hg:Jr l x.object with
 | none =>
  rw [hg] at hB hat
  refine g ?_
  repeat' (first | refine st_ rfl (g ?_) | refine A9 (hat) rfl (g ?_))
  exact hB
 | some w =>
  rw [hg] at hB hat
  simp only at hat hB
  rw [Rx] at hB
  refine g ?_
  repeat' (first | refine st_ rfl (g ?_) | refine A9 (hat) rfl (g ?_))
  refine ⟨_,fun u=>Me _ _ _ _ _ _ u,?_⟩
  refine g ?_
  repeat' (first | refine st_ rfl (g ?_) | refine Bi (g ?_) | (refine Cn rfl rfl (fun h=>?_) (fun h=>?_)<;>simp only [h]<;>refine g ?_))
  ·rw [<-hB,h];simp
  ·rw [<-hB,h];simp
set_option maxRecDepth 100000 in
theorem Ad7 (l:List C1) (f:FuncId) (C:List IV) (p:C1->Bool) (hp:∀ x,A7 Tryz.prog A8 f [boA x,.ip C] (.val (.bool (p x))) []):A7 Tryz.prog A8 198 [.iv (boI l),.fn f [.ip C]] (.val (.int .i64 (if l.any p=true then ((l.findIdx p:Nat):Int) else -1))) []:=by
 refine A7.of (n:=19) (rs:=[.tmp 4]) Tryz.func198 rfl (by kernel_rfl) Tryz.ntmps198 (by kernel_rfl) (by simp) (fun _ _=>A8.later) ?_
 intro hok V w0
 have hlen:l.length<=1073741824:=by simpa [boI] using hok.1.1
 refine g ?_
 repeat' refine st_ rfl (g ?_)
 refine AW.loop (fun m:{m:Nat // m<=l.length/\∀ x∈l.take m,p x=false}=>⟨[(0,.iv (boI l)),(1,.fn f [.ip C]),(7,.val (.int .i64 (l.length:Nat))),(8,.val (.int .i64 (m.1:Nat)))],[]⟩) (fun m=>l.length - m.1) ⟨0,Nat.zero_le _,fun x hx=>by simp at hx⟩ id ⟨⟨rfl,rfl,rfl,rfl,trivial⟩,trivial,List.nodup_nil⟩ fun ⟨m,hm,ht⟩=>?_
 refine g ?_
 repeat' (first | refine st_ rfl (g ?_) | refine Al (fun h=>g ?_) (fun h=>g ?_) | refine Cy (fun h=>g ?_) (fun h=>g ?_) | refine ix_ (by omega) (g ?_) | refine A9 (hp _) rfl (g ?_))
 ·have hlt:m < l.length:=by omega
  rw [if_pos (List.any_eq_true.2 ⟨_,List.getElem_mem hlt,h⟩),(List.findIdx_eq hlt).2 ⟨h,fun j hj=>ht _ (List.mem_take_iff_getElem.2 ⟨j,by omega,rfl⟩)⟩]
 ·refine ⟨⟨m+1,by omega,fun x hx=>?_⟩,id,⟨⟨rfl,rfl,rfl,rfl,trivial⟩,trivial,List.nodup_nil⟩,by show l.length - (m+1) < l.length - m;omega⟩
  rw [List.take_succ_eq_append_getElem (by omega)] at hx
  rcases List.mem_append.1 hx with h1 | h1
  ·exact ht x h1
  ·rw [List.mem_singleton.1 h1];exact h
 ·obtain rfl:m=l.length:=by omega
  rw [List.take_length] at ht
  rw [if_neg]
  rw [List.any_eq_true]
  rintro ⟨x,hx,hp⟩
  rw [ht x hx] at hp
  cases hp
theorem Bb4 (l:List C1) (f:FuncId) (C:List IV) (p:C1->Bool) (hp:∀ x,A7 Tryz.prog A8 f [boA x,.ip C] (.val (.bool (p x))) []):A7 Tryz.prog A8 104 [.iv (boI l),.fn f [.ip C]] (.val (.bool (l.any p))) []:=by
 refine A7.of (n:=9) (rs:=[.tmp 4]) Tryz.func104 rfl (by kernel_rfl) Tryz.ntmps104 (by kernel_rfl) (by simp) (fun _ _=>A8.later) ?_
 intro hok V w0
 have h1:=Ad7 l f C p hp
 cases ha:l.any p with
 | true =>
  rw [if_pos ha] at h1
  refine g ?_
  repeat' (first | refine st_ rfl (g ?_) | refine A9 (h1) rfl (g ?_))
  exact decide_eq_true (by omega)
 | false =>
  rw [if_neg (by rw [ha];decide)] at h1
  refine g ?_
  repeat' (first | refine st_ rfl (g ?_) | refine A9 (h1) rfl (g ?_))
  rfl
theorem Al8 (v:Cr) (x:C1) (hf:C6 v.held=true):A7 Tryz.prog A8 105 [boA x,.ip [stI v.known,znI v.zones,wrI v.held,boI v.bodies,.val (.int .i64 v.room)]] (.val (.bool (!Fw v.held x))) []:=by
 refine A7.of (n:=9) (rs:=[.tmp 3]) Tryz.func105 rfl (by kernel_rfl) Tryz.ntmps105 (by kernel_rfl) (by simp) (fun _ _=>A8.later) ?_
 intro hok V w0
 refine g ?_
 repeat' (first | refine st_ rfl (g ?_) | exact trivial | refine A9 (Xm _ x hf) rfl (g ?_))
end Go.Proofs.YtblfjaedaijfoaaGreatDoor
namespace Go.Proofs.YtblfjaedaijfoaaGreatDoor
open Go.ChangeShapes Go.WideShapes Go.ChangeAt Go.RowKit
attribute [local irreducible] AW AWY Bo B4 vop Bj B7 Bf qop Bu C4 Aq Aj Bh A7 B9 Ge
attribute [local go_sem] Eb Cm Jc Ae Af
theorem B52 (l:List Ap):A7 Tryz.prog A8 102 [.iv (wrI l)] (.fn 195 [.ip [wrI l]]) []:=by
 have h:A7 Tryz.prog A8 102 [.iv (wrI l)] (.fn 195 [.bp 0 0]) [.box 0 [.iv (wrI l)]]:=by
  refine A7.of (n:=4) (rs:=[.tmp 2]) Tryz.func102 rfl (by kernel_rfl) Tryz.ntmps102 (by kernel_rfl) (by simp) (fun _ _=>A8.later) ?_
  intro hok V w0
  refine g ?_
  repeat' refine st_ rfl (g ?_)
  exact ⟨fun b=>200+100*b,rfl,rfl,by simp⟩
 exact h.frz ⟨trivial,trivial⟩
def Da2 (w:Ap):List AV:=[.val (.int .i64 w.object),wA w]
theorem B51 (l:List Ap) (hf:C6 l=true):B9 Tryz.prog A8 195 [.ip [wrI l]] Da2 (fun ys=>ys=l) (fun pre=>pre <+: l):=by
 refine B9.of (n:=21) Tryz.func195 rfl (by kernel_rfl) Tryz.ntmps195 (by kernel_rfl) (by simp) (fun _ _=>A8.later) ?_
 intro hok Y
 have hlen:l.length<=1073741824:=by simpa [wrI] using hok.1.1.1
 have h1:=Gs l
 rw [hf] at h1
 refine g ?_
 refine g ?_
 repeat' refine K9 rfl (g ?_)
 refine A9 h1 rfl ?_
 refine g ?_
 repeat' refine K9 rfl (g ?_)
 refine AWY.loop (fun i:{i:Nat // i<=l.length}=>(.going (l.take i.1),⟨[(0,.val (.func (.yield Y.l) #[] #[])),(8,.iv (wrI l)),(9,.val (.int .i64 (l.length:Nat))),(10,.val (.int .i64 (i.1:Nat)))],[]⟩)) (fun i=>l.length - i.1) ⟨0,Nat.zero_le _⟩ id ⟨rfl,⟨rfl,rfl,rfl,rfl,trivial⟩,trivial,List.nodup_nil⟩ fun ⟨i,hi⟩=>?_
 refine g ?_
 repeat' (first | refine K9 rfl (g ?_) | refine Cy (fun h=>g ?_) (fun h=>g ?_))
 ·have hlt:i < l.length:=by simpa using h
  obtain ⟨-,o1,o2,o3,o4,-⟩:=Do (by simpa [wrI] using hok.1.1.2) (enW l[i]) (List.mem_map_of_mem (List.getElem_mem hlt))
  have hs:l.take i++[l[i]]=l.take (i+1):=(List.take_succ_eq_append_getElem hlt).symm
  refine ⟨by omega,_,Cx (List.getElem?_eq_getElem hlt),?_⟩
  refine g ?_
  repeat' (first | refine K9 rfl (g ?_) | refine Bi (g ?_))
  refine Rt (x:=l[i]) ?_ ?_ ?_ ?_
  ·rfl
  ·exact Sbs.rfl_ _
  ·rw [hs];exact List.take_prefix _ _
  simp only [go_sem]
  rw [hs]
  refine ⟨⟨o1,o2,o3,o4,trivial⟩,?_,?_⟩
  ·refine g ?_
   repeat' refine K9 rfl (g ?_)
   exact ⟨⟨i+1,hlt⟩,id,rfl,⟨⟨rfl,rfl,rfl,rfl,trivial⟩,trivial,List.nodup_nil⟩,by show l.length - (i+1) < l.length - i;omega⟩
  ·refine g ?_
   repeat' (first | refine K9 rfl (g ?_) | exact trivial)
 ·have hle:l.length<=i:=by simpa using h
  exact ⟨.inr trivial,List.take_of_length_le hle⟩
end Go.Proofs.YtblfjaedaijfoaaGreatDoor
namespace Go.Proofs.YtblfjaedaijfoaaGreatDoor
open Go.ChangeShapes Go.WideShapes Go.ChangeAt Go.RowKit
attribute [local irreducible] AW AWY Bo B4 vop Bj B7 Bf qop Bu C4 Aq Aj Bh A7 B9 Ge
attribute [local go_sem] Hr Db Ae Af
theorem At6 (z:List At) (known:List Ab):A7 Tryz.prog A8 276 [.iv (znI z),.iv (stI known)] (.fn 317 [.ip [znI z],.ip [stI known]]) []:=by
 have h:A7 Tryz.prog A8 276 [.iv (znI z),.iv (stI known)] (.fn 317 [.bp 0 0,.bp 1 0]) [.box 0 [.iv (znI z)],.box 1 [.iv (stI known)]]:=by
  refine A7.of (n:=6) (rs:=[.tmp 4]) Tryz.func276 rfl (by kernel_rfl) Tryz.ntmps276 (by kernel_rfl) (by simp) (fun _ _=>A8.later) ?_
  intro hok V w0
  refine g ?_
  repeat' refine st_ rfl (g ?_)
  exact ⟨fun b=>300+100*b,rfl,⟨rfl,rfl⟩,by simp⟩
 exact (h.frz ⟨trivial,trivial⟩).frz ⟨trivial,trivial⟩
def zoA (x:At):AV:=.agg [.val (.int .i64 x.span.lo),.val (.int .i64 x.span.hi),.iv (stI x.vec)]
def Da1 (x:At):List AV:=[zoA x]
def A43 (known:List Ab) (p:Option At) (x:At):List At:=if Bq p+1 < x.span.lo then [⟨⟨Bq p+1,x.span.lo - 1⟩,known⟩] else []
def Gm (z:List At) (known:List Ab):Nat->List At
 | 0=>[]
 | i+1=>Gm z known i++(match z[i]? with
  | some x=>A43 known (z.take i).getLast? x++[x]
  | none=>[])
def Qd (z:List At) (known:List Ab):List At:=if Bq z.getLast? + 1<=255 then [⟨⟨Bq z.getLast? + 1,255⟩,known⟩] else []
def Dg (z:List At) (known:List Ab):List At:=Gm z known z.length++Qd z known
theorem Ns {z:List At} {known:List Ab} {i:Nat} (h:i < z.length):Gm z known (i+1)=Gm z known i++(A43 known (z.take i).getLast? z[i]++[z[i]]):=by
 rw [Gm,List.getElem?_eq_getElem h]
theorem Bu4 (z : List At) (known : List Ab) : ∀ {i k : Nat}, i <= k -> Gm z known i <+: Gm z known k := fun {i k} h => by
  induction k with
  | zero => obtain rfl : i = 0 := by omega
            exact List.prefix_rfl
  | succ k ih =>
    rcases Nat.lt_or_ge i (k + 1) with h1 | h1
    · exact (ih (by omega)).trans (List.prefix_append _ _)
    · obtain rfl : i = k + 1 := by omega
      exact List.prefix_rfl
theorem Um {z:List At} {known:List Ab} {i:Nat} (h:i<=z.length):Gm z known i <+: Dg z known:=(Bu4 z known h).trans (List.prefix_append _ _)
theorem Th:∀ {l:List At} {p:Option At},Ba p l=true->-1<=Bq p->∀ x∈l,0<=x.span.lo/\x.span.lo<=x.span.hi/\x.span.hi<=255
 | [],_,_,_,x,hx=>by simp at hx
 | y :: l,p,h,hp,x,hx=>by
  simp only [Ba,D9,Cj,Bool.and_eq_true,decide_eq_true_eq] at h
  obtain ⟨⟨⟨h1,_⟩,⟨h2,h3⟩,_⟩,h4⟩:=h
  rcases List.mem_cons.1 hx with rfl | hx
  ·omega
  ·exact Th h4 (show -1<=y.span.hi by omega) x hx
theorem W9 {z:List At} (h:Az z=true) (i:Nat):Ba none (z.take i)=true:=by
 unfold Az at h
 rw [<-List.take_append_drop i z,Fz,Bool.and_eq_true] at h
 exact h.1
set_option maxRecDepth 100000 in
theorem At5 (z : List At) (known : List Ab) (hf : Az z = true) : B9 Tryz.prog A8 317 [.ip [znI z], .ip [stI known]] Da1 (fun ys => ys = Dg z known) (fun pre => pre <+: Dg z known) := by
  refine B9.of (n := 48) Tryz.func317 rfl (by kernel_rfl) Tryz.ntmps317 (by kernel_rfl) (by simp) (fun _ _ => A8.later) ?_
  intro hok Y
  have hlen : z.length <= 1073741824 := by simpa [znI] using hok.1.1.1
  refine g ?_
  refine g ?_
  repeat' refine K9 rfl (g ?_)
  refine AWY.loop (fun i : {i : Nat // i <= z.length} => (.going (Gm z known i.1), ⟨[(0, .val (.func (.yield Y.l) #[] #[])), (2, .ip [stI known]), (4, .val (.int .i64 (Bq (z.take i.1).getLast? + 1))), (7, .iv (znI z)), (8, .val (.int .i64 (z.length : Nat))), (9, .val (.int .i64 (i.1 : Nat)))], []⟩)) (fun i => z.length - i.1) ⟨0, Nat.zero_le _⟩ id ⟨rfl, ⟨rfl, rfl, rfl, rfl, rfl, rfl, trivial⟩, trivial, List.nodup_nil⟩ fun ⟨i, hi⟩ => ?_
  have hE := Ph (l := z.take i) (p := none) (W9 hf i) ⟨by decide, by decide⟩
  rw [Option.or_none] at hE
  refine g ?_
  repeat' (first | refine K9 rfl (g ?_) | refine Cy (fun h => g ?_) (fun h => g ?_))
  · have hlt : i < z.length := by simpa using h
    obtain ⟨-, o1, o2, o3, -⟩ := Do (by simpa [znI] using hok.1.1.2) (enZ z[i]) (List.mem_map_of_mem (List.getElem_mem hlt))
    have hz := Th hf (by decide) z[i] (List.getElem_mem hlt)
    refine ⟨by omega, _, Cx (List.getElem?_eq_getElem hlt), ?_⟩
    refine g ?_
    repeat' (first | refine K9 rfl (g ?_) | refine Bi (g ?_))
    cases hg : decide (Bq (List.take i z).getLast? + 1 < z[i].span.lo)
    · have hs : Gm z known i ++ [z[i]] = Gm z known (i + 1) := by rw [Ns hlt, A43, if_neg (of_decide_eq_false hg), List.nil_append]
      refine g ?_
      repeat' refine K9 rfl (g ?_)
      refine Rt (x := z[i]) ?_ ?_ ?_ ?_
      · rfl
      · exact Sbs.rfl_ _
      · rw [hs]; exact Um hlt
      simp only [go_sem, reduceIte]
      rw [hs]
      refine ⟨⟨o1, o2, trivial, trivial⟩, ?_, ?_⟩
      · refine g ?_
        repeat' refine K9 rfl (g ?_)
        exact ⟨⟨i + 1, hlt⟩, id, rfl, ⟨⟨rfl, rfl, by rw [Ju hlt]; rfl, rfl, rfl, rfl, trivial⟩, trivial, List.nodup_nil⟩, by show z.length - (i + 1) < z.length - i; omega⟩
      · refine g ?_
        repeat' (first | refine K9 rfl (g ?_) | exact trivial)
    · have hs : Gm z known i ++ [(⟨⟨Bq (z.take i).getLast? + 1, z[i].span.lo - 1⟩, known⟩ : At), z[i]] = Gm z known (i + 1) := by rw [Ns hlt, A43, if_pos (of_decide_eq_true hg)]; rfl
      refine g ?_
      refine Bt8 (x := (⟨⟨Bq (z.take i).getLast? + 1, z[i].span.lo - 1⟩, known⟩ : At)) rfl ?_ ?_ ?_ ?_
      · rfl
      · exact Sbs.rfl_ _
      · refine List.IsPrefix.trans ?_ (Um hlt)
        rw [<- hs]
        exact ⟨[z[i]], by simp⟩
      simp only [go_sem, reduceIte]
      refine ⟨⟨o1, o2, trivial, trivial⟩, ?_, ?_⟩
      · refine g ?_
        repeat' refine K9 rfl (g ?_)
        refine Rt (x := z[i]) ?_ ?_ ?_ ?_
        · rfl
        · exact Sbs.rfl_ _
        · rw [List.append_assoc]
          show Gm z known i ++ [_, z[i]] <+: _
          rw [hs]; exact Um hlt
        simp only [go_sem, reduceIte]
        rw [List.append_assoc, List.singleton_append, hs]
        refine ⟨?_, ?_⟩
        · refine g ?_
          repeat' refine K9 rfl (g ?_)
          exact ⟨⟨i + 1, hlt⟩, id, rfl, ⟨⟨rfl, rfl, by rw [Ju hlt]; rfl, rfl, rfl, rfl, trivial⟩, trivial, List.nodup_nil⟩, by show z.length - (i + 1) < z.length - i; omega⟩
        · refine g ?_
          repeat' (first | refine K9 rfl (g ?_) | exact trivial)
      · refine g ?_
        repeat' (first | refine K9 rfl (g ?_) | exact trivial)
  · rename_i h0
    obtain rfl : i = z.length := by have : z.length <= i := by simpa using h0
                                    omega
    rw [List.take_length] at *
    refine Rt (x := ⟨⟨Bq z.getLast? + 1, 255⟩, known⟩) ?_ ?_ ?_ ?_
    · rfl
    · exact Sbs.rfl_ _
    · rw [Dg, Qd, if_pos (of_decide_eq_true h)]; exact List.prefix_rfl
    simp only [go_sem]
    refine ⟨⟨.inr trivial, ?_⟩, .inr trivial⟩
    rw [Dg, Qd, if_pos (of_decide_eq_true h)]
  · rename_i h0
    obtain rfl : i = z.length := by have : z.length <= i := by simpa using h0
                                    omega
    rw [List.take_length] at *
    refine ⟨.inr trivial, ?_⟩
    rw [Dg, Qd, if_neg (of_decide_eq_false h), List.append_nil]
end Go.Proofs.YtblfjaedaijfoaaGreatDoor
namespace Go.Proofs.YtblfjaedaijfoaaGreatDoor
open Go.ChangeShapes Go.WideShapes Go.ChangeAt Go.RowKit
attribute [local irreducible] AW AWY Bo B4 vop Bj B7 Bf qop Bu C4 Aq Aj Bh A7 B9 Ge
attribute [local go_sem] Ae Af
theorem Ax2 {n:Int} (h:(-9223372036854775808<=n&&n<=9223372036854775807)=true):I64 n:=by
 simp only [Bool.and_eq_true,decide_eq_true_eq] at h
 exact I64.of h.1 h.2
def Bx5 (it:List Ao) (ps:List At):List (List Ab):=(ps.filter fun x=>Bu7 it [x.span]).map (·.vec)
def Ch6 (z:List At) (known:List Ab) (it:List Ao):List Ab:=if Az z=true/\Ak known=true then (if (Bx5 it (Dg z known)).length=0 then known else Ce0 (Bx5 it (Dg z known))) else []
theorem A14 (z:List At) (known:List Ab):(Dg z known).length<=2*z.length+1:=by
 have h:∀ i,(Gm z known i).length<=2*i:=fun i=>by
  induction i with
  | zero=>exact Nat.le_refl _
  | succ i ih =>
   rw [Gm,List.length_append]
   split
   ·unfold A43
    split<;>simp<;>omega
   ·simp;omega
 have:=h z.length
 rw [Dg,List.length_append]
 have:(Qd z known).length<=1:=by unfold Qd;split<;>simp
 omega
theorem Wb:∀ {l:List At} {p:Option At},Ba p l=true->Bq p<=255->(l.length:Int)<=255 - Bq p
 | [],p,_,hp=>by simp;omega
 | y :: l,p,h,hp=>by
  simp only [Ba,D9,Cj,Bool.and_eq_true,decide_eq_true_eq] at h
  obtain ⟨⟨⟨h1,_⟩,⟨h2,h3⟩,_⟩,h4⟩:=h
  have h5:(l.length:Int)<=255 - y.span.hi:=Wb h4 h3
  rw [List.length_cons]
  omega
theorem Be4 {z:List At} {known:List Ab} (hF:Az z=true) (hk:Ak known=true):∀ i,∀ x∈Gm z known i,(0<=x.span.lo/\x.span.lo<=255/\0<=x.span.hi/\x.span.hi<=255)/\Ak x.vec=true
 | 0,x,hx=>by simp [Gm] at hx
 | i+1,x,hx=>by
  rw [Gm,List.mem_append] at hx
  rcases hx with hx | hx
  ·exact Be4 hF hk i x hx
  ·cases hc:z[i]? with
   | none=>rw [hc] at hx;simp at hx
   | some y =>
    rw [hc] at hx
    have hy:y∈z:=List.mem_of_getElem? hc
    have h1:=Th hF (by decide) y hy
    have h2:=Gr hF y hy
    simp only [Cj,Bool.and_eq_true] at h2
    have h3:=Pi (W9 hF i)
    simp only [List.mem_append,List.mem_singleton] at hx
    rcases hx with hx | rfl
    ·unfold A43 at hx
     split at hx
     ·rw [List.mem_singleton] at hx
      subst hx
      exact ⟨⟨by show 0<=Bq _+1;omega,by show Bq _+1<=255;omega,by show 0<=y.span.lo - 1;omega,by show y.span.lo - 1<=255;omega⟩,hk⟩
     ·simp at hx
    ·exact ⟨by omega,h2.2⟩
theorem Bn2 {z:List At} {known:List Ab} (hF:Az z=true) (hk:Ak known=true):∀ x∈Dg z known,(0<=x.span.lo/\x.span.lo<=255/\0<=x.span.hi/\x.span.hi<=255)/\Ak x.vec=true:=fun x hx=>by
 rw [Dg,List.mem_append] at hx
 rcases hx with hx | hx
 ·exact Be4 hF hk _ x hx
 ·unfold Qd at hx
  have h3:=Pi (W9 hF z.length)
  rw [List.take_length] at h3
  split at hx
  ·rw [List.mem_singleton] at hx
   subst hx
   exact ⟨⟨by show 0<=Bq _+1;omega,by show Bq _+1<=255;omega,by show (0:Int)<=255;decide,by show (255:Int)<=255;decide⟩,hk⟩
  ·simp at hx
end Go.Proofs.YtblfjaedaijfoaaGreatDoor
namespace Go.Proofs.YtblfjaedaijfoaaGreatDoor
theorem Ej:∀ {l:List At} {p:Option At},Ba p l=true->l.Pairwise (fun x y=>x.span.hi < y.span.lo)/\∀ x∈l,Bq p < x.span.lo/\x.span.lo<=x.span.hi
 | [],_,_=>⟨.nil,fun x hx=>by simp at hx⟩
 | x :: l,p,h=>by
  simp only [Ba,D9,Cj,Bool.and_eq_true,decide_eq_true_eq] at h
  obtain ⟨⟨⟨h1,_⟩,⟨h2,h3⟩,_⟩,h4⟩:=h
  obtain ⟨g1,g2⟩:=Ej h4
  have g3:∀ y∈l,x.span.hi < y.span.lo:=fun y hy=>(g2 y hy).1
  refine ⟨.cons g3 g1,fun y hy=>?_⟩
  rcases List.mem_cons.1 hy with rfl | hy
  ·exact ⟨h1,h2⟩
  ·have:=g3 y hy
   have:=(g2 y hy).2
   omega
theorem Ag6 {z:List At} (hF:Az z=true) {i j:Nat} (h:i < j) (hj:j < z.length):z[i].span.hi < z[j].span.lo:=List.pairwise_iff_getElem.1 (Ej hF).1 i j (by omega) hj h
theorem Yv {z:List At} (hF:Az z=true) {i:Nat} (hi:i < z.length):-1 < z[i].span.lo/\z[i].span.lo<=z[i].span.hi:=(Ej hF).2 z[i] (List.getElem_mem hi)
theorem Z5 {l:List At} {m:Nat} (h0:0 < m) (h:m - 1 < l.length):Bq (l.take m).getLast? = l[m - 1].span.hi:=by
 rw [Tq h0 h];rfl
theorem C33 {z:List At} (hF:Az z=true) {i j:Nat} (hj:j < i) (hi:i<=z.length):z[j].span.hi<=Bq (z.take i).getLast? := by
 rw [Z5 (l:=z) (m:=i) (by omega) (by omega)]
 rcases Nat.lt_or_ge j (i - 1) with h | h
 ·have:=Ag6 hF h (by omega)
  have:=Yv hF (show i - 1 < z.length by omega)
  omega
 ·obtain rfl:j=i - 1:=by omega
  exact Int.le_refl _
theorem Bz8 {z:List At} (hF:Az z=true) {i:Nat} (hi:i<=z.length) {o:Int} (ho:Bq (z.take i).getLast? < o):∀ x∈z.take i,x.has o=false:=fun x hx=>by
 obtain ⟨j,hj,rfl⟩:=List.mem_take_iff_getElem.1 hx
 have:=C33 hF (show j < i by omega) hi
 simp [At.has];omega
theorem C32 {z:List At} (hF:Az z=true) {i:Nat} (hi:i < z.length):Bq (z.take i).getLast? < z[i].span.lo:=by
 rcases Nat.eq_zero_or_pos i with rfl | h
 ·exact (Yv hF hi).1
 ·rw [Z5 h (by omega)]
  exact Ag6 hF (by omega) hi
theorem Bx4 {z:List At} (hF:Az z=true) (known:List Ab) {i:Nat} (hi:i < z.length) {o:Int} (h:z[i].span.lo<=o/\o<=z[i].span.hi):Cw z known o=z[i].vec:=by
 have:=C32 hF hi
 unfold Cw
 rw [Qh (Bz8 hF (by omega) (by omega)) hi (by simp [At.has];omega)]
theorem Ab4 {z:List At} (hF:Az z=true) (known:List Ab) {i:Nat} (hi:i<=z.length) {o:Int} (h:Bq (z.take i).getLast? < o) (h2:∀ hl:i < z.length,o < z[i].span.lo):Cw z known o=known:=by
 unfold Cw
 rw [Xk]
 intro x hx
 obtain ⟨k,hk,rfl⟩:=List.mem_iff_getElem.1 hx
 rcases Nat.lt_or_ge k i with h3 | h3
 ·have:=C33 hF h3 hi
  simp [At.has];omega
 ·have h4:=h2 (by omega)
  have h5:z[i].span.lo<=z[k].span.lo:=by
   rcases Nat.eq_or_lt_of_le h3 with rfl | h6
   ·exact Int.le_refl _
   ·have:=Ag6 hF h6 hk
    have:=Yv hF (show i < z.length by omega)
    omega
  simp [At.has];omega
theorem Y0 {z:List At} (hF:Az z=true) (known:List Ab):∀ x∈Dg z known,∀ o,x.span.lo<=o->o<=x.span.hi->Cw z known o=x.vec:=by
 have hu:∀ i,i<=z.length->∀ x∈Gm z known i,∀ o,x.span.lo<=o->o<=x.span.hi->Cw z known o=x.vec:=by
  intro i
  induction i with
  | zero=>intro _ x hx;simp [Gm] at hx
  | succ i ih =>
   intro hi x hx o h1 h2
   rw [Ns (by omega),List.mem_append,List.mem_append,List.mem_singleton] at hx
   rcases hx with hx | hx | hx
   ·exact ih (by omega) x hx o h1 h2
   ·unfold A43 at hx
    split at hx
    ·rw [List.mem_singleton] at hx
     rw [hx] at h1 h2 ⊢
     simp only at h1 h2 ⊢
     exact Ab4 hF known (i:=i) (by omega) (by omega) fun _=>by omega
    ·simp at hx
   ·rw [hx] at h1 h2 ⊢
    exact Bx4 hF known (by omega) ⟨h1,h2⟩
 intro x hx o h1 h2
 rw [Dg,List.mem_append] at hx
 rcases hx with hx | hx
 ·exact hu _ (Nat.le_refl _) x hx o h1 h2
 ·unfold Qd at hx
  split at hx
  ·rw [List.mem_singleton] at hx
   subst hx
   simp only at h1 h2 ⊢
   refine Ab4 hF known (i:=z.length) (Nat.le_refl _) ?_ fun hl=>absurd hl (Nat.lt_irrefl _)
   rw [List.take_length];omega
  ·simp at hx
theorem By6 {z:List At} (hF:Az z=true) (known:List Ab) {o:Int} (h0:0<=o) (h1:o<=255):∃ x∈Dg z known,x.span.lo<=o/\o<=x.span.hi:=by
 obtain ⟨i,hi⟩ : ∃ i,z.findIdx (fun x=>decide (o<=x.span.hi))=i:=⟨_,rfl⟩
 have hil:i<=z.length:=hi ▸ List.findIdx_le_length
 have hlow:Bq (z.take i).getLast? < o:=by
  rcases Nat.eq_zero_or_pos i with rfl | h
  ·show (-1:Int) < o;omega
  ·rw [Z5 (l:=z) (m:=i) h (by omega)]
   have:=List.not_of_lt_findIdx (p:=fun x:At=>decide (o<=x.span.hi)) (xs:=z) (i:=i - 1) (by rw [hi];omega)
   simp at this
   exact this
 rcases Nat.lt_or_ge i z.length with h | h
 ·have h3:o<=z[i].span.hi:=by
   have:=List.findIdx_getElem (p:=fun x:At=>decide (o<=x.span.hi)) (xs:=z) (w:=by rw [hi];exact h)
   simp only [hi] at this
   simpa using this
  have hs:=Um (known:=known) (show i+1<=z.length from h)
  rw [Ns h] at hs
  rcases Int.lt_or_le o z[i].span.lo with h4 | h4
  ·refine ⟨⟨⟨Bq (z.take i).getLast? + 1,z[i].span.lo - 1⟩,known⟩,hs.subset ?_,by show Bq _+1<=o;omega,by show o<=z[i].span.lo - 1;omega⟩
   rw [A43,if_pos (by omega)]
   simp
  ·exact ⟨z[i],hs.subset (by simp),h4,h3⟩
 ·obtain rfl:i=z.length:=by omega
  rw [List.take_length] at hlow
  refine ⟨⟨⟨Bq z.getLast? + 1,255⟩,known⟩,?_,by show Bq _+1<=o;omega,h1⟩
  rw [Dg,Qd,if_pos (by omega)]
  simp
end Go.Proofs.YtblfjaedaijfoaaGreatDoor
