/- Whether bodies are as they must be (the program's): a set that is kept in a map. -/
import Derived.Test.YthlgnjlpakimaaaGreatDoorQPlace
import Derived.Test.YthlgnjlpakimaaaGreatDoorQByte
import Derived.Test.YthlgnjlpakimaaaGreatDoorQLogAll
import Derived.Test.YthlgnjlpakimaaaGreatDoorQTouch
set_option linter.all false
set_option linter.unnecessarySimpa false
set_option linter.unusedSimpArgs false
set_option linter.unusedVariables false
namespace Go.Proofs.YthlgnjlpakimaaaGreatDoor
open Go.ChangeShapes Go.WideShapes Go.ChangeAt Go.RowKit
attribute [local irreducible] AW AWY Cd Bk vop C5 Bl Bz qop Cj Cv B4 Aw C4 A7 Bq Ct
attribute [local go_sem] K9 Kc H8 J8 Fc Eh Jn Gp Gv Ei Ao As
set_option maxRecDepth 100000 in
theorem Uf (l:List Ai) (x:Cg) (hf:Bv l=true):A7 Tryz.prog A8 55 [.iv (wrI l),boA x] (.val (.bool (Dm l x))) []:=by
 refine A7.of (n:=28) (rs:=[.tmp 4]) Tryz.func55 rfl (by kernel_rfl) Tryz.ntmps55 (by kernel_rfl) (by simp) (fun _ _=>A8.later) ?_
 intro hok V w0
 obtain ⟨B,hB⟩ : ∃ B,Dm l x=B:=⟨_,rfl⟩
 rw [hB]
 unfold Dm Au9 at hB
 have hat:=Af4 l x.object
 unfold Ao0 at hat
 rw [if_pos hf] at hat
 cases hg:D5 l x.object with
 | none =>
  rw [hg] at hB hat
  refine g ?_
  repeat' (first | refine st_ rfl (g ?_) | refine A9 (hat) rfl (g ?_))
  exact hB
 | some w =>
  rw [hg] at hB hat
  simp only at hat hB
  rw [A32] at hB
  refine g ?_
  repeat' (first | refine st_ rfl (g ?_) | refine A9 (hat) rfl (g ?_))
  refine ⟨_,fun u=>S0 _ _ _ _ _ _ u,?_⟩
  refine g ?_
  repeat' (first | refine st_ rfl (g ?_) | refine Ag (g ?_) | (refine Ej rfl rfl (fun h=>?_) (fun h=>?_)<;>simp only [h]<;>refine g ?_))
  ·rw [<-hB,h];simp
  ·rw [<-hB,h];simp
set_option maxRecDepth 100000 in
theorem At3 (l:List Cg) (f:FuncId) (C:List IV) (p:Cg->Bool) (hp:∀ x,A7 Tryz.prog A8 f [boA x,.ip C] (.val (.bool (p x))) []):A7 Tryz.prog A8 53 [.iv (boI l),.fn f [.ip C]] (.val (.int .i64 (if l.any p=true then ((l.findIdx p:Nat):Int) else -1))) []:=by
 refine A7.of (n:=19) (rs:=[.tmp 4]) Tryz.func53 rfl (by kernel_rfl) Tryz.ntmps53 (by kernel_rfl) (by simp) (fun _ _=>A8.later) ?_
 intro hok V w0
 have hlen:l.length<=1073741824:=by simpa [boI] using hok.1.1
 refine g ?_
 repeat' refine st_ rfl (g ?_)
 refine AW.loop (fun m:{m:Nat // m<=l.length/\∀ x∈l.take m,p x=false}=>⟨[(0,.iv (boI l)),(1,.fn f [.ip C]),(7,.val (.int .i64 (l.length:Nat))),(8,.val (.int .i64 (m.1:Nat)))],[]⟩) (fun m=>l.length - m.1) ⟨0,Nat.zero_le _,fun x hx=>by simp at hx⟩ id ⟨⟨rfl,rfl,rfl,rfl,trivial⟩,trivial,List.nodup_nil⟩ fun ⟨m,hm,ht⟩=>?_
 refine g ?_
 repeat' (first | refine st_ rfl (g ?_) | refine Az (fun h=>g ?_) (fun h=>g ?_) | refine C3 (fun h=>g ?_) (fun h=>g ?_) | refine ix_ (by omega) (g ?_) | refine A9 (hp _) rfl (g ?_))
 ·have hlt:m < l.length:=by omega
  rw [if_pos (List.any_eq_true.2 ⟨_,List.getElem_mem hlt,h⟩),(List.findIdx_eq hlt).2 ⟨h,fun j hj=>ht _ (List.mem_take_iff_getElem.2 ⟨j,by omega,rfl⟩)⟩]
 ·refine ⟨⟨m+1,by omega,fun x hx=>?_⟩,id,⟨⟨rfl,rfl,rfl,rfl,trivial⟩,trivial,List.nodup_nil⟩,by show l.length - (m+1) < l.length - m;omega⟩
  rw [List.take_succ_eq_append_getElem (by omega)] at hx
  rcases List.mem_append.1 hx with h1 | h1
  ·exact ht x h1
  ·rw [List.mem_singleton.1 h1];exact h
 ·obtain rfl:m=l.length:=by omega
  rw [List.take_length] at ht
  rw [if_neg]
  rw [List.any_eq_true]
  rintro ⟨x,hx,hp⟩
  rw [ht x hx] at hp
  cases hp
theorem Bo2 (l:List Cg) (f:FuncId) (C:List IV) (p:Cg->Bool) (hp:∀ x,A7 Tryz.prog A8 f [boA x,.ip C] (.val (.bool (p x))) []):A7 Tryz.prog A8 115 [.iv (boI l),.fn f [.ip C]] (.val (.bool (l.any p))) []:=by
 refine A7.of (n:=9) (rs:=[.tmp 4]) Tryz.func115 rfl (by kernel_rfl) Tryz.ntmps115 (by kernel_rfl) (by simp) (fun _ _=>A8.later) ?_
 intro hok V w0
 have h1:=At3 l f C p hp
 cases ha:l.any p with
 | true =>
  rw [if_pos ha] at h1
  refine g ?_
  repeat' (first | refine st_ rfl (g ?_) | refine A9 (h1) rfl (g ?_))
  exact decide_eq_true (by omega)
 | false =>
  rw [if_neg (by rw [ha];decide)] at h1
  refine g ?_
  repeat' (first | refine st_ rfl (g ?_) | refine A9 (h1) rfl (g ?_))
  rfl
theorem Az4 (v:B8) (x:Cg) (hf:Bv v.held=true):A7 Tryz.prog A8 116 [boA x,.ip [stI v.known,znI v.zones,wrI v.held,boI v.bodies,.val (.int .i64 v.room)]] (.val (.bool (!Dm v.held x))) []:=by
 refine A7.of (n:=9) (rs:=[.tmp 3]) Tryz.func116 rfl (by kernel_rfl) Tryz.ntmps116 (by kernel_rfl) (by simp) (fun _ _=>A8.later) ?_
 intro hok V w0
 refine g ?_
 repeat' (first | refine st_ rfl (g ?_) | exact trivial | refine A9 (Uf _ x hf) rfl (g ?_))
end Go.Proofs.YthlgnjlpakimaaaGreatDoor
namespace Go.Proofs.YthlgnjlpakimaaaGreatDoor
open Go.ChangeShapes Go.WideShapes Go.ChangeAt Go.RowKit
attribute [local irreducible] AW AWY Cd Bk vop C5 Bl Bz qop Cj Cv B4 Aw C4 A7 Bq Ct
attribute [local go_sem] Fc Eh Jn Ao As
theorem Af6 (l:List Ai):A7 Tryz.prog A8 114 [.iv (wrI l)] (.fn 184 [.ip [wrI l]]) []:=by
 have h:A7 Tryz.prog A8 114 [.iv (wrI l)] (.fn 184 [.bp 0 0]) [.box 0 [.iv (wrI l)]]:=by
  refine A7.of (n:=4) (rs:=[.tmp 2]) Tryz.func114 rfl (by kernel_rfl) Tryz.ntmps114 (by kernel_rfl) (by simp) (fun _ _=>A8.later) ?_
  intro hok V w0
  refine g ?_
  repeat' refine st_ rfl (g ?_)
  exact ⟨fun b=>200+100*b,rfl,rfl,by simp⟩
 exact h.frz ⟨trivial,trivial⟩
def Ct2 (w:Ai):List AV:=[.val (.int .i64 w.object),wA w]
theorem Af5 (l:List Ai) (hf:Bv l=true):Bq Tryz.prog A8 184 [.ip [wrI l]] Ct2 (fun ys=>ys=l) (fun pre=>pre <+: l):=by
 refine Bq.of (n:=21) Tryz.func184 rfl (by kernel_rfl) Tryz.ntmps184 (by kernel_rfl) (by simp) (fun _ _=>A8.later) ?_
 intro hok Y
 have hlen:l.length<=1073741824:=by simpa [wrI] using hok.1.1.1
 have h1:=Jl l
 rw [hf] at h1
 refine g ?_
 refine g ?_
 repeat' refine Jt rfl (g ?_)
 refine A9 h1 rfl ?_
 refine g ?_
 repeat' refine Jt rfl (g ?_)
 refine AWY.loop (fun i:{i:Nat // i<=l.length}=>(.going (l.take i.1),⟨[(0,.val (.func (.yield Y.l) #[] #[])),(8,.iv (wrI l)),(9,.val (.int .i64 (l.length:Nat))),(10,.val (.int .i64 (i.1:Nat)))],[]⟩)) (fun i=>l.length - i.1) ⟨0,Nat.zero_le _⟩ id ⟨rfl,⟨rfl,rfl,rfl,rfl,trivial⟩,trivial,List.nodup_nil⟩ fun ⟨i,hi⟩=>?_
 refine g ?_
 repeat' (first | refine Jt rfl (g ?_) | refine C3 (fun h=>g ?_) (fun h=>g ?_))
 ·have hlt:i < l.length:=by simpa using h
  obtain ⟨-,o1,o2,o3,o4,-⟩:=D7 (by simpa [wrI] using hok.1.1.2) (enW l[i]) (List.mem_map_of_mem (List.getElem_mem hlt))
  have hs:l.take i++[l[i]]=l.take (i+1):=(List.take_succ_eq_append_getElem hlt).symm
  refine ⟨by omega,_,C0 (List.getElem?_eq_getElem hlt),?_⟩
  refine g ?_
  repeat' (first | refine Jt rfl (g ?_) | refine Ag (g ?_))
  refine Sx (x:=l[i]) ?_ ?_ ?_ ?_
  ·rfl
  ·exact Sbs.rfl_ _
  ·rw [hs];exact List.take_prefix _ _
  simp only [go_sem]
  rw [hs]
  refine ⟨⟨o1,o2,o3,o4,trivial⟩,?_,?_⟩
  ·refine g ?_
   repeat' refine Jt rfl (g ?_)
   exact ⟨⟨i+1,hlt⟩,id,rfl,⟨⟨rfl,rfl,rfl,rfl,trivial⟩,trivial,List.nodup_nil⟩,by show l.length - (i+1) < l.length - i;omega⟩
  ·refine g ?_
   repeat' (first | refine Jt rfl (g ?_) | exact trivial)
 ·have hle:l.length<=i:=by simpa using h
  exact ⟨.inr trivial,List.take_of_length_le hle⟩
end Go.Proofs.YthlgnjlpakimaaaGreatDoor
namespace Go.Proofs.YthlgnjlpakimaaaGreatDoor
open Go.ChangeShapes Go.WideShapes Go.ChangeAt Go.RowKit
attribute [local irreducible] AW AWY Cd Bk vop C5 Bl Bz qop Cj Cv B4 Aw C4 A7 Bq Ct
attribute [local go_sem] Gp Gv Ao As
theorem B86 (z:List Av) (known:List Ab):A7 Tryz.prog A8 122 [.iv (znI z),.iv (stI known)] (.fn 188 [.ip [znI z],.ip [stI known]]) []:=by
 have h:A7 Tryz.prog A8 122 [.iv (znI z),.iv (stI known)] (.fn 188 [.bp 0 0,.bp 1 0]) [.box 0 [.iv (znI z)],.box 1 [.iv (stI known)]]:=by
  refine A7.of (n:=6) (rs:=[.tmp 4]) Tryz.func122 rfl (by kernel_rfl) Tryz.ntmps122 (by kernel_rfl) (by simp) (fun _ _=>A8.later) ?_
  intro hok V w0
  refine g ?_
  repeat' refine st_ rfl (g ?_)
  exact ⟨fun b=>300+100*b,rfl,⟨rfl,rfl⟩,by simp⟩
 exact (h.frz ⟨trivial,trivial⟩).frz ⟨trivial,trivial⟩
def zoA (x:Av):AV:=.agg [.val (.int .i64 x.span.lo),.val (.int .i64 x.span.hi),.iv (stI x.vec)]
def Df9 (x:Av):List AV:=[zoA x]
def Aj8 (known:List Ab) (p:Option Av) (x:Av):List Av:=if Bu p+1 < x.span.lo then [⟨⟨Bu p+1,x.span.lo - 1⟩,known⟩] else []
def Jc (z:List Av) (known:List Ab):Nat->List Av
 | 0=>[]
 | i+1=>Jc z known i++(match z[i]? with
  | some x=>Aj8 known (z.take i).getLast? x++[x]
  | none=>[])
def U8 (z:List Av) (known:List Ab):List Av:=if Bu z.getLast? + 1<=255 then [⟨⟨Bu z.getLast? + 1,255⟩,known⟩] else []
def Ef (z:List Av) (known:List Ab):List Av:=Jc z known z.length++U8 z known
theorem Rw {z:List Av} {known:List Ab} {i:Nat} (h:i < z.length):Jc z known (i+1)=Jc z known i++(Aj8 known (z.take i).getLast? z[i]++[z[i]]):=by
 rw [Jc,List.getElem?_eq_getElem h]
theorem C61 (z : List Av) (known : List Ab) : ∀ {i k : Nat}, i <= k -> Jc z known i <+: Jc z known k := fun {i k} h => by
  induction k with
  | zero => obtain rfl : i = 0 := by omega
            exact List.prefix_rfl
  | succ k ih =>
    rcases Nat.lt_or_ge i (k + 1) with h1 | h1
    · exact (ih (by omega)).trans (List.prefix_append _ _)
    · obtain rfl : i = k + 1 := by omega
      exact List.prefix_rfl
theorem Yy {z:List Av} {known:List Ab} {i:Nat} (h:i<=z.length):Jc z known i <+: Ef z known:=(C61 z known h).trans (List.prefix_append _ _)
theorem Xi:∀ {l:List Av} {p:Option Av},Bc p l=true->-1<=Bu p->∀ x∈l,0<=x.span.lo/\x.span.lo<=x.span.hi/\x.span.hi<=255
 | [],_,_,_,x,hx=>by simp at hx
 | y :: l,p,h,hp,x,hx=>by
  simp only [Bc,Dy,Cu,Bool.and_eq_true,decide_eq_true_eq] at h
  obtain ⟨⟨⟨h1,_⟩,⟨h2,h3⟩,_⟩,h4⟩:=h
  rcases List.mem_cons.1 hx with rfl | hx
  ·omega
  ·exact Xi h4 (show -1<=y.span.hi by omega) x hx
theorem A20 {z:List Av} (h:B7 z=true) (i:Nat):Bc none (z.take i)=true:=by
 unfold B7 at h
 rw [<-List.take_append_drop i z,Fu,Bool.and_eq_true] at h
 exact h.1
set_option maxRecDepth 100000 in
theorem B85 (z : List Av) (known : List Ab) (hf : B7 z = true) : Bq Tryz.prog A8 188 [.ip [znI z], .ip [stI known]] Df9 (fun ys => ys = Ef z known) (fun pre => pre <+: Ef z known) := by
  refine Bq.of (n := 48) Tryz.func188 rfl (by kernel_rfl) Tryz.ntmps188 (by kernel_rfl) (by simp) (fun _ _ => A8.later) ?_
  intro hok Y
  have hlen : z.length <= 1073741824 := by simpa [znI] using hok.1.1.1
  refine g ?_
  refine g ?_
  repeat' refine Jt rfl (g ?_)
  refine AWY.loop (fun i : {i : Nat // i <= z.length} => (.going (Jc z known i.1), ⟨[(0, .val (.func (.yield Y.l) #[] #[])), (2, .ip [stI known]), (4, .val (.int .i64 (Bu (z.take i.1).getLast? + 1))), (7, .iv (znI z)), (8, .val (.int .i64 (z.length : Nat))), (9, .val (.int .i64 (i.1 : Nat)))], []⟩)) (fun i => z.length - i.1) ⟨0, Nat.zero_le _⟩ id ⟨rfl, ⟨rfl, rfl, rfl, rfl, rfl, rfl, trivial⟩, trivial, List.nodup_nil⟩ fun ⟨i, hi⟩ => ?_
  have hE := Sw (l := z.take i) (p := none) (A20 hf i) ⟨by decide, by decide⟩
  rw [Option.or_none] at hE
  refine g ?_
  repeat' (first | refine Jt rfl (g ?_) | refine C3 (fun h => g ?_) (fun h => g ?_))
  · have hlt : i < z.length := by simpa using h
    obtain ⟨-, o1, o2, o3, -⟩ := D7 (by simpa [znI] using hok.1.1.2) (enZ z[i]) (List.mem_map_of_mem (List.getElem_mem hlt))
    have hz := Xi hf (by decide) z[i] (List.getElem_mem hlt)
    refine ⟨by omega, _, C0 (List.getElem?_eq_getElem hlt), ?_⟩
    refine g ?_
    repeat' (first | refine Jt rfl (g ?_) | refine Ag (g ?_))
    cases hg : decide (Bu (List.take i z).getLast? + 1 < z[i].span.lo)
    · have hs : Jc z known i ++ [z[i]] = Jc z known (i + 1) := by rw [Rw hlt, Aj8, if_neg (of_decide_eq_false hg), List.nil_append]
      refine g ?_
      repeat' refine Jt rfl (g ?_)
      refine Sx (x := z[i]) ?_ ?_ ?_ ?_
      · rfl
      · exact Sbs.rfl_ _
      · rw [hs]; exact Yy hlt
      simp only [go_sem, reduceIte]
      rw [hs]
      refine ⟨⟨o1, o2, trivial, trivial⟩, ?_, ?_⟩
      · refine g ?_
        repeat' refine Jt rfl (g ?_)
        exact ⟨⟨i + 1, hlt⟩, id, rfl, ⟨⟨rfl, rfl, by rw [Lq hlt]; rfl, rfl, rfl, rfl, trivial⟩, trivial, List.nodup_nil⟩, by show z.length - (i + 1) < z.length - i; omega⟩
      · refine g ?_
        repeat' (first | refine Jt rfl (g ?_) | exact trivial)
    · have hs : Jc z known i ++ [(⟨⟨Bu (z.take i).getLast? + 1, z[i].span.lo - 1⟩, known⟩ : Av), z[i]] = Jc z known (i + 1) := by rw [Rw hlt, Aj8, if_pos (of_decide_eq_true hg)]; rfl
      refine g ?_
      refine C53 (x := (⟨⟨Bu (z.take i).getLast? + 1, z[i].span.lo - 1⟩, known⟩ : Av)) rfl ?_ ?_ ?_ ?_
      · rfl
      · exact Sbs.rfl_ _
      · refine List.IsPrefix.trans ?_ (Yy hlt)
        rw [<- hs]
        exact ⟨[z[i]], by simp⟩
      simp only [go_sem, reduceIte]
      refine ⟨⟨o1, o2, trivial, trivial⟩, ?_, ?_⟩
      · refine g ?_
        repeat' refine Jt rfl (g ?_)
        refine Sx (x := z[i]) ?_ ?_ ?_ ?_
        · rfl
        · exact Sbs.rfl_ _
        · rw [List.append_assoc]
          show Jc z known i ++ [_, z[i]] <+: _
          rw [hs]; exact Yy hlt
        simp only [go_sem, reduceIte]
        rw [List.append_assoc, List.singleton_append, hs]
        refine ⟨?_, ?_⟩
        · refine g ?_
          repeat' refine Jt rfl (g ?_)
          exact ⟨⟨i + 1, hlt⟩, id, rfl, ⟨⟨rfl, rfl, by rw [Lq hlt]; rfl, rfl, rfl, rfl, trivial⟩, trivial, List.nodup_nil⟩, by show z.length - (i + 1) < z.length - i; omega⟩
        · refine g ?_
          repeat' (first | refine Jt rfl (g ?_) | exact trivial)
      · refine g ?_
        repeat' (first | refine Jt rfl (g ?_) | exact trivial)
  · rename_i h0
    obtain rfl : i = z.length := by have : z.length <= i := by simpa using h0
                                    omega
    rw [List.take_length] at *
    refine Sx (x := ⟨⟨Bu z.getLast? + 1, 255⟩, known⟩) ?_ ?_ ?_ ?_
    · rfl
    · exact Sbs.rfl_ _
    · rw [Ef, U8, if_pos (of_decide_eq_true h)]; exact List.prefix_rfl
    simp only [go_sem]
    refine ⟨⟨.inr trivial, ?_⟩, .inr trivial⟩
    rw [Ef, U8, if_pos (of_decide_eq_true h)]
  · rename_i h0
    obtain rfl : i = z.length := by have : z.length <= i := by simpa using h0
                                    omega
    rw [List.take_length] at *
    refine ⟨.inr trivial, ?_⟩
    rw [Ef, U8, if_neg (of_decide_eq_false h), List.append_nil]
end Go.Proofs.YthlgnjlpakimaaaGreatDoor
namespace Go.Proofs.YthlgnjlpakimaaaGreatDoor
open Go.ChangeShapes Go.WideShapes Go.ChangeAt Go.RowKit
attribute [local irreducible] AW AWY Cd Bk vop C5 Bl Bz qop Cj Cv B4 Aw C4 A7 Bq Ct
attribute [local go_sem] K9 Kc H8 J8 Fc Eh Jn Gp Gv Ei Ao As
set_option maxRecDepth 100000 in
set_option maxHeartbeats 1600000 in
theorem Ch5 (hc:∀ (l:List Cg) (room:Int),I64 room->A7 Tryz.prog A8 44 [.iv (boI l),.val (.int .i64 room)] (.val (.bool (Cb l room))) []) (v:B8) (iR:I64 v.room):A7 Tryz.prog A8 45 [vwA v] (.val (.bool (Af v))) []:=by
 refine A7.of (n:=62) (rs:=[.cell 2 4]) Tryz.func45 rfl (by kernel_rfl) Tryz.ntmps45 (by kernel_rfl) (by simp) (fun _ _=>A8.later) ?_
 intro hok V w0
 have hz:v.zones.length<=1073741824:=by simpa [znI] using hok.1.2.1.1
 obtain ⟨B,hB⟩ : ∃ B,Af v=B:=⟨_,rfl⟩
 rw [hB]
 refine g ?_
 refine AW.seq ?_
 refine AW.reg rfl fun KK hKK=>?_
 refine g ?_
 repeat' (refine hKK _ (g ?_);clear hKK KK)
 refine AW.freeze 200 _ rfl ⟨trivial,trivial,trivial,trivial,iR,trivial⟩ ?_
 simp only [go_sem,reduceIte,Nat.reduceEqDiff]
 refine g ?_
 repeat' (first | refine st_ rfl (g ?_) | refine C3 (fun h=>g ?_) (fun h=>g ?_) | (refine Ej rfl rfl (fun h=>?_) (fun h=>?_)<;>simp only [h]<;>refine g ?_) | refine A9 (Ke _) rfl (g ?_) | refine A9 (Pj _) rfl (g ?_) | refine A9 (Jl _) rfl (g ?_) | refine A9 (hc _ _ iR) rfl (g ?_))
 ·rw [<-hB];simp at h;simp [Af,F9,h]
 ·rw [<-hB];simp at h;simp [Af,F9,h]
 ·rw [<-hB];simp at h;simp [Af,F9,h]
 ·rw [<-hB];simp at h;simp [Af,F9,h]
 have hP:F9 v=true:=by simp at *;simp [F9, *]
 have hH:Bv v.held=true:=by simp only [F9,Bool.and_eq_true] at hP;exact hP.1.2
 refine AW.loop (fun m:{m:Nat // m<=v.zones.length/\∀ x∈v.zones.take m,decide (A64 x.vec v.known=1)=true}=>⟨[(1,.ip [stI v.known,znI v.zones,wrI v.held,boI v.bodies,.val (.int .i64 v.room)]),(2,.bp 300 0),(32,.iv (znI v.zones)),(33,.val (.int .i64 (v.zones.length:Nat))),(34,.val (.int .i64 (m.1:Nat)))],[.box 300 [.val (.bool false)]]⟩) (fun m=>v.zones.length - m.1) ⟨0,Nat.zero_le _,fun x hx=>by simp at hx⟩ id ⟨⟨rfl,rfl,rfl,rfl,rfl,trivial⟩,⟨rfl,trivial⟩,by simp [Aq,BA.id]⟩ fun ⟨m,hm,ht⟩=>?_
 refine g ?_
 repeat' (first | refine st_ rfl (g ?_) | refine Az (fun h=>g ?_) (fun h=>g ?_) | refine ix_ (by omega) (g ?_) | refine A9 (Am2 _ _) rfl (g ?_) | refine A9 (Af6 _) rfl (g ?_))
 ·have hlt:m < v.zones.length:=by omega
  rw [<-hB];simp only [Af];rw [B13 (l:=v.zones) (p:=fun (x:Av)=>decide (A64 x.vec v.known=1)) hlt (by simpa using h)];simp
 ·exact ⟨⟨m+1,by omega,A14 (by omega) ht (by simpa using h)⟩,id,⟨⟨rfl,rfl,rfl,rfl,rfl,trivial⟩,⟨rfl,trivial⟩,by simp [Aq,BA.id]⟩,by show v.zones.length - (m+1) < v.zones.length - m;omega⟩
 obtain rfl:m=v.zones.length:=by omega
 rw [List.take_length] at ht
 have h1:(v.zones.all fun x=>decide (A64 x.vec v.known=1))=true:=List.all_eq_true.2 ht
 refine AW.le (S:=⟨[(2,.bp 300 0),(1,.ip [stI v.known,znI v.zones,wrI v.held,boI v.bodies,.val (.int .i64 v.room)]),(47,.fn 184 [.ip [wrI v.held]])],[.box 300 [.val (.bool false)]]⟩) (ρ:=id) ⟨⟨rfl,rfl,rfl,trivial⟩,⟨rfl,trivial⟩,by simp [Aq,BA.id]⟩ ?_
 refine AW.range (Af5 v.held hH) [(2,.bp 300 0)] [(1,.ip [stI v.known,znI v.zones,wrI v.held,boI v.bodies,.val (.int .i64 v.room)]),(47,.fn 184 [.ip [wrI v.held]])] (fun _=>[.box 300 [.val (.bool false)]]) (fun pre=>∀ w∈pre,Df v.zones v.known w=true) rfl (fun w hw=>by cases hw) rfl rfl rfl rfl (fun x=>⟨rfl,rfl⟩) (fun k pre x hsp hI=>?_) (fun xs hS hI=>?_)
 ·simp only [V4,Ct2,List.cons_append,List.nil_append]
  refine g ?_
  refine g ?_
  repeat' (first | refine st_ rfl (g ?_) | refine C3 (fun h=>g ?_) (fun h=>g ?_) | refine A9 (Zm _ _ x) rfl (g ?_))
  ·refine ⟨id,[.box 300 [.val (.bool false)]],⟨⟨rfl,trivial⟩,⟨rfl,trivial⟩,by simp [Aq,BA.id]⟩,?_⟩
   refine g ?_
   have hx:x∈v.held:=hsp.subset (by simp)
   rw [<-hB]
   simp only [Af]
   rw [show (v.held.all fun w=>Df v.zones v.known w)=false from List.all_eq_false.2 ⟨x,hx,by simpa using h⟩]
   simp
  ·refine ⟨fun w hw=>?_,id,⟨rfl,trivial⟩,⟨rfl,trivial⟩,by simp [Aq,BA.id]⟩
   rcases List.mem_append.1 hw with h3 | h3
   ·exact hI w h3
   ·rw [List.mem_singleton.1 h3];simpa using h
 ·obtain rfl:xs=v.held:=hS
  have h2:(v.held.all fun x=>Df v.zones v.known x)=true:=List.all_eq_true.2 hI
  refine g ?_
  repeat' (first | refine st_ rfl (g ?_) | refine A9 (Bo2 _ _ _ _ (fun x=>Az4 v x hH)) rfl (g ?_))
  rw [<-hB]
  simp only [Af]
  rw [hP,h1,h2,List.not_any_eq_all_not]
  simp
end Go.Proofs.YthlgnjlpakimaaaGreatDoor
namespace Go.Proofs.YthlgnjlpakimaaaGreatDoor
open Go.ChangeShapes Go.WideShapes Go.ChangeAt Go.RowKit
attribute [local irreducible] AW AWY Cd Bk vop C5 Bl Bz qop Cj Cv B4 Aw C4 A7 Bq Ct
attribute [local go_sem] K9 Kc H8 J8 Ao As
set_option maxRecDepth 100000 in
theorem Tz (l:List Cg) (room:Int) (iR:I64 room):A7 Tryz.prog A8 44 [.iv (boI l),.val (.int .i64 room)] (.val (.bool (Cb l room))) []:=by
 refine A7.of (n:=43) (rs:=[.tmp 4]) Tryz.func44 rfl (by kernel_rfl) Tryz.ntmps44 (by kernel_rfl) (by simp) (fun _ _=>A8.later) ?_
 intro hok V w0
 have hlen:l.length<=1073741824:=by simpa [boI] using hok.1.1
 obtain ⟨B,hB⟩ : ∃ B,Cb l room=B:=⟨_,rfl⟩
 rw [hB]
 unfold Cb S2 at hB
 refine g ?_
 repeat' (first | refine st_ rfl (g ?_) | refine Az (fun h=>g ?_) (fun h=>g ?_) | (refine Ci rfl rfl (fun h e=>?_) (fun h e=>?_)<;>simp only [e]<;>clear e<;>refine g ?_))
 ·rw [<-hB,decide_eq_false (p:=0<=room) (by omega)];rfl
 ·rw [<-hB,decide_eq_false (p:=room<=16777216) (by omega)];simp
 ·rw [<-hB,decide_eq_false (p:=l.length<=256) (by omega)];simp
 rw [decide_eq_true (p:=0<=room) (by omega),decide_eq_true (p:=room<=16777216) (by omega),decide_eq_true (p:=l.length<=256) (by omega),Bool.true_and,Bool.true_and,Bool.true_and] at hB
 refine AW.loop (fun x:{x:Nat×List (Int×Value) // x.1<=l.length/\Hm (l.take x.1)=true/\∀ o,(Qp x.2 o).getD (.bool false)=.bool (An9 (l.take x.1) o)}=>⟨[(0,.iv (boI l)),(1,.val (.int .i64 room)),(5,.mv 2000),(20,.iv (boI l)),(21,.val (.int .i64 (l.length:Nat))),(22,.val (.int .i64 (x.1.1:Nat)))],[.mp 2000 .i64 x.1.2]⟩) (fun x=>l.length - x.1.1) ⟨(0,[]),Nat.zero_le _,rfl,fun o=>rfl⟩ id ⟨⟨rfl,rfl,rfl,rfl,rfl,rfl,trivial⟩,⟨rfl,trivial⟩,by simp [Aq,BA.id]⟩ fun ⟨⟨m,kv⟩,hm,ht,hk⟩=>?_
 simp only at hm ht hk
 refine g ?_
 repeat' (first | refine st_ rfl (g ?_) | refine Az (fun h=>g ?_) (fun h=>g ?_) | refine ix_ (by omega) (g ?_))
 ·have hlt:m < l.length:=by omega
  refine ⟨.bool (An9 (l.take m) l[m].object),hk _,?_⟩
  cases hh:An9 (l.take m) l[m].object
  ·refine g ?_
   repeat' (first | refine st_ rfl (g ?_) | refine Ag (g ?_) | refine C3 (fun h=>g ?_) (fun h=>g ?_) | refine A9 (Aa1 _) rfl (g ?_))
   ·rw [<-hB,Ac2 hlt ht (.inl (by simpa using h))];rfl
   ·have hr:Dd l[m]=true:=by simpa using h
    refine ⟨⟨(m+1,_),hlt,by rw [A51 hlt ht,hr,hh];rfl,fun o=>?_⟩,id,⟨⟨rfl,rfl,rfl,rfl,rfl,rfl,trivial⟩,⟨rfl,trivial⟩,by simp [Aq,BA.id]⟩,by show l.length - (m+1) < l.length - m;omega⟩
    rw [A56,At6 hlt]
    by_cases e:o=l[m].object
    ·rw [if_pos e,e];simp
    ·rw [if_neg e,hk o,decide_eq_false (fun e'=>e e'.symm),Bool.or_false]
  ·refine g ?_
   repeat' (first | refine st_ rfl (g ?_) | refine Ag (g ?_))
   rw [<-hB,Ac2 hlt ht (.inr hh)];rfl
 ·obtain rfl:m=l.length:=by omega
  rw [List.take_length] at ht
  refine A9 (Ao9 l (by omega) fun x hx=>(Fk (Qk ht x hx)).2.2) rfl ?_
  refine g ?_
  repeat' refine st_ rfl (g ?_)
  rw [<-hB,ht];rfl
end Go.Proofs.YthlgnjlpakimaaaGreatDoor
