/- One note for two dull ones of which the second goes on where the first ends (the reference's). -/
import Derived.Test.YthlgnjlpakimaaaGreatDoorQLogAll
import Derived.Test.YthlgnjlpakimaaaGreatDoorQRefThr
import Derived.Test.YthlgnjlpakimaaaGreatDoorQBridge2
set_option linter.all false
set_option linter.unnecessarySimpa false
set_option linter.unusedSimpArgs false
set_option linter.unusedVariables false
namespace Go.Proofs.YthlgnjlpakimaaaGreatDoor
open Go.ChangeShapes Go.WideShapes Go.ChangeAt Go.RowKit
attribute [local irreducible] AW AWY Cd Bk vop C5 Bl Bz qop Cj Cv B4 Aw C4 A7 Bq
attribute [local go_sem] Ao As
def Zr:AV:=.iv (.sl 4 [])
theorem Ay3:Zr=.iv (.sl 4 []):=rfl
attribute [local go_sem] Ay3 List.length_nil
theorem Bn8:A7 Tryz.prog A8 130 [Zr,.any] (.val (.int .i64 (-1))) []:=by
 refine A7.of (n:=19) (rs:=[.tmp 4]) Tryz.func130 rfl (by kernel_rfl) Tryz.ntmps130 (by kernel_rfl) (by simp) (fun _ _=>A8.later) ?_
 intro hok V w0
 refine g ?_
 refine g ?_
 repeat' refine st_ rfl (g ?_)
 refine AW.loop (fun _:Unit=>⟨[(7,.val (.int .i64 0)),(8,.val (.int .i64 0))],[]⟩) (fun _=>0) () id ⟨⟨rfl,rfl,trivial⟩,trivial,List.nodup_nil⟩ fun _=>?_
 refine g ?_
 repeat' refine st_ rfl (g ?_)
 first | exact trivial | exact ⟨.inl trivial,id,List.nodup_nil⟩
theorem Bp4:A7 Tryz.prog A8 47 [Zr,.any] Zr []:=by
 refine A7.of (n:=42) (rs:=[.tmp 4]) Tryz.func47 rfl (by kernel_rfl) Tryz.ntmps47 (by kernel_rfl) (by simp) (fun _ _=>A8.later) ?_
 intro hok V w0
 refine g ?_
 refine g ?_
 repeat' refine st_ rfl (g ?_)
 refine A9 Bn8 rfl ?_
 refine g ?_
 repeat' refine st_ rfl (g ?_)
 first | exact trivial | exact ⟨.inl trivial,id,List.nodup_nil⟩
theorem An8:A7 Tryz.prog A8 224 [Zr,.val (.int .i64 0),.val (.int .i64 0),.any] (.tup []) []:=by
 refine A7.of (n:=53) (rs:=[]) Tryz.func224 rfl (by kernel_rfl) Tryz.ntmps224 (by kernel_rfl) (by simp) (fun _ _=>A8.later) ?_
 intro hok V w0
 refine g ?_
 refine g ?_
 repeat' refine st_ rfl (g ?_)
 refine AW.loop (fun _:Unit=>⟨[(2,.val (.int .i64 0)),(8,.val (.int .i64 1))],[]⟩) (fun _=>0) () id ⟨⟨rfl,rfl,trivial⟩,trivial,List.nodup_nil⟩ fun _=>?_
 refine g ?_
 repeat' refine st_ rfl (g ?_)
 exact ⟨.inr trivial,id,rfl,List.nodup_nil⟩
theorem Bi2:A7 Tryz.prog A8 213 [Zr,.val (.int .i64 0),.any] (.tup []) []:=by
 refine A7.of (n:=63) (rs:=[]) Tryz.func213 rfl (by kernel_rfl) Tryz.ntmps213 (by kernel_rfl) (by simp) (fun _ _=>A8.later) ?_
 intro hok V w0
 refine g ?_
 refine g ?_
 repeat' refine st_ rfl (g ?_)
 refine AW.loop (fun _:Unit=>⟨[(0,Zr),(1,.val (.int .i64 0)),(6,.val (.int .i64 20)),(7,.val (.int .i64 0)),(8,.val (.int .i64 20))],[]⟩) (fun _=>0) () id ⟨⟨rfl,rfl,rfl,rfl,rfl,trivial⟩,trivial,List.nodup_nil⟩ fun _=>?_
 refine g ?_
 repeat' refine st_ rfl (g ?_)
 refine A9 An8 rfl ?_
 refine g ?_
 repeat' refine st_ rfl (g ?_)
 refine AW.loop (fun _:Unit=>⟨[(1,.val (.int .i64 0)),(6,.val (.int .i64 20))],[]⟩) (fun _=>0) () id ⟨⟨rfl,rfl,trivial⟩,trivial,List.nodup_nil⟩ fun _=>?_
 refine g ?_
 repeat' refine st_ rfl (g ?_)
 exact ⟨.inr trivial,id,rfl,List.nodup_nil⟩
theorem C73:A7 Tryz.prog A8 178 [Zr,.any] (.tup []) []:=by
 refine A7.of (n:=9) (rs:=[]) Tryz.func178 rfl (by kernel_rfl) Tryz.ntmps178 (by kernel_rfl) (by simp) (fun _ _=>A8.later) ?_
 intro hok V w0
 refine g ?_
 refine g ?_
 repeat' refine st_ rfl (g ?_)
 refine A9 Bi2 rfl ?_
 refine g ?_
 exact ⟨.inr trivial,id,rfl,List.nodup_nil⟩
theorem Be0:A7 Tryz.prog A8 182 [Zr,.any] Zr []:=by
 refine A7.of (n:=66) (rs:=[.tmp 4]) Tryz.func182 rfl (by kernel_rfl) Tryz.ntmps182 (by kernel_rfl) (by simp) (fun _ _=>A8.later) ?_
 intro hok V w0
 refine g ?_
 refine g ?_
 repeat' refine st_ rfl (g ?_)
 first | exact trivial | exact ⟨.inl trivial,id,List.nodup_nil⟩
theorem Cf2:A7 Tryz.prog A8 136 [Zr] Zr []:=by
 refine A7.of (n:=9) (rs:=[.tmp 2]) Tryz.func136 rfl (by kernel_rfl) Tryz.ntmps136 (by kernel_rfl) (by simp) (fun _ _=>A8.later) ?_
 intro hok V w0
 refine g ?_
 refine g ?_
 repeat' refine st_ rfl (g ?_)
 refine ⟨0,0,rfl,rfl,by omega,by omega,0,rfl,by omega,by omega,?_⟩
 refine g ?_
 repeat' (first | refine st_ rfl (g ?_) | refine Ag (g ?_))
 first | exact trivial | exact ⟨.inl trivial,id,List.nodup_nil⟩
theorem Cd1:A7 Tryz.prog A8 212 [.val (.slice none 0 0),.val (.int .i64 0)] (.val (.slice none 0 0)) []:=by
 refine A7.of (n:=27) (rs:=[.tmp 4]) Tryz.func212 rfl (by kernel_rfl) Tryz.ntmps212 (by kernel_rfl) (by simp) (fun _ _=>A8.later) ?_
 intro hok V w0
 refine g ?_
 refine g ?_
 repeat' refine st_ rfl (g ?_)
 first | exact trivial | exact ⟨.inl trivial,id,List.nodup_nil⟩
theorem Bp6:A7 Tryz.prog A8 176 [.iv (.sl 1 [[.sl 4 []],[.sl 4 []]])] (.own 0) [.row 0 49 4 []]:=by
 refine A7.of (n:=36) (rs:=[.tmp 2]) Tryz.func176 rfl (by kernel_rfl) Tryz.ntmps176 (by kernel_rfl) (by simp) (fun _ _=>A8.later) ?_
 intro hok V w0
 refine g ?_
 refine g ?_
 repeat' refine st_ rfl (g ?_)
 refine AW.loop (fun m:{m:Nat // m<=2}=>⟨[(0,.iv (.sl 1 [[.sl 4 []],[.sl 4 []]])),(3,.val (.int .i64 0)),(9,.iv (.sl 1 [[.sl 4 []],[.sl 4 []]])),(10,.val (.int .i64 2)),(11,.val (.int .i64 (m.1:Nat)))],[]⟩) (fun m=>2 - m.1) ⟨0,by omega⟩ id ⟨⟨rfl,rfl,rfl,rfl,rfl,trivial⟩,trivial,List.nodup_nil⟩ fun ⟨m,hm⟩=>?_
 refine g ?_
 repeat' (first | refine st_ rfl (g ?_) | refine C3 (fun h=>g ?_) (fun h=>g ?_))
 ·have hlt:m < 2:=by have:=of_decide_eq_true h;omega
  have hget:[[IV.sl 4 []],[IV.sl 4 []]][m]? = some [IV.sl 4 []]:=by
   match m,hlt with
   | 0,_=>rfl
   | 1,_=>rfl
  refine ⟨by omega,_,hget,?_⟩
  refine g ?_
  repeat' (first | refine st_ rfl (g ?_) | refine Ag (g ?_))
  exact ⟨⟨m+1,by omega⟩,id,⟨⟨rfl,rfl,rfl,rfl,rfl,trivial⟩,trivial,List.nodup_nil⟩,by show 2 - (m+1) < 2 - m;omega⟩
 ·refine A9 Cd1 rfl ?_
  refine g ?_
  repeat' refine st_ rfl (g ?_)
  refine AW.adopt 6 700 49 4 rfl rfl ?_
  refine AW.loop (fun m:{m:Nat // m<=2}=>⟨[(6,.own 700),(25,.iv (.sl 1 [[.sl 4 []],[.sl 4 []]])),(26,.val (.int .i64 2)),(27,.val (.int .i64 (m.1:Nat)))],[.row 700 49 4 []]⟩) (fun m=>2 - m.1) ⟨0,by omega⟩ id ⟨⟨rfl,rfl,rfl,rfl,trivial⟩,⟨rfl,trivial⟩,by simp [Aq]⟩ fun ⟨j,hj⟩=>?_
  clear hm h
  refine g ?_
  repeat' (first | refine st_ rfl (g ?_) | refine C3 (fun h=>g ?_) (fun h=>g ?_))
  ·have hlt:j < 2:=by have:=of_decide_eq_true h;omega
   have hget:[[IV.sl 4 []],[IV.sl 4 []]][j]? = some [IV.sl 4 []]:=by
    match j,hlt with
    | 0,_=>rfl
    | 1,_=>rfl
   refine ⟨by omega,_,hget,?_⟩
   refine g ?_
   repeat' (first | refine st_ rfl (g ?_) | refine Ag (g ?_))
   refine Bo rfl (by kernel_rfl) (by omega) (by kernel_rfl) rfl (by simp) ?_
   refine g ?_
   repeat' refine st_ rfl (g ?_)
   exact ⟨⟨j+1,by omega⟩,fun b=>if b=700 then 3400 else b,⟨⟨rfl,rfl,rfl,rfl,trivial⟩,⟨rfl,trivial⟩,by simp [Aq]⟩,by show 2 - (j+1) < 2 - j;omega⟩
  ·refine g ?_
   exact ⟨.inl trivial,fun _=>700,rfl,rfl,by simp⟩
end Go.Proofs.YthlgnjlpakimaaaGreatDoor
namespace Go.Proofs.YthlgnjlpakimaaaGreatDoor
open Go.ChangeShapes Go.WideShapes Go.ChangeAt Go.RowKit
attribute [local irreducible] AW AWY Cd Bk vop C5 Bl Bz qop Cj Cv B4 Aw C4 A7 Bq
attribute [local go_sem] Ce Ao As Eh List.map_nil Ay3
theorem Bf4 {x:At} (h:Ae x=true):x.blur.length<=128:=((El _).1 (Cs.1 h).2.2.2.1).1
set_option maxHeartbeats 3200000 in
set_option maxRecDepth 100000 in
theorem Bm6 (a b:At) (ha:Ae a=true) (hb:Ae b=true) (hwa:a.writes=[]) (hwb:b.writes=[]) (he:a.end_=b.start):A7 Tryz.prog A8 107 [Ev a,Ev b] (.tup [Ev (N1 a b),.val (.int .i64 0)]) []:=by
 have hla:=Bf4 ha
 have hlb:=Bf4 hb
 have hva:=Mc a
 have hvb:=Mc b
 rw [ha] at hva
 rw [hb] at hvb
 obtain ⟨sa,ea,ba,wa⟩:=a
 obtain ⟨sb,eb,bb,wb⟩:=b
 simp only at hwa hwb he hla hlb
 subst hwa hwb he
 refine A7.of (n:=71) (rs:=[.cell 4 37,.tmp 5]) Tryz.func107 rfl (by kernel_rfl) Tryz.ntmps107 (by kernel_rfl) (by simp) (fun _ _=>A8.later) ?_
 intro hok V w0
 refine g ?_
 refine AW.seq ?_
 refine AW.reg rfl fun KK hKK=>?_
 refine g ?_
 repeat' (refine hKK _ (g ?_);clear hKK KK)
 refine AW.freeze 300 _ rfl ⟨trivial,trivial,trivial,trivial,trivial⟩ ?_
 simp only [go_sem,reduceIte,Nat.reduceEqDiff]
 refine AW.freeze 400 _ rfl ⟨trivial,trivial,trivial,trivial,trivial⟩ ?_
 simp only [go_sem,reduceIte,Nat.reduceEqDiff]
 refine g ?_
 repeat' refine st_ rfl (g ?_)
 refine A9 hva rfl ?_
 refine g ?_
 refine A9 hvb rfl ?_
 refine g ?_
 repeat' refine st_ rfl (g ?_)
 refine AW.drawn (ds:=[19,20,21,22,23,24,25,26,27,28,29,30,31,6]) (fin:=[0,1,2,3,4,6]) (bs:=[1,1,1,1,1,2,3,3,3,3,3,4,5,5,6]) [⟨[],[],[],[],0⟩,⟨[(19,0)],[],[0],[],0⟩,⟨[],[],[],[],0⟩,⟨[(21,2)],[],[0],[],0⟩,⟨[(20,1),(22,3)],[],[],[],1⟩,⟨[(23,4)],[],[0,1],[],1⟩,⟨[],[],[],[],0⟩,⟨[(25,6)],[],[0],[],0⟩,⟨[],[],[],[],0⟩,⟨[(27,8)],[],[0],[],0⟩,⟨[(26,7),(28,9)],[],[],[],1⟩,⟨[(29,10)],[],[0,1,2,3],[],1⟩,⟨[(24,5),(30,11)],[],[],[],0⟩,⟨[],[],[],[],1⟩,⟨[(6,13),(31,12)],[],[],[5],1⟩] (by kernel_rfl) rfl (by kernel_rfl) rfl rfl rfl fun KD hKD=>?_
 refine g ?_
 refine bs2 (by omega) rfl rfl rfl ⟨trivial,trivial⟩ rfl rfl rfl ⟨trivial,trivial⟩ ?_
 refine g ?_
 refine Pb (Sy [ea,eb]) (by simp [Wn,J3,okA,okV]) rfl (Qt (Az5 _)) (by exact Sbs.rfl_ _) rfl ?_
 refine g ?_
 refine bs2 (by omega) rfl rfl rfl ⟨trivial,trivial⟩ rfl rfl rfl ⟨trivial,trivial⟩ ?_
 refine g ?_
 refine Pb (T8 [ba,bb] (by simp [F5];omega)) (by simp [Wn,J3,okA,okV]) rfl (Qt (Az6 _)) (by exact Sbs.rfl_ _) rfl ?_
 refine g ?_
 repeat' (refine hKD _ _ ⟨rfl,g ?_⟩;clear hKD KD)
 refine AW.freeze 2500 _ rfl trivial ?_
 simp only [go_sem,reduceIte,Nat.reduceEqDiff]
 refine AW.freeze 3100 _ rfl trivial ?_
 simp only [go_sem,reduceIte,Nat.reduceEqDiff]
 rw [show [ba,bb].flatten=ba++bb by simp]
 refine g ?_
 repeat' refine st_ rfl (g ?_)
 refine A9 (Al7 ea) rfl ?_
 refine g ?_
 repeat' refine st_ rfl (g ?_)
 refine AW.le (S:=⟨[(4,.bp 500 0),(6,.bp 700 0),(7,.bp 800 0),(2,.ip [stI sa,stI ea,spI ba,.sl 4 []]),(3,.ip [stI ea,stI eb,spI bb,.sl 4 []]),(36,.fn 221 [.ip [.pt (Pu (fun n=>Aa ea n) (D9 ea))]])],[.box 700 [.val (.slice none 0 0),.iv (stI (E4 [ea,eb])),.iv (spI (Br (ba++bb))),.val (.slice none 0 0)],.box 800 [.iv (stI sa)],.box 500 [.val (.slice none 0 0),.val (.slice none 0 0),.val (.slice none 0 0),.val (.slice none 0 0)]]⟩) (ρ:=id) ⟨⟨rfl,rfl,rfl,rfl,rfl,rfl,trivial⟩,⟨rfl,rfl,rfl,trivial⟩,by simp [Aq,BA.id]⟩ ?_
 refine AW.range (A63 (fun n=>Aa ea n) (D9 ea) (N3 ea)) [(4,.bp 500 0),(6,.bp 700 0),(7,.bp 800 0)] [(2,.ip [stI sa,stI ea,spI ba,.sl 4 []]),(3,.ip [stI ea,stI eb,spI bb,.sl 4 []]),(36,.fn 221 [.ip [.pt (Pu (fun n=>Aa ea n) (D9 ea))]])] (fun _=>[.box 700 [.val (.slice none 0 0),.iv (stI (E4 [ea,eb])),.iv (spI (Br (ba++bb))),.val (.slice none 0 0)],.box 800 [.iv (stI sa)],.box 500 [.val (.slice none 0 0),.val (.slice none 0 0),.val (.slice none 0 0),.val (.slice none 0 0)]]) (fun _=>True) rfl trivial rfl rfl rfl rfl (fun x=>⟨rfl,rfl⟩) (fun k pre x hsp hI=>?_) (fun xs hS hI=>?_)
 ·simp only [V4,enE,List.cons_append,List.nil_append]
  refine g ?_
  refine g ?_
  repeat' refine st_ rfl (g ?_)
  refine A9 (A74 ea x.1) rfl ?_
  refine g ?_
  repeat' (first | refine st_ rfl (g ?_) | refine C3 (fun h=>g ?_) (fun h=>g ?_))
  ·simp at h
  ·exact ⟨trivial,id,⟨rfl,rfl,rfl,trivial⟩,⟨rfl,rfl,rfl,trivial⟩,by simp [Aq,BA.id]⟩
 ·refine g ?_
  refine g ?_
  repeat' refine st_ rfl (g ?_)
  refine A9 (Kb sa) rfl ?_
  refine g ?_
  repeat' refine st_ rfl (g ?_)
  refine bs2 (by omega) rfl rfl rfl ⟨trivial,trivial⟩ rfl rfl rfl ⟨trivial,trivial⟩ ?_
  refine g ?_
  refine Pb Bp6 (by simp [Wn,J3,okA,okV]) rfl (Qt (fun cs h=>by cases h)) (by exact Sbs.rfl_ _) rfl ?_
  refine g ?_
  refine Pb Bp4 (by simp [Wn,J3,okA,okV]) rfl (fun b hb=>by cases hb) (by exact Sbs.cons_ (Sbs.of_ (Ac7 _) (Sbs.rfl_ _))) rfl ?_
  refine g ?_
  repeat' refine st_ rfl (g ?_)
  refine Yl C73 (by exact Sbs.cons_ (Sbs.of_ (Ac7 _) (Sbs.rfl_ _))) rfl ?_
  refine g ?_
  repeat' refine st_ rfl (g ?_)
  refine Yl Be0 (by exact Sbs.cons_ (Sbs.of_ (Ac7 _) (Sbs.rfl_ _))) rfl ?_
  refine g ?_
  refine A9 Cf2 rfl ?_
  refine g ?_
  repeat' refine st_ rfl (g ?_)
  first | exact trivial | exact ⟨.inl trivial,id,rfl,List.nodup_nil⟩
end Go.Proofs.YthlgnjlpakimaaaGreatDoor
namespace Go.Proofs.YthlgnjlpakimaaaGreatDoor
open Go.ChangeShapes Go.WideShapes Go.ChangeAt Go.RowKit
attribute [local irreducible] Ct U0
attribute [local irreducible] AW AWY Cd Bk vop C5 Bl Bz qop Cj Cv B4 Aw C4 A7 Bq
attribute [local go_sem] Ce Qb Lg Mw Lh Eh List.map_nil Ay3 List.length_nil
theorem Db0 (c:Nat->Int) (hc:∀ n,n < 64->I64 (c n)):A7 Tryz.prog A8 158 [.aggI (U0 c)] (.iv (stI (F6 c))) []:=(Bx1 c hc).frz trivial
theorem C83 (l m:List Ab):A7 Tryz.prog A8 28 [.iv (stI l),.iv (stI m)] (.iv (stI (E4 [l,m]))) []:=(Ag0 l m).frz trivial
theorem Cr5 (l m:List Ad):A7 Tryz.prog A8 169 [.iv (spI l),.iv (spI m)] (.iv (spI (Br (l++m)))) []:=(Bj2 l m).frz trivial
theorem Nw:∀ {l:List Ab} (_:∀ s∈l,I64 s.count) (n:Int),I64 (Aa l n)
 | [],_,_=>rfl
 | s :: l,h,n=>by
  unfold Aa
  split
  ·exact h s (by simp)
  ·exact Nw (fun t ht=>h t (List.mem_cons_of_mem _ ht)) n
theorem Br8 (o:Int):A7 Tryz.prog A8 157 [Zr,.val (.int .i64 o)] (.tup [.agg [.val (.int .i64 0),.val (.int .i64 0),.val (.int .i64 0),.val (.bool false)],.val (.bool false)]) []:=by
 refine A7.of (n:=25) (rs:=[.cell 4 49,.tmp 5]) Tryz.func157 rfl (by kernel_rfl) Tryz.ntmps157 (by kernel_rfl) (by simp) (fun _ _=>A8.later) ?_
 intro hok V w0
 refine g ?_
 refine g ?_
 repeat' refine st_ rfl (g ?_)
 refine AW.loop (fun _:Unit=>⟨[(0,Zr),(4,.bp 500 0),(6,.val (.int .i64 0))],[.box 500 [.val (.int .i64 0),.val (.int .i64 0),.val (.int .i64 0),.val (.bool false)]]⟩) (fun _=>0) () id ⟨⟨rfl,rfl,rfl,trivial⟩,⟨rfl,trivial⟩,by simp [Aq,BA.id]⟩ fun _=>?_
 refine g ?_
 repeat' refine st_ rfl (g ?_)
 first | exact trivial | exact ⟨.inl trivial,id,List.nodup_nil⟩ | exact ⟨.inl trivial,id,rfl,List.nodup_nil⟩
set_option maxHeartbeats 3200000 in
set_option maxRecDepth 100000 in
theorem B71 (a b:At) (ha:Ae a=true) (hb:Ae b=true) (hwa:a.writes=[]) (hwb:b.writes=[]) (he:a.end_=b.start):A7 Tryz.prog A8 102 [Ev a,Ev b] (.tup [Ev (N1 a b),.val (.int .i64 0)]) []:=by
 have hva:=L1 a
 have hvb:=L1 b
 rw [ha] at hva
 rw [hb] at hvb
 have hsa:=(Cs.1 ha).1
 obtain ⟨sa,ea,ba,wa⟩:=a
 obtain ⟨sb,eb,bb,wb⟩:=b
 simp only at hwa hwb he hsa
 subst hwa hwb he
 refine A7.ofS (n:=116) (rs:=[.cell 4 37,.tmp 5]) Tryz.func102 rfl (by kernel_rfl) Tryz.ntmps102 (by kernel_rfl) (by simp) (fun _ _=>A8.later) ?_
 intro hok V w0
 have hsi:∀ s∈sa,I64 s.count:=fun s hs=>by
  obtain ⟨-,h1,-⟩:=D7 hok.1.1.2 (Yf s) (List.mem_map_of_mem hs)
  exact h1
 refine g ?_
 refine AW.seq ?_
 refine AW.reg rfl fun KK hKK=>?_
 refine g ?_
 repeat' (refine hKK _ (g ?_);clear hKK KK)
 refine AW.freeze 300 _ rfl ⟨trivial,trivial,trivial,trivial,trivial⟩ ?_
 simp only [go_sem,reduceIte,Nat.reduceEqDiff]
 refine AW.freeze 400 _ rfl ⟨trivial,trivial,trivial,trivial,trivial⟩ ?_
 simp only [go_sem,reduceIte,Nat.reduceEqDiff]
 refine g ?_
 repeat' refine st_ rfl (g ?_)
 refine A9 hva rfl ?_
 refine g ?_
 refine A9 hvb rfl ?_
 refine g ?_
 repeat' refine st_ rfl (g ?_)
 refine AW.drawn (ds:=[26,27,28,29,30,31,32,33,34,6,7,8]) (fin:=[0,4,5,6]) (bs:=[1,1,1,1,1,1,1,1,1,1,2,3,4,5,6]) [⟨[],[],[],[],0⟩,⟨[(26,0)],[],[0],[],0⟩,⟨[(27,1)],[],[0],[],0⟩,⟨[],[],[],[],0⟩,⟨[(29,3)],[],[0],[],0⟩,⟨[(30,4)],[],[0],[],0⟩,⟨[],[],[],[],0⟩,⟨[(32,6)],[],[0],[],0⟩,⟨[(33,7)],[],[0],[],0⟩,⟨[],[],[],[],1⟩,⟨[],[],[],[],1⟩,⟨[],[],[],[],1⟩,⟨[(6,9),(28,2)],[],[],[1],1⟩,⟨[(7,10),(31,5)],[],[],[2],1⟩,⟨[(8,11),(34,8)],[],[],[3],1⟩] (by kernel_rfl) rfl (by kernel_rfl) rfl rfl rfl fun KD hKD=>?_
 refine g ?_
 refine A9 (Tf sa) rfl ?_
 refine g ?_
 refine A9 (Tf ea) rfl ?_
 refine g ?_
 refine A9 (Tf ea) rfl ?_
 refine g ?_
 refine Jz (q:=2) (s:=64) (by kernel_rfl) (Vp _) rfl (by simp [rep]) ?_
 refine g ?_
 refine Jz (q:=2) (s:=64) (by kernel_rfl) (Vp _) rfl (by simp [rep]) ?_
 refine g ?_
 refine Jz (q:=2) (s:=64) (by kernel_rfl) (Vp _) rfl (by simp [rep]) ?_
 refine g ?_
 repeat' (refine hKD _ _ ⟨rfl,g ?_⟩;clear hKD KD)
 refine AW.freeze 700 _ rfl trivial ?_
 simp only [go_sem,reduceIte,Nat.reduceEqDiff]
 refine AW.freeze 800 _ rfl trivial ?_
 simp only [go_sem,reduceIte,Nat.reduceEqDiff]
 refine AW.freeze 900 _ rfl trivial ?_
 simp only [go_sem,reduceIte,Nat.reduceEqDiff]
 refine g ?_
 repeat' refine st_ rfl (g ?_)
 refine AW.loop (fun m:{m:Nat // m<=64}=>⟨[(2,.ip [stI sa,stI ea,spI ba,.sl 4 []]),(3,.ip [stI ea,stI eb,spI bb,.sl 4 []]),(4,.bp 500 0),(5,.val (.int .i64 0)),(6,.ip (U0 fun n=>Aa sa n)),(7,.ip (U0 fun n=>Aa ea n)),(8,.ip (U0 fun n=>Aa ea n)),(9,.val (.int .i64 (m.1:Nat)))],[.box 500 [.val (.slice none 0 0),.val (.slice none 0 0),.val (.slice none 0 0),.val (.slice none 0 0)]]⟩) (fun m=>64 - m.1) ⟨0,Nat.zero_le _⟩ id ⟨⟨rfl,rfl,rfl,rfl,rfl,rfl,rfl,rfl,trivial⟩,⟨rfl,trivial⟩,by simp [Aq,BA.id]⟩ fun ⟨m,hm⟩=>?_
 refine g ?_
 repeat' (first | refine st_ rfl (g ?_) | refine C3 (fun h=>g ?_) (fun h=>g ?_))
 ·have hlt:m < 64:=by have:=of_decide_eq_true h;omega
  refine AW.drawn (ds:=[39,40,41,42,43,44,45]) (fin:=[0]) (bs:=[1,1,1,1,1,1,1]) [⟨[],[],[],[],0⟩,⟨[(39,0)],[],[0],[],0⟩,⟨[(40,1)],[],[0],[],0⟩,⟨[],[],[],[],0⟩,⟨[(42,3)],[],[0],[],0⟩,⟨[(43,4)],[],[0],[],0⟩,⟨[(41,2),(44,5)],[],[],[],0⟩] (by kernel_rfl) rfl (by kernel_rfl) rfl rfl rfl fun KD hKD=>?_
  refine g ?_
  refine ⟨by omega,by omega,?_⟩
  rw [Nat.mul_one]
  refine g ?_
  repeat' refine Ag (g ?_)
  refine G2 (Bt5 hlt) ?_
  refine g ?_
  refine ⟨by omega,by omega,?_⟩
  rw [Nat.mul_one]
  refine g ?_
  repeat' refine Ag (g ?_)
  refine G2 (Bt5 hlt) ?_
  refine g ?_
  repeat' (refine hKD _ _ ⟨rfl,g ?_⟩;clear hKD KD)
  refine g ?_
  repeat' (first | refine st_ rfl (g ?_) | refine C3 (fun h=>g ?_) (fun h=>g ?_))
  ·exact absurd (of_decide_eq_true h) (Int.lt_irrefl _)
  exact ⟨⟨m+1,hlt⟩,id,⟨⟨rfl,rfl,rfl,rfl,rfl,rfl,rfl,rfl,trivial⟩,⟨rfl,trivial⟩,by simp [Aq,BA.id]⟩,by show 64 - (m+1) < 64 - m;omega⟩
 ·clear hm h
  refine AW.drawn (ds:=[51,52,53,54,55,56,57,58,59,60,61,62,63,10]) (fin:=[0,2]) (bs:=[1,1,1,1,1,1,1,1,1,1,1,1,1,1,2]) [⟨[],[],[0],[],0⟩,⟨[(51,0)],[],[0],[],0⟩,⟨[],[],[],[],0⟩,⟨[(53,2)],[],[0],[],0⟩,⟨[],[],[],[],0⟩,⟨[(55,4)],[],[0],[],0⟩,⟨[(54,3),(56,5)],[],[0],[],0⟩,⟨[],[],[],[],0⟩,⟨[(58,7)],[],[0],[],0⟩,⟨[],[],[],[],0⟩,⟨[(60,9)],[],[0],[],0⟩,⟨[(59,8),(61,10)],[],[0],[],0⟩,⟨[(52,1),(57,6),(62,11)],[],[],[],0⟩,⟨[],[],[],[],1⟩,⟨[(10,13),(63,12)],[],[],[1],1⟩] (by kernel_rfl) rfl (by kernel_rfl) rfl rfl rfl fun KD hKD=>?_
  refine g ?_
  refine ⟨Nat.le_of_eq (Vp _).symm,?_⟩
  rw [List.take_of_length_le (Nat.le_of_eq (Vp _))]
  refine A9 (Db0 (fun n=>Aa sa n) (fun n _=>Nw hsi n)) rfl ?_
  refine g ?_
  refine A9 (C83 ea eb) rfl ?_
  refine g ?_
  refine A9 (Cr5 ba bb) rfl ?_
  refine g ?_
  repeat' (refine hKD _ _ ⟨rfl,g ?_⟩;clear hKD KD)
  refine g ?_
  repeat' refine st_ rfl (g ?_)
  refine A9 (Kh (Br (ba++bb))) rfl ?_
  refine g ?_
  refine Jz (q:=2) (s:=256) (by kernel_rfl) (Bx _) rfl (by simp [rep]) ?_
  refine g ?_
  refine AW.freeze 1200 _ rfl trivial ?_
  simp only [go_sem,reduceIte,Nat.reduceEqDiff]
  refine g ?_
  repeat' refine st_ rfl (g ?_)
  refine AW.loop (fun m:{m:Nat // m<=256}=>⟨[(2,.ip [stI sa,stI ea,spI ba,.sl 4 []]),(3,.ip [stI ea,stI eb,spI bb,.sl 4 []]),(4,.bp 500 0),(5,.val (.int .i64 0)),(10,.bp 1100 0),(11,.ip (Ct fun o=>Al (Br (ba++bb)) o)),(12,.val (.int .i64 (m.1:Nat)))],[.box 1100 [.iv (stI (F6 fun n=>Aa sa n)),.iv (stI (E4 [ea,eb])),.iv (spI (Br (ba++bb))),.val (.slice none 0 0)],.box 500 [.val (.slice none 0 0),.val (.slice none 0 0),.val (.slice none 0 0),.val (.slice none 0 0)]]⟩) (fun m=>256 - m.1) ⟨0,Nat.zero_le _⟩ id ⟨⟨rfl,rfl,rfl,rfl,rfl,rfl,rfl,trivial⟩,⟨rfl,rfl,trivial⟩,by simp [Aq,BA.id]⟩ fun ⟨m,hm⟩=>?_
  refine g ?_
  repeat' (first | refine st_ rfl (g ?_) | refine C3 (fun h=>g ?_) (fun h=>g ?_))
  ·have hlt:m < 256:=by have:=of_decide_eq_true h;omega
   refine A9 (Br8 (m:Nat)) rfl ?_
   refine g ?_
   repeat' refine st_ rfl (g ?_)
   refine A9 (Br8 (m:Nat)) rfl ?_
   refine g ?_
   repeat' refine st_ rfl (g ?_)
   exact ⟨⟨m+1,hlt⟩,id,⟨⟨rfl,rfl,rfl,rfl,rfl,rfl,rfl,trivial⟩,⟨rfl,rfl,trivial⟩,by simp [Aq,BA.id]⟩,by show 256 - (m+1) < 256 - m;omega⟩
  ·rw [Uh hsa]
   refine ⟨.inl trivial,id,G6 rfl fun p hp=>?_,List.nodup_nil⟩
   simp only [List.zip_cons_cons,List.zip_nil_right,List.mem_cons,List.not_mem_nil,or_false] at hp
   rcases hp with rfl | rfl
   ·refine Mn rfl fun p hp=>?_
    simp only [List.zip_cons_cons,List.zip_nil_right,List.mem_cons,List.not_mem_nil,or_false] at hp
    rcases hp with rfl | rfl | rfl | rfl
    ·exact Cm.rfl_ _
    ·exact Cm.rfl_ _
    ·exact Cm.rfl_ _
    ·exact Bf 4
   ·exact Cm.rfl_ _
end Go.Proofs.YthlgnjlpakimaaaGreatDoor
