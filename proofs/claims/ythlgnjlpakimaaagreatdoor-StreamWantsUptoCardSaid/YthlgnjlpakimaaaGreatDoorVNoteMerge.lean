/- One note for two dull ones of which the second goes on where the first ends (the program's). -/
import Derived.Test.YthlgnjlpakimaaaGreatDoorVLogAll
import Derived.Test.YthlgnjlpakimaaaGreatDoorVNoteThrough
import Derived.Test.YthlgnjlpakimaaaGreatDoorVBridge2
set_option linter.all false
set_option linter.unnecessarySimpa false
set_option linter.unusedSimpArgs false
set_option linter.unusedVariables false
namespace Go.Proofs.YthlgnjlpakimaaaGreatDoor
open Go.ChangeShapes Go.WideShapes Go.ChangeAt Go.RowKit
attribute [local irreducible] AW AWY Cf Bf vop Bw Bh Bx qop Cg Cz Az Aw C5 A7 Bl
attribute [local go_sem] Ap Ar
def Vs:AV:=.iv (.sl 4 [])
theorem Af3:Vs=.iv (.sl 4 []):=rfl
attribute [local go_sem] Af3 List.length_nil
theorem Az5:A7 Tryz.prog A9 130 [Vs,.any] (.val (.int .i64 (-1))) []:=by
 refine A7.of (n:=19) (rs:=[.tmp 4]) Tryz.func130 rfl (by kernel_rfl) Tryz.ntmps130 (by kernel_rfl) (by simp) (fun _ _=>A9.later) ?_
 intro hok V w0
 refine g ?_
 refine g ?_
 repeat' refine st_ rfl (g ?_)
 refine AW.loop (fun _:Unit=>⟨[(7,.val (.int .i64 0)),(8,.val (.int .i64 0))],[]⟩) (fun _=>0) () id ⟨⟨rfl,rfl,trivial⟩,trivial,List.nodup_nil⟩ fun _=>?_
 refine g ?_
 repeat' refine st_ rfl (g ?_)
 first | exact trivial | exact ⟨.inl trivial,id,List.nodup_nil⟩
theorem B07:A7 Tryz.prog A9 47 [Vs,.any] Vs []:=by
 refine A7.of (n:=42) (rs:=[.tmp 4]) Tryz.func47 rfl (by kernel_rfl) Tryz.ntmps47 (by kernel_rfl) (by simp) (fun _ _=>A9.later) ?_
 intro hok V w0
 refine g ?_
 refine g ?_
 repeat' refine st_ rfl (g ?_)
 refine Ab Az5 rfl ?_
 refine g ?_
 repeat' refine st_ rfl (g ?_)
 first | exact trivial | exact ⟨.inl trivial,id,List.nodup_nil⟩
theorem A64:A7 Tryz.prog A9 224 [Vs,.val (.int .i64 0),.val (.int .i64 0),.any] (.tup []) []:=by
 refine A7.of (n:=53) (rs:=[]) Tryz.func224 rfl (by kernel_rfl) Tryz.ntmps224 (by kernel_rfl) (by simp) (fun _ _=>A9.later) ?_
 intro hok V w0
 refine g ?_
 refine g ?_
 repeat' refine st_ rfl (g ?_)
 refine AW.loop (fun _:Unit=>⟨[(2,.val (.int .i64 0)),(8,.val (.int .i64 1))],[]⟩) (fun _=>0) () id ⟨⟨rfl,rfl,trivial⟩,trivial,List.nodup_nil⟩ fun _=>?_
 refine g ?_
 repeat' refine st_ rfl (g ?_)
 exact ⟨.inr trivial,id,rfl,List.nodup_nil⟩
theorem Au9:A7 Tryz.prog A9 213 [Vs,.val (.int .i64 0),.any] (.tup []) []:=by
 refine A7.of (n:=63) (rs:=[]) Tryz.func213 rfl (by kernel_rfl) Tryz.ntmps213 (by kernel_rfl) (by simp) (fun _ _=>A9.later) ?_
 intro hok V w0
 refine g ?_
 refine g ?_
 repeat' refine st_ rfl (g ?_)
 refine AW.loop (fun _:Unit=>⟨[(0,Vs),(1,.val (.int .i64 0)),(6,.val (.int .i64 20)),(7,.val (.int .i64 0)),(8,.val (.int .i64 20))],[]⟩) (fun _=>0) () id ⟨⟨rfl,rfl,rfl,rfl,rfl,trivial⟩,trivial,List.nodup_nil⟩ fun _=>?_
 refine g ?_
 repeat' refine st_ rfl (g ?_)
 refine Ab A64 rfl ?_
 refine g ?_
 repeat' refine st_ rfl (g ?_)
 refine AW.loop (fun _:Unit=>⟨[(1,.val (.int .i64 0)),(6,.val (.int .i64 20))],[]⟩) (fun _=>0) () id ⟨⟨rfl,rfl,trivial⟩,trivial,List.nodup_nil⟩ fun _=>?_
 refine g ?_
 repeat' refine st_ rfl (g ?_)
 exact ⟨.inr trivial,id,rfl,List.nodup_nil⟩
theorem Bg4:A7 Tryz.prog A9 178 [Vs,.any] (.tup []) []:=by
 refine A7.of (n:=9) (rs:=[]) Tryz.func178 rfl (by kernel_rfl) Tryz.ntmps178 (by kernel_rfl) (by simp) (fun _ _=>A9.later) ?_
 intro hok V w0
 refine g ?_
 refine g ?_
 repeat' refine st_ rfl (g ?_)
 refine Ab Au9 rfl ?_
 refine g ?_
 exact ⟨.inr trivial,id,rfl,List.nodup_nil⟩
theorem Ar5:A7 Tryz.prog A9 182 [Vs,.any] Vs []:=by
 refine A7.of (n:=66) (rs:=[.tmp 4]) Tryz.func182 rfl (by kernel_rfl) Tryz.ntmps182 (by kernel_rfl) (by simp) (fun _ _=>A9.later) ?_
 intro hok V w0
 refine g ?_
 refine g ?_
 repeat' refine st_ rfl (g ?_)
 first | exact trivial | exact ⟨.inl trivial,id,List.nodup_nil⟩
theorem Bm5:A7 Tryz.prog A9 136 [Vs] Vs []:=by
 refine A7.of (n:=9) (rs:=[.tmp 2]) Tryz.func136 rfl (by kernel_rfl) Tryz.ntmps136 (by kernel_rfl) (by simp) (fun _ _=>A9.later) ?_
 intro hok V w0
 refine g ?_
 refine g ?_
 repeat' refine st_ rfl (g ?_)
 refine ⟨0,0,rfl,rfl,by omega,by omega,0,rfl,by omega,by omega,?_⟩
 refine g ?_
 repeat' (first | refine st_ rfl (g ?_) | refine Am (g ?_))
 first | exact trivial | exact ⟨.inl trivial,id,List.nodup_nil⟩
theorem Bk7:A7 Tryz.prog A9 212 [.val (.slice none 0 0),.val (.int .i64 0)] (.val (.slice none 0 0)) []:=by
 refine A7.of (n:=27) (rs:=[.tmp 4]) Tryz.func212 rfl (by kernel_rfl) Tryz.ntmps212 (by kernel_rfl) (by simp) (fun _ _=>A9.later) ?_
 intro hok V w0
 refine g ?_
 refine g ?_
 repeat' refine st_ rfl (g ?_)
 first | exact trivial | exact ⟨.inl trivial,id,List.nodup_nil⟩
theorem B09:A7 Tryz.prog A9 176 [.iv (.sl 1 [[.sl 4 []],[.sl 4 []]])] (.own 0) [.row 0 49 4 []]:=by
 refine A7.of (n:=36) (rs:=[.tmp 2]) Tryz.func176 rfl (by kernel_rfl) Tryz.ntmps176 (by kernel_rfl) (by simp) (fun _ _=>A9.later) ?_
 intro hok V w0
 refine g ?_
 refine g ?_
 repeat' refine st_ rfl (g ?_)
 refine AW.loop (fun m:{m:Nat // m<=2}=>⟨[(0,.iv (.sl 1 [[.sl 4 []],[.sl 4 []]])),(3,.val (.int .i64 0)),(9,.iv (.sl 1 [[.sl 4 []],[.sl 4 []]])),(10,.val (.int .i64 2)),(11,.val (.int .i64 (m.1:Nat)))],[]⟩) (fun m=>2 - m.1) ⟨0,by omega⟩ id ⟨⟨rfl,rfl,rfl,rfl,rfl,trivial⟩,trivial,List.nodup_nil⟩ fun ⟨m,hm⟩=>?_
 refine g ?_
 repeat' (first | refine st_ rfl (g ?_) | refine C9 (fun h=>g ?_) (fun h=>g ?_))
 ·have hlt:m < 2:=by have:=of_decide_eq_true h;omega
  have hget:[[IV.sl 4 []],[IV.sl 4 []]][m]? = some [IV.sl 4 []]:=by
   match m,hlt with
   | 0,_=>rfl
   | 1,_=>rfl
  refine ⟨by omega,_,hget,?_⟩
  refine g ?_
  repeat' (first | refine st_ rfl (g ?_) | refine Am (g ?_))
  exact ⟨⟨m+1,by omega⟩,id,⟨⟨rfl,rfl,rfl,rfl,rfl,trivial⟩,trivial,List.nodup_nil⟩,by show 2 - (m+1) < 2 - m;omega⟩
 ·refine Ab Bk7 rfl ?_
  refine g ?_
  repeat' refine st_ rfl (g ?_)
  refine AW.adopt 6 700 49 4 rfl rfl ?_
  refine AW.loop (fun m:{m:Nat // m<=2}=>⟨[(6,.own 700),(25,.iv (.sl 1 [[.sl 4 []],[.sl 4 []]])),(26,.val (.int .i64 2)),(27,.val (.int .i64 (m.1:Nat)))],[.row 700 49 4 []]⟩) (fun m=>2 - m.1) ⟨0,by omega⟩ id ⟨⟨rfl,rfl,rfl,rfl,trivial⟩,⟨rfl,trivial⟩,by simp [Au]⟩ fun ⟨j,hj⟩=>?_
  clear hm h
  refine g ?_
  repeat' (first | refine st_ rfl (g ?_) | refine C9 (fun h=>g ?_) (fun h=>g ?_))
  ·have hlt:j < 2:=by have:=of_decide_eq_true h;omega
   have hget:[[IV.sl 4 []],[IV.sl 4 []]][j]? = some [IV.sl 4 []]:=by
    match j,hlt with
    | 0,_=>rfl
    | 1,_=>rfl
   refine ⟨by omega,_,hget,?_⟩
   refine g ?_
   repeat' (first | refine st_ rfl (g ?_) | refine Am (g ?_))
   refine C4 rfl (by kernel_rfl) (by omega) (by kernel_rfl) rfl (by simp) ?_
   refine g ?_
   repeat' refine st_ rfl (g ?_)
   exact ⟨⟨j+1,by omega⟩,fun b=>if b=700 then 3400 else b,⟨⟨rfl,rfl,rfl,rfl,trivial⟩,⟨rfl,trivial⟩,by simp [Au]⟩,by show 2 - (j+1) < 2 - j;omega⟩
  ·refine g ?_
   first | exact ⟨.inl trivial,fun _=>700,rfl,rfl,by simp⟩ | exact ⟨fun _=>700,rfl,rfl,by simp⟩
end Go.Proofs.YthlgnjlpakimaaaGreatDoor
namespace Go.Proofs.YthlgnjlpakimaaaGreatDoor
open Go.ChangeShapes Go.WideShapes Go.ChangeAt Go.RowKit
attribute [local irreducible] AW AWY Cf Bf vop Bw Bh Bx qop Cg Cz Az Aw C5 A7 Bl
attribute [local go_sem] Ce Ap Ar Ee List.map_nil Af3
theorem As5 {x:Aq} (h:Ag x=true):x.blur.length<=128:=((Ei _).1 (Cl.1 h).2.2.2.1).1
set_option maxHeartbeats 3200000 in
set_option maxRecDepth 100000 in
theorem Ay7 (a b:Aq) (ha:Ag a=true) (hb:Ag b=true) (hwa:a.writes=[]) (hwb:b.writes=[]) (he:a.end_=b.start):A7 Tryz.prog A9 107 [F3 a,F3 b] (.tup [F3 (Kx a b),.val (.int .i64 0)]) []:=by
 have hla:=As5 ha
 have hlb:=As5 hb
 have hva:=Kc a
 have hvb:=Kc b
 rw [ha] at hva
 rw [hb] at hvb
 obtain ⟨sa,ea,ba,wa⟩:=a
 obtain ⟨sb,eb,bb,wb⟩:=b
 simp only at hwa hwb he hla hlb
 subst hwa hwb he
 refine A7.of (n:=71) (rs:=[.cell 4 37,.tmp 5]) Tryz.func107 rfl (by kernel_rfl) Tryz.ntmps107 (by kernel_rfl) (by simp) (fun _ _=>A9.later) ?_
 intro hok V w0
 refine g ?_
 refine AW.seq ?_
 refine AW.reg rfl fun KK hKK=>?_
 refine g ?_
 repeat' (refine hKK _ (g ?_);clear hKK KK)
 refine AW.freeze 300 _ rfl ⟨trivial,trivial,trivial,trivial,trivial⟩ ?_
 simp only [go_sem,reduceIte,Nat.reduceEqDiff]
 refine AW.freeze 400 _ rfl ⟨trivial,trivial,trivial,trivial,trivial⟩ ?_
 simp only [go_sem,reduceIte,Nat.reduceEqDiff]
 refine g ?_
 repeat' refine st_ rfl (g ?_)
 refine Ab hva rfl ?_
 refine g ?_
 refine Ab hvb rfl ?_
 refine g ?_
 repeat' refine st_ rfl (g ?_)
 refine AW.drawn (ds:=[19,20,21,22,23,24,25,26,27,28,29,30,31,6]) (fin:=[0,1,2,3,4,6]) (bs:=[1,1,1,1,1,2,3,3,3,3,3,4,5,5,6]) [⟨[],[],[],[],0⟩,⟨[(19,0)],[],[0],[],0⟩,⟨[],[],[],[],0⟩,⟨[(21,2)],[],[0],[],0⟩,⟨[(20,1),(22,3)],[],[],[],1⟩,⟨[(23,4)],[],[0,1],[],1⟩,⟨[],[],[],[],0⟩,⟨[(25,6)],[],[0],[],0⟩,⟨[],[],[],[],0⟩,⟨[(27,8)],[],[0],[],0⟩,⟨[(26,7),(28,9)],[],[],[],1⟩,⟨[(29,10)],[],[0,1,2,3],[],1⟩,⟨[(24,5),(30,11)],[],[],[],0⟩,⟨[],[],[],[],1⟩,⟨[(6,13),(31,12)],[],[],[5],1⟩] (by kernel_rfl) rfl (by kernel_rfl) rfl rfl rfl fun KD hKD=>?_
 refine g ?_
 refine bs2 (by omega) rfl rfl rfl ⟨trivial,trivial⟩ rfl rfl rfl ⟨trivial,trivial⟩ ?_
 refine g ?_
 refine Lo (Q8 [ea,eb]) (by simp [Ta,Gj,okA,okV]) rfl (Mw (Ag0 _)) (by exact Sbs.rfl_ _) rfl ?_
 refine g ?_
 refine bs2 (by omega) rfl rfl rfl ⟨trivial,trivial⟩ rfl rfl rfl ⟨trivial,trivial⟩ ?_
 refine g ?_
 refine Lo (Qi [ba,bb] (by simp [Ec];omega)) (by simp [Ta,Gj,okA,okV]) rfl (Mw (Ag1 _)) (by exact Sbs.rfl_ _) rfl ?_
 refine g ?_
 repeat' (refine hKD _ _ ⟨rfl,g ?_⟩;clear hKD KD)
 refine AW.freeze 2500 _ rfl trivial ?_
 simp only [go_sem,reduceIte,Nat.reduceEqDiff]
 refine AW.freeze 3100 _ rfl trivial ?_
 simp only [go_sem,reduceIte,Nat.reduceEqDiff]
 rw [show [ba,bb].flatten=ba++bb by simp]
 refine g ?_
 repeat' refine st_ rfl (g ?_)
 refine Ab (As9 ea) rfl ?_
 refine g ?_
 repeat' refine st_ rfl (g ?_)
 refine AW.le (S:=⟨[(4,.bp 500 0),(6,.bp 700 0),(7,.bp 800 0),(2,.ip [stI sa,stI ea,spI ba,.sl 4 []]),(3,.ip [stI ea,stI eb,spI bb,.sl 4 []]),(36,.fn 221 [.ip [.pt (N2 (fun n=>A8 ea n) (D6 ea))]])],[.box 700 [.val (.slice none 0 0),.iv (stI (Dq [ea,eb])),.iv (spI (Ba (ba++bb))),.val (.slice none 0 0)],.box 800 [.iv (stI sa)],.box 500 [.val (.slice none 0 0),.val (.slice none 0 0),.val (.slice none 0 0),.val (.slice none 0 0)]]⟩) (ρ:=id) ⟨⟨rfl,rfl,rfl,rfl,rfl,rfl,trivial⟩,⟨rfl,rfl,rfl,trivial⟩,by simp [Au,BA.id]⟩ ?_
 refine AW.range (Ac4 (fun n=>A8 ea n) (D6 ea) (Mb ea)) [(4,.bp 500 0),(6,.bp 700 0),(7,.bp 800 0)] [(2,.ip [stI sa,stI ea,spI ba,.sl 4 []]),(3,.ip [stI ea,stI eb,spI bb,.sl 4 []]),(36,.fn 221 [.ip [.pt (N2 (fun n=>A8 ea n) (D6 ea))]])] (fun _=>[.box 700 [.val (.slice none 0 0),.iv (stI (Dq [ea,eb])),.iv (spI (Ba (ba++bb))),.val (.slice none 0 0)],.box 800 [.iv (stI sa)],.box 500 [.val (.slice none 0 0),.val (.slice none 0 0),.val (.slice none 0 0),.val (.slice none 0 0)]]) (fun _=>True) rfl trivial rfl rfl rfl rfl (fun x=>⟨rfl,rfl⟩) (fun k pre x hsp hI=>?_) (fun xs hS hI=>?_)
 ·simp only [T9,enE,List.cons_append,List.nil_append]
  refine g ?_
  refine g ?_
  repeat' refine st_ rfl (g ?_)
  refine Ab (Y0 ea x.1) rfl ?_
  refine g ?_
  repeat' (first | refine st_ rfl (g ?_) | refine C9 (fun h=>g ?_) (fun h=>g ?_))
  ·simp at h
  ·exact ⟨trivial,id,⟨rfl,rfl,rfl,trivial⟩,⟨rfl,rfl,rfl,trivial⟩,by simp [Au,BA.id]⟩
 ·refine g ?_
  refine g ?_
  repeat' refine st_ rfl (g ?_)
  refine Ab (Lf sa) rfl ?_
  refine g ?_
  repeat' refine st_ rfl (g ?_)
  refine bs2 (by omega) rfl rfl rfl ⟨trivial,trivial⟩ rfl rfl rfl ⟨trivial,trivial⟩ ?_
  refine g ?_
  refine Lo B09 (by simp [Ta,Gj,okA,okV]) rfl (Mw (fun cs h=>by cases h)) (by exact Sbs.rfl_ _) rfl ?_
  refine g ?_
  refine Lo B07 (by simp [Ta,Gj,okA,okV]) rfl (fun b hb=>by cases hb) (by exact Sbs.cons_ (Sbs.of_ (Z7 _) (Sbs.rfl_ _))) rfl ?_
  refine g ?_
  repeat' refine st_ rfl (g ?_)
  refine B14 Bg4 (by exact Sbs.cons_ (Sbs.of_ (Z7 _) (Sbs.rfl_ _))) rfl ?_
  refine g ?_
  repeat' refine st_ rfl (g ?_)
  refine B14 Ar5 (by exact Sbs.cons_ (Sbs.of_ (Z7 _) (Sbs.rfl_ _))) rfl ?_
  refine g ?_
  refine Ab Bm5 rfl ?_
  refine g ?_
  repeat' refine st_ rfl (g ?_)
  first | exact trivial | exact ⟨.inl trivial,id,rfl,List.nodup_nil⟩
end Go.Proofs.YthlgnjlpakimaaaGreatDoor
