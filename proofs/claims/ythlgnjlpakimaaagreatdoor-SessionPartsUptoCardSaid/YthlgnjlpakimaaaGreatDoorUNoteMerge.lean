/- One note for two dull ones of which the second goes on where the first ends (the program's). -/
import Derived.Test.YthlgnjlpakimaaaGreatDoorUGoes
import Derived.Test.YthlgnjlpakimaaaGreatDoorUNoteThrough
import Derived.Test.YthlgnjlpakimaaaGreatDoorUBridge2
set_option linter.all false
set_option linter.unnecessarySimpa false
set_option linter.unusedSimpArgs false
set_option linter.unusedVariables false
namespace Go.Proofs.YthlgnjlpakimaaaGreatDoor
open Go.ChangeShapes Go.WideShapes Go.ChangeAt Go.RowKit
attribute [local irreducible] AW AWY Bw Bc vop Bj Az Bi qop By Ce Ar Ap Bo A7 Bd
attribute [local go_sem] Ai An
def Ti:AV:=.iv (.sl 4 [])
theorem A76:Ti=.iv (.sl 4 []):=rfl
attribute [local go_sem] A76 List.length_nil
theorem Ar8:A7 Tryz.prog A8 130 [Ti,.any] (.val (.int .i64 (-1))) []:=by
 refine A7.of (n:=19) (rs:=[.tmp 4]) Tryz.func130 rfl (by kernel_rfl) Tryz.ntmps130 (by kernel_rfl) (by simp) (fun _ _=>A8.later) ?_
 intro hok V w0
 refine g ?_
 refine g ?_
 repeat' refine st_ rfl (g ?_)
 refine AW.loop (fun _:Unit=>⟨[(7,.val (.int .i64 0)),(8,.val (.int .i64 0))],[]⟩) (fun _=>0) () id ⟨⟨rfl,rfl,trivial⟩,trivial,List.nodup_nil⟩ fun _=>?_
 refine g ?_
 repeat' refine st_ rfl (g ?_)
 first | exact trivial | exact ⟨.inl trivial,id,List.nodup_nil⟩ | rfl
theorem At2:A7 Tryz.prog A8 47 [Ti,.any] Ti []:=by
 refine A7.of (n:=42) (rs:=[.tmp 4]) Tryz.func47 rfl (by kernel_rfl) Tryz.ntmps47 (by kernel_rfl) (by simp) (fun _ _=>A8.later) ?_
 intro hok V w0
 refine g ?_
 refine g ?_
 repeat' refine st_ rfl (g ?_)
 refine Aa Ar8 rfl ?_
 refine g ?_
 repeat' refine st_ rfl (g ?_)
 first | exact trivial | exact ⟨.inl trivial,id,List.nodup_nil⟩ | rfl
theorem Zj:A7 Tryz.prog A8 224 [Ti,.val (.int .i64 0),.val (.int .i64 0),.any] (.tup []) []:=by
 refine A7.of (n:=53) (rs:=[]) Tryz.func224 rfl (by kernel_rfl) Tryz.ntmps224 (by kernel_rfl) (by simp) (fun _ _=>A8.later) ?_
 intro hok V w0
 refine g ?_
 refine g ?_
 repeat' refine st_ rfl (g ?_)
 refine AW.loop (fun _:Unit=>⟨[(2,.val (.int .i64 0)),(8,.val (.int .i64 1))],[]⟩) (fun _=>0) () id ⟨⟨rfl,rfl,trivial⟩,trivial,List.nodup_nil⟩ fun _=>?_
 refine g ?_
 repeat' refine st_ rfl (g ?_)
 exact ⟨.inr trivial,id,rfl,List.nodup_nil⟩
theorem An1:A7 Tryz.prog A8 213 [Ti,.val (.int .i64 0),.any] (.tup []) []:=by
 refine A7.of (n:=63) (rs:=[]) Tryz.func213 rfl (by kernel_rfl) Tryz.ntmps213 (by kernel_rfl) (by simp) (fun _ _=>A8.later) ?_
 intro hok V w0
 refine g ?_
 refine g ?_
 repeat' refine st_ rfl (g ?_)
 refine AW.loop (fun _:Unit=>⟨[(0,Ti),(1,.val (.int .i64 0)),(6,.val (.int .i64 20)),(7,.val (.int .i64 0)),(8,.val (.int .i64 20))],[]⟩) (fun _=>0) () id ⟨⟨rfl,rfl,rfl,rfl,rfl,trivial⟩,trivial,List.nodup_nil⟩ fun _=>?_
 refine g ?_
 repeat' refine st_ rfl (g ?_)
 refine Aa Zj rfl ?_
 refine g ?_
 repeat' refine st_ rfl (g ?_)
 refine AW.loop (fun _:Unit=>⟨[(1,.val (.int .i64 0)),(6,.val (.int .i64 20))],[]⟩) (fun _=>0) () id ⟨⟨rfl,rfl,trivial⟩,trivial,List.nodup_nil⟩ fun _=>?_
 refine g ?_
 repeat' refine st_ rfl (g ?_)
 exact ⟨.inr trivial,id,rfl,List.nodup_nil⟩
theorem B86:A7 Tryz.prog A8 178 [Ti,.any] (.tup []) []:=by
 refine A7.of (n:=9) (rs:=[]) Tryz.func178 rfl (by kernel_rfl) Tryz.ntmps178 (by kernel_rfl) (by simp) (fun _ _=>A8.later) ?_
 intro hok V w0
 refine g ?_
 refine g ?_
 repeat' refine st_ rfl (g ?_)
 refine Aa An1 rfl ?_
 refine g ?_
 exact ⟨.inr trivial,id,rfl,List.nodup_nil⟩
theorem Ak3:A7 Tryz.prog A8 182 [Ti,.any] Ti []:=by
 refine A7.of (n:=66) (rs:=[.tmp 4]) Tryz.func182 rfl (by kernel_rfl) Tryz.ntmps182 (by kernel_rfl) (by simp) (fun _ _=>A8.later) ?_
 intro hok V w0
 refine g ?_
 refine g ?_
 repeat' refine st_ rfl (g ?_)
 first | exact trivial | exact ⟨.inl trivial,id,List.nodup_nil⟩ | rfl
theorem Bd7:A7 Tryz.prog A8 136 [Ti] Ti []:=by
 refine A7.of (n:=9) (rs:=[.tmp 2]) Tryz.func136 rfl (by kernel_rfl) Tryz.ntmps136 (by kernel_rfl) (by simp) (fun _ _=>A8.later) ?_
 intro hok V w0
 refine g ?_
 refine g ?_
 repeat' refine st_ rfl (g ?_)
 refine ⟨0,0,rfl,rfl,by omega,by omega,0,rfl,by omega,by omega,?_⟩
 refine g ?_
 repeat' (first | refine st_ rfl (g ?_) | refine Aj (g ?_))
 first | exact trivial | exact ⟨.inl trivial,id,List.nodup_nil⟩ | rfl
theorem Bc5:A7 Tryz.prog A8 212 [.val (.slice none 0 0),.val (.int .i64 0)] (.val (.slice none 0 0)) []:=by
 refine A7.of (n:=27) (rs:=[.tmp 4]) Tryz.func212 rfl (by kernel_rfl) Tryz.ntmps212 (by kernel_rfl) (by simp) (fun _ _=>A8.later) ?_
 intro hok V w0
 refine g ?_
 refine g ?_
 repeat' refine st_ rfl (g ?_)
 first | exact trivial | exact ⟨.inl trivial,id,List.nodup_nil⟩ | rfl
theorem At4:A7 Tryz.prog A8 176 [.iv (.sl 1 [[.sl 4 []],[.sl 4 []]])] (.own 0) [.row 0 49 4 []]:=by
 refine A7.of (n:=36) (rs:=[.tmp 2]) Tryz.func176 rfl (by kernel_rfl) Tryz.ntmps176 (by kernel_rfl) (by simp) (fun _ _=>A8.later) ?_
 intro hok V w0
 refine g ?_
 refine g ?_
 repeat' refine st_ rfl (g ?_)
 refine AW.loop (fun m:{m:Nat // m<=2}=>⟨[(0,.iv (.sl 1 [[.sl 4 []],[.sl 4 []]])),(3,.val (.int .i64 0)),(9,.iv (.sl 1 [[.sl 4 []],[.sl 4 []]])),(10,.val (.int .i64 2)),(11,.val (.int .i64 (m.1:Nat)))],[]⟩) (fun m=>2 - m.1) ⟨0,by omega⟩ id ⟨⟨rfl,rfl,rfl,rfl,rfl,trivial⟩,trivial,List.nodup_nil⟩ fun ⟨m,hm⟩=>?_
 refine g ?_
 repeat' (first | refine st_ rfl (g ?_) | refine Cl (fun h=>g ?_) (fun h=>g ?_))
 ·have hlt:m < 2:=by have:=of_decide_eq_true h;omega
  have hget:[[IV.sl 4 []],[IV.sl 4 []]][m]? = some [IV.sl 4 []]:=by
   match m,hlt with
   | 0,_=>rfl
   | 1,_=>rfl
  refine ⟨by omega,_,hget,?_⟩
  refine g ?_
  repeat' (first | refine st_ rfl (g ?_) | refine Aj (g ?_))
  exact ⟨⟨m+1,by omega⟩,id,⟨⟨rfl,rfl,rfl,rfl,rfl,trivial⟩,trivial,List.nodup_nil⟩,by show 2 - (m+1) < 2 - m;omega⟩
 ·refine Aa Bc5 rfl ?_
  refine g ?_
  repeat' refine st_ rfl (g ?_)
  refine AW.adopt 6 700 49 4 rfl rfl ?_
  refine AW.loop (fun m:{m:Nat // m<=2}=>⟨[(6,.own 700),(25,.iv (.sl 1 [[.sl 4 []],[.sl 4 []]])),(26,.val (.int .i64 2)),(27,.val (.int .i64 (m.1:Nat)))],[.row 700 49 4 []]⟩) (fun m=>2 - m.1) ⟨0,by omega⟩ id ⟨⟨rfl,rfl,rfl,rfl,trivial⟩,⟨rfl,trivial⟩,by simp [Ay]⟩ fun ⟨j,hj⟩=>?_
  clear hm h
  refine g ?_
  repeat' (first | refine st_ rfl (g ?_) | refine Cl (fun h=>g ?_) (fun h=>g ?_))
  ·have hlt:j < 2:=by have:=of_decide_eq_true h;omega
   have hget:[[IV.sl 4 []],[IV.sl 4 []]][j]? = some [IV.sl 4 []]:=by
    match j,hlt with
    | 0,_=>rfl
    | 1,_=>rfl
   refine ⟨by omega,_,hget,?_⟩
   refine g ?_
   repeat' (first | refine st_ rfl (g ?_) | refine Aj (g ?_))
   refine C6 rfl (by kernel_rfl) (by omega) (by kernel_rfl) rfl (by simp) ?_
   refine g ?_
   repeat' refine st_ rfl (g ?_)
   exact ⟨⟨j+1,by omega⟩,fun b=>if b=700 then 3400 else b,⟨⟨rfl,rfl,rfl,rfl,trivial⟩,⟨rfl,trivial⟩,by simp [Ay]⟩,by show 2 - (j+1) < 2 - j;omega⟩
  ·refine g ?_
   first | exact ⟨.inl trivial,fun _=>700,rfl,rfl,by simp⟩ | exact ⟨fun _=>700,rfl,rfl,by simp⟩
end Go.Proofs.YthlgnjlpakimaaaGreatDoor
namespace Go.Proofs.YthlgnjlpakimaaaGreatDoor
open Go.ChangeShapes Go.WideShapes Go.ChangeAt Go.RowKit
attribute [local irreducible] AW AWY Bw Bc vop Bj Az Bi qop By Ce Ar Ap Bo A7 Bd
attribute [local go_sem] C3 Ai An Dp List.map_nil A76
theorem Al7 {x:B7} (h:Al x=true):x.blur.length<=128:=((Ea _).1 (D5.1 h).2.2.2.1).1
set_option maxHeartbeats 3200000 in
set_option maxRecDepth 100000 in
theorem Ar2 (a b:B7) (ha:Al a=true) (hb:Al b=true) (hwa:a.writes=[]) (hwb:b.writes=[]) (he:a.end_=b.start):A7 Tryz.prog A8 107 [Et a,Et b] (.tup [Et (Yc a b),.val (.int .i64 0)]) []:=by
 have hla:=Al7 ha
 have hlb:=Al7 hb
 have hva:=L0 a
 have hvb:=L0 b
 rw [ha] at hva
 rw [hb] at hvb
 obtain ⟨sa,ea,ba,wa⟩:=a
 obtain ⟨sb,eb,bb,wb⟩:=b
 simp only at hwa hwb he hla hlb
 subst hwa hwb he
 refine A7.of (n:=71) (rs:=[.cell 4 37,.tmp 5]) Tryz.func107 rfl (by kernel_rfl) Tryz.ntmps107 (by kernel_rfl) (by simp) (fun _ _=>A8.later) ?_
 intro hok V w0
 refine g ?_
 refine AW.seq ?_
 refine AW.reg rfl fun KK hKK=>?_
 refine g ?_
 repeat' (refine hKK _ (g ?_);clear hKK KK)
 refine AW.freeze 300 _ rfl ⟨trivial,trivial,trivial,trivial,trivial⟩ ?_
 simp only [go_sem,reduceIte,Nat.reduceEqDiff]
 refine AW.freeze 400 _ rfl ⟨trivial,trivial,trivial,trivial,trivial⟩ ?_
 simp only [go_sem,reduceIte,Nat.reduceEqDiff]
 refine g ?_
 repeat' refine st_ rfl (g ?_)
 refine Aa hva rfl ?_
 refine g ?_
 refine Aa hvb rfl ?_
 refine g ?_
 repeat' refine st_ rfl (g ?_)
 refine AW.drawn (ds:=[19,20,21,22,23,24,25,26,27,28,29,30,31,6]) (fin:=[0,1,2,3,4,6]) (bs:=[1,1,1,1,1,2,3,3,3,3,3,4,5,5,6]) [⟨[],[],[],[],0⟩,⟨[(19,0)],[],[0],[],0⟩,⟨[],[],[],[],0⟩,⟨[(21,2)],[],[0],[],0⟩,⟨[(20,1),(22,3)],[],[],[],1⟩,⟨[(23,4)],[],[0,1],[],1⟩,⟨[],[],[],[],0⟩,⟨[(25,6)],[],[0],[],0⟩,⟨[],[],[],[],0⟩,⟨[(27,8)],[],[0],[],0⟩,⟨[(26,7),(28,9)],[],[],[],1⟩,⟨[(29,10)],[],[0,1,2,3],[],1⟩,⟨[(24,5),(30,11)],[],[],[],0⟩,⟨[],[],[],[],1⟩,⟨[(6,13),(31,12)],[],[],[5],1⟩] (by kernel_rfl) rfl (by kernel_rfl) rfl rfl rfl fun KD hKD=>?_
 refine g ?_
 refine bs2 (by omega) rfl rfl rfl ⟨trivial,trivial⟩ rfl rfl rfl ⟨trivial,trivial⟩ ?_
 refine g ?_
 refine Qm (Rr [ea,eb]) (by simp [Wf,Ft,okA,okV]) rfl (Ly (A89 _)) (by exact Sbs.rfl_ _) rfl ?_
 refine g ?_
 refine bs2 (by omega) rfl rfl rfl ⟨trivial,trivial⟩ rfl rfl rfl ⟨trivial,trivial⟩ ?_
 refine g ?_
 refine Qm (Nv [ba,bb] (by simp [Dr];omega)) (by simp [Wf,Ft,okA,okV]) rfl (Ly (A90 _)) (by exact Sbs.rfl_ _) rfl ?_
 refine g ?_
 repeat' (refine hKD _ _ ⟨rfl,g ?_⟩;clear hKD KD)
 refine AW.freeze 2500 _ rfl trivial ?_
 simp only [go_sem,reduceIte,Nat.reduceEqDiff]
 refine AW.freeze 3100 _ rfl trivial ?_
 simp only [go_sem,reduceIte,Nat.reduceEqDiff]
 rw [show [ba,bb].flatten=ba++bb by simp]
 refine g ?_
 repeat' refine st_ rfl (g ?_)
 refine Aa (Be5 ea) rfl ?_
 refine g ?_
 repeat' refine st_ rfl (g ?_)
 refine AW.le (S:=⟨[(4,.bp 500 0),(6,.bp 700 0),(7,.bp 800 0),(2,.ip [stI sa,stI ea,spI ba,.sl 4 []]),(3,.ip [stI ea,stI eb,spI bb,.sl 4 []]),(36,.fn 221 [.ip [.pt (Ni (fun n=>A9 ea n) (Dg ea))]])],[.box 700 [.val (.slice none 0 0),.iv (stI (Eb [ea,eb])),.iv (spI (B9 (ba++bb))),.val (.slice none 0 0)],.box 800 [.iv (stI sa)],.box 500 [.val (.slice none 0 0),.val (.slice none 0 0),.val (.slice none 0 0),.val (.slice none 0 0)]]⟩) (ρ:=id) ⟨⟨rfl,rfl,rfl,rfl,rfl,rfl,trivial⟩,⟨rfl,rfl,rfl,trivial⟩,by simp [Ay,BA.id]⟩ ?_
 refine AW.range (B50 (fun n=>A9 ea n) (Dg ea) (Na ea)) [(4,.bp 500 0),(6,.bp 700 0),(7,.bp 800 0)] [(2,.ip [stI sa,stI ea,spI ba,.sl 4 []]),(3,.ip [stI ea,stI eb,spI bb,.sl 4 []]),(36,.fn 221 [.ip [.pt (Ni (fun n=>A9 ea n) (Dg ea))]])] (fun _=>[.box 700 [.val (.slice none 0 0),.iv (stI (Eb [ea,eb])),.iv (spI (B9 (ba++bb))),.val (.slice none 0 0)],.box 800 [.iv (stI sa)],.box 500 [.val (.slice none 0 0),.val (.slice none 0 0),.val (.slice none 0 0),.val (.slice none 0 0)]]) (fun _=>True) rfl trivial rfl rfl rfl rfl (fun x=>⟨rfl,rfl⟩) (fun k pre x hsp hI=>?_) (fun xs hS hI=>?_)
 ·simp only [Tf,enE,List.cons_append,List.nil_append]
  refine g ?_
  refine g ?_
  repeat' refine st_ rfl (g ?_)
  refine Aa (Ac2 ea x.1) rfl ?_
  refine g ?_
  repeat' (first | refine st_ rfl (g ?_) | refine Cl (fun h=>g ?_) (fun h=>g ?_))
  ·simp at h
  ·exact ⟨trivial,id,⟨rfl,rfl,rfl,trivial⟩,⟨rfl,rfl,rfl,trivial⟩,by simp [Ay,BA.id]⟩
 ·refine g ?_
  refine g ?_
  repeat' refine st_ rfl (g ?_)
  refine Aa (Lz sa) rfl ?_
  refine g ?_
  repeat' refine st_ rfl (g ?_)
  refine bs2 (by omega) rfl rfl rfl ⟨trivial,trivial⟩ rfl rfl rfl ⟨trivial,trivial⟩ ?_
  refine g ?_
  refine Qm At4 (by simp [Wf,Ft,okA,okV]) rfl (Ly (fun cs h=>by cases h)) (by exact Sbs.rfl_ _) rfl ?_
  refine g ?_
  refine Qm At2 (by simp [Wf,Ft,okA,okV]) rfl (fun b hb=>by cases hb) (by exact Sbs.cons_ (Sbs.of_ (Wy _) (Sbs.rfl_ _))) rfl ?_
  refine g ?_
  repeat' refine st_ rfl (g ?_)
  refine At7 B86 (by exact Sbs.cons_ (Sbs.of_ (Wy _) (Sbs.rfl_ _))) rfl ?_
  refine g ?_
  repeat' refine st_ rfl (g ?_)
  refine At7 Ak3 (by exact Sbs.cons_ (Sbs.of_ (Wy _) (Sbs.rfl_ _))) rfl ?_
  refine g ?_
  refine Aa Bd7 rfl ?_
  refine g ?_
  repeat' refine st_ rfl (g ?_)
  first | exact trivial | exact ⟨.inl trivial,id,rfl,List.nodup_nil⟩ | rfl
end Go.Proofs.YthlgnjlpakimaaaGreatDoor
