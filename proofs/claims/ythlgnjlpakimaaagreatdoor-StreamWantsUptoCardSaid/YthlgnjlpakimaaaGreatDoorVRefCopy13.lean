/- A view's copy (the reference's). -/
import Derived.Test.YthlgnjlpakimaaaGreatDoorVCache
import Derived.Test.YthlgnjlpakimaaaGreatDoorVPlace
import Derived.Test.YthlgnjlpakimaaaGreatDoorVShelfAll
import Derived.Test.YthlgnjlpakimaaaGreatDoorVViewRead
import Derived.Test.YthlgnjlpakimaaaGreatDoorVRefLog
set_option linter.all false
set_option linter.unnecessarySimpa false
set_option linter.unusedSimpArgs false
set_option linter.unusedVariables false
namespace Go.Proofs.YthlgnjlpakimaaaGreatDoor
open Go.ChangeShapes Go.WideShapes Go.ChangeAt Go.RowKit
attribute [local irreducible] AW AWY Cf Bf vop Bw Bh Bx qop Cg Cz Az Aw C5 A7 Bl Cj
attribute [local go_sem] Hw Mx Ap Ar
end Go.Proofs.YthlgnjlpakimaaaGreatDoor
namespace Go.Proofs.YthlgnjlpakimaaaGreatDoor
open Go.ChangeShapes Go.WideShapes Go.ChangeAt Go.RowKit
attribute [local irreducible] AW AWY Cf Bf vop Bw Bh Bx qop Cg Cz Az Aw C5 A7 Bl
attribute [local go_sem] Mx Jl Jo Hw Fa Ee Jp Gd Gn Fl Ce Ap Ar
def D82 (q:C11):AV:=.tup [vwA q.view,F3 q.note,.val (.int .i64 q.err)]
theorem B73 (v:Br) (n:Aq) (h:I64 v.room):I64 (Cu v n).1.room:=by
 unfold Cu
 split
 ·split
  ·exact h
  ·exact rfl
 ·exact rfl
end Go.Proofs.YthlgnjlpakimaaaGreatDoor
namespace Go.Proofs.YthlgnjlpakimaaaGreatDoor
open Go.ChangeShapes Go.WideShapes Go.ChangeAt Go.RowKit
attribute [local irreducible] AW AWY Cf Bf vop Bw Bh Bx qop Cg Cz Az Aw C5 A7 Bl
attribute [local go_sem] Jl Jo Hw Fa Ee Jp Gd Gn Fl Ap Ar
theorem Be1 (x y:Operand) (p q r:Int) (b:Bool) (w:World):(do eqGuard .neq 49 x y (.agg #[.int .i64 p,.int .i64 q,.int .i64 r,.bool b]) (.agg #[.int .i64 p,.int .i64 q,.int .i64 r,.bool b]);binOp .neq 49 (.agg #[.int .i64 p,.int .i64 q,.int .i64 r,.bool b]) (.agg #[.int .i64 p,.int .i64 q,.int .i64 r,.bool b]):Sem Value).run Tryz.prog w=.ok (.bool false) w:=by
 go_simp
set_option maxRecDepth 100000 in
theorem Bh7 (l:List Nat):A7 Tryz.prog A9 209 [.iv (byI l)] (.iv (byI l)) []:=by
 refine A7.ofS (n:=6) (rs:=[.tmp 2]) Tryz.func209 rfl (by kernel_rfl) Tryz.ntmps209 (by kernel_rfl) (by simp) (fun _ _=>A9.later) ?_
 intro hok V w0
 have hlen:l.length<=1073741824:=by simpa [byI] using hok.1.1
 refine g ?_
 repeat' refine st_ rfl (g ?_)
 refine bs0 (by omega) ?_
 refine g ?_
 refine C4 rfl (by kernel_rfl) (by omega) (by kernel_rfl) rfl (by simpa [byI] using hlen) ?_
 refine g ?_
 refine AW.freeze 600 _ rfl trivial ?_
 simp only [go_sem,reduceIte,Nat.reduceEqDiff]
 refine g ?_
 repeat' refine st_ rfl (g ?_)
 exact D1.rfl_ _
set_option maxRecDepth 100000 in
theorem Aw8 (x:Ct) (i0:I64 x.object) (i1:I64 x.stamp.count) (i2:I64 x.stamp.node):A7 Tryz.prog A9 170 [boA x] (boA x) []:=by
 refine A7.of (n:=11) (rs:=[.cell 2 44]) Tryz.func170 rfl (by kernel_rfl) Tryz.ntmps170 (by kernel_rfl) (by simp) (fun _ _=>A9.later) ?_
 intro hok V w0
 refine g ?_
 refine AW.seq ?_
 refine AW.reg rfl fun KK hKK=>?_
 refine g ?_
 repeat' (refine hKK _ (g ?_);clear hKK KK)
 refine AW.freeze 200 _ rfl ⟨i0,i1,i2,trivial,trivial⟩ ?_
 simp only [go_sem,reduceIte,Nat.reduceEqDiff]
 refine g ?_
 repeat' refine st_ rfl (g ?_)
 refine AW.drawn (ds:=[3,4,5,6,7,8,9,10]) (fin:=[1]) (bs:=[1,1,1,1,1,1,1,1,1]) [⟨[],[],[],[],0⟩,⟨[(3,0)],[],[0],[],0⟩,⟨[],[],[],[],0⟩,⟨[(5,2)],[],[0],[],0⟩,⟨[],[],[],[],0⟩,⟨[(7,4)],[],[0],[],0⟩,⟨[(8,5)],[],[0],[],0⟩,⟨[(4,1),(6,3),(9,6)],[],[],[],0⟩,⟨[(10,7)],[],[],[0],1⟩] (by kernel_rfl) rfl (by kernel_rfl) rfl rfl rfl fun KD hKD=>?_
 refine g ?_
 repeat' (first | refine st_ rfl (g ?_) | exact trivial | (refine hKD _ _ ⟨rfl,g ?_⟩;clear hKD KD) | refine Ab (Bh7 _) rfl (g ?_))
end Go.Proofs.YthlgnjlpakimaaaGreatDoor
namespace Go.Proofs.YthlgnjlpakimaaaGreatDoor
open Go.ChangeShapes Go.WideShapes Go.ChangeAt Go.RowKit
attribute [local irreducible] AW AWY Cf Bf vop Bw Bh Bx qop Cg Cz Az Aw C5 A7 Bl
attribute [local go_sem] Jl Jo Hw Fa Ee Jp Gd Gn Fl Ap Ar
set_option maxRecDepth 100000 in
theorem Ae7 (l:List Ct):A7 Tryz.prog A9 104 [.iv (boI l)] (.iv (boI l)) []:=by
 refine A7.of (n:=20) (rs:=[.tmp 2]) Tryz.func104 rfl (by kernel_rfl) Tryz.ntmps104 (by kernel_rfl) (by simp) (fun _ _=>A9.later) ?_
 intro hok V w0
 have hlen:l.length<=1073741824:=by simpa [boI] using hok.1.1
 refine g ?_
 repeat' refine st_ rfl (g ?_)
 refine AW.adopt 3 9900 44 4 rfl rfl ?_
 refine AW.loop (fun i:{i:Nat // i<=l.length}=>⟨[(0,.iv (boI l)),(3,.own 9900),(4,.val (.int .i64 (i.1:Nat)))],[.row 9900 44 4 ((l.take i.1).map enB)]⟩) (fun i=>l.length - i.1) ⟨0,Nat.zero_le _⟩ id ⟨⟨rfl,rfl,rfl,trivial⟩,⟨rfl,trivial⟩,by simp [Au,BA.id]⟩ fun ⟨i,hi⟩=>?_
 repeat (refine AW.seq ?_)
 refine AW.reg rfl fun KK hKK=>?_
 refine g ?_
 repeat' (refine hKK _ (g ?_);clear hKK KK)
 repeat (refine AW.seq ?_)
 refine st_ rfl ?_
 refine g ?_
 refine C9 (fun h=>?_) (fun h=>?_)
 ·have hlt:i < l.length:=by have:=of_decide_eq_true h;omega
  obtain ⟨-,o1,o2,o3,-⟩:=En (by simpa [boI] using hok.1.2) (enB l[i]) (List.mem_map_of_mem (List.getElem_mem hlt))
  refine g ?_
  repeat' refine st_ rfl (g ?_)
  refine ⟨by omega,_,Cb (List.getElem?_eq_getElem hlt),?_⟩
  refine g ?_
  repeat' refine Am (g ?_)
  refine Ab (Aw8 l[i] o1 o2 o3) rfl ?_
  refine g ?_
  refine bs1 (by omega) rfl rfl rfl ⟨o1,o2,o3,trivial,trivial⟩ ?_
  refine g ?_
  refine C4 rfl (by kernel_rfl) (by omega) (by kernel_rfl) rfl (by simp;omega) ?_
  refine g ?_
  repeat' refine st_ rfl (g ?_)
  refine ⟨⟨i+1,hlt⟩,fun b=>if b=9900 then 1900 else b,⟨⟨rfl,rfl,rfl,trivial⟩,⟨?_,trivial⟩,by simp [Au,BA.id]⟩,by show l.length - (i+1) < l.length - i;omega⟩
  show some (BA.row _ _ _ _)=some (BA.row _ _ _ ((l.take (i+1)).map enB))
  rw [List.take_succ_eq_append_getElem hlt,List.map_append]
  rfl
 ·obtain rfl:i=l.length:=by have:=of_decide_eq_false h;omega
  refine AW.freeze 9900 _ rfl trivial ?_
  simp only [go_sem,reduceIte,Nat.reduceEqDiff]
  rw [List.take_length]
  refine g ?_
  repeat' (first | refine st_ rfl (g ?_) | exact trivial)
set_option maxRecDepth 100000 in
theorem Ak1 (l:List Ao):A7 Tryz.prog A9 103 [.iv (znI l)] (.iv (znI l)) []:=by
 refine A7.of (n:=27) (rs:=[.tmp 2]) Tryz.func103 rfl (by kernel_rfl) Tryz.ntmps103 (by kernel_rfl) (by simp) (fun _ _=>A9.later) ?_
 intro hok V w0
 have hlen:l.length<=1073741824:=by simpa [znI] using hok.1.1
 refine g ?_
 repeat' refine st_ rfl (g ?_)
 refine AW.adopt 3 9900 122 3 rfl rfl ?_
 refine AW.loop (fun i:{i:Nat // i<=l.length}=>⟨[(0,.iv (znI l)),(3,.own 9900),(4,.val (.int .i64 (i.1:Nat)))],[.row 9900 122 3 ((l.take i.1).map enZ)]⟩) (fun i=>l.length - i.1) ⟨0,Nat.zero_le _⟩ id ⟨⟨rfl,rfl,rfl,trivial⟩,⟨rfl,trivial⟩,by simp [Au,BA.id]⟩ fun ⟨i,hi⟩=>?_
 repeat (refine AW.seq ?_)
 refine AW.reg rfl fun KK hKK=>?_
 refine g ?_
 repeat' (refine hKK _ (g ?_);clear hKK KK)
 repeat (refine AW.seq ?_)
 refine st_ rfl ?_
 refine g ?_
 refine C9 (fun h=>?_) (fun h=>?_)
 ·have hlt:i < l.length:=by have:=of_decide_eq_true h;omega
  obtain ⟨-,o1,o2,-⟩:=En (by simpa [znI] using hok.1.2) (enZ l[i]) (List.mem_map_of_mem (List.getElem_mem hlt))
  have hget:=Cb (f:=enZ) (List.getElem?_eq_getElem hlt)
  refine g ?_
  repeat' refine st_ rfl (g ?_)
  refine AW.drawn (ds:=[11,12,13,14,15,16,17,18,19,20,21,22,23,24,25,3]) (fin:=[1,2]) (bs:=[1,1,1,1,1,1,1,1,1,1,1,1,1,1,2,3]) [⟨[],[3],[],[],0⟩,⟨[],[],[],[],0⟩,⟨[],[],[],[],0⟩,⟨[(12,1),(13,2)],[],[0],[],0⟩,⟨[(14,3)],[],[],[],0⟩,⟨[(15,4)],[],[0],[],0⟩,⟨[],[],[],[],0⟩,⟨[],[],[],[],0⟩,⟨[(17,6),(18,7)],[],[0],[],0⟩,⟨[(19,8)],[],[],[],0⟩,⟨[(20,9)],[],[0],[],0⟩,⟨[(21,10)],[],[0],[],0⟩,⟨[(16,5),(22,11)],[],[],[],0⟩,⟨[(23,12)],[],[],[],1⟩,⟨[(11,0),(24,13)],[],[1],[0],1⟩,⟨[(25,14)],[],[],[],0⟩] (by kernel_rfl) rfl (by kernel_rfl) rfl rfl rfl fun KD hKD=>?_
  refine g ?_
  repeat' (first | refine ix_ (by omega) (g ?_) | refine Ab (N9 _) rfl (g ?_))
  refine bs1 (by omega) rfl rfl rfl ⟨o1,o2,trivial,trivial⟩ ?_
  refine g ?_
  refine C4 rfl (by kernel_rfl) (by omega) (by kernel_rfl) rfl (by simp;omega) ?_
  refine g ?_
  repeat' (first | refine st_ rfl (g ?_) | (refine hKD _ _ ⟨rfl,g ?_⟩;clear hKD KD))
  refine ⟨⟨i+1,hlt⟩,fun b=>if b=9900 then 2600 else b,⟨⟨rfl,rfl,rfl,trivial⟩,⟨?_,trivial⟩,by simp [Au,BA.id]⟩,by show l.length - (i+1) < l.length - i;omega⟩
  show some (BA.row _ _ _ _)=some (BA.row _ _ _ ((l.take (i+1)).map enZ))
  rw [List.take_succ_eq_append_getElem hlt,List.map_append]
  rfl
 ·obtain rfl:i=l.length:=by have:=of_decide_eq_false h;omega
  refine AW.freeze 9900 _ rfl trivial ?_
  simp only [go_sem,reduceIte,Nat.reduceEqDiff]
  rw [List.take_length]
  refine g ?_
  repeat' (first | refine st_ rfl (g ?_) | exact trivial)
set_option maxRecDepth 100000 in
set_option maxHeartbeats 800000 in
theorem Ae2 (v:Br) (iR:I64 v.room):A7 Tryz.prog A9 41 [vwA v] (vwA v) []:=by
 refine A7.ofS (n:=19) (rs:=[.cell 2 30]) Tryz.func41 rfl (by kernel_rfl) Tryz.ntmps41 (by kernel_rfl) (by simp) (fun _ _=>A9.later) ?_
 intro hok V w0
 have hlen:v.held.length<=1073741824:=by simpa [wrI] using hok.1.2.2.1.1
 refine g ?_
 refine AW.seq ?_
 refine AW.reg rfl fun KK hKK=>?_
 refine g ?_
 repeat' (refine hKK _ (g ?_);clear hKK KK)
 refine AW.freeze 200 _ rfl ⟨trivial,trivial,trivial,trivial,iR,trivial⟩ ?_
 simp only [go_sem,reduceIte,Nat.reduceEqDiff]
 refine g ?_
 repeat' refine st_ rfl (g ?_)
 refine AW.drawn (ds:=[3,4,5,6,7,8,9,10,11,12,13,14,15,16,17,18]) (fin:=[2,3]) (bs:=[1,1,1,1,1,1,1,2,2,2,3,3,3,3,3,3,3]) [⟨[],[],[],[],0⟩,⟨[(3,0)],[],[0],[],0⟩,⟨[(4,1)],[],[0],[],0⟩,⟨[],[],[],[],0⟩,⟨[(6,3)],[],[0],[],0⟩,⟨[(7,4)],[],[0],[],0⟩,⟨[],[],[],[],1⟩,⟨[],[],[],[],0⟩,⟨[(10,7)],[],[0],[],0⟩,⟨[(9,6),(11,8)],[],[0],[1],1⟩,⟨[],[],[],[],0⟩,⟨[(13,10)],[],[0],[],0⟩,⟨[(14,11)],[],[0,2],[],0⟩,⟨[],[],[],[],0⟩,⟨[(16,13)],[],[0],[],0⟩,⟨[(5,2),(8,5),(12,9),(15,12),(17,14)],[],[],[],0⟩,⟨[(18,15)],[],[],[0],1⟩] (by kernel_rfl) rfl (by kernel_rfl) rfl rfl rfl fun KD hKD=>?_
 refine g ?_
 repeat' (first | refine Ab (N9 _) rfl (g ?_) | refine Ab (Ak1 _) rfl (g ?_))
 refine bs0 (by omega) ?_
 refine g ?_
 refine C4 rfl (by kernel_rfl) (by omega) (by kernel_rfl) rfl (by simpa using hlen) ?_
 refine g ?_
 refine Ab (Ae7 _) rfl ?_
 refine g ?_
 repeat' (refine hKD _ _ ⟨rfl,g ?_⟩;clear hKD KD)
 refine AW.freeze 1300 _ rfl trivial ?_
 simp only [go_sem,reduceIte,Nat.reduceEqDiff]
 refine g ?_
 repeat' refine st_ rfl (g ?_)
 exact D1.rfl_ _
end Go.Proofs.YthlgnjlpakimaaaGreatDoor
