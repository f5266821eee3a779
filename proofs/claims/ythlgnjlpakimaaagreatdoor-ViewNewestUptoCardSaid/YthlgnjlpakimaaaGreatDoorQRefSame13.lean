/- Whether two views are the same: a view is (the reference's); a view's copy. -/
import Derived.Test.YthlgnjlpakimaaaGreatDoorQByte
import Derived.Test.YthlgnjlpakimaaaGreatDoorQRefThr
import Derived.Test.YthlgnjlpakimaaaGreatDoorQViewWrite
set_option linter.all false
set_option linter.unnecessarySimpa false
set_option linter.unusedSimpArgs false
set_option linter.unusedVariables false
namespace Go.Proofs.YthlgnjlpakimaaaGreatDoor
open Go.ChangeShapes Go.WideShapes Go.ChangeAt Go.RowKit
attribute [local irreducible] AW AWY Cd Bk vop C5 Bl Bz qop Cj Cv B4 Aw C4 A7 Bq
attribute [local go_sem] K9 Kc H8 Fc Eh Jn Gp Gv Ei Ao As
theorem Ci1 (x y:Operand) (p q:Int) (w:World):(do eqGuard .neq 66 x y (.agg #[.int .i64 p,.int .i64 q]) (.agg #[.int .i64 p,.int .i64 q]);binOp .neq 66 (.agg #[.int .i64 p,.int .i64 q]) (.agg #[.int .i64 p,.int .i64 q]):Sem Value).run Tryz.prog w=.ok (.bool false) w:=by
 go_simp
theorem B24 (x y:Operand) (p q r:Int) (b:Bool) (w:World):(do eqGuard .neq 49 x y (.agg #[.int .i64 p,.int .i64 q,.int .i64 r,.bool b]) (.agg #[.int .i64 p,.int .i64 q,.int .i64 r,.bool b]);binOp .neq 49 (.agg #[.int .i64 p,.int .i64 q,.int .i64 r,.bool b]) (.agg #[.int .i64 p,.int .i64 q,.int .i64 r,.bool b]):Sem Value).run Tryz.prog w=.ok (.bool false) w:=by
 go_simp
set_option maxRecDepth 100000 in
set_option maxHeartbeats 800000 in
theorem Ax3 (l:List Cg):A7 Tryz.prog A8 83 [.iv (boI l),.iv (boI l)] (.val (.bool true)) []:=by
 refine A7.of (n:=27) (rs:=[.tmp 4]) Tryz.func83 rfl (by kernel_rfl) Tryz.ntmps83 (by kernel_rfl) (by simp) (fun _ _=>A8.later) ?_
 intro hok V w0
 have hlen:l.length<=1073741824:=by simpa [boI] using hok.1.1
 refine g ?_
 repeat' refine st_ rfl (g ?_)
 refine AW.loop (fun i:{i:Nat // i<=l.length}=>⟨[(0,.iv (boI l)),(1,.iv (boI l)),(5,.val (.int .i64 (i.1:Nat)))],[]⟩) (fun i=>l.length - i.1) ⟨0,Nat.zero_le _⟩ id ⟨⟨rfl,rfl,rfl,trivial⟩,trivial,List.nodup_nil⟩ fun ⟨i,hi⟩=>?_
 refine g ?_
 repeat' (first | refine st_ rfl (g ?_) | exact trivial | refine Az (fun h=>g ?_) (fun h=>g ?_))
 have hlt:i < l.length:=by omega
 have hg:=C0 (f:=enB) (List.getElem?_eq_getElem hlt)
 have hsame:=Tg l[i] l[i]
 rw [decide_eq_true rfl] at hsame
 refine AW.drawn (ds:=[17,18,19,20,21,22,23,24,25,26]) (fin:=[]) (bs:=[0,0,0,0,0,0,0,0,0,0]) [⟨[],[],[],[],0⟩,⟨[],[],[],[],0⟩,⟨[(17,0),(18,1)],[],[],[],0⟩,⟨[(19,2)],[],[],[],0⟩,⟨[],[],[],[],0⟩,⟨[],[],[],[],0⟩,⟨[(21,4),(22,5)],[],[],[],0⟩,⟨[(23,6)],[],[],[],0⟩,⟨[(20,3),(24,7)],[],[],[],0⟩,⟨[(25,8)],[],[],[],0⟩] (by kernel_rfl) rfl (by kernel_rfl) rfl rfl rfl fun KD hKD=>?_
 refine g ?_
 repeat' (first | refine st_ rfl (g ?_) | (refine hKD _ _ ⟨rfl,g ?_⟩;clear hKD KD) | refine ix_ (by omega) (g ?_) | refine A9 (hsame) rfl (g ?_))
 exact ⟨⟨i+1,hlt⟩,id,⟨⟨rfl,rfl,rfl,trivial⟩,trivial,List.nodup_nil⟩,by show l.length - (i+1) < l.length - i;omega⟩
set_option maxRecDepth 100000 in
set_option maxHeartbeats 800000 in
theorem B61 (l:List Ai):A7 Tryz.prog A8 82 [.iv (wrI l),.iv (wrI l)] (.val (.bool true)) []:=by
 refine A7.of (n:=26) (rs:=[.tmp 4]) Tryz.func82 rfl (by kernel_rfl) Tryz.ntmps82 (by kernel_rfl) (by simp) (fun _ _=>A8.later) ?_
 intro hok V w0
 have hlen:l.length<=1073741824:=by simpa [wrI] using hok.1.1
 refine g ?_
 repeat' refine st_ rfl (g ?_)
 refine AW.loop (fun i:{i:Nat // i<=l.length}=>⟨[(0,.iv (wrI l)),(1,.iv (wrI l)),(5,.val (.int .i64 (i.1:Nat)))],[]⟩) (fun i=>l.length - i.1) ⟨0,Nat.zero_le _⟩ id ⟨⟨rfl,rfl,rfl,trivial⟩,trivial,List.nodup_nil⟩ fun ⟨i,hi⟩=>?_
 refine g ?_
 repeat' (first | refine st_ rfl (g ?_) | exact trivial | refine Az (fun h=>g ?_) (fun h=>g ?_))
 have hlt:i < l.length:=by omega
 have hg:=C0 (f:=enW) (List.getElem?_eq_getElem hlt)
 refine AW.drawn (ds:=[17,18,19,20,21,22,23,24,25]) (fin:=[]) (bs:=[0,0,0,0,0,0,0,0,0]) [⟨[],[],[],[],0⟩,⟨[],[],[],[],0⟩,⟨[(17,0),(18,1)],[],[],[],0⟩,⟨[(19,2)],[],[],[],0⟩,⟨[],[],[],[],0⟩,⟨[],[],[],[],0⟩,⟨[(21,4),(22,5)],[],[],[],0⟩,⟨[(23,6)],[],[],[],0⟩,⟨[(20,3),(24,7)],[],[],[],0⟩] (by kernel_rfl) rfl (by kernel_rfl) rfl rfl rfl fun KD hKD=>?_
 refine g ?_
 repeat' refine ix_ (by omega) (g ?_)
 refine ⟨_,fun u=>B24 _ _ _ _ _ _ u,?_⟩
 refine g ?_
 repeat' (first | refine st_ rfl (g ?_) | refine Ag (g ?_) | (refine hKD _ _ ⟨rfl,g ?_⟩;clear hKD KD))
 exact ⟨⟨i+1,hlt⟩,id,⟨⟨rfl,rfl,rfl,trivial⟩,trivial,List.nodup_nil⟩,by show l.length - (i+1) < l.length - i;omega⟩
set_option maxRecDepth 100000 in
set_option maxHeartbeats 800000 in
theorem B58 (l:List Av):A7 Tryz.prog A8 81 [.iv (znI l),.iv (znI l)] (.val (.bool true)) []:=by
 refine A7.of (n:=42) (rs:=[.tmp 4]) Tryz.func81 rfl (by kernel_rfl) Tryz.ntmps81 (by kernel_rfl) (by simp) (fun _ _=>A8.later) ?_
 intro hok V w0
 have hlen:l.length<=1073741824:=by simpa [znI] using hok.1.1
 refine g ?_
 repeat' refine st_ rfl (g ?_)
 refine AW.loop (fun i:{i:Nat // i<=l.length}=>⟨[(0,.iv (znI l)),(1,.iv (znI l)),(5,.val (.int .i64 (i.1:Nat)))],[]⟩) (fun i=>l.length - i.1) ⟨0,Nat.zero_le _⟩ id ⟨⟨rfl,rfl,rfl,trivial⟩,trivial,List.nodup_nil⟩ fun ⟨i,hi⟩=>?_
 refine g ?_
 repeat' (first | refine st_ rfl (g ?_) | exact trivial | refine Az (fun h=>g ?_) (fun h=>g ?_))
 have hlt:i < l.length:=by omega
 have hg:=C0 (f:=enZ) (List.getElem?_eq_getElem hlt)
 have hsame:=Hg l[i].vec l[i].vec
 rw [decide_eq_true rfl] at hsame
 refine AW.drawn (ds:=[17,18,19,20,21,22,23,24,25,26,27,28,29,30,31,32,33,34,35,36,37,38,39,40,41]) (fin:=[]) (bs:=[0,0,0,0,0,0,0,0,0,0,0,0,0,0,0,0,0,0,0,0,0,0,0,0,0]) [⟨[],[],[],[],0⟩,⟨[],[],[],[],0⟩,⟨[(17,0),(18,1)],[],[],[],0⟩,⟨[(19,2)],[],[],[],0⟩,⟨[(20,3)],[],[],[],0⟩,⟨[],[],[],[],0⟩,⟨[],[],[],[],0⟩,⟨[(22,5),(23,6)],[],[],[],0⟩,⟨[(24,7)],[],[],[],0⟩,⟨[(25,8)],[],[],[],0⟩,⟨[(21,4),(26,9)],[],[],[],0⟩,⟨[(27,10)],[],[],[],0⟩,⟨[],[],[],[],0⟩,⟨[],[],[],[],0⟩,⟨[(29,12),(30,13)],[],[],[],0⟩,⟨[(31,14)],[],[],[],0⟩,⟨[(32,15)],[],[],[],0⟩,⟨[],[],[],[],0⟩,⟨[],[],[],[],0⟩,⟨[(34,17),(35,18)],[],[],[],0⟩,⟨[(36,19)],[],[],[],0⟩,⟨[(37,20)],[],[],[],0⟩,⟨[(33,16),(38,21)],[],[],[],0⟩,⟨[(39,22)],[],[],[],0⟩,⟨[(28,11),(40,23)],[],[],[],0⟩] (by kernel_rfl) rfl (by kernel_rfl) rfl rfl rfl fun KD hKD=>?_
 refine g ?_
 repeat' refine ix_ (by omega) (g ?_)
 refine ⟨_,fun u=>Ci1 _ _ _ _ u,?_⟩
 refine g ?_
 repeat' (first | refine st_ rfl (g ?_) | refine Ag (g ?_) | (refine hKD _ _ ⟨rfl,g ?_⟩;clear hKD KD) | refine ix_ (by omega) (g ?_) | refine A9 (hsame) rfl (g ?_))
 exact ⟨⟨i+1,hlt⟩,id,⟨⟨rfl,rfl,rfl,trivial⟩,trivial,List.nodup_nil⟩,by show l.length - (i+1) < l.length - i;omega⟩
set_option maxRecDepth 100000 in
set_option maxHeartbeats 800000 in
theorem Tc (v:B8) (iR:I64 v.room):A7 Tryz.prog A8 26 [vwA v,vwA v] (.val (.bool true)) []:=by
 refine A7.of (n:=38) (rs:=[.tmp 4]) Tryz.func26 rfl (by kernel_rfl) Tryz.ntmps26 (by kernel_rfl) (by simp) (fun _ _=>A8.later) ?_
 intro hok V w0
 have hs:=Hg v.known v.known
 rw [decide_eq_true rfl] at hs
 refine g ?_
 refine AW.seq ?_
 refine AW.reg rfl fun KK hKK=>?_
 refine g ?_
 repeat' (refine hKK _ (g ?_);clear hKK KK)
 refine AW.freeze 300 _ rfl ⟨trivial,trivial,trivial,trivial,iR,trivial⟩ ?_
 simp only [go_sem,reduceIte,Nat.reduceEqDiff]
 refine AW.freeze 400 _ rfl ⟨trivial,trivial,trivial,trivial,iR,trivial⟩ ?_
 simp only [go_sem,reduceIte,Nat.reduceEqDiff]
 refine g ?_
 repeat' (first | refine st_ rfl (g ?_) | refine A9 (hs) rfl (g ?_) | refine A9 (B58 _) rfl (g ?_) | refine A9 (B61 _) rfl (g ?_) | refine A9 (Ax3 _) rfl (g ?_))
 exact decide_eq_true trivial
set_option maxRecDepth 100000 in
theorem C91 (l:List Nat):A7 Tryz.prog A8 209 [.iv (byI l)] (.iv (byI l)) []:=by
 refine A7.ofS (n:=6) (rs:=[.tmp 2]) Tryz.func209 rfl (by kernel_rfl) Tryz.ntmps209 (by kernel_rfl) (by simp) (fun _ _=>A8.later) ?_
 intro hok V w0
 have hlen:l.length<=1073741824:=by simpa [byI] using hok.1.1
 refine g ?_
 repeat' refine st_ rfl (g ?_)
 refine bs0 (by omega) ?_
 refine g ?_
 refine Bo rfl (by kernel_rfl) (by omega) (by kernel_rfl) rfl (by simpa [byI] using hlen) ?_
 refine g ?_
 refine AW.freeze 600 _ rfl trivial ?_
 simp only [go_sem,reduceIte,Nat.reduceEqDiff]
 refine g ?_
 repeat' refine st_ rfl (g ?_)
 exact Cm.rfl_ _
set_option maxRecDepth 100000 in
theorem Bk7 (x:Cg) (i0:I64 x.object) (i1:I64 x.stamp.count) (i2:I64 x.stamp.node):A7 Tryz.prog A8 170 [boA x] (boA x) []:=by
 refine A7.of (n:=11) (rs:=[.cell 2 44]) Tryz.func170 rfl (by kernel_rfl) Tryz.ntmps170 (by kernel_rfl) (by simp) (fun _ _=>A8.later) ?_
 intro hok V w0
 refine g ?_
 refine AW.seq ?_
 refine AW.reg rfl fun KK hKK=>?_
 refine g ?_
 repeat' (refine hKK _ (g ?_);clear hKK KK)
 refine AW.freeze 200 _ rfl ⟨i0,i1,i2,trivial,trivial⟩ ?_
 simp only [go_sem,reduceIte,Nat.reduceEqDiff]
 refine g ?_
 repeat' refine st_ rfl (g ?_)
 refine AW.drawn (ds:=[3,4,5,6,7,8,9,10]) (fin:=[1]) (bs:=[1,1,1,1,1,1,1,1,1]) [⟨[],[],[],[],0⟩,⟨[(3,0)],[],[0],[],0⟩,⟨[],[],[],[],0⟩,⟨[(5,2)],[],[0],[],0⟩,⟨[],[],[],[],0⟩,⟨[(7,4)],[],[0],[],0⟩,⟨[(8,5)],[],[0],[],0⟩,⟨[(4,1),(6,3),(9,6)],[],[],[],0⟩,⟨[(10,7)],[],[],[0],1⟩] (by kernel_rfl) rfl (by kernel_rfl) rfl rfl rfl fun KD hKD=>?_
 refine g ?_
 repeat' (first | refine st_ rfl (g ?_) | exact trivial | (refine hKD _ _ ⟨rfl,g ?_⟩;clear hKD KD) | refine A9 (C91 _) rfl (g ?_))
end Go.Proofs.YthlgnjlpakimaaaGreatDoor
