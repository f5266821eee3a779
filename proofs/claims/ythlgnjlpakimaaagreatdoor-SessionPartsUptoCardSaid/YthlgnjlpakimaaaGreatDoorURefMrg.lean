/- One note for two dull ones of which the second goes on where the first ends (the reference's). -/
import Derived.Test.YthlgnjlpakimaaaGreatDoorURefThr
import Derived.Test.YthlgnjlpakimaaaGreatDoorUNoteMerge
set_option linter.all false
set_option linter.unnecessarySimpa false
set_option linter.unusedSimpArgs false
set_option linter.unusedVariables false
namespace Go.Proofs.YthlgnjlpakimaaaGreatDoor
open Go.ChangeShapes Go.WideShapes Go.ChangeAt Go.RowKit
attribute [local irreducible] C5 Pe
attribute [local irreducible] AW AWY Bw Bc vop Bj Az Bi qop By Ce Ar Ap Bo A7 Bd
attribute [local go_sem] C3 Nt Js La Jt Dp List.map_nil A76 List.length_nil
theorem C74 (c:Nat->Int) (hc:∀ n,n < 64->I64 (c n)):A7 Tryz.prog A8 158 [.aggI (Pe c)] (.iv (stI (Hh c))) []:=(B01 c hc).frz trivial
theorem Bo7 (l m:List Ab):A7 Tryz.prog A8 28 [.iv (stI l),.iv (stI m)] (.iv (stI (Eb [l,m]))) []:=(Xr l m).frz trivial
theorem Bo9 (l m:List Ad):A7 Tryz.prog A8 169 [.iv (spI l),.iv (spI m)] (.iv (spI (B9 (l++m)))) []:=(Ao1 l m).frz trivial
theorem W8:∀ {l:List Ab} (_:∀ s∈l,I64 s.count) (n:Int),I64 (A9 l n)
 | [],_,_=>rfl
 | s :: l,h,n=>by
  unfold A9
  split
  ·exact h s (by simp)
  ·exact W8 (fun t ht=>h t (List.mem_cons_of_mem _ ht)) n
theorem Av8 (o:Int):A7 Tryz.prog A8 157 [Ti,.val (.int .i64 o)] (.tup [.agg [.val (.int .i64 0),.val (.int .i64 0),.val (.int .i64 0),.val (.bool false)],.val (.bool false)]) []:=by
 refine A7.of (n:=25) (rs:=[.cell 4 49,.tmp 5]) Tryz.func157 rfl (by kernel_rfl) Tryz.ntmps157 (by kernel_rfl) (by simp) (fun _ _=>A8.later) ?_
 intro hok V w0
 refine g ?_
 refine g ?_
 repeat' refine st_ rfl (g ?_)
 refine AW.loop (fun _:Unit=>⟨[(0,Ti),(4,.bp 500 0),(6,.val (.int .i64 0))],[.box 500 [.val (.int .i64 0),.val (.int .i64 0),.val (.int .i64 0),.val (.bool false)]]⟩) (fun _=>0) () id ⟨⟨rfl,rfl,rfl,trivial⟩,⟨rfl,trivial⟩,by simp [Ay,BA.id]⟩ fun _=>?_
 refine g ?_
 repeat' refine st_ rfl (g ?_)
 first | exact trivial | exact ⟨.inl trivial,id,List.nodup_nil⟩ | exact ⟨.inl trivial,id,rfl,List.nodup_nil⟩ | rfl
set_option maxHeartbeats 3200000 in
set_option maxRecDepth 100000 in
theorem Af4 (a b:B7) (ha:Al a=true) (hb:Al b=true) (hwa:a.writes=[]) (hwb:b.writes=[]) (he:a.end_=b.start):A7 Tryz.prog A8 102 [Et a,Et b] (.tup [Et (Yc a b),.val (.int .i64 0)]) []:=by
 have hva:=Gt a
 have hvb:=Gt b
 rw [ha] at hva
 rw [hb] at hvb
 have hsa:=(D5.1 ha).1
 obtain ⟨sa,ea,ba,wa⟩:=a
 obtain ⟨sb,eb,bb,wb⟩:=b
 simp only at hwa hwb he hsa
 subst hwa hwb he
 refine A7.ofS (n:=116) (rs:=[.cell 4 37,.tmp 5]) Tryz.func102 rfl (by kernel_rfl) Tryz.ntmps102 (by kernel_rfl) (by simp) (fun _ _=>A8.later) ?_
 intro hok V w0
 have hsi:∀ s∈sa,I64 s.count:=fun s hs=>by
  obtain ⟨-,h1,-⟩:=Gc hok.1.1.2 (Yn s) (List.mem_map_of_mem hs)
  exact h1
 refine g ?_
 refine AW.seq ?_
 refine AW.reg rfl fun KK hKK=>?_
 refine g ?_
 repeat' (refine hKK _ (g ?_);clear hKK KK)
 refine AW.freeze 300 _ rfl ⟨trivial,trivial,trivial,trivial,trivial⟩ ?_
 simp only [go_sem,reduceIte,Nat.reduceEqDiff]
 refine AW.freeze 400 _ rfl ⟨trivial,trivial,trivial,trivial,trivial⟩ ?_
 simp only [go_sem,reduceIte,Nat.reduceEqDiff]
 refine g ?_
 repeat' refine st_ rfl (g ?_)
 refine Aa hva rfl ?_
 refine g ?_
 refine Aa hvb rfl ?_
 refine g ?_
 repeat' refine st_ rfl (g ?_)
 refine AW.drawn (ds:=[26,27,28,29,30,31,32,33,34,6,7,8]) (fin:=[0,4,5,6]) (bs:=[1,1,1,1,1,1,1,1,1,1,2,3,4,5,6]) [⟨[],[],[],[],0⟩,⟨[(26,0)],[],[0],[],0⟩,⟨[(27,1)],[],[0],[],0⟩,⟨[],[],[],[],0⟩,⟨[(29,3)],[],[0],[],0⟩,⟨[(30,4)],[],[0],[],0⟩,⟨[],[],[],[],0⟩,⟨[(32,6)],[],[0],[],0⟩,⟨[(33,7)],[],[0],[],0⟩,⟨[],[],[],[],1⟩,⟨[],[],[],[],1⟩,⟨[],[],[],[],1⟩,⟨[(6,9),(28,2)],[],[],[1],1⟩,⟨[(7,10),(31,5)],[],[],[2],1⟩,⟨[(8,11),(34,8)],[],[],[3],1⟩] (by kernel_rfl) rfl (by kernel_rfl) rfl rfl rfl fun KD hKD=>?_
 refine g ?_
 refine Aa (P0 sa) rfl ?_
 refine g ?_
 refine Aa (P0 ea) rfl ?_
 refine g ?_
 refine Aa (P0 ea) rfl ?_
 refine g ?_
 refine G2 (q:=2) (s:=64) (by kernel_rfl) (Qn _) rfl (by simp [rep]) ?_
 refine g ?_
 refine G2 (q:=2) (s:=64) (by kernel_rfl) (Qn _) rfl (by simp [rep]) ?_
 refine g ?_
 refine G2 (q:=2) (s:=64) (by kernel_rfl) (Qn _) rfl (by simp [rep]) ?_
 refine g ?_
 repeat' (refine hKD _ _ ⟨rfl,g ?_⟩;clear hKD KD)
 refine AW.freeze 700 _ rfl trivial ?_
 simp only [go_sem,reduceIte,Nat.reduceEqDiff]
 refine AW.freeze 800 _ rfl trivial ?_
 simp only [go_sem,reduceIte,Nat.reduceEqDiff]
 refine AW.freeze 900 _ rfl trivial ?_
 simp only [go_sem,reduceIte,Nat.reduceEqDiff]
 refine g ?_
 repeat' refine st_ rfl (g ?_)
 refine AW.loop (fun m:{m:Nat // m<=64}=>⟨[(2,.ip [stI sa,stI ea,spI ba,.sl 4 []]),(3,.ip [stI ea,stI eb,spI bb,.sl 4 []]),(4,.bp 500 0),(5,.val (.int .i64 0)),(6,.ip (Pe fun n=>A9 sa n)),(7,.ip (Pe fun n=>A9 ea n)),(8,.ip (Pe fun n=>A9 ea n)),(9,.val (.int .i64 (m.1:Nat)))],[.box 500 [.val (.slice none 0 0),.val (.slice none 0 0),.val (.slice none 0 0),.val (.slice none 0 0)]]⟩) (fun m=>64 - m.1) ⟨0,Nat.zero_le _⟩ id ⟨⟨rfl,rfl,rfl,rfl,rfl,rfl,rfl,rfl,trivial⟩,⟨rfl,trivial⟩,by simp [Ay,BA.id]⟩ fun ⟨m,hm⟩=>?_
 refine g ?_
 repeat' (first | refine st_ rfl (g ?_) | refine Cl (fun h=>g ?_) (fun h=>g ?_))
 ·have hlt:m < 64:=by have:=of_decide_eq_true h;omega
  refine AW.drawn (ds:=[39,40,41,42,43,44,45]) (fin:=[0]) (bs:=[1,1,1,1,1,1,1]) [⟨[],[],[],[],0⟩,⟨[(39,0)],[],[0],[],0⟩,⟨[(40,1)],[],[0],[],0⟩,⟨[],[],[],[],0⟩,⟨[(42,3)],[],[0],[],0⟩,⟨[(43,4)],[],[0],[],0⟩,⟨[(41,2),(44,5)],[],[],[],0⟩] (by kernel_rfl) rfl (by kernel_rfl) rfl rfl rfl fun KD hKD=>?_
  refine g ?_
  refine ⟨by omega,by omega,?_⟩
  rw [Nat.mul_one]
  refine g ?_
  repeat' refine Aj (g ?_)
  refine En (Ax2 hlt) ?_
  refine g ?_
  refine ⟨by omega,by omega,?_⟩
  rw [Nat.mul_one]
  refine g ?_
  repeat' refine Aj (g ?_)
  refine En (Ax2 hlt) ?_
  refine g ?_
  repeat' (refine hKD _ _ ⟨rfl,g ?_⟩;clear hKD KD)
  refine g ?_
  repeat' (first | refine st_ rfl (g ?_) | refine Cl (fun h=>g ?_) (fun h=>g ?_))
  ·exact absurd (of_decide_eq_true h) (Int.lt_irrefl _)
  exact ⟨⟨m+1,hlt⟩,id,⟨⟨rfl,rfl,rfl,rfl,rfl,rfl,rfl,rfl,trivial⟩,⟨rfl,trivial⟩,by simp [Ay,BA.id]⟩,by show 64 - (m+1) < 64 - m;omega⟩
 ·clear hm h
  refine AW.drawn (ds:=[51,52,53,54,55,56,57,58,59,60,61,62,63,10]) (fin:=[0,2]) (bs:=[1,1,1,1,1,1,1,1,1,1,1,1,1,1,2]) [⟨[],[],[0],[],0⟩,⟨[(51,0)],[],[0],[],0⟩,⟨[],[],[],[],0⟩,⟨[(53,2)],[],[0],[],0⟩,⟨[],[],[],[],0⟩,⟨[(55,4)],[],[0],[],0⟩,⟨[(54,3),(56,5)],[],[0],[],0⟩,⟨[],[],[],[],0⟩,⟨[(58,7)],[],[0],[],0⟩,⟨[],[],[],[],0⟩,⟨[(60,9)],[],[0],[],0⟩,⟨[(59,8),(61,10)],[],[0],[],0⟩,⟨[(52,1),(57,6),(62,11)],[],[],[],0⟩,⟨[],[],[],[],1⟩,⟨[(10,13),(63,12)],[],[],[1],1⟩] (by kernel_rfl) rfl (by kernel_rfl) rfl rfl rfl fun KD hKD=>?_
  refine g ?_
  refine ⟨Nat.le_of_eq (Qn _).symm,?_⟩
  rw [List.take_of_length_le (Nat.le_of_eq (Qn _))]
  refine Aa (C74 (fun n=>A9 sa n) (fun n _=>W8 hsi n)) rfl ?_
  refine g ?_
  refine Aa (Bo7 ea eb) rfl ?_
  refine g ?_
  refine Aa (Bo9 ba bb) rfl ?_
  refine g ?_
  repeat' (refine hKD _ _ ⟨rfl,g ?_⟩;clear hKD KD)
  refine g ?_
  repeat' refine st_ rfl (g ?_)
  refine Aa (Hu (B9 (ba++bb))) rfl ?_
  refine g ?_
  refine G2 (q:=2) (s:=256) (by kernel_rfl) (Be _) rfl (by simp [rep]) ?_
  refine g ?_
  refine AW.freeze 1200 _ rfl trivial ?_
  simp only [go_sem,reduceIte,Nat.reduceEqDiff]
  refine g ?_
  repeat' refine st_ rfl (g ?_)
  refine AW.loop (fun m:{m:Nat // m<=256}=>⟨[(2,.ip [stI sa,stI ea,spI ba,.sl 4 []]),(3,.ip [stI ea,stI eb,spI bb,.sl 4 []]),(4,.bp 500 0),(5,.val (.int .i64 0)),(10,.bp 1100 0),(11,.ip (C5 fun o=>Ak (B9 (ba++bb)) o)),(12,.val (.int .i64 (m.1:Nat)))],[.box 1100 [.iv (stI (Hh fun n=>A9 sa n)),.iv (stI (Eb [ea,eb])),.iv (spI (B9 (ba++bb))),.val (.slice none 0 0)],.box 500 [.val (.slice none 0 0),.val (.slice none 0 0),.val (.slice none 0 0),.val (.slice none 0 0)]]⟩) (fun m=>256 - m.1) ⟨0,Nat.zero_le _⟩ id ⟨⟨rfl,rfl,rfl,rfl,rfl,rfl,rfl,trivial⟩,⟨rfl,rfl,trivial⟩,by simp [Ay,BA.id]⟩ fun ⟨m,hm⟩=>?_
  refine g ?_
  repeat' (first | refine st_ rfl (g ?_) | refine Cl (fun h=>g ?_) (fun h=>g ?_))
  ·have hlt:m < 256:=by have:=of_decide_eq_true h;omega
   refine Aa (Av8 (m:Nat)) rfl ?_
   refine g ?_
   repeat' refine st_ rfl (g ?_)
   refine Aa (Av8 (m:Nat)) rfl ?_
   refine g ?_
   repeat' refine st_ rfl (g ?_)
   exact ⟨⟨m+1,hlt⟩,id,⟨⟨rfl,rfl,rfl,rfl,rfl,rfl,rfl,trivial⟩,⟨rfl,rfl,trivial⟩,by simp [Ay,BA.id]⟩,by show 256 - (m+1) < 256 - m;omega⟩
  ·rw [Vd hsa]
   refine ⟨.inl trivial,id,Ns rfl fun p hp=>?_,List.nodup_nil⟩
   simp only [List.zip_cons_cons,List.zip_nil_right,List.mem_cons,List.not_mem_nil,or_false] at hp
   rcases hp with rfl | rfl
   ·refine Aa7 rfl fun p hp=>?_
    simp only [List.zip_cons_cons,List.zip_nil_right,List.mem_cons,List.not_mem_nil,or_false] at hp
    rcases hp with rfl | rfl | rfl | rfl
    ·exact Dz.rfl_ _
    ·exact Dz.rfl_ _
    ·exact Dz.rfl_ _
    ·exact D6 4
   ·exact Dz.rfl_ _
end Go.Proofs.YthlgnjlpakimaaaGreatDoor
