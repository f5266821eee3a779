/- An object is written (the program's). -/
import Derived.Test.YthlgnjlpakimaaaGreatDoorQViewRead
set_option linter.all false
set_option linter.unnecessarySimpa false
set_option linter.unusedSimpArgs false
set_option linter.unusedVariables false
namespace Go.Proofs.YthlgnjlpakimaaaGreatDoor
open Go.ChangeShapes Go.WideShapes Go.ChangeAt Go.RowKit
attribute [local irreducible] AW AWY Cd Bk vop C5 Bl Bz qop Cj Cv B4 Aw C4 A7 Bq
attribute [local go_sem] J8 K9 Kc H8 Fc Eh Jn Gp Gv Ei Ce Ao As
def E52 (q:Cg7):AV:=.tup [vwA q.view,Ev q.note,.val (.int .i64 q.err)]
theorem Fe {q:Cg7} {e:Int} (h:q=V9 e):Cm (.tup [.agg [.val (.slice none 0 0),.val (.slice none 0 0),.val (.slice none 0 0),.val (.slice none 0 0),.val (.int .i64 0)],.agg [.val (.slice none 0 0),.val (.slice none 0 0),.val (.slice none 0 0),.val (.slice none 0 0)],.val (.int .i64 e)]) (.tup [vwA q.view,Ev q.note,.val (.int .i64 q.err)]):=by
 subst h
 refine G6 rfl fun p hp=>?_
 simp only [List.zip_cons_cons,List.zip_nil_right,List.mem_cons,List.not_mem_nil,or_false] at hp
 rcases hp with rfl | rfl | rfl
 ·refine Mn rfl fun p hp=>?_
  simp only [List.zip_cons_cons,List.zip_nil_right,List.mem_cons,List.not_mem_nil,or_false] at hp
  rcases hp with rfl | rfl | rfl | rfl | rfl
  ·exact Bf 2
  ·exact Bf 3
  ·exact Bf 4
  ·exact Bf 4
  ·exact Cm.rfl_ _
 ·refine Mn rfl fun p hp=>?_
  simp only [List.zip_cons_cons,List.zip_nil_right,List.mem_cons,List.not_mem_nil,or_false] at hp
  rcases hp with rfl | rfl | rfl | rfl
  ·exact Bf 2
  ·exact Bf 2
  ·exact Bf 2
  ·exact Bf 4
 ·exact Cm.rfl_ _
theorem Cb4 {c n s:Int} (hc:c<=9223372036854775807) (hn:I64 n):I64 (Gt c n s).1.count/\I64 (Gt c n s).1.node:=by
 unfold Gt
 split
 ·exact ⟨rfl,rfl⟩
 ·split
  ·exact ⟨rfl,rfl⟩
  ·exact ⟨I64.of (by simp only;omega) (by simp only;omega),hn⟩
theorem Sm (v:B8) (x:Cg) (h:I64 v.room):I64 (Ji v x).1.room:=by
 unfold Ji
 split
 ·split
  ·exact h
  ·exact rfl
 ·exact rfl
theorem Gw (v:B8) (n:At) (h:I64 v.room):I64 (Bd v n).1.room:=by
 unfold Bd
 split
 ·split
  ·exact h
  ·exact rfl
 ·exact rfl
set_option maxRecDepth 100000 in
set_option maxHeartbeats 6400000 in
theorem A71 (v:B8) (me o skip:Int) (l:List Nat) (gone:Bool) (iR:I64 v.room) (iM:I64 me) (iO:I64 o) (iS:I64 skip):A7 Tryz.prog A8 15 [vwA v,.val (.int .i64 me),.val (.int .i64 o),.val (.int .i64 skip),.iv (byI l),.val (.bool gone)] (.tup [vwA (Q4 v me o skip l gone).view,Ev (Q4 v me o skip l gone).note,.val (.int .i64 (Q4 v me o skip l gone).err)]) []:=by
 refine A7.ofS (n:=102) (rs:=[.cell 12 30,.cell 13 37,.tmp 14]) Tryz.func15 rfl (by kernel_rfl) Tryz.ntmps15 (by kernel_rfl) (by simp) (fun _ _=>A8.later) ?_
 intro hok V w0
 obtain ⟨R,hR⟩ : ∃ R,Q4 v me o skip l gone=R:=⟨_,rfl⟩
 rw [hR]
 unfold Q4 at hR
 have hI:∀ k:Int,I64 (Aa v.known k):=fun k=>by
  refine Nw (fun s hs=>?_) k
  obtain ⟨-,h2,-⟩:=D7 (by simpa [stI] using hok.1.1.2) (Yf s) (List.mem_map_of_mem hs)
  exact h2
 have hG:=C18 v.known hI
 have hnx:=Bz9 (G3 v.known) me skip (I64.hi hG) (I64.hi iS)
 obtain ⟨x1,x2⟩:=Cb4 (s:=skip) (I64.hi hG) iM
 obtain ⟨N,hN⟩ : ∃ N,Gt (G3 v.known) me skip=N:=⟨_,rfl⟩
 rw [hN] at hnx x1 x2 hR
 obtain ⟨s,e1⟩:=N
 simp only at hnx x1 x2 hR
 refine g ?_
 refine AW.seq ?_
 refine AW.reg rfl fun KK hKK=>?_
 refine g ?_
 repeat' (refine hKK _ (g ?_);clear hKK KK)
 refine AW.freeze 700 _ rfl ⟨trivial,trivial,trivial,trivial,iR,trivial⟩ ?_
 simp only [go_sem,reduceIte,Nat.reduceEqDiff]
 have hT:=Gl v
 cases gone with
 | true =>
  have hof:=B99 v.known ⟨s,o,true⟩ x1 x2 iO
  obtain ⟨N,hN⟩ : ∃ N,ofN v.known ⟨s,o,true⟩=N:=⟨_,rfl⟩
  rw [hN] at hof hR
  obtain ⟨n,e2⟩:=N
  simp only at hof hR
  have htk:=Gl v n iR
  have hroom:=Gw v n iR
  obtain ⟨X,hX⟩ : ∃ X,Bd v n=X:=⟨_,rfl⟩
  rw [hX] at htk hR hroom
  obtain ⟨x,e3⟩:=X
  simp only at htk hR hroom
  have hbo:=Xs x ⟨o,s,l⟩ hroom iO x1 x2
  obtain ⟨Y,hY⟩ : ∃ Y,Ji x ⟨o,s,l⟩=Y:=⟨_,rfl⟩
  have hyr:=Sm x ⟨o,s,l⟩ hroom
  rw [hY] at hbo hR hyr
  obtain ⟨y,e4⟩:=Y
  simp only at hbo hR hyr
  refine g ?_
  repeat' (first | refine st_ rfl (g ?_) | refine Az (fun h=>g ?_) (fun h=>g ?_) | (refine Ci rfl rfl (fun h e=>?_) (fun h e=>?_)<;>simp only [e]<;>clear e<;>refine g ?_) | (refine Ej rfl rfl (fun h=>?_) (fun h=>?_)<;>simp only [h]<;>refine g ?_) | refine A9 (Jv v iR) rfl (g ?_) | refine A9 (Aj7 _) rfl (g ?_))
  ·rw [if_neg (by rintro ⟨a,_⟩;simp [a] at h)] at hR
   exact Fe hR.symm
  ·rw [if_neg (by rintro ⟨_,a,_⟩;simp [E9] at a;omega)] at hR
   exact Fe hR.symm
  ·rw [if_neg (by rintro ⟨_,a,_⟩;simp [E9] at a;omega)] at hR
   exact Fe hR.symm
  ·rw [if_neg (by rintro ⟨_,_,a,_⟩;omega)] at hR
   exact Fe hR.symm
  ·rw [if_neg (by rintro ⟨_,_,_,a⟩;simp at a;simp [a] at h)] at hR
   exact Fe hR.symm
  rw [if_pos (by simp at *;simp [E9, *];try omega)] at hR
  refine A9 hnx rfl (g ?_)
  refine g ?_
  refine AW.freeze 1600 _ rfl ⟨x1,x2,trivial⟩ ?_
  simp only [go_sem,reduceIte,Nat.reduceEqDiff]
  refine g ?_
  repeat' (first | refine st_ rfl (g ?_) | refine Az (fun h=>g ?_) (fun h=>g ?_))
  ·rw [if_neg h] at hR
   exact Fe hR.symm
  rw [if_pos (by simpa using h)] at hR
  refine A9 hof rfl (g ?_)
  refine g ?_
  refine AW.freeze 1800 _ rfl ⟨trivial,trivial,trivial,trivial,trivial⟩ ?_
  simp only [go_sem,reduceIte,Nat.reduceEqDiff]
  refine g ?_
  repeat' (first | refine st_ rfl (g ?_) | refine Az (fun h=>g ?_) (fun h=>g ?_))
  ·rw [if_neg h] at hR
   exact Fe hR.symm
  rw [if_pos (by simpa using h)] at hR
  refine g ?_
  repeat' (first | refine st_ rfl (g ?_) | refine Az (fun h=>g ?_) (fun h=>g ?_) | (refine Ci rfl rfl (fun h e=>?_) (fun h e=>?_)<;>simp only [e]<;>clear e<;>refine g ?_) | refine A9 (htk) rfl (g ?_))
  ·omega
  ·rw [if_pos (by assumption),if_pos trivial] at hR
   subst hR
   refine AW.freeze 1900 _ rfl ⟨trivial,trivial,trivial,trivial,hroom,trivial⟩ ?_
   simp only [go_sem,reduceIte,Nat.reduceEqDiff]
   refine AW.drawn (ds:=[100,101,14]) (fin:=[2,3]) (bs:=[2,2,2,3,4]) [⟨[],[],[0,1],[],0⟩,⟨[],[],[0],[],0⟩,⟨[(100,0)],[],[],[1],1⟩,⟨[(101,1)],[],[],[0],1⟩,⟨[],[],[],[],0⟩] (by kernel_rfl) rfl (by kernel_rfl) rfl rfl rfl fun KD hKD=>?_
   refine g ?_
   repeat' (first | refine st_ rfl (g ?_) | (refine hKD _ _ ⟨rfl,g ?_⟩;clear hKD KD))
   exact Cm.rfl_ _
  ·rw [if_neg h] at hR
   exact Fe hR.symm
  ·omega
 | false =>
  have hof:=B99 v.known ⟨s,o,false⟩ x1 x2 iO
  obtain ⟨N,hN⟩ : ∃ N,ofN v.known ⟨s,o,false⟩=N:=⟨_,rfl⟩
  rw [hN] at hof hR
  obtain ⟨n,e2⟩:=N
  simp only at hof hR
  have htk:=Gl v n iR
  have hroom:=Gw v n iR
  obtain ⟨X,hX⟩ : ∃ X,Bd v n=X:=⟨_,rfl⟩
  rw [hX] at htk hR hroom
  obtain ⟨x,e3⟩:=X
  simp only at htk hR hroom
  have hbo:=Xs x ⟨o,s,l⟩ hroom iO x1 x2
  obtain ⟨Y,hY⟩ : ∃ Y,Ji x ⟨o,s,l⟩=Y:=⟨_,rfl⟩
  have hyr:=Sm x ⟨o,s,l⟩ hroom
  rw [hY] at hbo hR hyr
  obtain ⟨y,e4⟩:=Y
  simp only at hbo hR hyr
  refine g ?_
  repeat' (first | refine st_ rfl (g ?_) | (refine Ci rfl rfl (fun h e=>?_) (fun h e=>?_)<;>simp only [e]<;>clear e<;>refine g ?_) | (refine Ej rfl rfl (fun h=>?_) (fun h=>?_)<;>simp only [h]<;>refine g ?_) | refine A9 (Jv v iR) rfl (g ?_) | refine A9 (Aj7 _) rfl (g ?_))
  ·rw [if_neg (by rintro ⟨a,_⟩;simp [a] at h)] at hR
   exact Fe hR.symm
  ·rw [if_neg (by rintro ⟨_,a,_⟩;simp [E9] at a;omega)] at hR
   exact Fe hR.symm
  ·rw [if_neg (by rintro ⟨_,a,_⟩;simp [E9] at a;omega)] at hR
   exact Fe hR.symm
  ·rw [if_neg (by rintro ⟨_,_,a,_⟩;omega)] at hR
   exact Fe hR.symm
  rw [if_pos (by simp at *;simp [E9, *];try omega)] at hR
  refine A9 hnx rfl (g ?_)
  refine g ?_
  refine AW.freeze 1600 _ rfl ⟨x1,x2,trivial⟩ ?_
  simp only [go_sem,reduceIte,Nat.reduceEqDiff]
  refine g ?_
  repeat' (first | refine st_ rfl (g ?_) | refine Az (fun h=>g ?_) (fun h=>g ?_))
  ·rw [if_neg h] at hR
   exact Fe hR.symm
  rw [if_pos (by simpa using h)] at hR
  refine A9 hof rfl (g ?_)
  refine g ?_
  refine AW.freeze 1800 _ rfl ⟨trivial,trivial,trivial,trivial,trivial⟩ ?_
  simp only [go_sem,reduceIte,Nat.reduceEqDiff]
  refine g ?_
  repeat' (first | refine st_ rfl (g ?_) | refine Az (fun h=>g ?_) (fun h=>g ?_))
  ·rw [if_neg h] at hR
   exact Fe hR.symm
  rw [if_pos (by simpa using h)] at hR
  refine g ?_
  repeat' (first | refine st_ rfl (g ?_) | refine Az (fun h=>g ?_) (fun h=>g ?_) | (refine Ci rfl rfl (fun h e=>?_) (fun h e=>?_)<;>simp only [e]<;>clear e<;>refine g ?_) | refine A9 (htk) rfl (g ?_) | refine A9 (hbo) rfl (g ?_))
  ·rename_i hb
   rw [if_pos hb,if_neg (by decide),if_neg h] at hR
   exact Fe hR.symm
  ·rename_i hb
   rw [if_pos hb,if_neg (by decide),if_pos (by simpa using h)] at hR
   subst hR
   refine AW.freeze 1900 _ rfl ⟨trivial,trivial,trivial,trivial,hyr,trivial⟩ ?_
   simp only [go_sem,reduceIte,Nat.reduceEqDiff]
   refine AW.drawn (ds:=[100,101,14]) (fin:=[2,3]) (bs:=[2,2,2,3,4]) [⟨[],[],[0,1],[],0⟩,⟨[],[],[0],[],0⟩,⟨[(100,0)],[],[],[1],1⟩,⟨[(101,1)],[],[],[0],1⟩,⟨[],[],[],[],0⟩] (by kernel_rfl) rfl (by kernel_rfl) rfl rfl rfl fun KD hKD=>?_
   refine g ?_
   repeat' (first | refine st_ rfl (g ?_) | (refine hKD _ _ ⟨rfl,g ?_⟩;clear hKD KD))
   exact Cm.rfl_ _
  ·rw [if_neg h] at hR
   exact Fe hR.symm
  ·omega
end Go.Proofs.YthlgnjlpakimaaaGreatDoor
