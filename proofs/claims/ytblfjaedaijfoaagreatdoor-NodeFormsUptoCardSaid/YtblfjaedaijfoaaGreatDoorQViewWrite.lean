/- An object is written (the program's). -/
import Derived.Test.YtblfjaedaijfoaaGreatDoorQViewRead
set_option linter.all false
set_option linter.unnecessarySimpa false
set_option linter.unusedSimpArgs false
set_option linter.unusedVariables false
namespace Go.Proofs.YtblfjaedaijfoaaGreatDoor
open Go.ChangeShapes Go.WideShapes Go.ChangeAt Go.RowKit
attribute [local irreducible] AW AWY Bo B4 vop Bj B7 Bf qop Bu C4 Aq Aj Bh A7 B9
attribute [local go_sem] Cv Hv Dq G6 Eb Cm Jc Hr Db Dk C9 Ae Af
def E27 (q:C57):AV:=.tup [vwA q.view,Ft q.note,.val (.int .i64 q.err)]
theorem Em {q:C57} {e:Int} (h:q=R5 e):Bz (.tup [.agg [.val (.slice none 0 0),.val (.slice none 0 0),.val (.slice none 0 0),.val (.slice none 0 0),.val (.int .i64 0)],.agg [.val (.slice none 0 0),.val (.slice none 0 0),.val (.slice none 0 0),.val (.slice none 0 0)],.val (.int .i64 e)]) (.tup [vwA q.view,Ft q.note,.val (.int .i64 q.err)]):=by
 subst h
 refine Ep rfl fun p hp=>?_
 simp only [List.zip_cons_cons,List.zip_nil_right,List.mem_cons,List.not_mem_nil,or_false] at hp
 rcases hp with rfl | rfl | rfl
 ·refine Es rfl fun p hp=>?_
  simp only [List.zip_cons_cons,List.zip_nil_right,List.mem_cons,List.not_mem_nil,or_false] at hp
  rcases hp with rfl | rfl | rfl | rfl | rfl
  ·exact Bg 2
  ·exact Bg 3
  ·exact Bg 4
  ·exact Bg 4
  ·exact Bz.rfl_ _
 ·refine Es rfl fun p hp=>?_
  simp only [List.zip_cons_cons,List.zip_nil_right,List.mem_cons,List.not_mem_nil,or_false] at hp
  rcases hp with rfl | rfl | rfl | rfl
  ·exact Bg 2
  ·exact Bg 2
  ·exact Bg 2
  ·exact Bg 4
 ·exact Bz.rfl_ _
theorem Av4 {c n s:Int} (hc:c<=9223372036854775807) (hn:I64 n):I64 (Fu c n s).1.count/\I64 (Fu c n s).1.node:=by
 unfold Fu
 split
 ·exact ⟨rfl,rfl⟩
 ·split
  ·exact ⟨rfl,rfl⟩
  ·exact ⟨I64.of (by simp only;omega) (by simp only;omega),hn⟩
theorem Ag0 (v:Cr) (x:C1) (h:I64 v.room):I64 (Hw v x).1.room:=by
 unfold Hw
 split
 ·split
  ·exact h
  ·exact rfl
 ·exact rfl
theorem A99 (v:Cr) (n:Bc) (h:I64 v.room):I64 (Et v n).1.room:=by
 unfold Et
 split
 ·split
  ·exact h
  ·exact rfl
 ·exact rfl
set_option maxRecDepth 100000 in
set_option maxHeartbeats 6400000 in
theorem Bk0 (v:Cr) (me o skip:Int) (l:List Nat) (gone:Bool) (iR:I64 v.room) (iM:I64 me) (iO:I64 o) (iS:I64 skip)
  (htake:∀ s n,(Fu (Ek v.known) me skip).1=s->(ofN v.known ⟨s,o,gone⟩).1=n->A7 Tryz.prog A8 147 [vwA v,Ft n] (.tup [vwA (Et v n).1,.val (.int .i64 (Et v n).2)]) []):A7 Tryz.prog A8 64 [vwA v,.val (.int .i64 me),.val (.int .i64 o),.val (.int .i64 skip),.iv (byI l),.val (.bool gone)] (.tup [vwA (Jn v me o skip l gone).view,Ft (Jn v me o skip l gone).note,.val (.int .i64 (Jn v me o skip l gone).err)]) []:=by
 refine A7.ofS (n:=102) (rs:=[.cell 12 27,.cell 13 98,.tmp 14]) Tryz.func64 rfl (by kernel_rfl) Tryz.ntmps64 (by kernel_rfl) (by simp) (fun _ _=>A8.later) ?_
 intro hok V w0
 obtain ⟨R,hR⟩ : ∃ R,Jn v me o skip l gone=R:=⟨_,rfl⟩
 rw [hR]
 unfold Jn at hR
 have hI:∀ k:Int,I64 (Aa v.known k):=fun k=>by
  refine Lk (fun s hs=>?_) k
  obtain ⟨-,h2,-⟩:=Do (by simpa [stI] using hok.1.1.2) (Rj s) (List.mem_map_of_mem hs)
  exact h2
 have hG:=Ae2 v.known hI
 have hnx:=Bo8 (Ek v.known) me skip (I64.hi hG) (I64.hi iS)
 obtain ⟨x1,x2⟩:=Av4 (s:=skip) (I64.hi hG) iM
 obtain ⟨N,hN0⟩ : ∃ N,Fu (Ek v.known) me skip=N:=⟨_,rfl⟩
 rw [hN0] at hnx x1 x2 hR
 obtain ⟨s,e1⟩:=N
 simp only at hnx x1 x2 hR
 refine g ?_
 refine AW.seq ?_
 refine AW.reg rfl fun KK hKK=>?_
 refine g ?_
 repeat' (refine hKK _ (g ?_);clear hKK KK)
 refine AW.freeze 700 _ rfl ⟨trivial,trivial,trivial,trivial,iR,trivial⟩ ?_
 simp only [go_sem,reduceIte,Nat.reduceEqDiff]
 cases gone with
 | true =>
  have hof:=Av3 v.known ⟨s,o,true⟩ x1 x2 iO
  obtain ⟨N,hN⟩ : ∃ N,ofN v.known ⟨s,o,true⟩=N:=⟨_,rfl⟩
  rw [hN] at hof hR
  obtain ⟨n,e2⟩:=N
  simp only at hof hR
  have htk:=htake s n (by rw [hN0]) (by rw [hN])
  have hroom:=A99 v n iR
  obtain ⟨X,hX⟩ : ∃ X,Et v n=X:=⟨_,rfl⟩
  rw [hX] at htk hR hroom
  obtain ⟨x,e3⟩:=X
  simp only at htk hR hroom
  have hbo:=Zg x ⟨o,s,l⟩ hroom iO x1 x2
  obtain ⟨Y,hY⟩ : ∃ Y,Hw x ⟨o,s,l⟩=Y:=⟨_,rfl⟩
  have hyr:=Ag0 x ⟨o,s,l⟩ hroom
  rw [hY] at hbo hR hyr
  obtain ⟨y,e4⟩:=Y
  simp only at hbo hR hyr
  refine g ?_
  repeat' (first | refine st_ rfl (g ?_) | refine Al (fun h=>g ?_) (fun h=>g ?_) | (refine B8 rfl rfl (fun h e=>?_) (fun h e=>?_)<;>simp only [e]<;>clear e<;>refine g ?_) | (refine Cn rfl rfl (fun h=>?_) (fun h=>?_)<;>simp only [h]<;>refine g ?_) | refine A9 (Jo v iR) rfl (g ?_) | refine A9 (A40 _) rfl (g ?_))
  ·rw [if_neg (by rintro ⟨a,_⟩;simp [a] at h)] at hR
   exact Em hR.symm
  ·rw [if_neg (by rintro ⟨_,a,_⟩;simp [Dm] at a;omega)] at hR
   exact Em hR.symm
  ·rw [if_neg (by rintro ⟨_,a,_⟩;simp [Dm] at a;omega)] at hR
   exact Em hR.symm
  ·rw [if_neg (by rintro ⟨_,_,a,_⟩;omega)] at hR
   exact Em hR.symm
  ·rw [if_neg (by rintro ⟨_,_,_,a⟩;simp at a;simp [a] at h)] at hR
   exact Em hR.symm
  rw [if_pos (by simp at *;simp [Dm, *];try omega)] at hR
  refine A9 hnx rfl (g ?_)
  refine g ?_
  refine AW.freeze 1600 _ rfl ⟨x1,x2,trivial⟩ ?_
  simp only [go_sem,reduceIte,Nat.reduceEqDiff]
  refine g ?_
  repeat' (first | refine st_ rfl (g ?_) | refine Al (fun h=>g ?_) (fun h=>g ?_))
  ·rw [if_neg h] at hR
   exact Em hR.symm
  rw [if_pos (by simpa using h)] at hR
  refine A9 hof rfl (g ?_)
  refine g ?_
  refine AW.freeze 1800 _ rfl ⟨trivial,trivial,trivial,trivial,trivial⟩ ?_
  simp only [go_sem,reduceIte,Nat.reduceEqDiff]
  refine g ?_
  repeat' (first | refine st_ rfl (g ?_) | refine Al (fun h=>g ?_) (fun h=>g ?_))
  ·rw [if_neg h] at hR
   exact Em hR.symm
  rw [if_pos (by simpa using h)] at hR
  refine g ?_
  repeat' (first | refine st_ rfl (g ?_) | refine Al (fun h=>g ?_) (fun h=>g ?_) | (refine B8 rfl rfl (fun h e=>?_) (fun h e=>?_)<;>simp only [e]<;>clear e<;>refine g ?_) | refine A9 (htk) rfl (g ?_))
  ·omega
  ·rw [if_pos (by assumption),if_pos trivial] at hR
   subst hR
   refine AW.freeze 1900 _ rfl ⟨trivial,trivial,trivial,trivial,hroom,trivial⟩ ?_
   simp only [go_sem,reduceIte,Nat.reduceEqDiff]
   refine AW.drawn (ds:=[100,101,14]) (fin:=[2,3]) (bs:=[2,2,2,3,4]) [⟨[],[],[0,1],[],0⟩,⟨[],[],[0],[],0⟩,⟨[(100,0)],[],[],[1],1⟩,⟨[(101,1)],[],[],[0],1⟩,⟨[],[],[],[],0⟩] (by kernel_rfl) rfl (by kernel_rfl) rfl rfl rfl fun KD hKD=>?_
   refine g ?_
   repeat' (first | refine st_ rfl (g ?_) | (refine hKD _ _ ⟨rfl,g ?_⟩;clear hKD KD))
   exact Bz.rfl_ _
  ·rw [if_neg h] at hR
   exact Em hR.symm
  ·omega
 | false =>
  have hof:=Av3 v.known ⟨s,o,false⟩ x1 x2 iO
  obtain ⟨N,hN⟩ : ∃ N,ofN v.known ⟨s,o,false⟩=N:=⟨_,rfl⟩
  rw [hN] at hof hR
  obtain ⟨n,e2⟩:=N
  simp only at hof hR
  have htk:=htake s n (by rw [hN0]) (by rw [hN])
  have hroom:=A99 v n iR
  obtain ⟨X,hX⟩ : ∃ X,Et v n=X:=⟨_,rfl⟩
  rw [hX] at htk hR hroom
  obtain ⟨x,e3⟩:=X
  simp only at htk hR hroom
  have hbo:=Zg x ⟨o,s,l⟩ hroom iO x1 x2
  obtain ⟨Y,hY⟩ : ∃ Y,Hw x ⟨o,s,l⟩=Y:=⟨_,rfl⟩
  have hyr:=Ag0 x ⟨o,s,l⟩ hroom
  rw [hY] at hbo hR hyr
  obtain ⟨y,e4⟩:=Y
  simp only at hbo hR hyr
  refine g ?_
  repeat' (first | refine st_ rfl (g ?_) | (refine B8 rfl rfl (fun h e=>?_) (fun h e=>?_)<;>simp only [e]<;>clear e<;>refine g ?_) | (refine Cn rfl rfl (fun h=>?_) (fun h=>?_)<;>simp only [h]<;>refine g ?_) | refine A9 (Jo v iR) rfl (g ?_) | refine A9 (A40 _) rfl (g ?_))
  ·rw [if_neg (by rintro ⟨a,_⟩;simp [a] at h)] at hR
   exact Em hR.symm
  ·rw [if_neg (by rintro ⟨_,a,_⟩;simp [Dm] at a;omega)] at hR
   exact Em hR.symm
  ·rw [if_neg (by rintro ⟨_,a,_⟩;simp [Dm] at a;omega)] at hR
   exact Em hR.symm
  ·rw [if_neg (by rintro ⟨_,_,a,_⟩;omega)] at hR
   exact Em hR.symm
  rw [if_pos (by simp at *;simp [Dm, *];try omega)] at hR
  refine A9 hnx rfl (g ?_)
  refine g ?_
  refine AW.freeze 1600 _ rfl ⟨x1,x2,trivial⟩ ?_
  simp only [go_sem,reduceIte,Nat.reduceEqDiff]
  refine g ?_
  repeat' (first | refine st_ rfl (g ?_) | refine Al (fun h=>g ?_) (fun h=>g ?_))
  ·rw [if_neg h] at hR
   exact Em hR.symm
  rw [if_pos (by simpa using h)] at hR
  refine A9 hof rfl (g ?_)
  refine g ?_
  refine AW.freeze 1800 _ rfl ⟨trivial,trivial,trivial,trivial,trivial⟩ ?_
  simp only [go_sem,reduceIte,Nat.reduceEqDiff]
  refine g ?_
  repeat' (first | refine st_ rfl (g ?_) | refine Al (fun h=>g ?_) (fun h=>g ?_))
  ·rw [if_neg h] at hR
   exact Em hR.symm
  rw [if_pos (by simpa using h)] at hR
  refine g ?_
  repeat' (first | refine st_ rfl (g ?_) | refine Al (fun h=>g ?_) (fun h=>g ?_) | (refine B8 rfl rfl (fun h e=>?_) (fun h e=>?_)<;>simp only [e]<;>clear e<;>refine g ?_) | refine A9 (htk) rfl (g ?_) | refine A9 (hbo) rfl (g ?_))
  ·rename_i hb
   rw [if_pos hb,if_neg (by decide),if_neg h] at hR
   exact Em hR.symm
  ·rename_i hb
   rw [if_pos hb,if_neg (by decide),if_pos (by simpa using h)] at hR
   subst hR
   refine AW.freeze 1900 _ rfl ⟨trivial,trivial,trivial,trivial,hyr,trivial⟩ ?_
   simp only [go_sem,reduceIte,Nat.reduceEqDiff]
   refine AW.drawn (ds:=[100,101,14]) (fin:=[2,3]) (bs:=[2,2,2,3,4]) [⟨[],[],[0,1],[],0⟩,⟨[],[],[0],[],0⟩,⟨[(100,0)],[],[],[1],1⟩,⟨[(101,1)],[],[],[0],1⟩,⟨[],[],[],[],0⟩] (by kernel_rfl) rfl (by kernel_rfl) rfl rfl rfl fun KD hKD=>?_
   refine g ?_
   repeat' (first | refine st_ rfl (g ?_) | (refine hKD _ _ ⟨rfl,g ?_⟩;clear hKD KD))
   exact Bz.rfl_ _
  ·rw [if_neg h] at hR
   exact Em hR.symm
  ·omega
end Go.Proofs.YtblfjaedaijfoaaGreatDoor
