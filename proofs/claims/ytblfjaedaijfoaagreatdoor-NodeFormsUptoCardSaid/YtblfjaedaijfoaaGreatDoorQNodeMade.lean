/- A node is made; one's own copy of a message (the program's). -/
import Derived.Test.YtblfjaedaijfoaaGreatDoorQNodeForm
import Derived.Test.YtblfjaedaijfoaaGreatDoorQPack
set_option linter.all false
set_option linter.unnecessarySimpa false
set_option linter.unusedSimpArgs false
set_option linter.unusedVariables false
namespace Go.Proofs.YtblfjaedaijfoaaGreatDoor
open Go.ChangeShapes Go.WideShapes Go.ChangeAt Go.RowKit
attribute [local irreducible] AW AWY Bo B4 vop Bj B7 Bf qop Bu C4 Aq Aj Bh A7 B9
attribute [local go_sem] Sw Cv Hu Fs F6 G3 Gu L2 Pa X1 L1 Mr Fx Jk G2 Ms Ef Dk Db Dq Cm My Ae Af
theorem Ak3 (n:Eo) (h:n=Wz) (e:Int):Bz (.tup [.agg [.val (.int .i64 0),.val (.slice none 0 0),.val (.slice none 0 0),.val (.slice none 0 0),.val (.slice none 0 0),.val (.int .i64 0),.val (.slice none 0 0),.val (.slice none 0 0),.val (.int .i64 0),.val (.slice none 0 0),.val (.slice none 0 0),.val (.int .i64 0),.val (.slice none 0 0),.val (.int .i64 0),.val (.slice none 0 0),.val (.bool false)],.val (.int .i64 e)]) (.tup [ndA n,.val (.int .i64 e)]):=by
 subst h
 refine Ep rfl fun p hp=>?_
 simp only [List.zip_cons_cons,List.zip_nil_right,List.mem_cons,List.not_mem_nil,or_false] at hp
 rcases hp with rfl | rfl
 ·rw [Gu,G3]
  refine Es rfl fun p hp=>?_
  simp only [List.zip_cons_cons,List.zip_nil_right,List.mem_cons,List.not_mem_nil,or_false] at hp
  rcases hp with rfl | rfl | rfl | rfl | rfl | rfl | rfl | rfl | rfl | rfl | rfl | rfl | rfl | rfl | rfl | rfl
  all_goals first
   | exact Bz.rfl_ _
   | exact Bg _
 ·exact Bz.rfl_ _
theorem Cj0 (me room bodies e:Int):Bz (.tup [.agg [.val (.int .i64 me),.iv (.sl 2 []),.iv (.sl 3 []),.iv (.sl 4 []),.iv (.sl 4 []),.val (.int .i64 bodies),.val (.slice none 0 0),.val (.slice none 0 0),.val (.int .i64 0),.val (.slice none 0 0),.val (.slice none 0 0),.val (.int .i64 0),.val (.slice none 0 0),.val (.int .i64 room),.val (.slice none 0 0),.val (.bool false)],.val (.int .i64 e)]) (.tup [ndA ⟨me,⟨[],[],[],[],bodies⟩,R7,[],[],0,[],⟨room,[]⟩,false⟩,.val (.int .i64 e)]):=by
 refine Ep rfl fun p hp=>?_
 simp only [List.zip_cons_cons,List.zip_nil_right,List.mem_cons,List.not_mem_nil,or_false] at hp
 rcases hp with rfl | rfl
 ·rw [Gu,G3]
  refine Es rfl fun p hp=>?_
  simp only [List.zip_cons_cons,List.zip_nil_right,List.mem_cons,List.not_mem_nil,or_false] at hp
  rcases hp with rfl | rfl | rfl | rfl | rfl | rfl | rfl | rfl | rfl | rfl | rfl | rfl | rfl | rfl | rfl | rfl
  all_goals first
   | exact Bz.rfl_ _
   | exact Bg _
 ·exact Bz.rfl_ _
set_option maxRecDepth 100000 in
set_option maxHeartbeats 1600000 in
theorem Ac5 (me room bodies:Int) (iM:I64 me) (iR:I64 room) (iB:I64 bodies):A7 Tryz.prog A8 8 [.val (.int .i64 me),.val (.int .i64 room),.val (.int .i64 bodies)] (.tup [ndA (Yq me room bodies).1,.val (.int .i64 (Yq me room bodies).2)]) []:=by
 refine A7.ofS (n:=34) (rs:=[.cell 6 38,.tmp 7]) Tryz.func8 rfl (by kernel_rfl) Tryz.ntmps8 (by kernel_rfl) (by simp) (fun _ _=>A8.later) ?_
 intro hok V w0
 obtain ⟨R,hR⟩ : ∃ R,Yq me room bodies=R:=⟨_,rfl⟩
 rw [hR]
 unfold Yq at hR
 have hd:=Jt ⟨room,[]⟩ iR
 have e:Bs ⟨room,[]⟩=decide (0<=room/\room<=16777216):=by simp [Bs,F5]
 rw [e] at hd
 have hv:=C00 bodies iB
 unfold A81 at hv
 cases hb:Ke bodies
 ·rw [if_neg (by simp [hb])] at hv hR
  subst hR
  refine g ?_
  repeat' (first | refine st_ rfl (g ?_) | refine A9 (hv) rfl (g ?_))
  exact Ak3 _ rfl _
 ·rw [if_pos hb] at hv
  obtain ⟨c,hc⟩ : ∃ c:Int,c=0:=⟨_,rfl⟩
  have hv':A7 Tryz.prog A8 29 [.val (.int .i64 bodies)] (.tup [vwA ⟨[],[],[],[],bodies⟩,.val (.int .i64 c)]) []:=by rw [hc];exact hv
  have hs:Sbs [.agg [.val (.int .i64 room),.val (.slice none 0 0)]] [dkA ⟨room,[]⟩]:=Sbs.of_ (Es rfl fun p hp=>by
   simp only [F6,List.zip_cons_cons,List.zip_nil_right,List.mem_cons,List.not_mem_nil,or_false] at hp
   rcases hp with rfl | rfl
   ·exact Bz.rfl_ _
   ·exact Bg 3) (Sbs.rfl_ _)
  refine g ?_
  repeat' (first | refine st_ rfl (g ?_) | refine Cy (fun h=>g ?_) (fun h=>g ?_) | (refine B8 rfl rfl (fun h e=>?_) (fun h e=>?_)<;>simp only [e]<;>clear e<;>refine g ?_) | (refine Cn rfl rfl (fun h=>?_) (fun h=>?_)<;>simp only [h]<;>refine g ?_) | refine A9 (hv') rfl (g ?_) | refine A9 (Sa _) rfl (g ?_) | (refine A61 hd hs rfl (g ?_))<;>refine g ?_)
  ·exact absurd hc h
  ·rw [if_neg (by simp at h;omega)] at hR
   subst hR
   exact Ak3 _ rfl _
  ·rw [if_neg (by simp at h;omega)] at hR
   subst hR
   exact Ak3 _ rfl _
  ·rename_i h1
   rw [if_pos ⟨hb,by simpa using h1,by simpa using h⟩] at hR
   subst hR
   exact Cj0 _ _ _ _
end Go.Proofs.YtblfjaedaijfoaaGreatDoor
