/- A node is made; one's own copy of a message (the program's). -/
import Derived.Test.YtahgkllhbggmgaaGreatDoorKNodeForm
import Derived.Test.YtahgkllhbggmgaaGreatDoorKCluSpec
set_option linter.all false
set_option linter.unnecessarySimpa false
set_option linter.unusedSimpArgs false
set_option linter.unusedVariables false
namespace Go.Proofs.YtahgkllhbggmgaaGreatDoor
open Go.ChangeShapes Go.WideShapes Go.ChangeAt Go.RowKit
attribute [local irreducible] AW AWY Bd As vop B4 Ap Aw qop Bc Bs Ai Ag Ay A7 Av
attribute [local go_sem] Y7 Dg Sv Mi L9 Gm J9 L6 K8 Qg N6 Nn Kl Nm Fx K7 Fs Es Dx Ek Cr Qy Ae Af
theorem A19 (n:En) (h:n=B98) (e:Int):Em (.tup [.agg [.val (.int .i64 0),.val (.slice none 0 0),.val (.slice none 0 0),.val (.slice none 0 0),.val (.slice none 0 0),.val (.int .i64 0),.val (.slice none 0 0),.val (.slice none 0 0),.val (.int .i64 0),.val (.slice none 0 0),.val (.slice none 0 0),.val (.int .i64 0),.val (.slice none 0 0),.val (.int .i64 0),.val (.slice none 0 0),.val (.bool false)],.val (.int .i64 e)]) (.tup [ndA n,.val (.int .i64 e)]):=by
 subst h
 refine Lz rfl fun p hp=>?_
 simp only [List.zip_cons_cons,List.zip_nil_right,List.mem_cons,List.not_mem_nil,or_false] at hp
 rcases hp with rfl | rfl
 ·rw [J9,Gm]
  refine L0 rfl fun p hp=>?_
  simp only [List.zip_cons_cons,List.zip_nil_right,List.mem_cons,List.not_mem_nil,or_false] at hp
  rcases hp with rfl | rfl | rfl | rfl | rfl | rfl | rfl | rfl | rfl | rfl | rfl | rfl | rfl | rfl | rfl | rfl
  all_goals first
   | exact Em.rfl_ _
   | exact Bx _
 ·exact Em.rfl_ _
theorem Bw9 (me room bodies e:Int):Em (.tup [.agg [.val (.int .i64 me),.iv (.sl 2 []),.iv (.sl 3 []),.iv (.sl 4 []),.iv (.sl 4 []),.val (.int .i64 bodies),.val (.slice none 0 0),.val (.slice none 0 0),.val (.int .i64 0),.val (.slice none 0 0),.val (.slice none 0 0),.val (.int .i64 0),.val (.slice none 0 0),.val (.int .i64 room),.val (.slice none 0 0),.val (.bool false)],.val (.int .i64 e)]) (.tup [ndA ⟨me,⟨[],[],[],[],bodies⟩,Yn,[],[],0,[],⟨room,[]⟩,false⟩,.val (.int .i64 e)]):=by
 refine Lz rfl fun p hp=>?_
 simp only [List.zip_cons_cons,List.zip_nil_right,List.mem_cons,List.not_mem_nil,or_false] at hp
 rcases hp with rfl | rfl
 ·rw [J9,Gm]
  refine L0 rfl fun p hp=>?_
  simp only [List.zip_cons_cons,List.zip_nil_right,List.mem_cons,List.not_mem_nil,or_false] at hp
  rcases hp with rfl | rfl | rfl | rfl | rfl | rfl | rfl | rfl | rfl | rfl | rfl | rfl | rfl | rfl | rfl | rfl
  all_goals first
   | exact Em.rfl_ _
   | exact Bx _
 ·exact Em.rfl_ _
set_option maxRecDepth 100000 in
set_option maxHeartbeats 1600000 in
theorem B00 (me room bodies:Int) (iM:I64 me) (iR:I64 room) (iB:I64 bodies):A7 Tryz.prog A8 23 [.val (.int .i64 me),.val (.int .i64 room),.val (.int .i64 bodies)] (.tup [ndA (K1 me room bodies).1,.val (.int .i64 (K1 me room bodies).2)]) []:=by
 refine A7.ofS (n:=34) (rs:=[.cell 6 67,.tmp 7]) Tryz.func23 rfl (by kernel_rfl) Tryz.ntmps23 (by kernel_rfl) (by simp) (fun _ _=>A8.later) ?_
 intro hok V w0
 obtain ⟨R,hR⟩ : ∃ R,K1 me room bodies=R:=⟨_,rfl⟩
 rw [hR]
 unfold K1 at hR
 have hd:=Wr ⟨room,[]⟩ iR
 have e:Bp ⟨room,[]⟩=decide (0<=room/\room<=16777216):=by simp [Bp,E4]
 rw [e] at hd
 have hv:=Ba1 bodies iB
 unfold Xr at hv
 cases hb:Jg bodies
 ·rw [if_neg (by simp [hb])] at hv hR
  subst hR
  refine g ?_
  repeat' (first | refine st_ rfl (g ?_) | refine Aa (hv) rfl (g ?_))
  exact A19 _ rfl _
 ·rw [if_pos hb] at hv
  obtain ⟨c,hc⟩ : ∃ c:Int,c=0:=⟨_,rfl⟩
  have hv':A7 Tryz.prog A8 57 [.val (.int .i64 bodies)] (.tup [vwA ⟨[],[],[],[],bodies⟩,.val (.int .i64 c)]) []:=by rw [hc];exact hv
  have hs:Sbs [.agg [.val (.int .i64 room),.val (.slice none 0 0)]] [dkA ⟨room,[]⟩]:=Sbs.of_ (L0 rfl fun p hp=>by
   simp only [L9,List.zip_cons_cons,List.zip_nil_right,List.mem_cons,List.not_mem_nil,or_false] at hp
   rcases hp with rfl | rfl
   ·exact Em.rfl_ _
   ·exact Bx 3) (Sbs.rfl_ _)
  refine g ?_
  repeat' (first | refine st_ rfl (g ?_) | refine Da (fun h=>g ?_) (fun h=>g ?_) | (refine B7 rfl rfl (fun h e=>?_) (fun h e=>?_)<;>simp only [e]<;>clear e<;>refine g ?_) | (refine Dm rfl rfl (fun h=>?_) (fun h=>?_)<;>simp only [h]<;>refine g ?_) | refine Aa (hv') rfl (g ?_) | refine Aa (P5 _) rfl (g ?_) | (refine A42 hd hs rfl (g ?_))<;>refine g ?_)
  ·exact absurd hc h
  ·rw [if_neg (by simp at h;omega)] at hR
   subst hR
   exact A19 _ rfl _
  ·rw [if_neg (by simp at h;omega)] at hR
   subst hR
   exact A19 _ rfl _
  ·rename_i h1
   rw [if_pos ⟨hb,by simpa using h1,by simpa using h⟩] at hR
   subst hR
   exact Bw9 _ _ _ _
end Go.Proofs.YtahgkllhbggmgaaGreatDoor
