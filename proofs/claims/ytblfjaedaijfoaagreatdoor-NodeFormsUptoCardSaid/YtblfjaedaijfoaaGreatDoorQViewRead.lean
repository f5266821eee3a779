/- An object is read (the program's). -/
import Derived.Test.YtblfjaedaijfoaaGreatDoorQNodeSpec
import Derived.Test.YtblfjaedaijfoaaGreatDoorQViewTake
import Derived.Test.YtblfjaedaijfoaaGreatDoorQStretch
set_option linter.all false
set_option linter.unnecessarySimpa false
set_option linter.unusedSimpArgs false
set_option linter.unusedVariables false
namespace Go.Proofs.YtblfjaedaijfoaaGreatDoor
open Go.ChangeShapes Go.WideShapes Go.ChangeAt Go.RowKit
attribute [local irreducible] AW AWY Bo B4 vop Bj B7 Bf qop Bu C4 Aq Aj Bh A7 B9
attribute [local go_sem] Hv Dq G6 Cv Eb Cm Jc Hr Db Dk C9 Ae Af
theorem Bg5 (room:Int):Bz (.tup [.agg [.val (.slice none 0 0),.val (.slice none 0 0),.val (.slice none 0 0),.val (.slice none 0 0),.val (.int .i64 room)],.val (.int .i64 0)]) (.tup [vwA ⟨[],[],[],[],room⟩,.val (.int .i64 0)]):=by
 refine Ep rfl fun p hp=>?_
 simp only [List.zip_cons_cons,List.zip_nil_right,List.mem_cons,List.not_mem_nil,or_false] at hp
 rcases hp with rfl | rfl
 ·refine Es rfl fun p hp=>?_
  simp only [List.zip_cons_cons,List.zip_nil_right,List.mem_cons,List.not_mem_nil,or_false] at hp
  rcases hp with rfl | rfl | rfl | rfl | rfl
  ·exact Bg 2
  ·exact Bg 3
  ·exact Bg 4
  ·exact Bg 4
  ·exact Bz.rfl_ _
 ·exact Bz.rfl_ _
theorem C00 (room:Int) (iR:I64 room):A7 Tryz.prog A8 29 [.val (.int .i64 room)] (.tup [vwA (A81 room).1,.val (.int .i64 (A81 room).2)]) []:=by
 refine A7.ofS (n:=10) (rs:=[.cell 2 27,.tmp 3]) Tryz.func29 rfl (by kernel_rfl) Tryz.ntmps29 (by kernel_rfl) (by simp) (fun _ _=>A8.later) ?_
 intro hok V w0
 obtain ⟨R,hR⟩ : ∃ R,A81 room=R:=⟨_,rfl⟩
 rw [hR]
 unfold A81 at hR
 have hc:=M0 [] room iR
 have e:Bw [] room=Ke room:=by
  simp only [Bw,Gp,Gl]
  cases h:Ke room with
  | false=>simp
  | true =>
   simp only [Ke,Bool.and_eq_true,decide_eq_true_eq] at h
   simp [h.1]
 rw [e] at hc
 refine g ?_
 repeat' refine st_ rfl (g ?_)
 refine A61 hc (by exact Sbs.of_ (Bg 4) (Sbs.rfl_ _)) rfl (g ?_)
 refine g ?_
 repeat' (first | refine st_ rfl (g ?_) | refine Cy (fun h=>g ?_) (fun h=>g ?_))
 ·rw [if_neg (by simpa using h)] at hR
  exact Ru hR.symm
 ·rw [if_pos (by simpa using h)] at hR
  subst hR
  exact Bg5 room
theorem Bo8 (c n s:Int) (ic:c<=9223372036854775807) (is:s<=9223372036854775807):A7 Tryz.prog A8 144 [.val (.int .i64 c),.val (.int .i64 n),.val (.int .i64 s)] (.tup [.agg [.val (.int .i64 (Fu c n s).1.count),.val (.int .i64 (Fu c n s).1.node)],.val (.int .i64 (Fu c n s).2)]) []:=by
 refine A7.of (n:=36) (rs:=[.cell 6 53,.tmp 7]) Tryz.func144 rfl (by kernel_rfl) Tryz.ntmps144 (by kernel_rfl) (by simp) (fun _ _=>A8.later) ?_
 intro hok V w0
 obtain ⟨R,hR⟩ : ∃ R,Fu c n s=R:=⟨_,rfl⟩
 rw [hR]
 unfold Fu at hR
 refine g ?_
 repeat' (first | refine st_ rfl (g ?_) | refine Al (fun h=>g ?_) (fun h=>g ?_) | (refine B8 rfl rfl (fun h e=>?_) (fun h e=>?_)<;>simp only [e]<;>clear e<;>refine g ?_))
 all_goals first
  | (rw [if_pos (by omega)] at hR;subst hR;rfl)
  | (rw [if_neg (by omega),if_pos (by omega)] at hR;subst hR;rfl)
  | (rw [if_neg (by omega),if_neg (by omega)] at hR;subst hR;rfl)
theorem Ae2 (l:List Ab) (hI:∀ k:Int,I64 (Aa l k)):I64 (Ek l):=by
 unfold Ek
 suffices H:∀ (ks:List Nat) (m:Int),I64 m->I64 (ks.foldl (fun m k=>max m (Aa l (k:Nat))) m) from H _ 0 (I64.of (by decide) (by decide))
 intro ks
 induction ks with
 | nil=>exact fun m h=>h
 | cons k ks ih =>
  intro m h
  refine ih _ ?_
  show I64 (max m (Aa l (k:Nat)))
  rw [Int.max_def]
  split
  ·exact hI _
  ·exact h
set_option maxRecDepth 100000 in
theorem A40 (l:List Ab):A7 Tryz.prog A8 145 [.iv (stI l)] (.val (.int .i64 (Ek l))) []:=by
 refine A7.ofS (n:=14) (rs:=[.tmp 2]) Tryz.func145 rfl (by kernel_rfl) Tryz.ntmps145 (by kernel_rfl) (by simp) (fun _ _=>A8.later) ?_
 intro hok V w0
 have hI:∀ k:Int,I64 (Aa l k):=fun k=>by
  refine Lk (fun s hs=>?_) k
  obtain ⟨-,h2,-⟩:=Do (by simpa [stI] using hok.1.2) (Rj s) (List.mem_map_of_mem hs)
  exact h2
 refine g ?_
 repeat' (first | refine st_ rfl (g ?_) | refine A9 (B15 _) rfl (g ?_))
 refine AW.le (S:=⟨[(3,.bp 400 0),(7,.fn 315 [.ip [.pt (Mw (fun k=>Aa l k) (D3 l))]])],[.box 400 [.val (.int .i64 0)]]⟩) (ρ:=id) ⟨⟨rfl,rfl,trivial⟩,⟨rfl,trivial⟩,by simp [By,BA.id]⟩ ?_
 refine AW.range (Af4 (fun k=>Aa l k) (D3 l) (M6 _)) [(3,.bp 400 0)] [(7,.fn 315 [.ip [.pt (Mw (fun k=>Aa l k) (D3 l))]])] (fun pre=>[.box 400 [.val (.int .i64 ((pre.map (·.1)).foldl (fun m k=>max m (Aa l (k:Nat))) 0))]]) (fun _=>True) rfl trivial rfl rfl rfl rfl (fun x=>⟨rfl,rfl⟩) (fun c pre x hsp _=>?_) (fun xs hS _=>?_)
 ·simp only [A17,enE,List.cons_append,List.nil_append]
  refine g ?_
  refine g ?_
  repeat' refine st_ rfl (g ?_)
  refine ⟨_,rfl,?_⟩
  refine g ?_
  repeat' refine Bi (g ?_)
  exact ⟨trivial,id,⟨rfl,trivial⟩,⟨by rw [List.map_append,List.foldl_append];rfl,trivial⟩,by simp [By,BA.id]⟩
 ·refine g ?_
  refine g ?_
  repeat' refine st_ rfl (g ?_)
  rw [hS]
  exact Bz.rfl_ _
theorem Bo7 (o:Int):A7 Tryz.prog A8 201 [.val (.int .i64 o)] (.val (.bool (Dm o))) []:=by
 refine A7.of (n:=9) (rs:=[.tmp 2]) Tryz.func201 rfl (by kernel_rfl) Tryz.ntmps201 (by kernel_rfl) (by simp) (fun _ _=>A8.later) ?_
 intro hok V w0
 obtain ⟨B,hB⟩ : ∃ B,Dm o=B:=⟨_,rfl⟩
 rw [hB]
 unfold Dm at hB
 refine g ?_
 repeat' (first | refine st_ rfl (g ?_) | (refine B8 rfl rfl (fun h e=>?_) (fun h e=>?_)<;>simp only [e]<;>clear e<;>refine g ?_))
 all_goals (rw [<-hB,Bool.eq_iff_iff];simp [*];try omega)
theorem Z3 {q:Bc×Int} {e:Int} (h:q=(R6,e)):Bz (.tup [.agg [.val (.slice none 0 0),.val (.slice none 0 0),.val (.slice none 0 0),.val (.slice none 0 0)],.val (.int .i64 e)]) (.tup [Ft q.1,.val (.int .i64 q.2)]):=by
 subst h
 refine Ep rfl fun p hp=>?_
 simp only [List.zip_cons_cons,List.zip_nil_right,List.mem_cons,List.not_mem_nil,or_false] at hp
 rcases hp with rfl | rfl
 ·refine Es rfl fun p hp=>?_
  simp only [List.zip_cons_cons,List.zip_nil_right,List.mem_cons,List.not_mem_nil,or_false] at hp
  rcases hp with rfl | rfl | rfl | rfl
  ·exact Bg 2
  ·exact Bg 2
  ·exact Bg 2
  ·exact Bg 4
 ·exact Bz.rfl_ _
set_option maxRecDepth 100000 in
theorem Av3 (known:List Ab) (w:Ap) (i1:I64 w.stamp.count) (i2:I64 w.stamp.node) (i3:I64 w.object):A7 Tryz.prog A8 146 [.iv (stI known),wA w] (.tup [Ft (ofN known w).1,.val (.int .i64 (ofN known w).2)]) []:=by
 refine A7.ofS (n:=37) (rs:=[.cell 4 98,.tmp 5]) Tryz.func146 rfl (by kernel_rfl) Tryz.ntmps146 (by kernel_rfl) (by simp) (fun _ _=>A8.later) ?_
 intro hok V w0
 obtain ⟨R,hR⟩ : ∃ R,ofN known w=R:=⟨_,rfl⟩
 rw [hR]
 unfold ofN at hR
 refine g ?_
 refine AW.seq ?_
 refine AW.reg rfl fun KK hKK=>?_
 refine g ?_
 repeat' (refine hKK _ (g ?_);clear hKK KK)
 refine AW.freeze 400 _ rfl ⟨i1,i2,i3,trivial,trivial⟩ ?_
 simp only [go_sem,reduceIte,Nat.reduceEqDiff]
 refine g ?_
 repeat' (first | refine st_ rfl (g ?_) | refine Cy (fun h=>g ?_) (fun h=>g ?_) | (refine Cn rfl rfl (fun h=>?_) (fun h=>?_)<;>simp only [h]<;>refine g ?_) | refine A9 (Fh _) rfl (g ?_) | refine A9 (Px _ _) rfl (g ?_) | refine A9 (Bo7 _) rfl (g ?_) | refine A9 (We _ w.stamp) rfl (g ?_))
 ·rw [if_neg (by rintro ⟨a,_⟩;simp [a] at h)] at hR
  exact Z3 hR.symm
 ·rw [if_neg (by rintro ⟨_,a,_⟩;simp [a] at h)] at hR
  exact Z3 hR.symm
 ·rw [if_neg (by rintro ⟨_,_,a,_⟩;simp [a] at h)] at hR
  exact Z3 hR.symm
 ·rw [if_neg (by rintro ⟨_,_,_,a⟩;simp [a] at h)] at hR
  exact Z3 hR.symm
 rename_i h1 h2 h3
 rw [if_pos (by simp at *;simp [*])] at hR
 subst hR
 refine AW.drawn (ds:=[28,29,30,31,32,33,34,35,36,5]) (fin:=[1,2]) (bs:=[1,1,1,1,1,1,1,1,2,2,3]) [⟨[],[],[],[],0⟩,⟨[(28,0)],[],[0],[],0⟩,⟨[],[],[],[],0⟩,⟨[],[],[],[],0⟩,⟨[(31,3)],[],[0],[],0⟩,⟨[(30,2),(32,4)],[],[0],[],0⟩,⟨[],[],[0],[],0⟩,⟨[(34,6)],[],[],[],1⟩,⟨[(29,1),(33,5),(35,7)],[],[],[],0⟩,⟨[(36,8)],[],[],[0],1⟩,⟨[],[],[],[],0⟩] (by kernel_rfl) rfl (by kernel_rfl) rfl rfl rfl fun KD hKD=>?_
 refine g ?_
 repeat' (first | refine A9 (Ko _) rfl (g ?_) | refine A9 (Bt7 known w.stamp i1 i2) rfl (g ?_))
 refine bs1 (by omega) rfl rfl rfl ⟨i1,i2,i3,trivial,trivial⟩ ?_
 refine g ?_
 repeat' (refine hKD _ _ ⟨rfl,g ?_⟩;clear hKD KD)
 refine AW.freeze 3600 _ rfl trivial ?_
 simp only [go_sem,reduceIte,Nat.reduceEqDiff]
 refine g ?_
 repeat' refine st_ rfl (g ?_)
 refine Ep rfl fun p hp=>?_
 simp only [List.zip_cons_cons,List.zip_nil_right,List.mem_cons,List.not_mem_nil,or_false] at hp
 rcases hp with rfl | rfl
 ·refine Es rfl fun p hp=>?_
  simp only [List.zip_cons_cons,List.zip_nil_right,List.mem_cons,List.not_mem_nil,or_false] at hp
  rcases hp with rfl | rfl | rfl | rfl
  ·exact Bz.rfl_ _
  ·exact Bz.rfl_ _
  ·exact Bg 2
  ·exact Bz.rfl_ _
 ·exact Bz.rfl_ _
end Go.Proofs.YtblfjaedaijfoaaGreatDoor
namespace Go.Proofs.YtblfjaedaijfoaaGreatDoor
open Go.ChangeShapes Go.WideShapes Go.ChangeAt Go.RowKit
attribute [local irreducible] AW AWY Bo B4 vop Bj B7 Bf qop Bu C4 Aq Aj Bh A7 B9
attribute [local go_sem] Hv Dq G6 Eb Cm Jc Hr Db Dk C9 Ae Af
set_option maxRecDepth 100000 in
set_option maxHeartbeats 3200000 in
theorem Zg (v:Cr) (x:C1) (iR:I64 v.room) (i0:I64 x.object) (i1:I64 x.stamp.count) (i2:I64 x.stamp.node):A7 Tryz.prog A8 148 [vwA v,boA x] (.tup [vwA (Hw v x).1,.val (.int .i64 (Hw v x).2)]) []:=by
 refine A7.ofS (n:=64) (rs:=[.cell 4 27,.tmp 5]) Tryz.func148 rfl (by kernel_rfl) Tryz.ntmps148 (by kernel_rfl) (by simp) (fun _ _=>A8.later) ?_
 intro hok V w0
 obtain ⟨R,hR⟩ : ∃ R,Hw v x=R:=⟨_,rfl⟩
 rw [hR]
 unfold Hw at hR
 refine g ?_
 refine AW.seq ?_
 refine AW.reg rfl fun KK hKK=>?_
 refine g ?_
 repeat' (refine hKK _ (g ?_);clear hKK KK)
 refine AW.freeze 300 _ rfl ⟨trivial,trivial,trivial,trivial,iR,trivial⟩ ?_
 simp only [go_sem,reduceIte,Nat.reduceEqDiff]
 refine AW.freeze 400 _ rfl ⟨i0,i1,i2,trivial,trivial⟩ ?_
 simp only [go_sem,reduceIte,Nat.reduceEqDiff]
 refine g ?_
 repeat' (first | refine st_ rfl (g ?_) | refine Cy (fun h=>g ?_) (fun h=>g ?_) | refine A9 (Jo v iR) rfl (g ?_))
 ·rw [if_neg (by rintro ⟨a,_⟩;simp [a] at h)] at hR
  exact Ru hR.symm
 have hF:Am v=true:=by simpa using h
 have hcf:Bw v.bodies v.room=true:=by
  simp only [Am,Fq,Bool.and_eq_true] at hF
  exact hF.1.1.1.2
 have hhf:C6 v.held=true:=by
  simp only [Am,Fq,Bool.and_eq_true] at hF
  exact hF.1.1.1.1.2
 have hput:=Bs0 v.bodies v.room x iR i0 i1 i2
 unfold By0 at hput
 cases hr:Cc x with
 | false =>
  rw [if_neg (by simp [hr])] at hput
  rw [if_neg (by simp [hr])] at hR
  refine g ?_
  repeat' (first | refine st_ rfl (g ?_) | refine A9 (hput) rfl (g ?_))
  exact Ru hR.symm
 | true =>
 rw [if_pos ⟨hcf,hr⟩] at hput
 rw [if_pos ⟨hF,hr⟩] at hR
 obtain ⟨B,hB⟩ : ∃ B,Nj v.room (Fk v.bodies x.object++[x])=B:=⟨_,rfl⟩
 rw [hB] at hput hR
 simp only at hput
 refine g ?_
 repeat' (first | refine st_ rfl (g ?_) | refine Cy (fun h=>g ?_) (fun h=>g ?_) | refine A9 (hput) rfl (g ?_) | refine A9 (Xm v.held x hhf) rfl (g ?_))
 ·rw [if_neg (by simpa using h)] at hR
  exact Ru hR.symm
 rw [if_pos (by simpa using h)] at hR
 subst hR
 refine AW.drawn (ds:=[34,35,36,37,38,39,40,41,42,43,8]) (fin:=[0,2]) (bs:=[1,1,1,1,1,1,1,1,1,1,1,2]) [⟨[],[],[],[],0⟩,⟨[(34,0)],[],[0],[],0⟩,⟨[(35,1)],[],[0],[],0⟩,⟨[],[],[],[],0⟩,⟨[(37,3)],[],[0],[],0⟩,⟨[(38,4)],[],[0],[],0⟩,⟨[],[],[],[],0⟩,⟨[],[],[],[],0⟩,⟨[(41,7)],[],[0],[],0⟩,⟨[(36,2),(39,5),(40,6),(42,8)],[],[],[],0⟩,⟨[],[],[],[],1⟩,⟨[(8,10),(43,9)],[],[],[1],1⟩] (by kernel_rfl) rfl (by kernel_rfl) rfl rfl rfl fun KD hKD=>?_
 refine g ?_
 repeat' (first | refine st_ rfl (g ?_) | (refine hKD _ _ ⟨rfl,g ?_⟩;clear hKD KD) | refine A9 (Ko _) rfl (g ?_) | refine A9 (Bi6 _) rfl (g ?_))
 have hzl:v.zones.length<=256:=B30 hF
 refine AW.adoptC 900 1 9900 142 3 rfl rfl rfl ?_
 refine AW.loop (fun m:{m:Nat // m<=v.zones.length}=>⟨[(2,.ip [stI v.known,znI v.zones,wrI v.held,boI v.bodies,.val (.int .i64 v.room)]),(4,.bp 500 0),(8,.bp 900 0),(45,.iv (znI v.zones)),(46,.val (.int .i64 (v.zones.length:Nat))),(47,.val (.int .i64 (m.1:Nat)))],[.row 9900 142 3 ((v.zones.take m.1).map enZ),.box 900 [.iv (stI v.known),.own 9900,.iv (wrI v.held),.iv (boI B),.val (.int .i64 v.room)],.box 500 [.val (.slice none 0 0),.val (.slice none 0 0),.val (.slice none 0 0),.val (.slice none 0 0),.val (.int .i64 0)]]⟩) (fun m=>v.zones.length - m.1) ⟨0,Nat.zero_le _⟩ id ⟨⟨rfl,rfl,rfl,rfl,?_,rfl,trivial⟩,⟨rfl,rfl,rfl,trivial⟩,by simp [By,BA.id]⟩ fun ⟨m,hm⟩=>?_
 ·simp [AV.ren,Cq]
 simp only
 repeat (refine AW.seq ?_)
 refine AW.reg rfl fun KK hKK=>?_
 refine g ?_
 repeat' (refine hKK _ (g ?_);clear hKK KK)
 repeat (refine AW.seq ?_)
 refine st_ rfl ?_
 refine g ?_
 refine Cy (fun h=>?_) (fun h=>?_)
 ·have hlt:m < v.zones.length:=by have:=of_decide_eq_true h;omega
  have hget:=Cx (f:=enZ) (List.getElem?_eq_getElem hlt)
  obtain ⟨-,o1,o2,-⟩:=Do (by simpa [znI] using hok.1.2.1.2) (enZ v.zones[m]) (List.mem_map_of_mem (List.getElem_mem hlt))
  obtain ⟨z,hz⟩ : ∃ z,v.zones[m]=z:=⟨_,rfl⟩
  have htk:=List.take_succ_eq_append_getElem hlt
  rw [hz] at hget o1 o2 htk
  refine st_ rfl (g ?_)
  refine AW.seq ?_
  refine AW.block ?_
  repeat (refine AW.seq ?_)
  refine AW.reg rfl fun KK hKK=>?_
  refine g ?_
  refine ⟨by omega,_,hget,?_⟩
  refine g ?_
  repeat' (first | refine Bi (g ?_) | (refine hKK _ (g ?_);clear hKK KK))
  refine AW.freeze 1100 _ rfl ⟨o1,o2,trivial,trivial⟩ ?_
  simp only [go_sem,reduceIte,Nat.reduceEqDiff]
  refine AW.drawn (ds:=[51,52,53,54,55,56,57,58,59,60,61]) (fin:=[2,3,4,5]) (bs:=[3,3,3,3,3,3,3,3,3,4,5,5]) [⟨[],[],[],[],0⟩,⟨[(51,0)],[],[0,1,2],[],0⟩,⟨[],[],[],[],0⟩,⟨[(53,2)],[],[0,1,2],[],0⟩,⟨[],[],[],[],0⟩,⟨[(55,4)],[],[0,1,2],[],0⟩,⟨[(56,5)],[],[0,1,2],[],0⟩,⟨[(54,3),(57,6)],[],[],[],0⟩,⟨[(58,7)],[],[],[],1⟩,⟨[(52,1),(59,8)],[],[1,2,3],[0],1⟩,⟨[],[],[],[],0⟩,⟨[(61,10),(60,9)],[],[],[1],1⟩] (by kernel_rfl) rfl (by kernel_rfl) rfl rfl rfl fun KD hKD=>?_
  refine g ?_
  repeat' refine A9 (Ko _) rfl (g ?_)
  refine bs1 (by omega) rfl rfl rfl ⟨o1,o2,trivial,trivial⟩ ?_
  refine g ?_
  refine Co rfl (by kernel_rfl) (by omega) (by kernel_rfl) rfl (by simp;omega) ?_
  refine g ?_
  repeat' (first | refine st_ rfl (g ?_) | (refine hKD _ _ ⟨rfl,g ?_⟩;clear hKD KD))
  refine ⟨⟨m+1,hlt⟩,fun b=>if b=9900 then 6100 else b,⟨⟨rfl,rfl,rfl,rfl,rfl,rfl,trivial⟩,⟨?_,rfl,rfl,trivial⟩,by simp [By,BA.id]⟩,by show v.zones.length - (m+1) < v.zones.length - m;omega⟩
  rw [htk,List.map_append]
  rfl
 ·obtain rfl:m=v.zones.length:=by have:=of_decide_eq_false h;omega
  rw [List.take_length]
  refine AW.exit ?_
  simp only [reduceIte]
  refine AW.freeze 9900 _ rfl trivial ?_
  simp only [go_sem,reduceIte,Nat.reduceEqDiff]
  refine g ?_
  repeat' refine st_ rfl (g ?_)
  exact Bz.rfl_ _
end Go.Proofs.YtblfjaedaijfoaaGreatDoor
namespace Go.Proofs.YtblfjaedaijfoaaGreatDoor
open Go.ChangeShapes Go.WideShapes Go.ChangeAt Go.RowKit
attribute [local irreducible] AW AWY Bo B4 vop Bj B7 Bf qop Bu C4 Aq Aj Bh A7 B9
attribute [local go_sem] Hv Dq G6 Eb Cm Jc Hr Db Dk C9 Ae Af
theorem V4 {q:List Nat×Ap×Int} {e:Int} (h:q=([],noW,e)):Bz (.tup [.val (.slice none 0 0),.agg [.val (.int .i64 0),.val (.int .i64 0),.val (.int .i64 0),.val (.bool false)],.val (.int .i64 e)]) (.tup [.iv (byI q.1),wA q.2.1,.val (.int .i64 q.2.2)]):=by
 subst h
 refine Ep rfl fun p hp=>?_
 simp only [List.zip_cons_cons,List.zip_nil_right,List.mem_cons,List.not_mem_nil,or_false] at hp
 rcases hp with rfl | rfl | rfl
 ·exact Bg 1
 ·exact Bz.rfl_ _
 ·exact Bz.rfl_ _
theorem Cj6 {l:List Ap} {o:Int} {w:Ap} (h:Jr l o=some w) (hI:∀ x∈l,I64 x.stamp.count/\I64 x.stamp.node/\I64 x.object):I64 w.stamp.count/\I64 w.stamp.node/\I64 w.object:=hI w (List.mem_of_find?_eq_some h)
set_option maxRecDepth 100000 in
set_option maxHeartbeats 3200000 in
theorem B28 (v:Cr) (o:Int) (iR:I64 v.room) (iO:I64 o):A7 Tryz.prog A8 73 [vwA v,.val (.int .i64 o)] (.tup [.iv (byI (V5 v o).1),wA (V5 v o).2.1,.val (.int .i64 (V5 v o).2.2)]) []:=by
 refine A7.ofS (n:=55) (rs:=[.tmp 4,.cell 5 102,.tmp 6]) Tryz.func73 rfl (by kernel_rfl) Tryz.ntmps73 (by kernel_rfl) (by simp) (fun _ _=>A8.later) ?_
 intro hok V w0
 obtain ⟨R,hR⟩ : ∃ R,V5 v o=R:=⟨_,rfl⟩
 rw [hR]
 unfold V5 at hR
 have hI:∀ x∈v.held,I64 x.stamp.count/\I64 x.stamp.node/\I64 x.object:=fun x hx=>by
  obtain ⟨-,o1,o2,o3,-⟩:=Do (by simpa [wrI] using hok.1.2.2.1.2) (enW x) (List.mem_map_of_mem hx)
  exact ⟨o1,o2,o3⟩
 refine g ?_
 refine AW.seq ?_
 refine AW.reg rfl fun KK hKK=>?_
 refine g ?_
 repeat' (refine hKK _ (g ?_);clear hKK KK)
 refine AW.freeze 300 _ rfl ⟨trivial,trivial,trivial,trivial,iR,trivial⟩ ?_
 simp only [go_sem,reduceIte,Nat.reduceEqDiff]
 refine g ?_
 repeat' (first | refine st_ rfl (g ?_) | refine Al (fun h=>g ?_) (fun h=>g ?_) | refine Cy (fun h=>g ?_) (fun h=>g ?_) | (refine B8 rfl rfl (fun h e=>?_) (fun h e=>?_)<;>simp only [e]<;>clear e<;>refine g ?_) | (refine Cn rfl rfl (fun h=>?_) (fun h=>?_)<;>simp only [h]<;>refine g ?_) | refine A9 (Jo v iR) rfl (g ?_) | refine A9 (B24 _) rfl (g ?_) | refine A9 (Bl3 _ _) rfl (g ?_))
 ·rw [if_neg (by rintro ⟨a,_⟩;simp [a] at h)] at hR
  exact V4 hR.symm
 ·rw [if_neg (by rintro ⟨_,a⟩;simp [Dm] at a;omega)] at hR
  exact V4 hR.symm
 ·rw [if_neg (by rintro ⟨_,a⟩;simp [Dm] at a;omega)] at hR
  exact V4 hR.symm
 ·rw [if_pos ⟨by simpa using (by assumption:(!Am v)=false),by simp [Dm];omega⟩,if_pos h] at hR
  exact V4 hR.symm
 rename_i h1 h2 h3
 have hF:Am v=true:=by simpa using h1
 have hO:Dm o=true:=by simp [Dm];omega
 rw [if_pos ⟨hF,hO⟩,if_neg (by simp [h])] at hR
 have hhf:C6 v.held=true:=by
  simp only [Am,Fq,Bool.and_eq_true] at hF
  exact hF.1.1.1.1.2
 have hget:=Zw v.held o
 unfold A85 at hget
 rw [if_pos hhf] at hget
 cases hg:Jr v.held o with
 | none =>
  rw [hg] at hget hR
  simp only at hget hR
  refine A9 hget rfl (g ?_)
  refine g ?_
  refine AW.freeze 800 _ rfl ⟨rfl,rfl,rfl,trivial,trivial⟩ ?_
  simp only [go_sem,reduceIte,Nat.reduceEqDiff]
  refine g ?_
  repeat' refine st_ rfl (g ?_)
  refine AW.drawn (ds:=[41,42,4,6]) (fin:=[1]) (bs:=[1,1,1,1,2]) [⟨[],[],[0],[],0⟩,⟨[],[],[],[],0⟩,⟨[],[],[],[],0⟩,⟨[(41,0)],[],[],[0],1⟩,⟨[(42,1)],[],[],[],0⟩] (by kernel_rfl) rfl (by kernel_rfl) rfl rfl rfl fun KD hKD=>?_
  refine g ?_
  repeat' (first | refine st_ rfl (g ?_) | (refine hKD _ _ ⟨rfl,g ?_⟩;clear hKD KD))
  exact V4 hR.symm
 | some w =>
  rw [hg] at hget hR
  simp only at hget hR
  obtain ⟨w1,w2,w3⟩:=Cj6 hg hI
  refine A9 hget rfl (g ?_)
  refine g ?_
  refine AW.freeze 800 _ rfl ⟨w1,w2,w3,trivial,trivial⟩ ?_
  simp only [go_sem,reduceIte,Nat.reduceEqDiff]
  refine g ?_
  repeat' (first | refine st_ rfl (g ?_) | refine Cy (fun h=>g ?_) (fun h=>g ?_) | refine A9 (Bs4 v.bodies o w.stamp iO w1 w2) rfl (g ?_))
  ·rw [if_pos h] at hR
   subst hR
   refine AW.drawn (ds:=[41,42,4,6]) (fin:=[1]) (bs:=[1,1,1,1,2]) [⟨[],[],[0],[],0⟩,⟨[],[],[],[],0⟩,⟨[],[],[],[],0⟩,⟨[(41,0)],[],[],[0],1⟩,⟨[(42,1)],[],[],[],0⟩] (by kernel_rfl) rfl (by kernel_rfl) rfl rfl rfl fun KD hKD=>?_
   refine g ?_
   repeat' (first | refine st_ rfl (g ?_) | (refine hKD _ _ ⟨rfl,g ?_⟩;clear hKD KD))
   refine Ep rfl fun p hp=>?_
   simp only [List.zip_cons_cons,List.zip_nil_right,List.mem_cons,List.not_mem_nil,or_false] at hp
   rcases hp with rfl | rfl | rfl
   ·exact Bg 1
   ·exact Bz.rfl_ _
   ·exact Bz.rfl_ _
  ·rw [if_neg (by simp [h])] at hR
   subst hR
   refine AW.drawn (ds:=[52,53,54,4,6]) (fin:=[1]) (bs:=[1,1,1,1,1,2]) [⟨[],[],[],[],0⟩,⟨[],[],[0],[],0⟩,⟨[],[],[],[],0⟩,⟨[(52,0)],[],[],[],0⟩,⟨[(53,1)],[],[],[0],1⟩,⟨[(54,2)],[],[],[],0⟩] (by kernel_rfl) rfl (by kernel_rfl) rfl rfl rfl fun KD hKD=>?_
   refine g ?_
   repeat' (first | refine st_ rfl (g ?_) | (refine hKD _ _ ⟨rfl,g ?_⟩;clear hKD KD))
   exact Bz.rfl_ _
end Go.Proofs.YtblfjaedaijfoaaGreatDoor
