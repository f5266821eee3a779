/- The note of some objects that have one reach (the program's). -/
import Derived.Test.YthlgnjlpakimaaaGreatDoorQViewRead
import Derived.Test.YthlgnjlpakimaaaGreatDoorQSpanLess
import Derived.Test.YthlgnjlpakimaaaGreatDoorQSumLaw
set_option linter.all false
set_option linter.unnecessarySimpa false
set_option linter.unusedSimpArgs false
set_option linter.unusedVariables false
namespace Go.Proofs.YthlgnjlpakimaaaGreatDoor
open Go.ChangeShapes Go.WideShapes Go.ChangeAt Go.RowKit
attribute [local irreducible] AW AWY Cd Bk vop C5 Bl Bz qop Cj Cv B4 Aw C4 A7 Bq
attribute [local go_sem] K9 Kc H8 Fc Eh Jn Gp Gv Ei Ce Ao As
def Dd6 (v:B8) (it:List Ad) (w:Ai):Bool:=!w.gone&&By it w.object&&!decide ((Wo v.bodies w.object w.stamp).2=0)
def Dd5 (v:B8) (it:List Ad) (l:List Ai):List Int:=(l.filter (Dd6 v it)).map (·.object)
def E17 (v:B8) (it:List Ad):List Int×Int:=if Af v=true then (Dd5 v it v.held,0) else ([],1)
def enO (o:Int):List IV:=[.val (.int .i64 o)]
end Go.Proofs.YthlgnjlpakimaaaGreatDoor
namespace Go.Proofs.YthlgnjlpakimaaaGreatDoor
open Go.ChangeShapes Go.WideShapes Go.ChangeAt Go.RowKit
attribute [local irreducible] AW AWY Cd Bk vop C5 Bl Bz qop Cj Cv B4 Aw C4 A7 Bq
attribute [local go_sem] Fc Eh Jn Ei Ce Ao As
theorem Yu (set:List Ad) (l:List Ai) (w:Ai):Fi (l++[w]) set=Fi l set++if By set w.object=true then [w] else []:=by
 unfold Fi
 rw [List.filter_append,List.filter_cons,List.filter_nil]
theorem Ao4 {q:List Ai×Int} {e:Int} (h:q=([],e)):Cm (.tup [.val (.slice none 0 0),.val (.int .i64 e)]) (.tup [.iv (wrI q.1),.val (.int .i64 q.2)]):=by
 subst h
 refine G6 rfl fun p hp=>?_
 simp only [List.zip_cons_cons,List.zip_nil_right,List.mem_cons,List.not_mem_nil,or_false] at hp
 rcases hp with rfl | rfl
 ·exact Bf 4
 ·exact Cm.rfl_ _
set_option maxRecDepth 100000 in
set_option maxHeartbeats 1600000 in
theorem Av2 (l:List Ai) (set:List Ad):A7 Tryz.prog A8 200 [.iv (wrI l),.iv (spI set)] (.tup [.iv (wrI (N9 l set).1),.val (.int .i64 (N9 l set).2)]) []:=by
 refine A7.ofS (n:=24) (rs:=[.tmp 4,.tmp 5]) Tryz.func200 rfl (by kernel_rfl) Tryz.ntmps200 (by kernel_rfl) (by simp) (fun _ _=>A8.later) ?_
 intro hok V w0
 obtain ⟨R,hR⟩ : ∃ R,N9 l set=R:=⟨_,rfl⟩
 rw [hR]
 unfold N9 at hR
 have hI:∀ x∈l,I64 x.stamp.count/\I64 x.stamp.node/\I64 x.object:=fun x hx=>by
  obtain ⟨-,o1,o2,o3,-⟩:=D7 (by simpa [wrI] using hok.1.2) (enW x) (List.mem_map_of_mem hx)
  exact ⟨o1,o2,o3⟩
 refine g ?_
 refine AW.seq ?_
 refine AW.reg rfl fun KK hKK=>?_
 refine g ?_
 repeat' (refine hKK _ (g ?_);clear hKK KK)
 refine AW.freeze 400 _ rfl ⟨trivial,trivial⟩ ?_
 simp only [go_sem,reduceIte,Nat.reduceEqDiff]
 refine g ?_
 repeat' (first | refine st_ rfl (g ?_) | refine C3 (fun h=>g ?_) (fun h=>g ?_) | refine A9 (Jl _) rfl (g ?_) | refine A9 (Af6 _) rfl (g ?_))
 ·rw [if_neg (by simpa using h)] at hR
  exact Ao4 hR.symm
 have hF:Bv l=true:=by simpa using h
 rw [if_pos hF] at hR
 have hhl:=A36 (Ge.1 hF)
 refine AW.adoptB 700 9900 49 4 rfl rfl ?_
 refine AW.le (S:=⟨[(6,.bp 700 0),(3,.ip [spI set]),(13,.fn 184 [.ip [wrI l]])],[.row 9900 49 4 ((Fi [] set).map enW),.box 700 [.own 9900]]⟩) (ρ:=id) ⟨⟨rfl,rfl,rfl,trivial⟩,⟨rfl,rfl,trivial⟩,by simp [Aq,BA.id]⟩ ?_
 refine AW.range (Af5 l hF) [(6,.bp 700 0)] [(3,.ip [spI set]),(13,.fn 184 [.ip [wrI l]])] (fun pre=>[.row 9900 49 4 ((Fi pre set).map enW),.box 700 [.own 9900]]) (fun _=>True) rfl trivial rfl rfl rfl rfl (fun x=>⟨rfl,rfl⟩) (fun c pre x hsp _=>?_) (fun xs hS _=>?_)
 ·have hx:x∈l:=hsp.subset (by simp)
  obtain ⟨w1,w2,w3⟩:=hI x hx
  have hs:=Yu set pre x
  have hll:(Fi pre set).length<=256:=by
   unfold Fi
   have h1:=List.length_filter_le (fun w=>By set w.object) pre
   have h2:=hsp.length_le
   rw [List.length_append,List.length_singleton] at h2
   omega
  simp only [V4,Ct2,List.cons_append,List.nil_append]
  refine g ?_
  refine AW.seq ?_
  refine AW.reg rfl fun KK hKK=>?_
  refine g ?_
  repeat' (refine hKK _ (g ?_);clear hKK KK)
  refine AW.reg rfl fun KK hKK=>?_
  refine g ?_
  repeat' (refine hKK _ (g ?_);clear hKK KK)
  refine AW.freeze 900 _ rfl ⟨w1,w2,w3,trivial,trivial⟩ ?_
  simp only [go_sem,reduceIte,Nat.reduceEqDiff]
  refine g ?_
  repeat' (first | refine st_ rfl (g ?_) | refine C3 (fun h=>g ?_) (fun h=>g ?_) | refine A9 (A37 _ _) rfl (g ?_))
  ·rw [if_pos (by simpa using h)] at hs
   refine bs1 (by omega) rfl rfl rfl ⟨w1,w2,w3,trivial,trivial⟩ ?_
   refine g ?_
   refine Bo rfl (by kernel_rfl) (by omega) (by kernel_rfl) rfl (by simp;omega) ?_
   refine g ?_
   refine ⟨trivial,fun b=>if b=9900 then 2300 else b,⟨rfl,trivial⟩,⟨?_,rfl,trivial⟩,by simp [Aq,BA.id]⟩
   rw [hs,List.map_append]
   rfl
  ·rw [if_neg (by simpa using h),List.append_nil] at hs
   refine ⟨trivial,id,⟨rfl,trivial⟩,⟨?_,rfl,trivial⟩,by simp [Aq,BA.id]⟩
   rw [hs]
   rfl
 ·obtain rfl:xs=l:=hS
  refine AW.freeze 9900 _ rfl trivial ?_
  simp only [go_sem,reduceIte,Nat.reduceEqDiff]
  refine g ?_
  repeat' refine st_ rfl (g ?_)
  subst hR
  exact Cm.rfl_ _
theorem B98 (a b c:IV):Cm (.agg [.val (.slice none 0 0),.iv a,.iv b,.iv c]) (.agg [.iv (stI []),.iv a,.iv b,.iv c]):=by
 refine Mn rfl fun p hp=>?_
 simp only [List.zip_cons_cons,List.zip_nil_right,List.mem_cons,List.not_mem_nil,or_false] at hp
 rcases hp with rfl | rfl | rfl | rfl
 ·exact Bf 2
 all_goals exact Cm.rfl_ _
set_option maxRecDepth 100000 in
set_option maxHeartbeats 1600000 in
theorem Ad3 (v:B8) (r:List Ab) (set:List Ad) (iR:I64 v.room) (hF:Bv v.held=true):A7 Tryz.prog A8 149 [vwA v,.iv (stI r),.iv (spI set)] (Ev ⟨[],r,Gn [⟨0,255⟩] set,Fi v.held set⟩) []:=by
 refine A7.ofS (n:=24) (rs:=[.cell 6 37]) Tryz.func149 rfl (by kernel_rfl) Tryz.ntmps149 (by kernel_rfl) (by simp) (fun _ _=>A8.later) ?_
 intro hok V w0
 have hw:=Av2 v.held set
 unfold N9 at hw
 rw [if_pos hF] at hw
 obtain ⟨W,hW⟩ : ∃ W,Fi v.held set=W:=⟨_,rfl⟩
 have hl:=Av9 [⟨0,255⟩] set
 obtain ⟨B,hB⟩ : ∃ B,Gn [⟨0,255⟩] set=B:=⟨_,rfl⟩
 rw [hW] at hw ⊢
 rw [hB] at hl ⊢
 simp only at hw
 refine g ?_
 refine AW.seq ?_
 refine AW.reg rfl fun KK hKK=>?_
 refine g ?_
 repeat' (refine hKK _ (g ?_);clear hKK KK)
 refine AW.freeze 400 _ rfl ⟨trivial,trivial,trivial,trivial,iR,trivial⟩ ?_
 simp only [go_sem,reduceIte,Nat.reduceEqDiff]
 refine g ?_
 repeat' (first | refine st_ rfl (g ?_) | refine A9 (hw) rfl (g ?_) | refine A9 (Kb _) rfl (g ?_))
 refine bd1 (by omega) rfl rfl rfl ⟨rfl,rfl,trivial⟩ ?_
 refine g ?_
 repeat' (first | refine st_ rfl (g ?_) | refine A9 (hl) rfl (g ?_))
 exact B98 _ _ _
end Go.Proofs.YthlgnjlpakimaaaGreatDoor
