/- Zones: what they blur (the program's and the reference's). -/
import Derived.Test.YthlgnjlpakimaaaGreatDoorUZones
set_option linter.all false
set_option linter.unnecessarySimpa false
set_option linter.unusedSimpArgs false
set_option linter.unusedVariables false
namespace Go.Proofs.YthlgnjlpakimaaaGreatDoor
open Go.ChangeShapes Go.WideShapes Go.ChangeAt Go.RowKit
attribute [local irreducible] AW AWY Bw Bc vop Bj Az Bi qop By Ce Ar Ap Bo A7 Bd C5
attribute [local go_sem] Fe Fq Ai An
theorem Tc:(rep 256 (.bool false)).map IV.val=C5 fun _=>false:=List.ext_getElem? fun o=>by
 unfold rep
 rw [List.map_replicate,List.getElem?_replicate]
 by_cases ho:o < 256
 ·rw [if_pos ho,Cj ho]
 ·rw [if_neg ho,List.getElem?_eq_none (by rw [Be];omega)]
theorem Du {f:Nat->Bool} {p:Nat} {b:Bool} (hp:p < 256):(C5 f).set p (.val (.bool b))=C5 fun o=>if o=p then b else f o:=List.ext_getElem? fun o=>by
 rw [List.getElem?_set]
 by_cases e:p=o
 ·subst e;rw [if_pos rfl,Be,if_pos hp,Cj hp,if_pos rfl]
 ·rw [if_neg e]
  by_cases ho:o < 256
  ·rw [Cj ho,Cj ho,if_neg fun h=>e h.symm]
  ·rw [List.getElem?_eq_none (by rw [Be];omega),List.getElem?_eq_none (by rw [Be];omega)]
theorem Am1 (l:List B8) (o:Int):decide (0<=Jr l o)=l.any fun x=>x.has o:=by
 unfold Jr
 rw [Bool.eq_iff_iff,decide_eq_true_eq,List.any_eq_true,<-List.findIdx_lt_length]
 by_cases h:l.findIdx (fun x=>x.has o) < l.length
 ·rw [if_pos h];simp [h]
 ·rw [if_neg h];simp [h]
set_option maxRecDepth 100000 in
theorem Am2 (z:List B8):A7 Tryz.prog A8 68 [.iv (znI z)] (.iv (spI (D7 z))) []:=by
 refine A7.ofS (n:=24) (rs:=[.tmp 2]) Tryz.func68 rfl (by kernel_rfl) Tryz.ntmps68 (by kernel_rfl) (by simp) (fun _ _=>A8.later) ?_
 intro hok V w0
 have hlen:z.length<=1073741824:=by simpa [znI] using hok.1.1
 refine g ?_
 repeat' (first | refine st_ rfl (g ?_) | refine Cl (fun h=>g ?_) (fun h=>g ?_) | refine Aa (Nq _) rfl (g ?_))
 ·rw [D7,if_neg (by simpa using h)]
  exact D6 2
 rw [D7,if_pos (by simpa using h)]
 refine AW.adopt 3 9900 66 2 rfl rfl ?_
 refine AW.loop (fun m:{m:Nat // m<=z.length}=>⟨[(3,.own 9900),(9,.iv (znI z)),(10,.val (.int .i64 (z.length:Nat))),(11,.val (.int .i64 (m.1:Nat)))],[.row 9900 66 2 (((z.take m.1).map (·.span)).map L2)]⟩) (fun m=>z.length - m.1) ⟨0,Nat.zero_le _⟩ id ⟨⟨rfl,rfl,rfl,rfl,trivial⟩,⟨rfl,trivial⟩,by simp [Ay,BA.id]⟩ fun ⟨m,hm⟩=>?_
 repeat (refine AW.seq ?_)
 refine AW.reg rfl fun KK hKK=>?_
 refine g ?_
 repeat' (refine hKK _ (g ?_);clear hKK KK)
 repeat (refine AW.seq ?_)
 refine st_ rfl ?_
 refine g ?_
 refine Bk (fun h=>?_) (fun h=>?_)
 ·refine g ?_
  repeat' (first | refine st_ rfl (g ?_) | refine ix_ (by omega) (g ?_))
  have hlt:m < z.length:=by omega
  obtain ⟨-,o1,o2,-⟩:=Gc (by simpa [znI] using hok.1.2) (enZ z[m]) (List.mem_map_of_mem (List.getElem_mem hlt))
  refine bs1 (by omega) rfl rfl rfl ⟨o1,o2,trivial⟩ ?_
  refine g ?_
  refine C6 rfl (by kernel_rfl) (by omega) (by kernel_rfl) rfl (by simp;omega) ?_
  refine g ?_
  repeat' refine st_ rfl (g ?_)
  refine ⟨⟨m+1,hlt⟩,fun b=>if b=9900 then 2000 else b,⟨⟨rfl,rfl,rfl,rfl,trivial⟩,⟨?_,trivial⟩,by simp [Ay]⟩,by show z.length - (m+1) < z.length - m;omega⟩
  rw [List.take_succ_eq_append_getElem hlt,List.map_append,List.map_append]
  rfl
 ·obtain rfl:m=z.length:=by omega
  rw [List.take_length]
  refine AW.freeze 9900 _ rfl trivial ?_
  simp only [go_sem,reduceIte,Nat.reduceEqDiff]
  refine g ?_
  repeat' refine st_ rfl (g ?_)
  refine bs1 (by omega) rfl rfl rfl ⟨trivial,trivial⟩ ?_
  refine g ?_
  refine Qm (Nv [z.map (·.span)] (by simp [Dr];omega)) (by simp [Wf,Ft,okA,okV]) rfl (Ly (A90 _)) (by exact Sbs.rfl_ _) rfl ?_
  refine g ?_
  refine AW.freeze 2400 _ rfl trivial ?_
  simp only [go_sem,reduceIte,Nat.reduceEqDiff]
  refine g ?_
  repeat' refine st_ rfl (g ?_)
  simp only [List.flatten_cons,List.flatten_nil,List.append_nil]
  exact Dz.rfl_ _
set_option maxRecDepth 100000 in
theorem Ae4 (z:List B8):A7 Tryz.prog A8 152 [.iv (znI z)] (.iv (spI (D7 z))) []:=by
 refine A7.ofS (n:=20) (rs:=[.tmp 2]) Tryz.func152 rfl (by kernel_rfl) Tryz.ntmps152 (by kernel_rfl) (by simp) (fun _ _=>A8.later) ?_
 intro hok V w0
 have hlen:z.length<=1073741824:=by simpa [znI] using hok.1.1
 refine g ?_
 repeat' (first | refine st_ rfl (g ?_) | refine Cl (fun h=>g ?_) (fun h=>g ?_) | refine Aa (Mq _) rfl (g ?_))
 ·rw [D7,if_neg (by simpa using h)]
  exact D6 2
 rw [D7,if_pos (by simpa using h)]
 refine AW.loop (fun m:{m:Nat // m<=256}=>⟨[(0,.iv (znI z)),(3,.bp 400 0),(4,.val (.int .i64 (m.1:Nat)))],[.arr 400 (C5 fun o=>decide (o < m.1)&&(z.any fun x=>x.has o))]⟩) (fun m=>256 - m.1) ⟨0,Nat.zero_le _⟩ id ⟨⟨rfl,rfl,rfl,trivial⟩,⟨?_,trivial⟩,by simp [Ay,BA.id]⟩ fun ⟨m,hm⟩=>?_
 ·exact congrArg (fun C=>some (BA.arr 400 C)) (Tc.trans (Bf fun o ho=>by simp))
 refine g ?_
 repeat' (first | refine st_ rfl (g ?_) | refine Bk (fun h=>g ?_) (fun h=>g ?_) | refine Aa (A09 _ _) rfl (g ?_))
 ·refine ⟨by omega,h,?_⟩
  rw [Nat.mul_one,Nat.zero_add]
  refine g ?_
  repeat' refine Aj (g ?_)
  refine ⟨_,rfl,⟨trivial,trivial⟩,by rw [Be];omega,?_⟩
  refine g ?_
  repeat' (first | refine st_ rfl (g ?_) | refine Aj (g ?_))
  refine ⟨⟨m+1,by omega⟩,id,⟨⟨rfl,rfl,rfl,trivial⟩,⟨congrArg (fun C=>some (BA.arr 400 C)) ?_,trivial⟩,by simp [Ay,BA.id]⟩,by show 256 - (m+1) < 256 - m;omega⟩
  rw [Du (by omega)]
  refine Bf fun o ho=>?_
  by_cases e:o=m
  ·subst e
   rw [if_pos rfl,Am1]
   simp
  ·rw [if_neg e]
   congr 1
   rw [decide_eq_decide]
   show o < m↔o < m+1
   omega
 ·obtain rfl:m=256:=by omega
  refine ⟨(Be _).symm,?_⟩
  refine g ?_
  repeat' (first | refine st_ rfl (g ?_) | refine Aa (Av1 _) rfl (g ?_))
  rw [show C1 (fun o=>decide (o < 256)&&z.any fun x=>x.has o)=B9 (z.map (·.span)) from Dd fun o ho=>by
   rw [decide_eq_true ho,Bool.true_and,Ak,List.any_map]
   rfl]
  exact Dz.rfl_ _
end Go.Proofs.YthlgnjlpakimaaaGreatDoor
