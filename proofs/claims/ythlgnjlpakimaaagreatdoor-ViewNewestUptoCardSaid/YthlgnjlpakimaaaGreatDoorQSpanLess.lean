/- What a set lacks; what is in the first alone (the program's). -/
import Derived.Test.YthlgnjlpakimaaaGreatDoorQLogAll
import Derived.Test.YthlgnjlpakimaaaGreatDoorQBridge2
import Derived.Test.YthlgnjlpakimaaaGreatDoorQTouch
import Derived.Test.YthlgnjlpakimaaaGreatDoorQTakeLaw
set_option linter.all false
set_option linter.unnecessarySimpa false
set_option linter.unusedSimpArgs false
set_option linter.unusedVariables false
namespace Go.Proofs.YthlgnjlpakimaaaGreatDoor
open Go.ChangeShapes Go.WideShapes Go.ChangeAt Go.RowKit
attribute [local irreducible] AW AWY Cd Bk vop C5 Bl Bz qop Cj Cv B4 Aw C4 A7 Bq
attribute [local go_sem] Eh Ce Ao As
theorem Za (l m:List Ad):A7 Tryz.prog A8 127 [.iv (spI l),.iv (spI m)] (.iv (spI (Cw l m))) []:=(Bi6 l m).frz trivial
set_option maxHeartbeats 800000 in
set_option maxRecDepth 100000 in
theorem C19 (a b:At) (it:List Ad):A7 Tryz.prog A8 106 [Ev a,Ev b,.iv (spI it)] (.val (.bool (Ph it a b))) []:=by
 refine A7.of (n:=32) (rs:=[.tmp 6]) Tryz.func106 rfl (by kernel_rfl) Tryz.ntmps106 (by kernel_rfl) (by simp) (fun _ _=>A8.later) ?_
 intro hok V w0
 have hla:a.writes.length<=1073741824:=by simpa using hok.1.2.2.2.1.1
 have hlb:b.writes.length<=1073741824:=by simpa using hok.2.1.2.2.2.1.1
 obtain ⟨B,hB⟩ : ∃ B,Ph it a b=B:=⟨_,rfl⟩
 rw [hB]
 unfold Ph at hB
 refine g ?_
 refine AW.seq ?_
 refine AW.reg rfl fun KK hKK=>?_
 refine g ?_
 repeat' (refine hKK _ (g ?_);clear hKK KK)
 refine AW.freeze 400 _ rfl ⟨trivial,trivial,trivial,trivial,trivial⟩ ?_
 simp only [go_sem,reduceIte,Nat.reduceEqDiff]
 refine AW.freeze 500 _ rfl ⟨trivial,trivial,trivial,trivial,trivial⟩ ?_
 simp only [go_sem,reduceIte,Nat.reduceEqDiff]
 refine g ?_
 repeat' refine st_ rfl (g ?_)
 by_cases hw:a.writes=[]/\b.writes=[]
 ·have d:decide ((0:Int) < (a.writes.length:Int)+(b.writes.length:Int))=false:=by rw [hw.1,hw.2];rfl
  rw [decide_eq_true hw.1,decide_eq_true hw.2,Bool.true_and,Bool.true_and] at hB
  simp only [d]
  refine g ?_
  refine A9 (Wj a.end_ b.start) rfl ?_
  by_cases he:a.end_=b.start
  ·rw [decide_eq_true he,Bool.true_and] at hB
   simp only [decide_eq_true he]
   refine g ?_
   repeat' refine st_ rfl (g ?_)
   refine AW.drawn (ds:=[23,24,25,26,27,28,29,30,31,6]) (fin:=[]) (bs:=[0,0,0,0,0,0,0,0,0,0]) [⟨[],[],[],[],0⟩,⟨[(23,0)],[],[],[],0⟩,⟨[],[],[],[],0⟩,⟨[(24,1),(25,2)],[],[],[],0⟩,⟨[],[],[],[],0⟩,⟨[(27,4)],[],[],[],0⟩,⟨[],[],[],[],0⟩,⟨[(28,5),(29,6)],[],[],[],0⟩,⟨[(26,3),(30,7)],[],[],[],0⟩,⟨[(31,8)],[],[],[],0⟩] (by kernel_rfl) rfl (by kernel_rfl) rfl rfl rfl fun KD hKD=>?_
   refine g ?_
   refine A9 (Za a.blur it) rfl ?_
   refine g ?_
   refine A9 (Za b.blur it) rfl ?_
   refine g ?_
   refine A9 (C28 (Cw a.blur it) (Cw b.blur it)) rfl ?_
   rw [hB]
   refine g ?_
   repeat' (first | refine st_ rfl (g ?_) | (refine hKD _ _ ⟨rfl,g ?_⟩;clear hKD KD))
   first | exact trivial | exact ⟨.inl trivial,id,List.nodup_nil⟩
  ·obtain rfl:B=false:=by rw [<-hB,decide_eq_false he,Bool.false_and]
   simp only [decide_eq_false he]
   refine g ?_
   repeat' refine st_ rfl (g ?_)
   first | exact trivial | exact ⟨.inl trivial,id,List.nodup_nil⟩
 ·have d:decide ((0:Int) < (a.writes.length:Int)+(b.writes.length:Int))=true:=by
   rw [decide_eq_true_eq]
   by_cases h1:a.writes=[]
   ·have h2:b.writes≠[]:=fun e=>hw ⟨h1,e⟩
    have:=List.length_pos_iff.2 h2
    omega
   ·have:=List.length_pos_iff.2 h1
    omega
  obtain rfl:B=false:=by
   rw [<-hB]
   by_cases h1:a.writes=[]
   ·rw [decide_eq_false fun e=>hw ⟨h1,e⟩];simp
   ·rw [decide_eq_false h1];simp
  simp only [d]
  refine g ?_
  repeat' refine st_ rfl (g ?_)
  first | exact trivial | exact ⟨.inl trivial,id,List.nodup_nil⟩
end Go.Proofs.YthlgnjlpakimaaaGreatDoor
namespace Go.Proofs.YthlgnjlpakimaaaGreatDoor
open Go.ChangeShapes Go.WideShapes Go.ChangeAt Go.RowKit
attribute [local irreducible] AW AWY Cd Bk vop C5 Bl Bz qop Cj Cv B4 Aw C4 A7 Bq
attribute [local go_sem] Ao As
theorem Aa5 (l:List Ad):spI l=.sl 2 (l.map P9):=rfl
attribute [local go_sem] Aa5 Bt0
def Bo4 (n:Int) (s:Ad):List Ad:=if n < s.lo then [⟨n,s.lo - 1⟩] else []
def Jp (n:Int):List Ad->List Ad×Int
 | []=>([],n)
 | s :: l=>(Bo4 n s++(Jp (s.hi+1) l).1,(Jp (s.hi+1) l).2)
theorem Ag6:∀ (l:List Ad) (n:Int) (s:Ad),Jp n (l++[s])=((Jp n l).1++Bo4 (Jp n l).2 s,s.hi+1)
 | [],n,s=>by simp [Jp]
 | t :: l,n,s=>by rw [List.cons_append,Jp,Ag6 l];simp [Jp]
def Bq5 (n:Int):List Ad:=if n<=255 then [⟨n,255⟩] else []
theorem Aq6:∀ (l:List Ad) (n:Int),Uw n l=(Jp n l).1++Bq5 (Jp n l).2
 | [],n=>by rw [Uw,Jp,Bq5,List.nil_append]
 | s :: l,n=>by rw [Uw,Jp,Aq6 l];simp [Bo4]
theorem Aq5:∀ (l:List Ad) (n:Int),(Jp n l).1.length<=l.length
 | [],n=>Nat.le_refl _
 | s :: l,n=>by
  have:=Aq5 l (s.hi+1)
  have h2:(Bo4 n s).length<=1:=by unfold Bo4;split<;>simp
  rw [Jp,List.length_append,List.length_cons]
  omega
def Br3 (l:List Ad):List Ad:=Ch fun o=>!Al l o
set_option maxRecDepth 100000 in
set_option maxHeartbeats 800000 in
theorem Bi3 (l:List Ad):A7 Tryz.prog A8 191 [.iv (spI l)] (.iv (spI (Br3 l))) []:=by
 refine A7.ofS (n:=38) (rs:=[.tmp 2]) Tryz.func191 rfl (by kernel_rfl) Tryz.ntmps191 (by kernel_rfl) (by simp) (fun _ _=>A8.later) ?_
 intro hok V w0
 obtain ⟨T,hT⟩ : ∃ T,Br l=T:=⟨_,rfl⟩
 have hin:∀ s∈T,0<=s.lo/\s.lo<=s.hi/\s.hi<=255:=fun s hs=>by
  have:=N4 (e:=-2) (by rw [<-hT];exact Bt _) s hs
  omega
 have hTl:T.length<=128:=by rw [<-hT];exact Ez _
 have hres:Br3 l=(Jp 0 T).1++Bq5 (Jp 0 T).2:=by rw [<-Aq6,<-hT,Bj9];rfl
 have hst:=Bh9 l
 rw [hT] at hst
 rw [hres]
 refine g ?_
 repeat' (first | refine st_ rfl (g ?_) | refine A9 (hst) rfl (g ?_))
 refine AW.adopt 3 9900 66 2 rfl rfl ?_
 refine AW.loop (fun m:{m:Nat // m<=T.length/\0<=(Jp 0 (T.take m)).2/\(Jp 0 (T.take m)).2<=256}=>⟨[(3,.own 9900),(4,.val (.int .i64 (Jp 0 (T.take m.1)).2)),(8,.iv (spI T)),(9,.val (.int .i64 (T.length:Nat))),(10,.val (.int .i64 (m.1:Nat)))],[.row 9900 66 2 ((Jp 0 (T.take m.1)).1.map P9)]⟩) (fun m=>T.length - m.1) ⟨0,Nat.zero_le _,by simp [Jp],by simp [Jp]⟩ id ⟨⟨rfl,rfl,rfl,?_,rfl,trivial⟩,⟨rfl,trivial⟩,by simp [Aq,BA.id]⟩ fun ⟨m,hm,h0,h1⟩=>?_
 ·simp [AV.ren,Cz]
 simp only
 have hl1:=Aq5 (T.take m) 0
 rw [List.length_take] at hl1
 obtain ⟨fr,hfr⟩ : ∃ fr,(Jp 0 (T.take m)).2=fr:=⟨_,rfl⟩
 obtain ⟨O,hO⟩ : ∃ O,(Jp 0 (T.take m)).1=O:=⟨_,rfl⟩
 simp only [hfr,hO] at h0 h1 hl1 ⊢
 repeat (refine AW.seq ?_)
 refine AW.reg rfl fun KK hKK=>?_
 refine g ?_
 repeat' (refine hKK _ (g ?_);clear hKK KK)
 repeat (refine AW.seq ?_)
 refine st_ rfl ?_
 refine g ?_
 refine C3 (fun h=>?_) (fun h=>?_)
 ·have hlt:m < T.length:=by have:=of_decide_eq_true h;omega
  obtain ⟨x,hx⟩ : ∃ x,T[m]=x:=⟨_,rfl⟩
  have hi:=hin x (hx ▸ List.getElem_mem hlt)
  have hget:=C0 (f:=P9) (List.getElem?_eq_getElem hlt)
  have hs:=Ag6 (T.take m) 0 T[m]
  rw [<-List.take_succ_eq_append_getElem hlt,hfr,hO] at hs
  rw [hx] at hs hget
  have w1:I64 x.lo:=I64.of (by omega) (by omega)
  have w2:I64 x.hi:=I64.of (by omega) (by omega)
  have w3:I64 fr:=I64.of (by omega) (by omega)
  have w4:I64 (x.lo - 1):=I64.of (by omega) (by omega)
  refine g ?_
  repeat' refine st_ rfl (g ?_)
  refine ⟨by omega,_,hget,?_⟩
  refine g ?_
  repeat' (first | refine st_ rfl (g ?_) | refine Ag (g ?_) | refine Az (fun h=>g ?_) (fun h=>g ?_))
  ·refine bs1 (by omega) rfl rfl rfl ⟨w3,w4,trivial⟩ ?_
   refine g ?_
   refine Bo rfl (by kernel_rfl) (by omega) (by kernel_rfl) rfl (by simp;omega) ?_
   refine g ?_
   repeat' refine st_ rfl (g ?_)
   refine ⟨⟨m+1,hlt,by rw [hs];show 0<=x.hi+1;omega,by rw [hs];show x.hi+1<=256;omega⟩,fun b=>if b=9900 then 2600 else b,⟨⟨rfl,by rw [hs];rfl,rfl,rfl,rfl,trivial⟩,⟨?_,trivial⟩,by simp [Aq,BA.id]⟩,by show T.length - (m+1) < T.length - m;omega⟩
   rw [hs,Bo4,if_pos h,List.map_append]
   rfl
  ·refine ⟨⟨m+1,hlt,by rw [hs];show 0<=x.hi+1;omega,by rw [hs];show x.hi+1<=256;omega⟩,id,⟨⟨rfl,by rw [hs];rfl,rfl,rfl,rfl,trivial⟩,⟨?_,trivial⟩,by simp [Aq,BA.id]⟩,by show T.length - (m+1) < T.length - m;omega⟩
   rw [hs,Bo4,if_neg h,List.append_nil]
   rfl
 ·obtain rfl:m=T.length:=by have:=of_decide_eq_false h;omega
  rw [List.take_length] at hfr hO
  have w3:I64 fr:=I64.of (by omega) (by omega)
  refine AW.exit ?_
  simp only [reduceIte,hfr,hO]
  unfold Bq5
  repeat (refine AW.seq ?_)
  refine AW.reg rfl fun KK hKK=>?_
  refine g ?_
  repeat' (refine hKK _ (g ?_);clear hKK KK)
  repeat (refine AW.seq ?_)
  refine st_ rfl ?_
  refine g ?_
  refine Az (fun h=>?_) (fun h=>?_)
  ·rw [if_pos h]
   refine g ?_
   repeat' refine st_ rfl (g ?_)
   refine bs1 (by omega) rfl rfl rfl ⟨w3,rfl,trivial⟩ ?_
   refine g ?_
   refine Bo rfl (by kernel_rfl) (by omega) (by kernel_rfl) rfl (by simp;omega) ?_
   refine g ?_
   refine AW.freeze 3700 _ rfl trivial ?_
   simp only [go_sem,reduceIte,Nat.reduceEqDiff]
   refine g ?_
   repeat' refine st_ rfl (g ?_)
   rw [List.map_append]
   exact Cm.rfl_ _
  ·rw [if_neg h,List.append_nil]
   refine AW.freeze 9900 _ rfl trivial ?_
   simp only [go_sem,reduceIte,Nat.reduceEqDiff]
   refine g ?_
   repeat' refine st_ rfl (g ?_)
   exact Cm.rfl_ _
theorem Av9 (l m:List Ad):A7 Tryz.prog A8 128 [.iv (spI l),.iv (spI m)] (.iv (spI (Gn l m))) []:=by
 have he:Gn l m=Cw l (Br3 m):=by
  unfold Gn Cw Br3
  exact Er fun o ho=>by rw [Cc _ ho]
 rw [he]
 refine A7.of (n:=9) (rs:=[.tmp 4]) Tryz.func128 rfl (by kernel_rfl) Tryz.ntmps128 (by kernel_rfl) (by simp) (fun _ _=>A8.later) ?_
 intro hok V w0
 refine g ?_
 repeat' (first | refine st_ rfl (g ?_) | exact trivial | refine A9 (Bi3 _) rfl (g ?_) | refine A9 (Za _ _) rfl (g ?_))
end Go.Proofs.YthlgnjlpakimaaaGreatDoor
