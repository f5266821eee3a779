/- What a set lacks; what is in the first alone (the program's). -/
import Derived.Test.YthlgnjlpakimaaaGreatDoorVLogAll
import Derived.Test.YthlgnjlpakimaaaGreatDoorVBridge2
import Derived.Test.YthlgnjlpakimaaaGreatDoorVPieces
import Derived.Test.YthlgnjlpakimaaaGreatDoorVTakeLaw
set_option linter.all false
set_option linter.unnecessarySimpa false
set_option linter.unusedSimpArgs false
set_option linter.unusedVariables false
namespace Go.Proofs.YthlgnjlpakimaaaGreatDoor
open Go.ChangeShapes Go.WideShapes Go.ChangeAt Go.RowKit
attribute [local irreducible] AW AWY Cf Bf vop Bw Bh Bx qop Cg Cz Az Aw C5 A7 Bl
attribute [local go_sem] Ee Ce Ap Ar
theorem Vb (l m:List Ad):A7 Tryz.prog A9 127 [.iv (spI l),.iv (spI m)] (.iv (spI (Ci l m))) []:=(Av3 l m).frz trivial
set_option maxHeartbeats 800000 in
set_option maxRecDepth 100000 in
theorem Bb5 (a b:Aq) (it:List Ad):A7 Tryz.prog A9 106 [F3 a,F3 b,.iv (spI it)] (.val (.bool (Lr it a b))) []:=by
 refine A7.of (n:=32) (rs:=[.tmp 6]) Tryz.func106 rfl (by kernel_rfl) Tryz.ntmps106 (by kernel_rfl) (by simp) (fun _ _=>A9.later) ?_
 intro hok V w0
 have hla:a.writes.length<=1073741824:=by simpa using hok.1.2.2.2.1.1
 have hlb:b.writes.length<=1073741824:=by simpa using hok.2.1.2.2.2.1.1
 obtain ⟨B,hB⟩ : ∃ B,Lr it a b=B:=⟨_,rfl⟩
 rw [hB]
 unfold Lr at hB
 refine g ?_
 refine AW.seq ?_
 refine AW.reg rfl fun KK hKK=>?_
 refine g ?_
 repeat' (refine hKK _ (g ?_);clear hKK KK)
 refine AW.freeze 400 _ rfl ⟨trivial,trivial,trivial,trivial,trivial⟩ ?_
 simp only [go_sem,reduceIte,Nat.reduceEqDiff]
 refine AW.freeze 500 _ rfl ⟨trivial,trivial,trivial,trivial,trivial⟩ ?_
 simp only [go_sem,reduceIte,Nat.reduceEqDiff]
 refine g ?_
 repeat' refine st_ rfl (g ?_)
 by_cases hw:a.writes=[]/\b.writes=[]
 ·have d:decide ((0:Int) < (a.writes.length:Int)+(b.writes.length:Int))=false:=by rw [hw.1,hw.2];rfl
  rw [decide_eq_true hw.1,decide_eq_true hw.2,Bool.true_and,Bool.true_and] at hB
  simp only [d]
  refine g ?_
  refine Ab (T5 a.end_ b.start) rfl ?_
  by_cases he:a.end_=b.start
  ·rw [decide_eq_true he,Bool.true_and] at hB
   simp only [decide_eq_true he]
   refine g ?_
   repeat' refine st_ rfl (g ?_)
   refine AW.drawn (ds:=[23,24,25,26,27,28,29,30,31,6]) (fin:=[]) (bs:=[0,0,0,0,0,0,0,0,0,0]) [⟨[],[],[],[],0⟩,⟨[(23,0)],[],[],[],0⟩,⟨[],[],[],[],0⟩,⟨[(24,1),(25,2)],[],[],[],0⟩,⟨[],[],[],[],0⟩,⟨[(27,4)],[],[],[],0⟩,⟨[],[],[],[],0⟩,⟨[(28,5),(29,6)],[],[],[],0⟩,⟨[(26,3),(30,7)],[],[],[],0⟩,⟨[(31,8)],[],[],[],0⟩] (by kernel_rfl) rfl (by kernel_rfl) rfl rfl rfl fun KD hKD=>?_
   refine g ?_
   refine Ab (Vb a.blur it) rfl ?_
   refine g ?_
   refine Ab (Vb b.blur it) rfl ?_
   refine g ?_
   refine Ab (Bc1 (Ci a.blur it) (Ci b.blur it)) rfl ?_
   rw [hB]
   refine g ?_
   repeat' (first | refine st_ rfl (g ?_) | (refine hKD _ _ ⟨rfl,g ?_⟩;clear hKD KD))
   first | exact trivial | exact ⟨.inl trivial,id,List.nodup_nil⟩
  ·obtain rfl:B=false:=by rw [<-hB,decide_eq_false he,Bool.false_and]
   simp only [decide_eq_false he]
   refine g ?_
   repeat' refine st_ rfl (g ?_)
   first | exact trivial | exact ⟨.inl trivial,id,List.nodup_nil⟩
 ·have d:decide ((0:Int) < (a.writes.length:Int)+(b.writes.length:Int))=true:=by
   rw [decide_eq_true_eq]
   by_cases h1:a.writes=[]
   ·have h2:b.writes≠[]:=fun e=>hw ⟨h1,e⟩
    have:=List.length_pos_iff.2 h2
    omega
   ·have:=List.length_pos_iff.2 h1
    omega
  obtain rfl:B=false:=by
   rw [<-hB]
   by_cases h1:a.writes=[]
   ·rw [decide_eq_false fun e=>hw ⟨h1,e⟩];simp
   ·rw [decide_eq_false h1];simp
  simp only [d]
  refine g ?_
  repeat' refine st_ rfl (g ?_)
  first | exact trivial | exact ⟨.inl trivial,id,List.nodup_nil⟩
end Go.Proofs.YthlgnjlpakimaaaGreatDoor
namespace Go.Proofs.YthlgnjlpakimaaaGreatDoor
open Go.ChangeShapes Go.WideShapes Go.ChangeAt Go.RowKit
attribute [local irreducible] AW AWY Cf Bf vop Bw Bh Bx qop Cg Cz Az Aw C5 A7 Bl
attribute [local go_sem] Ap Ar
theorem Yq (l:List Ad):spI l=.sl 2 (l.map M1):=rfl
attribute [local go_sem] Yq B49
def B00 (n:Int) (s:Ad):List Ad:=if n < s.lo then [⟨n,s.lo - 1⟩] else []
def Gr (n:Int):List Ad->List Ad×Int
 | []=>([],n)
 | s :: l=>(B00 n s++(Gr (s.hi+1) l).1,(Gr (s.hi+1) l).2)
theorem A08:∀ (l:List Ad) (n:Int) (s:Ad),Gr n (l++[s])=((Gr n l).1++B00 (Gr n l).2 s,s.hi+1)
 | [],n,s=>by simp [Gr]
 | t :: l,n,s=>by rw [List.cons_append,Gr,A08 l];simp [Gr]
def B24 (n:Int):List Ad:=if n<=255 then [⟨n,255⟩] else []
theorem A89:∀ (l:List Ad) (n:Int),Ru n l=(Gr n l).1++B24 (Gr n l).2
 | [],n=>by rw [Ru,Gr,B24,List.nil_append]
 | s :: l,n=>by rw [Ru,Gr,A89 l];simp [B00]
theorem A88:∀ (l:List Ad) (n:Int),(Gr n l).1.length<=l.length
 | [],n=>Nat.le_refl _
 | s :: l,n=>by
  have:=A88 l (s.hi+1)
  have h2:(B00 n s).length<=1:=by unfold B00;split<;>simp
  rw [Gr,List.length_append,List.length_cons]
  omega
def B32 (l:List Ad):List Ad:=C8 fun o=>!Ae l o
set_option maxRecDepth 100000 in
set_option maxHeartbeats 800000 in
theorem Av0 (l:List Ad):A7 Tryz.prog A9 191 [.iv (spI l)] (.iv (spI (B32 l))) []:=by
 refine A7.ofS (n:=38) (rs:=[.tmp 2]) Tryz.func191 rfl (by kernel_rfl) Tryz.ntmps191 (by kernel_rfl) (by simp) (fun _ _=>A9.later) ?_
 intro hok V w0
 obtain ⟨T,hT⟩ : ∃ T,Ba l=T:=⟨_,rfl⟩
 have hin:∀ s∈T,0<=s.lo/\s.lo<=s.hi/\s.hi<=255:=fun s hs=>by
  have:=L0 (e:=-2) (by rw [<-hT];exact Be _) s hs
  omega
 have hTl:T.length<=128:=by rw [<-hT];exact Ea _
 have hres:B32 l=(Gr 0 T).1++B24 (Gr 0 T).2:=by rw [<-A89,<-hT,Aw2];rfl
 have hst:=Au6 l
 rw [hT] at hst
 rw [hres]
 refine g ?_
 repeat' (first | refine st_ rfl (g ?_) | refine Ab (hst) rfl (g ?_))
 refine AW.adopt 3 9900 66 2 rfl rfl ?_
 refine AW.loop (fun m:{m:Nat // m<=T.length/\0<=(Gr 0 (T.take m)).2/\(Gr 0 (T.take m)).2<=256}=>⟨[(3,.own 9900),(4,.val (.int .i64 (Gr 0 (T.take m.1)).2)),(8,.iv (spI T)),(9,.val (.int .i64 (T.length:Nat))),(10,.val (.int .i64 (m.1:Nat)))],[.row 9900 66 2 ((Gr 0 (T.take m.1)).1.map M1)]⟩) (fun m=>T.length - m.1) ⟨0,Nat.zero_le _,by simp [Gr],by simp [Gr]⟩ id ⟨⟨rfl,rfl,rfl,?_,rfl,trivial⟩,⟨rfl,trivial⟩,by simp [Au,BA.id]⟩ fun ⟨m,hm,h0,h1⟩=>?_
 ·simp [AV.ren,Co]
 simp only
 have hl1:=A88 (T.take m) 0
 rw [List.length_take] at hl1
 obtain ⟨fr,hfr⟩ : ∃ fr,(Gr 0 (T.take m)).2=fr:=⟨_,rfl⟩
 obtain ⟨O,hO⟩ : ∃ O,(Gr 0 (T.take m)).1=O:=⟨_,rfl⟩
 simp only [hfr,hO] at h0 h1 hl1 ⊢
 repeat (refine AW.seq ?_)
 refine AW.reg rfl fun KK hKK=>?_
 refine g ?_
 repeat' (refine hKK _ (g ?_);clear hKK KK)
 repeat (refine AW.seq ?_)
 refine st_ rfl ?_
 refine g ?_
 refine C9 (fun h=>?_) (fun h=>?_)
 ·have hlt:m < T.length:=by have:=of_decide_eq_true h;omega
  obtain ⟨x,hx⟩ : ∃ x,T[m]=x:=⟨_,rfl⟩
  have hi:=hin x (hx ▸ List.getElem_mem hlt)
  have hget:=Cb (f:=M1) (List.getElem?_eq_getElem hlt)
  have hs:=A08 (T.take m) 0 T[m]
  rw [<-List.take_succ_eq_append_getElem hlt,hfr,hO] at hs
  rw [hx] at hs hget
  have w1:I64 x.lo:=I64.of (by omega) (by omega)
  have w2:I64 x.hi:=I64.of (by omega) (by omega)
  have w3:I64 fr:=I64.of (by omega) (by omega)
  have w4:I64 (x.lo - 1):=I64.of (by omega) (by omega)
  refine g ?_
  repeat' refine st_ rfl (g ?_)
  refine ⟨by omega,_,hget,?_⟩
  refine g ?_
  repeat' (first | refine st_ rfl (g ?_) | refine Am (g ?_) | refine Bq (fun h=>g ?_) (fun h=>g ?_))
  ·refine bs1 (by omega) rfl rfl rfl ⟨w3,w4,trivial⟩ ?_
   refine g ?_
   refine C4 rfl (by kernel_rfl) (by omega) (by kernel_rfl) rfl (by simp;omega) ?_
   refine g ?_
   repeat' refine st_ rfl (g ?_)
   refine ⟨⟨m+1,hlt,by rw [hs];show 0<=x.hi+1;omega,by rw [hs];show x.hi+1<=256;omega⟩,fun b=>if b=9900 then 2600 else b,⟨⟨rfl,by rw [hs];rfl,rfl,rfl,rfl,trivial⟩,⟨?_,trivial⟩,by simp [Au,BA.id]⟩,by show T.length - (m+1) < T.length - m;omega⟩
   rw [hs,B00,if_pos h,List.map_append]
   rfl
  ·refine ⟨⟨m+1,hlt,by rw [hs];show 0<=x.hi+1;omega,by rw [hs];show x.hi+1<=256;omega⟩,id,⟨⟨rfl,by rw [hs];rfl,rfl,rfl,rfl,trivial⟩,⟨?_,trivial⟩,by simp [Au,BA.id]⟩,by show T.length - (m+1) < T.length - m;omega⟩
   rw [hs,B00,if_neg h,List.append_nil]
   rfl
 ·obtain rfl:m=T.length:=by have:=of_decide_eq_false h;omega
  rw [List.take_length] at hfr hO
  have w3:I64 fr:=I64.of (by omega) (by omega)
  refine AW.exit ?_
  simp only [reduceIte,hfr,hO]
  unfold B24
  repeat (refine AW.seq ?_)
  refine AW.reg rfl fun KK hKK=>?_
  refine g ?_
  repeat' (refine hKK _ (g ?_);clear hKK KK)
  repeat (refine AW.seq ?_)
  refine st_ rfl ?_
  refine g ?_
  refine Bq (fun h=>?_) (fun h=>?_)
  ·rw [if_pos h]
   refine g ?_
   repeat' refine st_ rfl (g ?_)
   refine bs1 (by omega) rfl rfl rfl ⟨w3,rfl,trivial⟩ ?_
   refine g ?_
   refine C4 rfl (by kernel_rfl) (by omega) (by kernel_rfl) rfl (by simp;omega) ?_
   refine g ?_
   refine AW.freeze 3700 _ rfl trivial ?_
   simp only [go_sem,reduceIte,Nat.reduceEqDiff]
   refine g ?_
   repeat' refine st_ rfl (g ?_)
   rw [List.map_append]
   exact D1.rfl_ _
  ·rw [if_neg h,List.append_nil]
   refine AW.freeze 9900 _ rfl trivial ?_
   simp only [go_sem,reduceIte,Nat.reduceEqDiff]
   refine g ?_
   repeat' refine st_ rfl (g ?_)
   exact D1.rfl_ _
theorem Ad8 (l m:List Ad):A7 Tryz.prog A9 128 [.iv (spI l),.iv (spI m)] (.iv (spI (Fp l m))) []:=by
 have he:Fp l m=Ci l (B32 m):=by
  unfold Fp Ci B32
  exact E4 fun o ho=>by rw [C3 _ ho]
 rw [he]
 refine A7.of (n:=9) (rs:=[.tmp 4]) Tryz.func128 rfl (by kernel_rfl) Tryz.ntmps128 (by kernel_rfl) (by simp) (fun _ _=>A9.later) ?_
 intro hok V w0
 refine g ?_
 repeat' (first | refine st_ rfl (g ?_) | exact trivial | refine Ab (Av0 _) rfl (g ?_) | refine Ab (Vb _ _) rfl (g ?_))
end Go.Proofs.YthlgnjlpakimaaaGreatDoor
