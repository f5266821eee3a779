/- One note for two dull ones of which the second goes on where the first ends (the reference's). -/
import Derived.Test.YthlgnjlpakimaaaGreatDoorVRefLog
import Derived.Test.YthlgnjlpakimaaaGreatDoorVStreamSpec
import Derived.Test.YthlgnjlpakimaaaGreatDoorVNoteMerge
set_option linter.all false
set_option linter.unnecessarySimpa false
set_option linter.unusedSimpArgs false
set_option linter.unusedVariables false
namespace Go.Proofs.YthlgnjlpakimaaaGreatDoor
open Go.ChangeShapes Go.WideShapes Go.ChangeAt Go.RowKit
section
attribute [local irreducible] H4
theorem Bj (f:Nat->Bool):(Cj f).length=256:=by unfold Cj;rw [List.length_map,Array.length_toList,Ev]
theorem Cv {f:Nat->Bool} {o:Nat} (h:o < 256):(Cj f)[o]? = some (.val (.bool (f o))):=by
 unfold Cj setRow
 rw [List.getElem?_map,Array.getElem?_toList,Dd h];rfl
theorem Sf (c:Nat->Int):(R4 c).length=64:=by unfold R4;rw [List.length_map,Array.length_toList,Ji]
theorem B53 {c:Nat->Int} {n:Nat} (h:n < 64):(R4 c)[n]? = some (.val (.int .i64 (c n))):=by
 unfold R4 Dw
 rw [List.getElem?_map,Array.getElem?_toList,Dd h];rfl
end
attribute [local irreducible] Cj R4
theorem Bo {f g:Nat->Bool} (h:∀ o,o < 256->f o=g o):Cj f=Cj g:=List.ext_getElem? fun o=>by
 by_cases ho:o < 256
 ·rw [Cv ho,Cv ho,h o ho]
 ·rw [List.getElem?_eq_none (by rw [Bj];omega),List.getElem?_eq_none (by rw [Bj];omega)]
theorem Bg7 {f:Nat->Bool} {p:Nat} (hp:p < 256):(Cj f).set p (.val (.bool true))=Cj fun o=>f o || decide (o=p):=List.ext_getElem? fun o=>by
 rw [List.getElem?_set]
 by_cases e:p=o
 ·subst e;rw [if_pos rfl,Bj,if_pos hp,Cv hp];simp
 ·rw [if_neg e]
  by_cases ho:o < 256
  ·rw [Cv ho,Cv ho,decide_eq_false (fun h=>e h.symm),Bool.or_false]
  ·rw [List.getElem?_eq_none (by rw [Bj];omega),List.getElem?_eq_none (by rw [Bj];omega)]
theorem Gw {P:Program} {t q s b:Nat} {cells C:List IV} {bk:List BA} {K:List BA->Prop} (ht:tyK P t=some (q,s)) (hs:C.length=s) (hb:Cm b bk=some (.arr b cells)) (hl:cells.length=s) (hK:K (Dg b [.arr b C] bk)):Az P t (.bp b 0) (.aggI C) bk K:=by
 rw [Ap,ht]
 refine ⟨rfl,by rw [Lg,List.length_map];exact hs,?_⟩
 rw [hb]
 refine ⟨C,by rw [Lg,V6],by rw [Lg];exact Vr C,by omega,?_⟩
 rw [Wz (by omega)]
 exact Am hK
attribute [local irreducible] AW AWY Cf Bf vop Bw Bh Bx qop Cg Cz Az Aw C5 A7 Bl
attribute [local go_sem] Ee Fa Ce Qe Kt M6 Ku
def Uq (x:Aq) (it:List Ad) (m:Nat) (o:Nat):Bool:=Ae x.blur o || (F6 it (x.writes.take m)).any fun p=>decide (p=(o:Int))
theorem B28 (f:Nat->Bool):A7 Tryz.prog A9 167 [.aggI (Cj f)] (.iv (spI (C8 f))) []:=(B85 f).frz trivial
set_option maxHeartbeats 3200000 in
set_option maxRecDepth 100000 in
theorem A55 (x:Aq) (it:List Ad) (hF:Ag x=true):A7 Tryz.prog A9 100 [F3 x,.iv (spI it)] (.tup [F3 (Dl x it),.val (.int .i64 0)]) []:=by
 refine A7.of (n:=62) (rs:=[.cell 4 37,.tmp 5]) Tryz.func100 rfl (by kernel_rfl) Tryz.ntmps100 (by kernel_rfl) (by simp) (fun _ _=>A9.later) ?_
 intro hok V w0
 have hlen:x.writes.length<=1073741824:=by simpa using hok.1.2.2.2.1.1
 have hrf:=L6 x
 rw [hF] at hrf
 refine g ?_
 refine AW.seq ?_
 refine AW.reg rfl fun KK hKK=>?_
 refine g ?_
 repeat' (refine hKK _ (g ?_);clear hKK KK)
 refine AW.freeze 300 _ rfl ⟨trivial,trivial,trivial,trivial,trivial⟩ ?_
 simp only [go_sem,reduceIte,Nat.reduceEqDiff]
 refine g ?_
 repeat' refine st_ rfl (g ?_)
 refine Ab hrf rfl ?_
 refine g ?_
 repeat' refine st_ rfl (g ?_)
 refine Ab (Hf it) rfl ?_
 refine g ?_
 refine Gw (q:=2) (s:=256) (by kernel_rfl) (Bj _) rfl (by simp [rep]) ?_
 refine g ?_
 repeat' refine st_ rfl (g ?_)
 refine Ab (Hf x.blur) rfl ?_
 refine g ?_
 refine Gw (q:=2) (s:=256) (by kernel_rfl) (Bj _) rfl (by simp [rep]) ?_
 refine g ?_
 refine AW.freeze 700 _ rfl trivial ?_
 simp only [go_sem,reduceIte,Nat.reduceEqDiff]
 refine g ?_
 repeat' refine st_ rfl (g ?_)
 refine AW.drawn (ds:=[19,20,21,22,23,24,25,8]) (fin:=[0,1,3]) (bs:=[2,2,2,2,2,2,2,2,3]) [⟨[],[],[],[],0⟩,⟨[(19,0)],[],[0,1],[],0⟩,⟨[(20,1)],[],[0,1],[],0⟩,⟨[],[],[],[],0⟩,⟨[(22,3)],[],[0,1],[],0⟩,⟨[(23,4)],[],[0,1],[],0⟩,⟨[(21,2),(24,5)],[],[],[],0⟩,⟨[],[],[],[],1⟩,⟨[(8,7),(25,6)],[],[],[2],1⟩] (by kernel_rfl) rfl (by kernel_rfl) rfl rfl rfl fun KD hKD=>?_
 refine g ?_
 refine Ab (N9 x.start) rfl ?_
 refine g ?_
 refine Ab (N9 x.end_) rfl ?_
 refine g ?_
 repeat' (refine hKD _ _ ⟨rfl,g ?_⟩;clear hKD KD)
 refine g ?_
 repeat' refine st_ rfl (g ?_)
 have e0:Cj (Uq x it 0)=Cj (fun o=>Ae x.blur o):=Bo fun o ho=>by simp [Uq,F6]
 refine AW.adoptC 900 3 9900 49 4 rfl rfl rfl ?_
 refine AW.loop (fun m:{m:Nat // m<=x.writes.length}=>⟨[(2,.ip [stI x.start,stI x.end_,spI x.blur,wrI x.writes]),(4,.bp 500 0),(5,.val (.int .i64 0)),(6,.ip (Cj fun o=>Ae it o)),(7,.bp 800 0),(8,.bp 900 0),(9,.val (.int .i64 (m.1:Nat)))],[.row 9900 49 4 ((Ya it (x.writes.take m.1)).map enW),.arr 800 (Cj (Uq x it m.1)),.box 900 [.iv (stI x.start),.iv (stI x.end_),.val (.slice none 0 0),.own 9900],.box 500 [.val (.slice none 0 0),.val (.slice none 0 0),.val (.slice none 0 0),.val (.slice none 0 0)]]⟩) (fun m=>x.writes.length - m.1) ⟨0,Nat.zero_le _⟩ id ⟨⟨rfl,rfl,rfl,rfl,rfl,rfl,rfl,trivial⟩,⟨rfl,?_,rfl,rfl,trivial⟩,by simp [Au,BA.id]⟩ fun ⟨m,hm⟩=>?_
 ·exact congrArg (fun C=>some (BA.arr 800 C)) e0.symm
 repeat (refine AW.seq ?_)
 refine AW.reg rfl fun KK hKK=>?_
 refine g ?_
 repeat' (refine hKK _ (g ?_);clear hKK KK)
 repeat (refine AW.seq ?_)
 refine st_ rfl ?_
 refine g ?_
 refine C9 (fun h=>?_) (fun h=>?_)
 ·have hlt:m < x.writes.length:=by simpa using h
  obtain ⟨-,o1,o2,o3,o4,-⟩:=En hok.1.2.2.2.1.2 (enW x.writes[m]) (List.mem_map_of_mem (List.getElem_mem hlt))
  obtain ⟨-,y0,y1,-⟩:=(Fv.1 (Cl.1 hF).2.2.2.2).1 x.writes[m] (List.getElem_mem hlt)
  have hto:((x.writes[m].object.toNat:Nat):Int)=x.writes[m].object:=by omega
  have hsh:By it x.writes[m].object=Ae it x.writes[m].object:=by unfold By;simp [y0,y1]
  have hs1:=A01 it (x.writes.take m) x.writes[m]
  have hs2:=V2 it (x.writes.take m) x.writes[m]
  rw [<-List.take_succ_eq_append_getElem hlt] at hs1 hs2
  refine g ?_
  repeat' refine st_ rfl (g ?_)
  refine ⟨by omega,_,Cb (List.getElem?_eq_getElem hlt),?_⟩
  refine g ?_
  repeat' refine Am (g ?_)
  refine ⟨by omega,by omega,?_⟩
  rw [Nat.mul_one]
  refine g ?_
  repeat' refine Am (g ?_)
  refine F2 (Cv (by omega)) ?_
  rw [hto,<-hsh]
  cases hh:By it x.writes[m].object
  ·rw [hh] at hs1 hs2
   refine g ?_
   repeat' refine st_ rfl (g ?_)
   refine ⟨by omega,_,Cb (List.getElem?_eq_getElem hlt),?_⟩
   refine g ?_
   repeat' refine Am (g ?_)
   refine ⟨by omega,by omega,?_⟩
   rw [Nat.mul_one,Nat.zero_add]
   refine g ?_
   repeat' refine Am (g ?_)
   refine ⟨_,rfl,⟨trivial,trivial⟩,by rw [Bj];omega,?_⟩
   refine g ?_
   repeat' (first | refine st_ rfl (g ?_) | refine Am (g ?_))
   refine ⟨⟨m+1,hlt⟩,id,⟨⟨rfl,rfl,rfl,rfl,rfl,rfl,rfl,trivial⟩,⟨?_,?_,rfl,rfl,trivial⟩,by simp [Au,BA.id]⟩,by show x.writes.length - (m+1) < x.writes.length - m;omega⟩
   ·rw [hs1];rfl
   ·refine congrArg (fun C=>some (BA.arr 800 C)) ((Bg7 (by omega)).trans (Bo fun o ho=>?_))
    unfold Uq
    rw [hs2,if_neg (by decide),List.any_append,Bool.or_assoc]
    congr 2
    simp
    omega
  ·rw [hh] at hs1 hs2
   refine g ?_
   repeat' refine st_ rfl (g ?_)
   refine AW.drawn (ds:=[41,42,43,44,45,46,47,48,49,50]) (fin:=[1,3,4,5,6]) (bs:=[4,4,4,4,4,4,4,4,5,6,6]) [⟨[],[],[],[],0⟩,⟨[(41,0)],[],[0,1,2,3],[],0⟩,⟨[],[],[],[],0⟩,⟨[(43,2)],[],[0,1,2,3],[],0⟩,⟨[],[],[],[],0⟩,⟨[(44,3),(45,4)],[],[0,1,2,3],[],0⟩,⟨[(46,5)],[],[0,1,2,3],[],0⟩,⟨[(47,6)],[],[],[],1⟩,⟨[(42,1),(48,7)],[],[1,2,3,4],[0],1⟩,⟨[],[],[],[],0⟩,⟨[(50,9),(49,8)],[],[],[2],1⟩] (by kernel_rfl) rfl (by kernel_rfl) rfl rfl rfl fun KD hKD=>?_
   refine g ?_
   refine ⟨by omega,_,Cb (List.getElem?_eq_getElem hlt),?_⟩
   refine g ?_
   repeat' refine Am (g ?_)
   refine bs1 (by omega) rfl rfl rfl ⟨o1,o2,o3,o4,trivial⟩ ?_
   refine g ?_
   have hl2:=A85 it (x.writes.take m)
   rw [List.length_take] at hl2
   refine C4 rfl (by kernel_rfl) (by omega) (by kernel_rfl) rfl (by simp;omega) ?_
   refine g ?_
   repeat' (refine hKD _ _ ⟨rfl,g ?_⟩;clear hKD KD)
   refine g ?_
   repeat' refine st_ rfl (g ?_)
   refine ⟨⟨m+1,hlt⟩,fun b=>if b=9900 then 5000 else b,⟨⟨rfl,rfl,rfl,rfl,rfl,rfl,rfl,trivial⟩,⟨?_,?_,rfl,rfl,trivial⟩,by simp [Au,BA.id]⟩,by show x.writes.length - (m+1) < x.writes.length - m;omega⟩
   ·rw [hs1,if_pos rfl,List.map_append];rfl
   ·refine congrArg (fun C=>some (BA.arr 800 C)) (Bo fun o ho=>?_)
    unfold Uq
    rw [hs2,if_pos rfl]
 ·obtain rfl:m=x.writes.length:=by simp at h;omega
  refine AW.freeze 9900 _ rfl trivial ?_
  simp only [go_sem,reduceIte,Nat.reduceEqDiff]
  refine g ?_
  repeat' refine st_ rfl (g ?_)
  refine ⟨(Bj _).symm,?_⟩
  refine Ab (B28 _) rfl ?_
  refine g ?_
  repeat' refine st_ rfl (g ?_)
  rw [List.take_length,show C8 (Uq x it x.writes.length)=Gv x it by rw [Jf];unfold Uq;rw [List.take_length]]
  first | exact trivial | exact ⟨.inl trivial,id,rfl,List.nodup_nil⟩ | exact ⟨.inl trivial,id,trivial,List.nodup_nil⟩
end Go.Proofs.YthlgnjlpakimaaaGreatDoor
namespace Go.Proofs.YthlgnjlpakimaaaGreatDoor
open Go.ChangeShapes Go.WideShapes Go.ChangeAt Go.RowKit
attribute [local irreducible] Cj R4
attribute [local irreducible] AW AWY Cf Bf vop Bw Bh Bx qop Cg Cz Az Aw C5 A7 Bl
attribute [local go_sem] Ce Qe Kt M6 Ku Ee List.map_nil Af3 List.length_nil
theorem Ce4 (c:Nat->Int) (hc:∀ n,n < 64->I64 (c n)):A7 Tryz.prog A9 158 [.aggI (R4 c)] (.iv (stI (Eg c))) []:=(B84 c hc).frz trivial
theorem Bx2 (l m:List Aa):A7 Tryz.prog A9 28 [.iv (stI l),.iv (stI m)] (.iv (stI (Dq [l,m]))) []:=(A02 l m).frz trivial
theorem Bx4 (l m:List Ad):A7 Tryz.prog A9 169 [.iv (spI l),.iv (spI m)] (.iv (spI (Ba (l++m)))) []:=(Aw0 l m).frz trivial
theorem Sb:∀ {l:List Aa} (_:∀ s∈l,I64 s.count) (n:Int),I64 (A8 l n)
 | [],_,_=>rfl
 | s :: l,h,n=>by
  unfold A8
  split
  ·exact h s (by simp)
  ·exact Sb (fun t ht=>h t (List.mem_cons_of_mem _ ht)) n
theorem B38 (o:Int):A7 Tryz.prog A9 157 [Vs,.val (.int .i64 o)] (.tup [.agg [.val (.int .i64 0),.val (.int .i64 0),.val (.int .i64 0),.val (.bool false)],.val (.bool false)]) []:=by
 refine A7.of (n:=25) (rs:=[.cell 4 49,.tmp 5]) Tryz.func157 rfl (by kernel_rfl) Tryz.ntmps157 (by kernel_rfl) (by simp) (fun _ _=>A9.later) ?_
 intro hok V w0
 refine g ?_
 refine g ?_
 repeat' refine st_ rfl (g ?_)
 refine AW.loop (fun _:Unit=>⟨[(0,Vs),(4,.bp 500 0),(6,.val (.int .i64 0))],[.box 500 [.val (.int .i64 0),.val (.int .i64 0),.val (.int .i64 0),.val (.bool false)]]⟩) (fun _=>0) () id ⟨⟨rfl,rfl,rfl,trivial⟩,⟨rfl,trivial⟩,by simp [Au,BA.id]⟩ fun _=>?_
 refine g ?_
 repeat' refine st_ rfl (g ?_)
 first | exact trivial | exact ⟨.inl trivial,id,List.nodup_nil⟩ | exact ⟨.inl trivial,id,rfl,List.nodup_nil⟩
set_option maxHeartbeats 3200000 in
set_option maxRecDepth 100000 in
theorem Al1 (a b:Aq) (ha:Ag a=true) (hb:Ag b=true) (hwa:a.writes=[]) (hwb:b.writes=[]) (he:a.end_=b.start):A7 Tryz.prog A9 102 [F3 a,F3 b] (.tup [F3 (Kx a b),.val (.int .i64 0)]) []:=by
 have hva:=L6 a
 have hvb:=L6 b
 rw [ha] at hva
 rw [hb] at hvb
 have hsa:=(Cl.1 ha).1
 obtain ⟨sa,ea,ba,wa⟩:=a
 obtain ⟨sb,eb,bb,wb⟩:=b
 simp only at hwa hwb he hsa
 subst hwa hwb he
 refine A7.ofS (n:=116) (rs:=[.cell 4 37,.tmp 5]) Tryz.func102 rfl (by kernel_rfl) Tryz.ntmps102 (by kernel_rfl) (by simp) (fun _ _=>A9.later) ?_
 intro hok V w0
 have hsi:∀ s∈sa,I64 s.count:=fun s hs=>by
  obtain ⟨-,h1,-⟩:=En hok.1.1.2 (Xo s) (List.mem_map_of_mem hs)
  exact h1
 refine g ?_
 refine AW.seq ?_
 refine AW.reg rfl fun KK hKK=>?_
 refine g ?_
 repeat' (refine hKK _ (g ?_);clear hKK KK)
 refine AW.freeze 300 _ rfl ⟨trivial,trivial,trivial,trivial,trivial⟩ ?_
 simp only [go_sem,reduceIte,Nat.reduceEqDiff]
 refine AW.freeze 400 _ rfl ⟨trivial,trivial,trivial,trivial,trivial⟩ ?_
 simp only [go_sem,reduceIte,Nat.reduceEqDiff]
 refine g ?_
 repeat' refine st_ rfl (g ?_)
 refine Ab hva rfl ?_
 refine g ?_
 refine Ab hvb rfl ?_
 refine g ?_
 repeat' refine st_ rfl (g ?_)
 refine AW.drawn (ds:=[26,27,28,29,30,31,32,33,34,6,7,8]) (fin:=[0,4,5,6]) (bs:=[1,1,1,1,1,1,1,1,1,1,2,3,4,5,6]) [⟨[],[],[],[],0⟩,⟨[(26,0)],[],[0],[],0⟩,⟨[(27,1)],[],[0],[],0⟩,⟨[],[],[],[],0⟩,⟨[(29,3)],[],[0],[],0⟩,⟨[(30,4)],[],[0],[],0⟩,⟨[],[],[],[],0⟩,⟨[(32,6)],[],[0],[],0⟩,⟨[(33,7)],[],[0],[],0⟩,⟨[],[],[],[],1⟩,⟨[],[],[],[],1⟩,⟨[],[],[],[],1⟩,⟨[(6,9),(28,2)],[],[],[1],1⟩,⟨[(7,10),(31,5)],[],[],[2],1⟩,⟨[(8,11),(34,8)],[],[],[3],1⟩] (by kernel_rfl) rfl (by kernel_rfl) rfl rfl rfl fun KD hKD=>?_
 refine g ?_
 refine Ab (Qo sa) rfl ?_
 refine g ?_
 refine Ab (Qo ea) rfl ?_
 refine g ?_
 refine Ab (Qo ea) rfl ?_
 refine g ?_
 refine Gw (q:=2) (s:=64) (by kernel_rfl) (Sf _) rfl (by simp [rep]) ?_
 refine g ?_
 refine Gw (q:=2) (s:=64) (by kernel_rfl) (Sf _) rfl (by simp [rep]) ?_
 refine g ?_
 refine Gw (q:=2) (s:=64) (by kernel_rfl) (Sf _) rfl (by simp [rep]) ?_
 refine g ?_
 repeat' (refine hKD _ _ ⟨rfl,g ?_⟩;clear hKD KD)
 refine AW.freeze 700 _ rfl trivial ?_
 simp only [go_sem,reduceIte,Nat.reduceEqDiff]
 refine AW.freeze 800 _ rfl trivial ?_
 simp only [go_sem,reduceIte,Nat.reduceEqDiff]
 refine AW.freeze 900 _ rfl trivial ?_
 simp only [go_sem,reduceIte,Nat.reduceEqDiff]
 refine g ?_
 repeat' refine st_ rfl (g ?_)
 refine AW.loop (fun m:{m:Nat // m<=64}=>⟨[(2,.ip [stI sa,stI ea,spI ba,.sl 4 []]),(3,.ip [stI ea,stI eb,spI bb,.sl 4 []]),(4,.bp 500 0),(5,.val (.int .i64 0)),(6,.ip (R4 fun n=>A8 sa n)),(7,.ip (R4 fun n=>A8 ea n)),(8,.ip (R4 fun n=>A8 ea n)),(9,.val (.int .i64 (m.1:Nat)))],[.box 500 [.val (.slice none 0 0),.val (.slice none 0 0),.val (.slice none 0 0),.val (.slice none 0 0)]]⟩) (fun m=>64 - m.1) ⟨0,Nat.zero_le _⟩ id ⟨⟨rfl,rfl,rfl,rfl,rfl,rfl,rfl,rfl,trivial⟩,⟨rfl,trivial⟩,by simp [Au,BA.id]⟩ fun ⟨m,hm⟩=>?_
 refine g ?_
 repeat' (first | refine st_ rfl (g ?_) | refine C9 (fun h=>g ?_) (fun h=>g ?_))
 ·have hlt:m < 64:=by have:=of_decide_eq_true h;omega
  refine AW.drawn (ds:=[39,40,41,42,43,44,45]) (fin:=[0]) (bs:=[1,1,1,1,1,1,1]) [⟨[],[],[],[],0⟩,⟨[(39,0)],[],[0],[],0⟩,⟨[(40,1)],[],[0],[],0⟩,⟨[],[],[],[],0⟩,⟨[(42,3)],[],[0],[],0⟩,⟨[(43,4)],[],[0],[],0⟩,⟨[(41,2),(44,5)],[],[],[],0⟩] (by kernel_rfl) rfl (by kernel_rfl) rfl rfl rfl fun KD hKD=>?_
  refine g ?_
  refine ⟨by omega,by omega,?_⟩
  rw [Nat.mul_one]
  refine g ?_
  repeat' refine Am (g ?_)
  refine F2 (B53 hlt) ?_
  refine g ?_
  refine ⟨by omega,by omega,?_⟩
  rw [Nat.mul_one]
  refine g ?_
  repeat' refine Am (g ?_)
  refine F2 (B53 hlt) ?_
  refine g ?_
  repeat' (refine hKD _ _ ⟨rfl,g ?_⟩;clear hKD KD)
  refine g ?_
  repeat' (first | refine st_ rfl (g ?_) | refine C9 (fun h=>g ?_) (fun h=>g ?_))
  ·exact absurd (of_decide_eq_true h) (Int.lt_irrefl _)
  exact ⟨⟨m+1,hlt⟩,id,⟨⟨rfl,rfl,rfl,rfl,rfl,rfl,rfl,rfl,trivial⟩,⟨rfl,trivial⟩,by simp [Au,BA.id]⟩,by show 64 - (m+1) < 64 - m;omega⟩
 ·clear hm h
  refine AW.drawn (ds:=[51,52,53,54,55,56,57,58,59,60,61,62,63,10]) (fin:=[0,2]) (bs:=[1,1,1,1,1,1,1,1,1,1,1,1,1,1,2]) [⟨[],[],[0],[],0⟩,⟨[(51,0)],[],[0],[],0⟩,⟨[],[],[],[],0⟩,⟨[(53,2)],[],[0],[],0⟩,⟨[],[],[],[],0⟩,⟨[(55,4)],[],[0],[],0⟩,⟨[(54,3),(56,5)],[],[0],[],0⟩,⟨[],[],[],[],0⟩,⟨[(58,7)],[],[0],[],0⟩,⟨[],[],[],[],0⟩,⟨[(60,9)],[],[0],[],0⟩,⟨[(59,8),(61,10)],[],[0],[],0⟩,⟨[(52,1),(57,6),(62,11)],[],[],[],0⟩,⟨[],[],[],[],1⟩,⟨[(10,13),(63,12)],[],[],[1],1⟩] (by kernel_rfl) rfl (by kernel_rfl) rfl rfl rfl fun KD hKD=>?_
  refine g ?_
  refine ⟨Nat.le_of_eq (Sf _).symm,?_⟩
  rw [List.take_of_length_le (Nat.le_of_eq (Sf _))]
  refine Ab (Ce4 (fun n=>A8 sa n) (fun n _=>Sb hsi n)) rfl ?_
  refine g ?_
  refine Ab (Bx2 ea eb) rfl ?_
  refine g ?_
  refine Ab (Bx4 ba bb) rfl ?_
  refine g ?_
  repeat' (refine hKD _ _ ⟨rfl,g ?_⟩;clear hKD KD)
  refine g ?_
  repeat' refine st_ rfl (g ?_)
  refine Ab (Hf (Ba (ba++bb))) rfl ?_
  refine g ?_
  refine Gw (q:=2) (s:=256) (by kernel_rfl) (Bj _) rfl (by simp [rep]) ?_
  refine g ?_
  refine AW.freeze 1200 _ rfl trivial ?_
  simp only [go_sem,reduceIte,Nat.reduceEqDiff]
  refine g ?_
  repeat' refine st_ rfl (g ?_)
  refine AW.loop (fun m:{m:Nat // m<=256}=>⟨[(2,.ip [stI sa,stI ea,spI ba,.sl 4 []]),(3,.ip [stI ea,stI eb,spI bb,.sl 4 []]),(4,.bp 500 0),(5,.val (.int .i64 0)),(10,.bp 1100 0),(11,.ip (Cj fun o=>Ae (Ba (ba++bb)) o)),(12,.val (.int .i64 (m.1:Nat)))],[.box 1100 [.iv (stI (Eg fun n=>A8 sa n)),.iv (stI (Dq [ea,eb])),.iv (spI (Ba (ba++bb))),.val (.slice none 0 0)],.box 500 [.val (.slice none 0 0),.val (.slice none 0 0),.val (.slice none 0 0),.val (.slice none 0 0)]]⟩) (fun m=>256 - m.1) ⟨0,Nat.zero_le _⟩ id ⟨⟨rfl,rfl,rfl,rfl,rfl,rfl,rfl,trivial⟩,⟨rfl,rfl,trivial⟩,by simp [Au,BA.id]⟩ fun ⟨m,hm⟩=>?_
  refine g ?_
  repeat' (first | refine st_ rfl (g ?_) | refine C9 (fun h=>g ?_) (fun h=>g ?_))
  ·have hlt:m < 256:=by have:=of_decide_eq_true h;omega
   refine Ab (B38 (m:Nat)) rfl ?_
   refine g ?_
   repeat' refine st_ rfl (g ?_)
   refine Ab (B38 (m:Nat)) rfl ?_
   refine g ?_
   repeat' refine st_ rfl (g ?_)
   exact ⟨⟨m+1,hlt⟩,id,⟨⟨rfl,rfl,rfl,rfl,rfl,rfl,rfl,trivial⟩,⟨rfl,rfl,trivial⟩,by simp [Au,BA.id]⟩,by show 256 - (m+1) < 256 - m;omega⟩
  ·rw [Rg hsa]
   refine ⟨.inl trivial,id,Je rfl fun p hp=>?_,List.nodup_nil⟩
   simp only [List.zip_cons_cons,List.zip_nil_right,List.mem_cons,List.not_mem_nil,or_false] at hp
   rcases hp with rfl | rfl
   ·refine Z8 rfl fun p hp=>?_
    simp only [List.zip_cons_cons,List.zip_nil_right,List.mem_cons,List.not_mem_nil,or_false] at hp
    rcases hp with rfl | rfl | rfl | rfl
    ·exact D1.rfl_ _
    ·exact D1.rfl_ _
    ·exact D1.rfl_ _
    ·exact Cs 4
   ·exact D1.rfl_ _
end Go.Proofs.YthlgnjlpakimaaaGreatDoor
