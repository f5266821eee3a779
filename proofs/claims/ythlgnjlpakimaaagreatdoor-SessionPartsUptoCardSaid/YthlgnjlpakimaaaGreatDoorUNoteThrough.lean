/- A formed note, as one sees it who has an interest (the program's). -/
import Derived.Test.YthlgnjlpakimaaaGreatDoorUAbsNil
import Derived.Test.YthlgnjlpakimaaaGreatDoorUGoes
import Derived.Test.YthlgnjlpakimaaaGreatDoorUBridge2
set_option linter.all false
set_option linter.unnecessarySimpa false
set_option linter.unusedSimpArgs false
set_option linter.unusedVariables false
namespace Go.Proofs.YthlgnjlpakimaaaGreatDoor
open Go.ChangeShapes Go.WideShapes Go.ChangeAt Go.RowKit
section
variable {P : Program} {t : TypeId} {e k c b : Nat} {l m : List (List IV)} {y : AV} {bk : List BA} {K : AV -> List BA -> Prop}
theorem C6 (hb:Cd b bk=some (.row b e k l)) (ht:(Ep P t).map (fun q=>(q.1,q.2.1,Nat.ble q.2.2 131072))=some (e,k,true)) (hk:0 < k) (hz:(tyZ P e).map (fun z=>z.2.length)=some k)
  (hs:B84 bk k (nrm y)=some m) (hlen:l.length+m.length<=1073741824) (hK:K (.own c) (.row c e k (l++m) :: D2 b [] bk)):Ap P t (.own b) y c bk K:=by
 unfold Ap
 obtain ⟨⟨e',k',yb⟩,h1,h2⟩:=Option.map_eq_some_iff.1 ht
 simp only [Prod.mk.injEq] at h2
 obtain ⟨rfl,rfl,h3⟩:=h2
 rw [h1]
 refine ⟨hk,Nat.le_of_ble_eq_true h3,hz,?_⟩
 rw [show nrm (.own b)=.own b from rfl,hs]
 simp only [hb]
 exact ⟨trivial,trivial,hlen,hK⟩
theorem append_nil (ht:(Ep P t).map (fun q=>(q.1,q.2.1,Nat.ble q.2.2 131072))=some (e,k,true)) (hk:0 < k) (hz:(tyZ P e).map (fun z=>z.2.length)=some k)
  (hs:B84 bk k (nrm y)=some m) (hlen:m.length<=1073741824) (hK:K (.own c) (.row c e k m :: bk)):Ap P t (.val (.slice none 0 0)) y c bk K:=by
 unfold Ap
 obtain ⟨⟨e',k',yb⟩,h1,h2⟩:=Option.map_eq_some_iff.1 ht
 simp only [Prod.mk.injEq] at h2
 obtain ⟨rfl,rfl,h3⟩:=h2
 rw [h1]
 refine ⟨hk,Nat.le_of_ble_eq_true h3,hz,?_⟩
 rw [show nrm (.val (.slice none 0 0))=.val (.slice none 0 0) from rfl,hs]
 exact ⟨hlen,hK⟩
end
section
variable {P : Program} {G : World -> Prop} {α : Type} {encs : α -> List AV} {Sp : List α -> Prop} {Y : YC P G encs Sp} {n : Nat} {y : Ys α} {σ : Ah} {K : Exit -> Ys α -> Ah -> Prop} {c : Code}
theorem AWY.frzEnd (b:Nat) (h:AWY Y n c y σ fun e y' σ'=>y'.on=true/\∃ x,Cd b σ'.bk=some x/\okB x/\K e y' ⟨Wh x σ'.fr,Gv x (D2 b [] σ'.bk)⟩):AWY Y n c y σ K:=fun a W hs =>
 wpIn_mono (h a W hs) fun e a' W' ⟨y',σ',⟨hon,x,hx,hok,hK⟩,hat⟩=>by
  refine ⟨y',_,hK,?_⟩
  rw [YC.at_go hon] at hat ⊢
  obtain ⟨V,w0,m0,E,h1,h2,hst,h4⟩:=hat
  obtain ⟨pre,post,e1,e2,e3⟩:=De hx
  obtain ⟨fr,bk⟩:=σ'
  simp only at e1 e3 hst ⊢
  have e4:=e3 []
  subst e1
  rw [e4]
  exact ⟨V,w0,m0,E,h1,h2,by simpa using St.frz hst hok,h4⟩
end
section
variable {V w0 : World} {m : Fm} {E : Env} {a : Act} {w : World} {fr : List (Nat × AV)} {pre post : List BA} {b : Nat} {cs cs' : List AV}
theorem St.rebox (h:St V w0 m E ⟨fr,pre++.box b cs :: post⟩ a w) (hs:∀ vs:List Value,At E (vis V w0 w (Ac E (pre++.box b cs :: post))) vs cs->At E (vis V w0 w (Ac E (pre++.box b cs :: post))) vs cs'):St V w0 m E ⟨fr,pre++.box b cs' :: post⟩ a w:=by
 have ho:Ac E (pre++.box b cs' :: post)=Ac E (pre++.box b cs :: post):=by simp [Au,Ac,BA.owned]
 refine ⟨h.ext,h.low,by rw [ho];exact h.apart,by rw [ho];exact h.base,fun x hx=>?_,fun i=>by rw [ho];exact h.slots i,h.size,h.defers,?_⟩
 ·rw [ho]
  rcases List.mem_append.1 hx with hx | hx
  ·exact h.holds x (List.mem_append_left _ hx)
  ·rcases List.mem_cons.1 hx with rfl | hx
   ·obtain ⟨C,t,h1,h2⟩:=h.holds (.box b cs) (by simp)
    exact ⟨C,t,h1,hs _ h2⟩
   ·exact h.holds x (List.mem_append_right _ (List.mem_cons_of_mem _ hx))
 ·have:=h.hold
  simp only [ho]
  exact this
end
section
variable {P : Program} {G : World -> Prop} {ro : Option Nat} {V w0 : World} {n : Nd} {σ : Ah} {K : Exit -> Ah -> Prop}
theorem AW.adoptB {c:Code} (b r e k:Nat) (hb:Cd b σ.bk=some (.box b [.val (.slice none 0 0)])) (hf:(Ky r (r+1) σ.fr&&Jf r (r+1) σ.bk)=true) (h:AW P G ro V w0 n c ⟨σ.fr,.row r e k [] :: D2 b [.box b [.own r]] σ.bk⟩ K):AW P G ro V w0 n c σ K:=fun hG m0 E a w hn hs=>by
 rw [Bool.and_eq_true] at hf
 have hE:Env.same r (r+1) E ⟨E.blk,fun x=>if x=r then .slice none 0 0 else E.row x⟩:=fun x hx=>by
  have:¬ x=r:=by omega
  simp [this]
 have ho:Ac ⟨E.blk,fun x=>if x=r then .slice none 0 0 else E.row x⟩ [.row r e k []]=[]:=by simp [Ac,BA.owned,Value.ownBlock]
 have hs2:=hs.add (E':=⟨E.blk,fun x=>if x=r then .slice none 0 0 else E.row x⟩) (nb:=[.row r e k []]) (Below.refl _ w) hE hf.1 hf.2 (by rw [ho];exact List.nodup_nil) (fun g hg=>by rw [ho] at hg;cases hg) (fun x hx=>by
  simp only [List.mem_singleton] at hx
  subst hx
  refine ⟨?_,fun g hg=>by simp [Value.ownBlock] at hg⟩
  simp only [if_true]
  exact Ae.nil_ _ _ _)
 obtain ⟨pre,post,e1,e2,e3⟩:=De hb
 obtain ⟨fr,bk⟩:=σ
 simp only at e1 e3 hs2 h
 have e4:=e3 [.box b [.own r]]
 subst e1
 rw [e4] at h
 have hs3:St V w0 m0 ⟨E.blk,fun x=>if x=r then .slice none 0 0 else E.row x⟩ ⟨fr,(.row r e k [] :: pre)++.box b [.val (.slice none 0 0)] :: post⟩ a w:=by simpa using hs2
 have hs4:=hs3.rebox (cs':=[.own r]) fun vs hv=>by
  obtain ⟨v,vs',h1,h2,h3⟩:=At.cons_iff.1 hv
  rw [At.nil_iff] at h3
  subst h3
  rw [h1]
  cases h2
  exact At.cons (.own (by simp)) At.nil
 refine h hG m0 _ a w hn (by simpa using hs4)
end
attribute [local irreducible] AW AWY Bw Bc vop Bj Az Bi qop By Ce Ar Ap Bo A7 Bd
attribute [local go_sem] Dp Ei C3 Ai An
theorem C69 (os:List Int):A7 Tryz.prog A8 126 [.iv (inI os)] (.iv (spI (B9 (Ng os)))) []:=(B87 os).frz trivial
def enI (n:Int):List IV:=[.val (.int .i64 n)]
set_option maxHeartbeats 1600000 in
set_option maxRecDepth 100000 in
theorem A50 (x:B7) (it:List Ad) (hF:Al x=true):A7 Tryz.prog A8 173 [Et x,.iv (spI it)] (.tup [Et (G1 x it),.val (.int .i64 0)]) []:=by
 refine A7.of (n:=49) (rs:=[.cell 4 37,.tmp 5]) Tryz.func173 rfl (by kernel_rfl) Tryz.ntmps173 (by kernel_rfl) (by simp) (fun _ _=>A8.later) ?_
 intro hok V w0
 have hlen:x.writes.length<=1073741824:=by simpa using hok.1.2.2.2.1.1
 refine g ?_
 refine AW.seq ?_
 refine AW.reg rfl fun KK hKK=>?_
 refine g ?_
 repeat' (refine hKK _ (g ?_);clear hKK KK)
 refine AW.freeze 300 _ rfl ⟨trivial,trivial,trivial,trivial,trivial⟩ ?_
 simp only [go_sem,reduceIte]
 refine g ?_
 repeat' refine st_ rfl (g ?_)
 refine Aa (L0 x) rfl ?_
 rw [hF]
 refine g ?_
 repeat' refine st_ rfl (g ?_)
 refine AW.adopt 6 700 49 4 rfl rfl ?_
 refine AW.adopt 7 800 3 1 rfl rfl ?_
 refine AW.loop (fun m:{m:Nat // m<=x.writes.length}=>⟨[(1,.iv (spI it)),(2,.ip [stI x.start,stI x.end_,spI x.blur,wrI x.writes]),(4,.bp 500 0),(6,.own 700),(7,.own 800),(15,.iv (wrI x.writes)),(16,.val (.int .i64 (x.writes.length:Nat))),(17,.val (.int .i64 (m.1:Nat)))],
  [.row 700 49 4 ((Vm it (x.writes.take m.1)).map enW),.row 800 3 1 ((Em it (x.writes.take m.1)).map enI),.box 500 [.val (.slice none 0 0),.val (.slice none 0 0),.val (.slice none 0 0),.val (.slice none 0 0)]]⟩) (fun m=>x.writes.length - m.1) ⟨0,Nat.zero_le _⟩ id ⟨⟨rfl,rfl,rfl,rfl,rfl,rfl,rfl,rfl,trivial⟩,⟨rfl,rfl,rfl,trivial⟩,by simp [Ay,BA.id]⟩ fun ⟨m,hm⟩=>?_
 refine g ?_
 repeat' (first | refine st_ rfl (g ?_) | refine Cl (fun h=>g ?_) (fun h=>g ?_))
 ·have hlt:m < x.writes.length:=by simpa using h
  refine ⟨by omega,_,Cg (List.getElem?_eq_getElem hlt),?_⟩
  refine g ?_
  repeat' (first | refine st_ rfl (g ?_) | refine Aj (g ?_))
  obtain ⟨-,o1,o2,o3,o4,-⟩:=Gc hok.1.2.2.2.1.2 (enW x.writes[m]) (List.mem_map_of_mem (List.getElem_mem hlt))
  refine Aa (A03 it x.writes[m].object) rfl ?_
  have hs1:=Xq it (x.writes.take m) x.writes[m]
  have hs2:=Sq it (x.writes.take m) x.writes[m]
  rw [<-List.take_succ_eq_append_getElem hlt] at hs1 hs2
  cases hh:Bv it x.writes[m].object
  ·rw [hh] at hs1 hs2
   refine g ?_
   repeat' refine st_ rfl (g ?_)
   refine bs1 (by omega) rfl rfl rfl ⟨o3,trivial⟩ ?_
   refine g ?_
   have hl2:=Ac5 it (x.writes.take m)
   rw [List.length_take] at hl2
   refine C6 rfl (by kernel_rfl) (by omega) (by kernel_rfl) rfl (by simp;omega) ?_
   refine g ?_
   repeat' refine st_ rfl (g ?_)
   refine ⟨⟨m+1,hlt⟩,fun b=>if b=800 then 3400 else b,⟨⟨rfl,rfl,rfl,rfl,rfl,rfl,rfl,rfl,trivial⟩,⟨?_,?_,rfl,trivial⟩,by simp [Ay,BA.id]⟩,by show x.writes.length - (m+1) < x.writes.length - m;omega⟩
   ·rw [hs1];rfl
   ·rw [hs2,if_neg (by decide),List.map_append];rfl
  ·rw [hh] at hs1 hs2
   refine g ?_
   repeat' refine st_ rfl (g ?_)
   refine bs1 (by omega) rfl rfl rfl ⟨o1,o2,o3,o4,trivial⟩ ?_
   refine g ?_
   have hl2:=A08 it (x.writes.take m)
   rw [List.length_take] at hl2
   refine C6 rfl (by kernel_rfl) (by omega) (by kernel_rfl) rfl (by simp;omega) ?_
   refine g ?_
   repeat' refine st_ rfl (g ?_)
   refine ⟨⟨m+1,hlt⟩,fun b=>if b=700 then 2900 else b,⟨⟨rfl,rfl,rfl,rfl,rfl,rfl,rfl,rfl,trivial⟩,⟨?_,?_,rfl,trivial⟩,by simp [Ay,BA.id]⟩,by show x.writes.length - (m+1) < x.writes.length - m;omega⟩
   ·rw [hs1,if_pos rfl,List.map_append];rfl
   ·rw [hs2];rfl
 ·obtain rfl:m=x.writes.length:=by simp at h;omega
  rw [List.take_length]
  refine AW.freeze 700 _ rfl trivial ?_
  simp only [go_sem,reduceIte]
  refine AW.freeze 800 _ rfl trivial ?_
  simp only [go_sem,reduceIte]
  refine AW.drawn (ds:=[35,36,37,38,39,40,41,42,43,44,45,46,47,48,5]) (fin:=[1,2,3]) (bs:=[1,1,1,1,1,1,1,1,1,1,1,2,3,3,3,4]) [⟨[],[],[],[],0⟩,⟨[(35,0)],[],[0],[],0⟩,⟨[(36,1)],[],[0],[],0⟩,⟨[],[],[],[],0⟩,⟨[(38,3)],[],[0],[],0⟩,⟨[(39,4)],[],[0],[],0⟩,⟨[],[],[],[],0⟩,⟨[(41,6)],[],[0],[],0⟩,⟨[],[],[],[],0⟩,⟨[(43,8)],[],[0],[],0⟩,⟨[(42,7),(44,9)],[],[],[],1⟩,⟨[(45,10)],[],[0,1],[],1⟩,⟨[],[],[],[],0⟩,⟨[(37,2),(40,5),(46,11),(47,12)],[],[],[],0⟩,⟨[(48,13)],[],[],[0],1⟩,⟨[],[],[],[],0⟩] (by kernel_rfl) rfl (by kernel_rfl) rfl rfl rfl fun KD hKD=>?_
  refine g ?_
  refine Aa (Lz x.start) rfl ?_
  refine g ?_
  refine Aa (Lz x.end_) rfl ?_
  refine g ?_
  refine Aa (C69 (Em it x.writes)) rfl ?_
  refine g ?_
  refine bs2 (by omega) rfl rfl rfl ⟨trivial,trivial⟩ rfl rfl rfl ⟨trivial,trivial⟩ ?_
  refine g ?_
  refine Qm (Nv [x.blur,B9 (Ng (Em it x.writes))] ?_) ?_ rfl (Ly (A90 _)) (by exact Sbs.rfl_ _) rfl ?_
  ·have h1:=((Ea _).1 (D5.1 hF).2.2.2.1).1
   have h2:(B9 (Ng (Em it x.writes))).length<=128:=Hv _
   simp [Dr];omega
  ·simp [Wf,Ft,okA,okV]
  refine g ?_
  repeat' (refine hKD _ _ ⟨rfl,g ?_⟩;clear hKD KD)
  refine AW.freeze 4700 _ rfl trivial ?_
  simp only [go_sem,reduceIte,Nat.reduceEqDiff]
  refine g ?_
  repeat' refine st_ rfl (g ?_)
  rw [show [x.blur,B9 (Ng (Em it x.writes))].flatten=x.blur++B9 (Ng (Em it x.writes)) by simp]
  first | exact trivial | exact ⟨.inl trivial,id,rfl,List.nodup_nil⟩ | rfl
end Go.Proofs.YthlgnjlpakimaaaGreatDoor
