/- Disks (the program's): formed or not, what is used, one's own, where a file stands, all made sure. -/
import Derived.Test.YtblfjaedaijfoaaGreatDoorQAbsFrz
import Derived.Test.YtblfjaedaijfoaaGreatDoorQMarks
import Derived.Test.YtblfjaedaijfoaaGreatDoorQPack
import Derived.Test.YtblfjaedaijfoaaGreatDoorQPlace
set_option linter.all false
set_option linter.unnecessarySimpa false
set_option linter.unusedSimpArgs false
set_option linter.unusedVariables false
namespace Go.Proofs.YtblfjaedaijfoaaGreatDoor
open Go.ChangeShapes Go.WideShapes Go.ChangeAt Go.RowKit
theorem Ax7 {w:World} {g n:Nat} {e:TypeId} {C:Array Value} (hB:Blk w g e C):(w.freeze ⟨g,n,none⟩ 1).heap.size=w.heap.size/\(∀ k,k≠g->(w.freeze ⟨g,n,none⟩ 1).heap[k]? = w.heap[k]?)/\(∀ p:Addr,(w.freeze ⟨g,n,none⟩ 1).cell? p=w.cell? p):=by
 have hsz:(w.freeze ⟨g,n,none⟩ 1).heap.size=w.heap.size:=by simp [World.freeze]
 have hfar:∀ k,k≠g->(w.freeze ⟨g,n,none⟩ 1).heap[k]? = w.heap[k]? := fun k hk=>by
  simp [World.freeze,Array.getElem?_modify,Ne.symm hk]
 refine ⟨hsz,hfar,fun p=>?_⟩
 by_cases hp:p.block=g
 ·have h1:(w.freeze ⟨g,n,none⟩ 1).heap[g]? = some (.cells C e (n,n+1)):=by
   have:=hB
   unfold Blk at this
   simp [World.freeze,Array.getElem?_modify,this]
  have h2:w.heap[g]? = some (.cells C e (0,0)):=hB
  unfold World.cell?
  rw [hp,h1,h2]
 ·exact World.cell?_of_block (hfar _ hp)
theorem Br0 {w0 w:World} {g n:Nat} {e:TypeId} {C:Array Value} (hB:Blk w g e C) (h:Below w0.heap.size w0 w) (hg:w0.heap.size<=g):Below w0.heap.size w0 (w.freeze ⟨g,n,none⟩ 1):=by
 obtain ⟨h1,h2,_⟩:=Ax7 (n:=n) hB
 refine ⟨?_,?_,?_,by rw [h1];exact h.size,fun k hk=>by rw [h2 k (by omega)];exact h.block k hk⟩
 ·simpa [World.freeze] using h.os
 ·simpa [World.freeze] using h.tape
 ·simpa [World.freeze] using h.output
theorem Bw3 {P:Program} {w:World} {t e e':TypeId} {C:Array Value} {g n c:Nat} (ht:P.underlying t=some (.slice e)) (he:P.underlying e=some (.int .u8)) (hB:Blk w g e' C) :
  (convert t t (.slice (some ⟨g,0,none⟩) n c)).run P w=.ok (.slice (some ⟨g,0,none⟩) n c) (w.freeze ⟨g,C.size,none⟩ 1):=by
 have hsh:w.shape? g=some (e',C.size):=by
  unfold World.shape?
  rw [show w.heap[g]? = some (.cells C e' (0,0)) from hB]
 simp [convert,run_underlying ht,run_underlying he,markStringish,hsh]
theorem U1 {P:Program} {ro:Option Nat} {ops:Array Oper} {o:Oper} {rest:List Oper} {Q:Exit->Act->World->Prop} {a:Act} {w w':World} {v:Value} (hg:o.guard=none) (hd:∀ c,o.op≠.defer c) (hx:(execOp a.eval o).run P w=.ok (.value v) w') (h:wpListIn (FW ro) 0 P ops Q rest (a.put o.dst v) w'):wpListIn (FW ro) 0 P ops Q (o :: rest) a w:=by
 refine wpListIn_step fun K' hK'=>?_
 rw [if_pos (by unfold Region.wanted;rw [hg])]
 refine Jl hd ?_
 unfold Oper.wp
 rw [hx,Oper.upon_value]
 exact hK' _ _ h
section
variable {P : Program} {G : World -> Prop} {V w0 : World} {n : Fm} {ro : Option Nat}
theorem Wd {ops:List Oper} {Q:Exit->Act->World->Prop} {rest2:List Oper} (hG:∀ w',Below w0.heap.size w0 w'->G w'):∀ (l:List Oper) (σ:Ag) (K:Ag->Prop) (E:Env) (a:Act) (w:World),Dd n.nd l=true->Bo P G ops l σ K->St V w0 n E σ a w ->
  (∀ (E':Env) (σ':Ag) (a':Act) (w':World),K σ'->St V w0 n E' σ' a' w'->wpListIn (FW ro) 0 P ops.toArray Q rest2 a' w')->wpListIn (FW ro) 0 P ops.toArray Q (l++rest2) a w:=by
 intro l
 induction l with
 | nil=>exact fun σ K E a w _ h hs hQ=>hQ E σ a w h hs
 | cons o rest ih =>
  intro σ K E a w hd h hs hQ
  simp only [Dd,Bool.and_eq_true] at hd
  have hdst:∀ d,o.dst=some d->d < n.nd.n/\d∉n.nd.fx:=fun d e=>by
   have:=hd.1
   rw [e] at this
   simp only [Bool.and_eq_true,Bool.not_eq_true'] at this
   exact ⟨Dh.1 this.1,Kj this.2⟩
  refine wpListIn_step fun K' hK'=>?_
  rcases X5 hs h with ⟨hw,hr⟩ | ⟨hw,hr⟩
  ·rw [if_pos hw]
   obtain ⟨r,bk',hK,hu⟩:=Ah0 hr
   refine hu V w0 n E a w hs hG K' Q (fun v w' E' hs' hv=>hK' _ _ (ih ⟨Fv o.dst r σ.fr,bk'⟩ K E' (a.put o.dst v) w' hd.2 hK (hs'.put hdst hv) hQ)) ro
  ·rw [if_neg (by rw [hw];simp)]
   refine ⟨fun _ _=>trivial,hK' _ _ (ih ⟨Fv o.dst (.val undef) σ.fr,σ.bk⟩ K E (a.put o.dst undef) w hd.2 hr (hs.put hdst .val) hQ)⟩
end
theorem L9 {n:Nd} : ∀ (l m:List Oper),Dd n (l++m)=(Dd n l&&Dd n m)
 | [],m=>rfl
 | o :: l,m=>by rw [List.cons_append,Dd,Dd,L9 l m,Bool.and_assoc]
section
variable {P : Program} {G : World -> Prop} {σ : Ag} {V w0 : World} {n : Nd} {ro : Option Nat} {K : Exit -> Ag -> Prop}
theorem AW.markR {id:Nat} {l1 l2:List Oper} {t e:TypeId} {d s:Nat} {y:TypeId} {p:String} {ar:Array Edge} {L:List Oper} (hL:L=l1++⟨some d,.convert t t (.tmp s),y,p,ar,none⟩ :: l2)
  (hd:Dd n L=true) (ht:P.underlying t=some (.slice e)) (he:P.underlying e=some (.int .u8))
  (h:Bo P G L l1 σ fun σ1=>∃ b e' l,Cq σ1.fr s=.own b/\Ci b σ1.bk=some (.row b e' 1 l)/\l≠[]/\Bo P G L l2 ⟨Fv (some d) (.iv (.sl 1 l)) σ1.fr,Cu b [] σ1.bk⟩ fun σ'=>K .normal σ') :
  AW P G ro V w0 n (.region id L.toArray false) σ K:=fun hG m E a w hn hs=>by
 rw [hL,L9,Bool.and_eq_true] at hd
 obtain ⟨hd1,hd2⟩:=hd
 simp only [Dd,Bool.and_eq_true] at hd2
 refine wpIn_region_lit ?_
 suffices H:wpListIn (FW ro) 0 P L.toArray (Arr V w0 m K) (l1++⟨some d,.convert t t (.tmp s),y,p,ar,none⟩ :: l2) a w by rwa [<-hL] at H
 refine Wd hG l1 σ _ E a w (by rw [hn];exact hd1) h hs fun E1 σ1 a1 w1 ⟨b,e',l,q1,q2,q3,hK⟩ hs1=>?_
 have s1:=hs1.slots s
 rw [q1] at s1
 obtain ⟨pre,post,e1,e2,e3⟩:=D8 q2
 obtain ⟨fr,bk⟩:=σ1
 simp only at e1 e3 hK hs1 q1 q2 s1
 have e4:=e3 []
 subst e1
 rw [e4] at hK
 obtain ⟨hO,hB⟩:=hs1.holds (.row b e' 1 l) (by simp)
 obtain ⟨v,hv⟩ : ∃ v,a1.tmps.getD s undef=v:=⟨_,rfl⟩
 rw [hv] at s1
 have hfz:=St.frz_rep hs1 (x:=.row b e' 1 l) trivial s1
 rw [Al6,if_pos rfl] at hfz
 have hev:v=E1.row b:=by
  cases s1 with
  | own h=>exact h.symm
 rcases hO.forms with ⟨_,h0⟩ | ⟨g,c,hvv,hg1,hg2⟩
 ·exact absurd h0 q3
 rw [hvv] at hO
 obtain ⟨cur,_,_,hBk,_⟩:=hO.open_
 obtain ⟨f1,f2,f3⟩:=Ax7 (n:=cur.size) hBk
 have hgm:Ac E1 [.row b e' 1 l]=[g]:=by simp [Ac,BA.owned,hvv,Value.ownBlock]
 have hsw:=St.swap (E':=E1) (nb:=[]) (mid:=[.row b e' 1 l]) (lo:=0) (hi:=0) (w':=w1.freeze ⟨g,cur.size,none⟩ 1) hs1 (fun k hk _=>f2 k (fun h=>hk (by rw [hgm,h];simp))) (by rw [f1];exact Nat.le_refl _) (Br0 hBk hs1.low hg1) (Env.same_refl 0 0 E1) (S7 _) (S9 _) (by simp [Ac]) (by simp [Ac]) (by simp)
 refine U1 rfl (fun _ h=>by cases h) (v:=v) (w':=w1.freeze ⟨g,cur.size,none⟩ 1) ?_ ?_
 ·have:a1.eval (.tmp s)=v:=hv
  simp only [execOp,this]
  refine G1 ?_
  rw [hev,hvv]
  exact Bw3 ht he hBk
 ·refine Ug hG l2 _ _ E1 _ _ (by rw [hn];exact hd2.2) hK (hsw.put (fun d' hd'=>?_) (hfz.mono (D6 (by rw [f1];exact Nat.le_refl _) fun p u _ _ h3 h4=>⟨h3,by rw [f3];exact h4⟩))) fun E' σ' a' w' hK hs'=>⟨m,E',σ',Fm.le.refl m,hK,hs'⟩
  cases hd'
  have:=hd2.1
  simp only [Bool.and_eq_true,Bool.not_eq_true'] at this
  rw [hn]
  exact ⟨Dh.1 this.1,Kj this.2⟩
theorem AW.mark {id:Nat} {l1 l2:List Oper} {t e:TypeId} {d s:Nat} {y:TypeId} {p:String} {ar:Array Edge} {L:List Oper} (hL:L=l1++⟨some d,.convert t t (.tmp s),y,p,ar,none⟩ :: l2)
  (hd:Dd n L=true) (ht:P.underlying t=some (.slice e)) (he:P.underlying e=some (.int .u8))
  (h:∀ KK:Ag->Prop,(∀ σ1 b e' l,Cq σ1.fr s=.own b->Ci b σ1.bk=some (.row b e' 1 l)->l≠[]->(∀ K2:Ag->Prop,(∀ σ',K .normal σ'->K2 σ')->Bo P G L l2 ⟨Fv (some d) (.iv (.sl 1 l)) σ1.fr,Cu b [] σ1.bk⟩ K2)->KK σ1)->Bo P G L l1 σ KK) :
  AW P G ro V w0 n (.region id L.toArray false) σ K:=AW.markR hL hd ht he (h _ fun σ1 b e' l h1 h2 h3 h4=>⟨b,e',l,h1,h2,h3,h4 _ fun _ h=>h⟩)
end
attribute [local irreducible] AW AWY Bo B4 vop Bj B7 Bf qop Bu C4 Aq Aj Bh A7 B9
attribute [local go_sem] Cv Hu Fs F6 Ae Af
theorem Ba4 {i n:Nat} {K:Prop} (h:i < n) (hk:K):0<=(i:Int)/\i < n/\Dv K:=⟨by omega,h,Bi hk⟩
theorem Bh4 {l:List (List IV)} {i:Nat} {cs:List IV} {K:List IV->Prop} (h:l[i]? = some cs) (hk:K cs):∃ cs,l[i]? = some cs/\Dv (K cs):=⟨cs,h,Bi hk⟩
theorem Zy {α:Type} {l:List α} {i:Nat} {x:α} (h:l[i]? = some x):l.set i x=l:=by
 refine List.ext_getElem? fun j=>?_
 rw [List.getElem?_set]
 split
 ·rename_i e
  subst e
  rw [h]
  simp [(List.getElem?_eq_some_iff.1 h).1]
 ·rfl
theorem Bh1 {l:List F8} (h:AV.okd (.iv (flI l))) {m:Nat} (hm:m < l.length):I64 l[m].number/\I64 l[m].sure/\l[m].bytes.length<=1073741824:=by
 obtain ⟨-,o1,o2,o3,-⟩:=Do (by simpa [flI] using h.2) (enF l[m]) (List.mem_map_of_mem (List.getElem_mem hm))
 exact ⟨o1,o3,by simpa [byI] using o2.1⟩
set_option maxRecDepth 100000 in
set_option maxHeartbeats 1600000 in
theorem Jt (d:Gw) (iR:I64 d.room):A7 Tryz.prog A8 31 [dkA d] (.val (.bool (Bs d))) []:=by
 refine A7.of (n:=62) (rs:=[.tmp 2]) Tryz.func31 rfl (by kernel_rfl) Tryz.ntmps31 (by kernel_rfl) (by simp) (fun _ _=>A8.later) ?_
 intro hok V w0
 have hfl:AV.okd (.iv (flI d.files)):=hok.1.2.1
 have hlen:d.files.length<=1073741824:=by simpa [flI] using hfl.1
 obtain ⟨B,hB⟩ : ∃ B,Bs d=B:=⟨_,rfl⟩
 rw [hB]
 refine g ?_
 refine AW.seq ?_
 refine AW.reg rfl fun KK hKK=>?_
 refine g ?_
 repeat' (refine hKK _ (g ?_);clear hKK KK)
 refine AW.freeze 200 _ rfl ⟨iR,trivial,trivial⟩ ?_
 simp only [go_sem,reduceIte,Nat.reduceEqDiff]
 refine g ?_
 repeat' (first | refine st_ rfl (g ?_) | refine Al (fun h=>g ?_) (fun h=>g ?_) | (refine B8 rfl rfl (fun h e=>?_) (fun h e=>?_)<;>simp only [e]<;>clear e<;>refine g ?_))
 ·rw [<-hB];simp [Bs];intros;omega
 ·rw [<-hB];simp [Bs];intros;omega
 have hR:0<=d.room/\d.room<=16777216:=by omega
 have hBF:B=F5 d.room 0 (-1) d.files:=by rw [<-hB];simp [Bs,hR]
 clear hB
 refine AW.loop (fun m:{m:Nat // m<=d.files.length/\F5 d.room 0 (-1) (d.files.take m)=true}=>⟨[(1,.ip [.val (.int .i64 d.room),flI d.files]),(3,.val (.int .i64 (Jp (d.files.take m.1):Nat))),(4,.val (.int .i64 (J6 (-1) (d.files.take m.1)))),(16,.iv (flI d.files)),(17,.val (.int .i64 (d.files.length:Nat))),(18,.val (.int .i64 (m.1:Nat)))],[]⟩) (fun m=>d.files.length - m.1) ⟨0,Nat.zero_le _,rfl⟩ id ⟨⟨rfl,rfl,rfl,rfl,rfl,rfl,trivial⟩,trivial,List.nodup_nil⟩ fun ⟨m,hm,ht⟩=>?_
 simp only
 have hsum:=Q8 hR.1 (u:=0) (by omega) ht
 repeat (refine AW.seq ?_)
 refine AW.reg rfl fun KK hKK=>?_
 refine g ?_
 repeat' (refine hKK _ (g ?_);clear hKK KK)
 repeat (refine AW.seq ?_)
 refine st_ rfl ?_
 refine g ?_
 refine Al (fun h=>?_) (fun h=>?_)
 ·have hlt:m < d.files.length:=by omega
  obtain ⟨i1,i2,i3⟩:=Bh1 hfl hlt
  have hat:=Ay1 hlt ht
  rw [<-hBF] at hat
  have hN:Yb d.room (Jp (d.files.take m)) (J6 (-1) (d.files.take m)) d.files[m]=false->false=B:=fun h=>by rw [hat,h];rfl
  refine st_ rfl (g ?_)
  refine g ?_
  repeat' (first | refine st_ rfl (g ?_) | refine Al (fun h=>g ?_) (fun h=>g ?_) | (refine B8 rfl rfl (fun h e=>?_) (fun h e=>?_)<;>simp only [e]<;>clear e<;>refine g ?_) | refine ix_ (by omega) (g ?_))
  ·exact hN (decide_eq_false (by omega))
  ·exact hN (decide_eq_false (by omega))
  ·exact hN (decide_eq_false (by omega))
  ·exact hN (decide_eq_false (by omega))
  ·exact hN (decide_eq_false (by omega))
  obtain ⟨g1,g2,g3⟩:=A49 hlt ht (decide_eq_true (by omega))
  refine AW.drawn (ds:=[54,55,56,57,58,59,60,3,4]) (fin:=[0]) (bs:=[1,1,1,1,1,1,1,1,1]) [⟨[],[3],[],[],0⟩,⟨[],[],[],[],0⟩,⟨[(55,1)],[],[0],[],0⟩,⟨[(56,2)],[],[0],[],0⟩,⟨[(54,0),(57,3)],[],[],[],0⟩,⟨[],[],[],[],0⟩,⟨[(59,5)],[],[0],[],0⟩,⟨[(58,4)],[],[],[],0⟩,⟨[(60,6)],[],[],[],0⟩] (by kernel_rfl) rfl (by kernel_rfl) rfl rfl rfl fun KD hKD=>?_
  refine g ?_
  simp only [B95,List.contains_cons,List.contains_nil,Nat.reduceBEq,Bool.or_false,Bool.false_eq_true,reduceIte,Bp2,List.cons_append,List.nil_append]
  refine g ?_
  repeat' (first | refine st_ rfl (g ?_) | (refine hKD _ _ ⟨rfl,g ?_⟩;clear hKD KD))
  exact ⟨⟨m+1,by omega,g1⟩,id,⟨⟨rfl,by rw [g2];rfl,by rw [g3];rfl,rfl,rfl,rfl,trivial⟩,trivial,List.nodup_nil⟩,by show d.files.length - (m+1) < d.files.length - m;omega⟩
 ·refine AW.exit ?_
  simp only [reduceIte]
  refine g ?_
  repeat' refine st_ rfl (g ?_)
  rw [List.take_of_length_le (by omega)] at ht
  rw [hBF,ht]
set_option maxRecDepth 100000 in
theorem Bc6 (d:Gw) (iR:I64 d.room):A7 Tryz.prog A8 233 [dkA d] (.val (.int .i64 (A95 d))) []:=by
 refine A7.of (n:=23) (rs:=[.tmp 2]) Tryz.func233 rfl (by kernel_rfl) Tryz.ntmps233 (by kernel_rfl) (by simp) (fun _ _=>A8.later) ?_
 intro hok V w0
 have hfl:AV.okd (.iv (flI d.files)):=hok.1.2.1
 have hlen:d.files.length<=1073741824:=by simpa [flI] using hfl.1
 have hf:=Jt d iR
 obtain ⟨B,hB⟩ : ∃ B,A95 d=B:=⟨_,rfl⟩
 rw [hB]
 refine g ?_
 refine AW.seq ?_
 refine AW.reg rfl fun KK hKK=>?_
 refine g ?_
 repeat' (refine hKK _ (g ?_);clear hKK KK)
 refine AW.freeze 200 _ rfl ⟨iR,trivial,trivial⟩ ?_
 simp only [go_sem,reduceIte,Nat.reduceEqDiff]
 cases hF:Bs d with
 | false =>
  rw [hF] at hf
  refine g ?_
  repeat' (first | refine st_ rfl (g ?_) | refine A9 (hf) rfl (g ?_))
  rw [<-hB,A95,if_neg (by simp [hF])]
 | true =>
  rw [hF] at hf
  have hF':=hF
  simp only [Bs,Bool.and_eq_true,decide_eq_true_eq] at hF'
  have hsum:=Q8 hF'.1.1 (u:=0) (by omega) hF'.2
  rw [A95,if_pos hF] at hB
  refine g ?_
  repeat' (first | refine st_ rfl (g ?_) | refine A9 (hf) rfl (g ?_))
  refine AW.loop (fun m:{m:Nat // m<=d.files.length}=>⟨[(1,.ip [.val (.int .i64 d.room),flI d.files]),(3,.val (.int .i64 (Jp (d.files.take m.1):Nat))),(10,.iv (flI d.files)),(11,.val (.int .i64 (d.files.length:Nat))),(12,.val (.int .i64 (m.1:Nat)))],[]⟩) (fun m=>d.files.length - m.1) ⟨0,Nat.zero_le _⟩ id ⟨⟨rfl,rfl,rfl,rfl,rfl,trivial⟩,trivial,List.nodup_nil⟩ fun ⟨m,hm⟩=>?_
  simp only
  repeat (refine AW.seq ?_)
  refine AW.reg rfl fun KK hKK=>?_
  refine g ?_
  repeat' (refine hKK _ (g ?_);clear hKK KK)
  repeat (refine AW.seq ?_)
  refine st_ rfl ?_
  refine g ?_
  refine Al (fun h=>?_) (fun h=>?_)
  ·have hlt:m < d.files.length:=by omega
   obtain ⟨i1,i2,i3⟩:=Bh1 hfl hlt
   have h1:Jp (d.files.take (m+1))=Jp (d.files.take m)+d.files[m].bytes.length:=by rw [Aa0 hlt,Qo];simp [Jp]
   have h2:Jp (d.files.take (m+1))+Jp (d.files.drop (m+1))=Jp d.files:=by rw [<-Qo,List.take_append_drop]
   refine st_ rfl (g ?_)
   refine g ?_
   repeat' (first | refine st_ rfl (g ?_) | refine ix_ (by omega) (g ?_))
   exact ⟨⟨m+1,hlt⟩,id,⟨⟨rfl,by rw [h1];rfl,rfl,rfl,rfl,trivial⟩,trivial,List.nodup_nil⟩,by show d.files.length - (m+1) < d.files.length - m;omega⟩
  ·refine AW.exit ?_
   simp only [reduceIte]
   refine g ?_
   repeat' refine st_ rfl (g ?_)
   rw [List.take_of_length_le (by omega),hB]
set_option maxRecDepth 100000 in
set_option maxHeartbeats 1600000 in
theorem A51 (d:Gw) (iR:I64 d.room):A7 Tryz.prog A8 179 [dkA d] (.agg [.val (.int .i64 d.room),.own 0]) [.row 0 134 3 (d.files.map enF)]:=by
 refine A7.of (n:=28) (rs:=[.cell 2 36]) Tryz.func179 rfl (by kernel_rfl) Tryz.ntmps179 (by kernel_rfl) (by simp) (fun _ _=>A8.later) ?_
 intro hok V w0
 have hlen:d.files.length<=1073741824:=by simpa [flI] using hok.1.2.1.1
 refine g ?_
 repeat' (first | refine st_ rfl (g ?_) | refine A9 (Ye d.files) rfl (g ?_))
 refine AW.loop (fun m:{m:Nat // m<=d.files.length}=>⟨[(1,.bp 200 0),(2,.bp 300 0),(10,.val (.int .i64 (d.files.length:Nat))),(11,.val (.int .i64 (m.1:Nat)))],[.box 200 [.val (.int .i64 d.room),.own 700],.row 700 134 3 (d.files.map enF),.box 300 [.val (.int .i64 0),.val (.slice none 0 0)]]⟩) (fun m=>d.files.length - m.1) ⟨0,Nat.zero_le _⟩ id ⟨⟨rfl,rfl,rfl,rfl,trivial⟩,⟨rfl,rfl,rfl,trivial⟩,by simp [By,BA.id]⟩ fun ⟨m,hm⟩=>?_
 simp only
 repeat (refine AW.seq ?_)
 refine AW.reg rfl fun KK hKK=>?_
 refine g ?_
 repeat' (refine hKK _ (g ?_);clear hKK KK)
 repeat (refine AW.seq ?_)
 refine st_ rfl ?_
 refine g ?_
 refine Al (fun h=>?_) (fun h=>?_)
 ·have hlt:m < d.files.length:=by omega
  refine st_ rfl (g ?_)
  refine g ?_
  repeat' refine st_ rfl (g ?_)
  refine AW.drawn (ds:=[14,15,16,17,18,19,20,21,22,23,24,25]) (fin:=[0,2,3]) (bs:=[3,3,3,3,3,3,3,3,3,3,3,3,3]) [⟨[],[],[],[],0⟩,⟨[(14,0)],[],[0,1,2],[],0⟩,⟨[],[],[],[],0⟩,⟨[],[],[],[],0⟩,⟨[(17,3)],[],[0,1,2],[],0⟩,⟨[],[],[],[],0⟩,⟨[(18,4),(19,5)],[],[0,1,2],[],0⟩,⟨[(20,6)],[],[],[],0⟩,⟨[(21,7)],[],[0,1,2],[],0⟩,⟨[(22,8)],[],[0,1,2],[],0⟩,⟨[(15,1),(16,2)],[],[0,1,2],[],0⟩,⟨[(24,10)],[],[],[],0⟩,⟨[(25,11),(23,9)],[],[],[1],1⟩] (by kernel_rfl) rfl (by kernel_rfl) rfl rfl rfl fun KD hKD=>?_
  have hget:=Cx (f:=enF) (List.getElem?_eq_getElem hlt)
  refine g ?_
  repeat' (first | refine A9 (Qa _) rfl (g ?_) | (refine Ba4 (by omega) ?_)<;>refine g ?_ | (refine Bh4 hget ?_)<;>refine g ?_)
  have hset:(d.files.map enF).set m (F2 (enF d.files[m]) 1 [IV.sl 1 (List.map (fun (b:Nat)=>[IV.val (.int .u8 (b:Int))]) d.files[m].bytes)])=d.files.map enF:=Zy hget
  refine ⟨_,_,rfl,⟨trivial,trivial⟩,hget,Bi ?_⟩
  rw [hset]
  refine g ?_
  repeat' (first | refine st_ rfl (g ?_) | (refine hKD _ _ ⟨rfl,g ?_⟩;clear hKD KD))
  exact ⟨⟨m+1,hlt⟩,id,⟨⟨rfl,rfl,rfl,rfl,trivial⟩,⟨rfl,rfl,rfl,trivial⟩,by simp [By,BA.id]⟩,by show d.files.length - (m+1) < d.files.length - m;omega⟩
 ·refine AW.exit ?_
  simp only [reduceIte]
  refine g ?_
  repeat' refine st_ rfl (g ?_)
  exact ⟨fun _=>700,rfl,rfl,by simp⟩
end Go.Proofs.YtblfjaedaijfoaaGreatDoor
