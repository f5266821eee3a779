/- The fixed fact of the laws of layer 13. -/
import Derived.Test.YthlgnjlpakimaaaGreatDoorQAbsFrz
import Derived.Test.YthlgnjlpakimaaaGreatDoorQConcatSpan
import Derived.Test.YthlgnjlpakimaaaGreatDoorQViewWrite
import Derived.Test.YthlgnjlpakimaaaGreatDoorQByte
set_option linter.all false
set_option linter.unnecessarySimpa false
set_option linter.unusedSimpArgs false
set_option linter.unusedVariables false
namespace Go.Proofs.YthlgnjlpakimaaaGreatDoor
open Go.ChangeShapes Go.WideShapes Go.ChangeAt Go.RowKit
theorem Bc2 {w:World} {g n:Nat} {e:TypeId} {C:Array Value} (hB:Blk w g e C):(w.freeze ⟨g,n,none⟩ 1).heap.size=w.heap.size/\(∀ k,k≠g->(w.freeze ⟨g,n,none⟩ 1).heap[k]? = w.heap[k]?)/\(∀ p:Addr,(w.freeze ⟨g,n,none⟩ 1).cell? p=w.cell? p):=by
 have hsz:(w.freeze ⟨g,n,none⟩ 1).heap.size=w.heap.size:=by simp [World.freeze]
 have hfar:∀ k,k≠g->(w.freeze ⟨g,n,none⟩ 1).heap[k]? = w.heap[k]? := fun k hk=>by
  simp [World.freeze,Array.getElem?_modify,Ne.symm hk]
 refine ⟨hsz,hfar,fun p=>?_⟩
 by_cases hp:p.block=g
 ·have h1:(w.freeze ⟨g,n,none⟩ 1).heap[g]? = some (.cells C e (n,n+1)):=by
   have:=hB
   unfold Blk at this
   simp [World.freeze,Array.getElem?_modify,this]
  have h2:w.heap[g]? = some (.cells C e (0,0)):=hB
  unfold World.cell?
  rw [hp,h1,h2]
 ·exact World.cell?_of_block (hfar _ hp)
theorem C22 {w0 w:World} {g n:Nat} {e:TypeId} {C:Array Value} (hB:Blk w g e C) (h:Below w0.heap.size w0 w) (hg:w0.heap.size<=g):Below w0.heap.size w0 (w.freeze ⟨g,n,none⟩ 1):=by
 obtain ⟨h1,h2,_⟩:=Bc2 (n:=n) hB
 refine ⟨?_,?_,?_,by rw [h1];exact h.size,fun k hk=>by rw [h2 k (by omega)];exact h.block k hk⟩
 ·simpa [World.freeze] using h.os
 ·simpa [World.freeze] using h.tape
 ·simpa [World.freeze] using h.output
theorem C84 {P:Program} {w:World} {t e e':TypeId} {C:Array Value} {g n c:Nat} (ht:P.underlying t=some (.slice e)) (he:P.underlying e=some (.int .u8)) (hB:Blk w g e' C) :
  (convert t t (.slice (some ⟨g,0,none⟩) n c)).run P w=.ok (.slice (some ⟨g,0,none⟩) n c) (w.freeze ⟨g,C.size,none⟩ 1):=by
 have hsh:w.shape? g=some (e',C.size):=by
  unfold World.shape?
  rw [show w.heap[g]? = some (.cells C e' (0,0)) from hB]
 simp [convert,run_underlying ht,run_underlying he,markStringish,hsh]
theorem Bm9 {P:Program} {ro:Option Nat} {ops:Array Oper} {o:Oper} {rest:List Oper} {Q:Exit->Act->World->Prop} {a:Act} {w w':World} {v:Value} (hg:o.guard=none) (hd:∀ c,o.op≠.defer c) (hx:(execOp a.eval o).run P w=.ok (.value v) w') (h:wpListIn (FW ro) 0 P ops Q rest (a.put o.dst v) w'):wpListIn (FW ro) 0 P ops Q (o :: rest) a w:=by
 refine wpListIn_step fun K' hK'=>?_
 rw [if_pos (by unfold Region.wanted;rw [hg])]
 refine N8 hd ?_
 unfold Oper.wp
 rw [hx,Oper.upon_value]
 exact hK' _ _ h
section
variable {P : Program} {G : World -> Prop} {V w0 : World} {n : Fm} {ro : Option Nat}
theorem Bu6 {ops:List Oper} {Q:Exit->Act->World->Prop} {rest2:List Oper} (hG:∀ w',Below w0.heap.size w0 w'->G w'):∀ (l:List Oper) (σ:Am) (K:Am->Prop) (E:Env) (a:Act) (w:World),Fd n.nd l=true->Cd P G ops l σ K->St V w0 n E σ a w ->
  (∀ (E':Env) (σ':Am) (a':Act) (w':World),K σ'->St V w0 n E' σ' a' w'->wpListIn (FW ro) 0 P ops.toArray Q rest2 a' w')->wpListIn (FW ro) 0 P ops.toArray Q (l++rest2) a w:=by
 intro l
 induction l with
 | nil=>exact fun σ K E a w _ h hs hQ=>hQ E σ a w h hs
 | cons o rest ih =>
  intro σ K E a w hd h hs hQ
  simp only [Fd,Bool.and_eq_true] at hd
  have hdst:∀ d,o.dst=some d->d < n.nd.n/\d∉n.nd.fx:=fun d e=>by
   have:=hd.1
   rw [e] at this
   simp only [Bool.and_eq_true,Bool.not_eq_true'] at this
   exact ⟨Fp.1 this.1,Qm this.2⟩
  refine wpListIn_step fun K' hK'=>?_
  rcases A58 hs h with ⟨hw,hr⟩ | ⟨hw,hr⟩
  ·rw [if_pos hw]
   obtain ⟨r,bk',hK,hu⟩:=Av0 hr
   refine hu V w0 n E a w hs hG K' Q (fun v w' E' hs' hv=>hK' _ _ (ih ⟨J2 o.dst r σ.fr,bk'⟩ K E' (a.put o.dst v) w' hd.2 hK (hs'.put hdst hv) hQ)) ro
  ·rw [if_neg (by rw [hw];simp)]
   refine ⟨fun _ _=>trivial,hK' _ _ (ih ⟨J2 o.dst (.val undef) σ.fr,σ.bk⟩ K E (a.put o.dst undef) w hd.2 hr (hs.put hdst .val) hQ)⟩
end
theorem Xg {n:Nd} : ∀ (l m:List Oper),Fd n (l++m)=(Fd n l&&Fd n m)
 | [],m=>rfl
 | o :: l,m=>by rw [List.cons_append,Fd,Fd,Xg l m,Bool.and_assoc]
section
variable {P : Program} {G : World -> Prop} {σ : Am} {V w0 : World} {n : Nd} {ro : Option Nat} {K : Exit -> Am -> Prop}
theorem AW.markR {id:Nat} {l1 l2:List Oper} {t e:TypeId} {d s:Nat} {y:TypeId} {p:String} {ar:Array Edge} {L:List Oper} (hL:L=l1++⟨some d,.convert t t (.tmp s),y,p,ar,none⟩ :: l2)
  (hd:Fd n L=true) (ht:P.underlying t=some (.slice e)) (he:P.underlying e=some (.int .u8))
  (h:Cd P G L l1 σ fun σ1=>∃ b e' l,Cz σ1.fr s=.own b/\Cx b σ1.bk=some (.row b e' 1 l)/\l≠[]/\Cd P G L l2 ⟨J2 (some d) (.iv (.sl 1 l)) σ1.fr,Du b [] σ1.bk⟩ fun σ'=>K .normal σ') :
  AW P G ro V w0 n (.region id L.toArray false) σ K:=fun hG m E a w hn hs=>by
 rw [hL,Xg,Bool.and_eq_true] at hd
 obtain ⟨hd1,hd2⟩:=hd
 simp only [Fd,Bool.and_eq_true] at hd2
 refine wpIn_region_lit ?_
 suffices H:wpListIn (FW ro) 0 P L.toArray (Arr V w0 m K) (l1++⟨some d,.convert t t (.tmp s),y,p,ar,none⟩ :: l2) a w by rwa [<-hL] at H
 refine Bu6 hG l1 σ _ E a w (by rw [hn];exact hd1) h hs fun E1 σ1 a1 w1 ⟨b,e',l,q1,q2,q3,hK⟩ hs1=>?_
 have s1:=hs1.slots s
 rw [q1] at s1
 obtain ⟨pre,post,e1,e2,e3⟩:=Dh q2
 obtain ⟨fr,bk⟩:=σ1
 simp only at e1 e3 hK hs1 q1 q2 s1
 have e4:=e3 []
 subst e1
 rw [e4] at hK
 obtain ⟨hO,hB⟩:=hs1.holds (.row b e' 1 l) (by simp)
 obtain ⟨v,hv⟩ : ∃ v,a1.tmps.getD s undef=v:=⟨_,rfl⟩
 rw [hv] at s1
 have hfz:=St.frz_rep hs1 (x:=.row b e' 1 l) trivial s1
 rw [Az1,if_pos rfl] at hfz
 have hev:v=E1.row b:=by
  cases s1 with
  | own h=>exact h.symm
 rcases hO.forms with ⟨_,h0⟩ | ⟨g,c,hvv,hg1,hg2⟩
 ·exact absurd h0 q3
 rw [hvv] at hO
 obtain ⟨cur,_,_,hBk,_⟩:=hO.open_
 obtain ⟨f1,f2,f3⟩:=Bc2 (n:=cur.size) hBk
 have hgm:Ac E1 [.row b e' 1 l]=[g]:=by simp [Ac,BA.owned,hvv,Value.ownBlock]
 have hsw:=St.swap (E':=E1) (nb:=[]) (mid:=[.row b e' 1 l]) (lo:=0) (hi:=0) (w':=w1.freeze ⟨g,cur.size,none⟩ 1) hs1 (fun k hk _=>f2 k (fun h=>hk (by rw [hgm,h];simp))) (by rw [f1];exact Nat.le_refl _) (C22 hBk hs1.low hg1) (Env.same_refl 0 0 E1) (Wb _) (Wd _) (by simp [Ac]) (by simp [Ac]) (by simp)
 refine Bm9 rfl (fun _ h=>by cases h) (v:=v) (w':=w1.freeze ⟨g,cur.size,none⟩ 1) ?_ ?_
 ·have:a1.eval (.tmp s)=v:=hv
  simp only [execOp,this]
  refine Hh ?_
  rw [hev,hvv]
  exact C84 ht he hBk
 ·refine B28 hG l2 _ _ E1 _ _ (by rw [hn];exact hd2.2) hK (hsw.put (fun d' hd'=>?_) (hfz.mono (Db (by rw [f1];exact Nat.le_refl _) fun p u _ _ h3 h4=>⟨h3,by rw [f3];exact h4⟩))) fun E' σ' a' w' hK hs'=>⟨m,E',σ',Fm.le.refl m,hK,hs'⟩
  cases hd'
  have:=hd2.1
  simp only [Bool.and_eq_true,Bool.not_eq_true'] at this
  rw [hn]
  exact ⟨Fp.1 this.1,Qm this.2⟩
theorem AW.mark {id:Nat} {l1 l2:List Oper} {t e:TypeId} {d s:Nat} {y:TypeId} {p:String} {ar:Array Edge} {L:List Oper} (hL:L=l1++⟨some d,.convert t t (.tmp s),y,p,ar,none⟩ :: l2)
  (hd:Fd n L=true) (ht:P.underlying t=some (.slice e)) (he:P.underlying e=some (.int .u8))
  (h:∀ KK:Am->Prop,(∀ σ1 b e' l,Cz σ1.fr s=.own b->Cx b σ1.bk=some (.row b e' 1 l)->l≠[]->(∀ K2:Am->Prop,(∀ σ',K .normal σ'->K2 σ')->Cd P G L l2 ⟨J2 (some d) (.iv (.sl 1 l)) σ1.fr,Du b [] σ1.bk⟩ K2)->KK σ1)->Cd P G L l1 σ KK) :
  AW P G ro V w0 n (.region id L.toArray false) σ K:=AW.markR hL hd ht he (h _ fun σ1 b e' l h1 h2 h3 h4=>⟨b,e',l,h1,h2,h3,h4 _ fun _ h=>h⟩)
end
attribute [local irreducible] AW AWY Cd Bk vop C5 Bl Bz qop Cj Cv B4 Aw C4 A7 Bq
attribute [local go_sem] J8 Fc Eh Jn K9 Kc Gp Gv Ei Ce Ao As
def B14:B8:=⟨[⟨1,0⟩],[],[⟨⟨1,0⟩,3,false⟩],[⟨3,⟨1,0⟩,[104,105]⟩],9⟩
def Cg0:At:=⟨[],[⟨1,0⟩],[],[⟨⟨1,0⟩,3,false⟩]⟩
theorem Cg3:Bm3 9=(⟨[],[],[],[],9⟩,0):=by kernel_rfl
theorem Cg2:Q4 ⟨[],[],[],[],9⟩ 0 3 0 [104,105] false=⟨B14,Cg0,0⟩:=by kernel_rfl
theorem Cg1:De B14 3=([104,105],⟨⟨1,0⟩,3,false⟩,0):=by kernel_rfl
set_option maxRecDepth 100000 in
set_option maxHeartbeats 3200000 in
theorem U4:A7 Tryz.prog A8 10 [] (.val (.bool true)) []:=by
 refine A7.of (n:=53) (rs:=[.tmp 0]) Tryz.func10 rfl (by kernel_rfl) Tryz.ntmps10 (by kernel_rfl) (by simp) (fun _ _=>A8.later) ?_
 intro hok V w0
 have hn:=Ai3 9 rfl
 rw [Cg3] at hn
 have hw:=A71 ⟨[],[],[],[],9⟩ 0 3 0 [104,105] false rfl rfl rfl rfl
 rw [Cg2] at hw
 have hr:=Mu B14 3 rfl rfl
 rw [Cg1] at hr
 simp only [B14,Cg0] at hw hr
 refine g ?_
 refine AW.seq ?_
 refine AW.reg rfl fun KK hKK=>?_
 refine g ?_
 repeat' (refine hKK _ (g ?_);clear hKK KK)
 refine AW.seq ?_
 refine AW.reg rfl fun KK hKK=>?_
 refine g ?_
 refine A9 hn rfl (g ?_)
 refine g ?_
 repeat' (refine hKK _ (g ?_);clear hKK KK)
 refine AW.seq ?_
 refine AW.mark (l1:=[_,_]) rfl rfl Tryz.underlying38 Tryz.underlying5 fun KK hKK=>?_
 refine g ?_
 refine bs2 (by omega) rfl rfl rfl ⟨rfl,trivial⟩ rfl rfl rfl ⟨rfl,trivial⟩ ?_
 refine g ?_
 refine hKK _ 1500 _ _ rfl rfl (by simp) ?_
 clear hKK KK
 intro KK hKK
 refine g ?_
 refine A9 hw rfl (g ?_)
 refine g ?_
 repeat' (refine hKK _ (g ?_);clear hKK KK)
 refine g ?_
 repeat' (first | refine st_ rfl (g ?_) | refine A9 (hr) rfl (g ?_))
 simp only [decide_true]
 refine ⟨[104,105],rfl,?_⟩
 refine g ?_
 repeat' refine Ag (g ?_)
 have hs:Ae7 [104,105]=⟨#[104,105]⟩:=by kernel_rfl
 rw [hs]
 refine C69 (g ?_)
 refine ⟨_,fun u=>S0 _ _ _ _ _ _ u,?_⟩
 refine g ?_
 repeat' (first | refine st_ rfl (g ?_) | refine Ag (g ?_))
 exact decide_eq_true trivial
end Go.Proofs.YthlgnjlpakimaaaGreatDoor
