/- A formed note, as one sees it who has an interest (the program's). -/
import Derived.Test.YthlgnjlpakimaaaGreatDoorQAbsNil
import Derived.Test.YthlgnjlpakimaaaGreatDoorQLogAll
import Derived.Test.YthlgnjlpakimaaaGreatDoorQStreamSpec
import Derived.Test.YthlgnjlpakimaaaGreatDoorQBridge2
set_option linter.all false
set_option linter.unnecessarySimpa false
set_option linter.unusedSimpArgs false
set_option linter.unusedVariables false
namespace Go.Proofs.YthlgnjlpakimaaaGreatDoor
open Go.ChangeShapes Go.WideShapes Go.ChangeAt Go.RowKit
section
variable {P : Program} {t : TypeId} {e k c b : Nat} {l m : List (List IV)} {y : AV} {bk : List BA} {K : AV -> List BA -> Prop}
theorem Bo (hb:Cx b bk=some (.row b e k l)) (ht:(Gg P t).map (fun q=>(q.1,q.2.1,Nat.ble q.2.2 131072))=some (e,k,true)) (hk:0 < k) (hz:(tyZ P e).map (fun z=>z.2.length)=some k)
  (hs:C71 bk k (nrm y)=some m) (hlen:l.length+m.length<=1073741824) (hK:K (.own c) (.row c e k (l++m) :: Du b [] bk)):Aw P t (.own b) y c bk K:=by
 unfold Aw
 obtain ⟨⟨e',k',yb⟩,h1,h2⟩:=Option.map_eq_some_iff.1 ht
 simp only [Prod.mk.injEq] at h2
 obtain ⟨rfl,rfl,h3⟩:=h2
 rw [h1]
 refine ⟨hk,Nat.le_of_ble_eq_true h3,hz,?_⟩
 rw [show nrm (.own b)=.own b from rfl,hs]
 simp only [hb]
 exact ⟨trivial,trivial,hlen,hK⟩
theorem append_nil (ht:(Gg P t).map (fun q=>(q.1,q.2.1,Nat.ble q.2.2 131072))=some (e,k,true)) (hk:0 < k) (hz:(tyZ P e).map (fun z=>z.2.length)=some k)
  (hs:C71 bk k (nrm y)=some m) (hlen:m.length<=1073741824) (hK:K (.own c) (.row c e k m :: bk)):Aw P t (.val (.slice none 0 0)) y c bk K:=by
 unfold Aw
 obtain ⟨⟨e',k',yb⟩,h1,h2⟩:=Option.map_eq_some_iff.1 ht
 simp only [Prod.mk.injEq] at h2
 obtain ⟨rfl,rfl,h3⟩:=h2
 rw [h1]
 refine ⟨hk,Nat.le_of_ble_eq_true h3,hz,?_⟩
 rw [show nrm (.val (.slice none 0 0))=.val (.slice none 0 0) from rfl,hs]
 exact ⟨hlen,hK⟩
end
section
variable {P : Program} {G : World -> Prop} {α : Type} {encs : α -> List AV} {Sp : List α -> Prop} {Y : YC P G encs Sp} {n : Nat} {y : Ys α} {σ : Am} {K : Exit -> Ys α -> Am -> Prop} {c : Code}
theorem AWY.frzEnd (b:Nat) (h:AWY Y n c y σ fun e y' σ'=>y'.on=true/\∃ x,Cx b σ'.bk=some x/\okB x/\K e y' ⟨Aa9 x σ'.fr,L6 x (Du b [] σ'.bk)⟩):AWY Y n c y σ K:=fun a W hs =>
 wpIn_mono (h a W hs) fun e a' W' ⟨y',σ',⟨hon,x,hx,hok,hK⟩,hat⟩=>by
  refine ⟨y',_,hK,?_⟩
  rw [YC.at_go hon] at hat ⊢
  obtain ⟨V,w0,m0,E,h1,h2,hst,h4⟩:=hat
  obtain ⟨pre,post,e1,e2,e3⟩:=Dh hx
  obtain ⟨fr,bk⟩:=σ'
  simp only at e1 e3 hst ⊢
  have e4:=e3 []
  subst e1
  rw [e4]
  exact ⟨V,w0,m0,E,h1,h2,by simpa using St.frz hst hok,h4⟩
end
section
variable {V w0 : World} {m : Fm} {E : Env} {a : Act} {w : World} {fr : List (Nat × AV)} {pre post : List BA} {b : Nat} {cs cs' : List AV}
theorem St.rebox (h:St V w0 m E ⟨fr,pre++.box b cs :: post⟩ a w) (hs:∀ vs:List Value,Au E (vis V w0 w (Ac E (pre++.box b cs :: post))) vs cs->Au E (vis V w0 w (Ac E (pre++.box b cs :: post))) vs cs'):St V w0 m E ⟨fr,pre++.box b cs' :: post⟩ a w:=by
 have ho:Ac E (pre++.box b cs' :: post)=Ac E (pre++.box b cs :: post):=by simp [Ar,Ac,BA.owned]
 refine ⟨h.ext,h.low,by rw [ho];exact h.apart,by rw [ho];exact h.base,fun x hx=>?_,fun i=>by rw [ho];exact h.slots i,h.size,h.defers,?_⟩
 ·rw [ho]
  rcases List.mem_append.1 hx with hx | hx
  ·exact h.holds x (List.mem_append_left _ hx)
  ·rcases List.mem_cons.1 hx with rfl | hx
   ·obtain ⟨C,t,h1,h2⟩:=h.holds (.box b cs) (by simp)
    exact ⟨C,t,h1,hs _ h2⟩
   ·exact h.holds x (List.mem_append_right _ (List.mem_cons_of_mem _ hx))
 ·have:=h.hold
  simp only [ho]
  exact this
end
section
variable {P : Program} {G : World -> Prop} {ro : Option Nat} {V w0 : World} {n : Nd} {σ : Am} {K : Exit -> Am -> Prop}
theorem AW.adoptB {c:Code} (b r e k:Nat) (hb:Cx b σ.bk=some (.box b [.val (.slice none 0 0)])) (hf:(Pp r (r+1) σ.fr&&Ks r (r+1) σ.bk)=true) (h:AW P G ro V w0 n c ⟨σ.fr,.row r e k [] :: Du b [.box b [.own r]] σ.bk⟩ K):AW P G ro V w0 n c σ K:=fun hG m0 E a w hn hs=>by
 rw [Bool.and_eq_true] at hf
 have hE:Env.same r (r+1) E ⟨E.blk,fun x=>if x=r then .slice none 0 0 else E.row x⟩:=fun x hx=>by
  have:¬ x=r:=by omega
  simp [this]
 have ho:Ac ⟨E.blk,fun x=>if x=r then .slice none 0 0 else E.row x⟩ [.row r e k []]=[]:=by simp [Ac,BA.owned,Value.ownBlock]
 have hs2:=hs.add (E':=⟨E.blk,fun x=>if x=r then .slice none 0 0 else E.row x⟩) (nb:=[.row r e k []]) (Below.refl _ w) hE hf.1 hf.2 (by rw [ho];exact List.nodup_nil) (fun g hg=>by rw [ho] at hg;cases hg) (fun x hx=>by
  simp only [List.mem_singleton] at hx
  subst hx
  refine ⟨?_,fun g hg=>by simp [Value.ownBlock] at hg⟩
  simp only [if_true]
  exact Ah.nil_ _ _ _)
 obtain ⟨pre,post,e1,e2,e3⟩:=Dh hb
 obtain ⟨fr,bk⟩:=σ
 simp only at e1 e3 hs2 h
 have e4:=e3 [.box b [.own r]]
 subst e1
 rw [e4] at h
 have hs3:St V w0 m0 ⟨E.blk,fun x=>if x=r then .slice none 0 0 else E.row x⟩ ⟨fr,(.row r e k [] :: pre)++.box b [.val (.slice none 0 0)] :: post⟩ a w:=by simpa using hs2
 have hs4:=hs3.rebox (cs':=[.own r]) fun vs hv=>by
  obtain ⟨v,vs',h1,h2,h3⟩:=Au.cons_iff.1 hv
  rw [Au.nil_iff] at h3
  subst h3
  rw [h1]
  cases h2
  exact Au.cons (.own (by simp)) Au.nil
 refine h hG m0 _ a w hn (by simpa using hs4)
end
section
variable {P : Program} {t : TypeId} {b p : Nat} {bk : List BA} {K : List BA -> Prop}
theorem Qb {cs:List AV} : B4 P t (.bp b p) (.agg cs) bk K=(match tyK P t with
  | some (_,s)=>okC (.agg cs)=true/\cs.length=s/\match Cx b bk with
   | some (.box _ ds)=>p+s<=ds.length/\K (Du b [.box b (Gs ds p cs)] bk)
   | some (.arr _ ds)=>∃ is,toIs cs=some is/\J3 cs/\p+s<=ds.length/\Gd (K (Du b [.arr b (Gs ds p is)] bk))
   | _=>False
  | none=>False):=Ao
theorem Lg {v:Value} : B4 P t (.bp b p) (.val v) bk K=(match tyK P t with
  | some (_,s)=>okC (.val v)=true/\[AV.val v].length=s/\match Cx b bk with
   | some (.box _ ds)=>p+s<=ds.length/\K (Du b [.box b (Gs ds p [.val v])] bk)
   | some (.arr _ ds)=>∃ is,toIs [.val v]=some is/\J3 [.val v]/\p+s<=ds.length/\Gd (K (Du b [.arr b (Gs ds p is)] bk))
   | _=>False
  | none=>False):=Ao
theorem Mw {i:IV} : B4 P t (.bp b p) (.iv i) bk K=(match tyK P t with
  | some (_,s)=>okC (.iv i)=true/\[AV.iv i].length=s/\match Cx b bk with
   | some (.box _ ds)=>p+s<=ds.length/\K (Du b [.box b (Gs ds p [.iv i])] bk)
   | some (.arr _ ds)=>∃ is,toIs [.iv i]=some is/\J3 [.iv i]/\p+s<=ds.length/\Gd (K (Du b [.arr b (Gs ds p is)] bk))
   | _=>False
  | none=>False):=Ao
theorem Lh {r:Nat} : B4 P t (.bp b p) (.own r) bk K=(match tyK P t with
  | some (_,s)=>okC (.own r)=true/\[AV.own r].length=s/\match Cx b bk with
   | some (.box _ ds)=>p+s<=ds.length/\K (Du b [.box b (Gs ds p [.own r])] bk)
   | some (.arr _ ds)=>∃ is,toIs [.own r]=some is/\J3 [.own r]/\p+s<=ds.length/\Gd (K (Du b [.arr b (Gs ds p is)] bk))
   | _=>False
  | none=>False):=Ao
end
section
variable {P : Program} {G : World -> Prop} {ro : Option Nat} {V w0 : World} {n : Nd} {σ : Am} {K : Exit -> Am -> Prop}
theorem AW.adoptC {c:Code} (b j r e k:Nat) {cs:List AV} (hb:Cx b σ.bk=some (.box b cs)) (hj:cs[j]? = some (.val (.slice none 0 0))) (hf:(Pp r (r+1) σ.fr&&Ks r (r+1) σ.bk)=true) (h:AW P G ro V w0 n c ⟨σ.fr,.row r e k [] :: Du b [.box b (cs.set j (.own r))] σ.bk⟩ K):AW P G ro V w0 n c σ K:=fun hG m0 E a w hn hs=>by
 rw [Bool.and_eq_true] at hf
 have hE:Env.same r (r+1) E ⟨E.blk,fun x=>if x=r then .slice none 0 0 else E.row x⟩:=fun x hx=>by
  have:¬ x=r:=by omega
  simp [this]
 have ho:Ac ⟨E.blk,fun x=>if x=r then .slice none 0 0 else E.row x⟩ [.row r e k []]=[]:=by simp [Ac,BA.owned,Value.ownBlock]
 have hs2:=hs.add (E':=⟨E.blk,fun x=>if x=r then .slice none 0 0 else E.row x⟩) (nb:=[.row r e k []]) (Below.refl _ w) hE hf.1 hf.2 (by rw [ho];exact List.nodup_nil) (fun g hg=>by rw [ho] at hg;cases hg) (fun x hx=>by
  simp only [List.mem_singleton] at hx
  subst hx
  refine ⟨?_,fun g hg=>by simp [Value.ownBlock] at hg⟩
  simp only [if_true]
  exact Ah.nil_ _ _ _)
 obtain ⟨pre,post,e1,e2,e3⟩:=Dh hb
 obtain ⟨fr,bk⟩:=σ
 simp only at e1 e3 hs2 h
 have e4:=e3 [.box b (cs.set j (.own r))]
 subst e1
 rw [e4] at h
 have hs3:St V w0 m0 ⟨E.blk,fun x=>if x=r then .slice none 0 0 else E.row x⟩ ⟨fr,(.row r e k [] :: pre)++.box b cs :: post⟩ a w:=by simpa using hs2
 have hs4:=hs3.rebox (cs':=cs.set j (.own r)) fun vs hv=>⟨by rw [hv.1,List.length_set],fun i v d h1 h2=>by
  rw [List.getElem?_set] at h2
  split at h2
  ·rename_i eij
   subst eij
   split at h2
   ·obtain rfl:=Option.some.inj h2
    have:=hv.2 j v _ h1 hj
    cases this
    exact .own (by simp)
   ·cases h2
  ·exact hv.2 i v d h1 h2⟩
 refine h hG m0 _ a w hn (by simpa using hs4)
end
attribute [local irreducible] AW AWY Cd Bk vop C5 Bl Bz qop Cj Cv B4 Aw C4 A7 Bq
attribute [local go_sem] Kt Mk Ce Ao As
theorem R5 (l:List Ab):A7 Tryz.prog A8 40 [.iv (stI l)] (.iv (stI l)) []:=(B62 l).frz trivial
theorem Ci6 (l:List Ad):A7 Tryz.prog A8 86 [.iv (spI l)] (.iv (spI l)) []:=(B66 l).frz trivial
theorem B68 (x:At):A7 Tryz.prog A8 75 [Ev x,Ev x] (.val (.bool true)) [] :=
 C8 Tryz.func75 rfl (by kernel_rfl) fun V w E vs hV hG hr=>by
  obtain ⟨v0,v1,rfl,h0,h1⟩:=Js hr
  obtain ⟨n0,n1,n2,n3,rfl,H0⟩:=S3 hV h0
  obtain ⟨m0,m1,m2,m3,rfl,H1⟩:=S3 hV h1
  exact Aw9 x _ _ _ _ _ _ _ _ w H0 H1
theorem A45 (l:List At):A7 Tryz.prog A8 23 [.iv (noI l),.iv (noI l)] (.val (.bool true)) []:=by
 refine A7.of (n:=27) (rs:=[.tmp 4]) Tryz.func23 rfl (by kernel_rfl) Tryz.ntmps23 (by kernel_rfl) (by simp) (fun _ _=>A8.later) ?_
 intro hok V w0
 have hlen:l.length<=1073741824:=by simpa using hok.1.1
 refine g ?_
 refine g ?_
 repeat' refine st_ rfl (g ?_)
 refine AW.loop (fun m:{m:Nat // m<=l.length}=>⟨[(0,.iv (noI l)),(1,.iv (noI l)),(5,.val (.int .i64 (m.1:Nat)))],[]⟩) (fun m=>l.length - m.1) ⟨0,Nat.zero_le _⟩ id ⟨⟨rfl,rfl,rfl,trivial⟩,trivial,List.nodup_nil⟩ fun ⟨m,hm⟩=>?_
 refine g ?_
 repeat' (first | refine st_ rfl (g ?_) | refine C3 (fun h=>g ?_) (fun h=>g ?_))
 ·have hlt:m < l.length:=by simpa using h
  refine AW.drawn (ds:=[17,18,19,20,21,22,23,24,25,26]) (fin:=[]) (bs:=[0,0,0,0,0,0,0,0,0,0]) [⟨[],[],[],[],0⟩,⟨[],[],[],[],0⟩,⟨[(17,0),(18,1)],[],[],[],0⟩,⟨[(19,2)],[],[],[],0⟩,⟨[],[],[],[],0⟩,⟨[],[],[],[],0⟩,⟨[(21,4),(22,5)],[],[],[],0⟩,⟨[(23,6)],[],[],[],0⟩,⟨[(20,3),(24,7)],[],[],[],0⟩,⟨[(25,8)],[],[],[],0⟩] (by kernel_rfl) rfl (by kernel_rfl) rfl rfl rfl fun KD hKD=>?_
  refine g ?_
  refine ⟨by omega,_,C0 (List.getElem?_eq_getElem hlt),?_⟩
  refine g ?_
  repeat' refine Ag (g ?_)
  refine ⟨by omega,_,C0 (List.getElem?_eq_getElem hlt),?_⟩
  refine g ?_
  repeat' refine Ag (g ?_)
  refine A9 (B68 l[m]) rfl ?_
  refine g ?_
  repeat' (refine hKD _ _ ⟨rfl,g ?_⟩;clear hKD KD)
  refine g ?_
  repeat' refine st_ rfl (g ?_)
  exact ⟨⟨m+1,hlt⟩,id,⟨⟨rfl,rfl,rfl,trivial⟩,trivial,List.nodup_nil⟩,by show l.length - (m+1) < l.length - m;omega⟩
 ·exact ⟨.inl trivial,id,List.nodup_nil⟩
end Go.Proofs.YthlgnjlpakimaaaGreatDoor
namespace Go.Proofs.YthlgnjlpakimaaaGreatDoor
open Go.ChangeShapes Go.WideShapes Go.ChangeAt Go.RowKit
section
attribute [local irreducible] K5
theorem Bx (f:Nat->Bool):(Ct f).length=256:=by unfold Ct;rw [List.length_map,Array.length_toList,Ft]
theorem D6 {f:Nat->Bool} {o:Nat} (h:o < 256):(Ct f)[o]? = some (.val (.bool (f o))):=by
 unfold Ct setRow
 rw [List.getElem?_map,Array.getElem?_toList,Dz h];rfl
theorem Vp (c:Nat->Int):(U0 c).length=64:=by unfold U0;rw [List.length_map,Array.length_toList,Lk]
theorem Bt5 {c:Nat->Int} {n:Nat} (h:n < 64):(U0 c)[n]? = some (.val (.int .i64 (c n))):=by
 unfold U0 Em
 rw [List.getElem?_map,Array.getElem?_toList,Dz h];rfl
end
attribute [local irreducible] Ct U0
theorem C6 {f g:Nat->Bool} (h:∀ o,o < 256->f o=g o):Ct f=Ct g:=List.ext_getElem? fun o=>by
 by_cases ho:o < 256
 ·rw [D6 ho,D6 ho,h o ho]
 ·rw [List.getElem?_eq_none (by rw [Bx];omega),List.getElem?_eq_none (by rw [Bx];omega)]
theorem C77 {f:Nat->Bool} {p:Nat} (hp:p < 256):(Ct f).set p (.val (.bool true))=Ct fun o=>f o || decide (o=p):=List.ext_getElem? fun o=>by
 rw [List.getElem?_set]
 by_cases e:p=o
 ·subst e;rw [if_pos rfl,Bx,if_pos hp,D6 hp];simp
 ·rw [if_neg e]
  by_cases ho:o < 256
  ·rw [D6 ho,D6 ho,decide_eq_false (fun h=>e h.symm),Bool.or_false]
  ·rw [List.getElem?_eq_none (by rw [Bx];omega),List.getElem?_eq_none (by rw [Bx];omega)]
theorem Jz {P:Program} {t q s b:Nat} {cells C:List IV} {bk:List BA} {K:List BA->Prop} (ht:tyK P t=some (q,s)) (hs:C.length=s) (hb:Cx b bk=some (.arr b cells)) (hl:cells.length=s) (hK:K (Du b [.arr b C] bk)):B4 P t (.bp b 0) (.aggI C) bk K:=by
 rw [Ao,ht]
 refine ⟨rfl,by rw [Nx,List.length_map];exact hs,?_⟩
 rw [hb]
 refine ⟨C,by rw [Nx,Z3],by rw [Nx];exact Zp C,by omega,?_⟩
 rw [A38 (by omega)]
 exact Ag hK
attribute [local irreducible] AW AWY Cd Bk vop C5 Bl Bz qop Cj Cv B4 Aw C4 A7 Bq
attribute [local go_sem] Eh Fc Ce Qb Lg Mw Lh
def Yn (x:At) (it:List Ad) (m:Nat) (o:Nat):Bool:=Al x.blur o || (G5 it (x.writes.take m)).any fun p=>decide (p=(o:Int))
theorem Br0 (f:Nat->Bool):A7 Tryz.prog A8 167 [.aggI (Ct f)] (.iv (spI (Ch f))) []:=(Bx2 f).frz trivial
set_option maxHeartbeats 3200000 in
set_option maxRecDepth 100000 in
theorem Am9 (x:At) (it:List Ad) (hF:Ae x=true):A7 Tryz.prog A8 100 [Ev x,.iv (spI it)] (.tup [Ev (Eb x it),.val (.int .i64 0)]) []:=by
 refine A7.of (n:=62) (rs:=[.cell 4 37,.tmp 5]) Tryz.func100 rfl (by kernel_rfl) Tryz.ntmps100 (by kernel_rfl) (by simp) (fun _ _=>A8.later) ?_
 intro hok V w0
 have hlen:x.writes.length<=1073741824:=by simpa using hok.1.2.2.2.1.1
 have hrf:=L1 x
 rw [hF] at hrf
 refine g ?_
 refine AW.seq ?_
 refine AW.reg rfl fun KK hKK=>?_
 refine g ?_
 repeat' (refine hKK _ (g ?_);clear hKK KK)
 refine AW.freeze 300 _ rfl ⟨trivial,trivial,trivial,trivial,trivial⟩ ?_
 simp only [go_sem,reduceIte,Nat.reduceEqDiff]
 refine g ?_
 repeat' refine st_ rfl (g ?_)
 refine A9 hrf rfl ?_
 refine g ?_
 repeat' refine st_ rfl (g ?_)
 refine A9 (Kh it) rfl ?_
 refine g ?_
 refine Jz (q:=2) (s:=256) (by kernel_rfl) (Bx _) rfl (by simp [rep]) ?_
 refine g ?_
 repeat' refine st_ rfl (g ?_)
 refine A9 (Kh x.blur) rfl ?_
 refine g ?_
 refine Jz (q:=2) (s:=256) (by kernel_rfl) (Bx _) rfl (by simp [rep]) ?_
 refine g ?_
 refine AW.freeze 700 _ rfl trivial ?_
 simp only [go_sem,reduceIte,Nat.reduceEqDiff]
 refine g ?_
 repeat' refine st_ rfl (g ?_)
 refine AW.drawn (ds:=[19,20,21,22,23,24,25,8]) (fin:=[0,1,3]) (bs:=[2,2,2,2,2,2,2,2,3]) [⟨[],[],[],[],0⟩,⟨[(19,0)],[],[0,1],[],0⟩,⟨[(20,1)],[],[0,1],[],0⟩,⟨[],[],[],[],0⟩,⟨[(22,3)],[],[0,1],[],0⟩,⟨[(23,4)],[],[0,1],[],0⟩,⟨[(21,2),(24,5)],[],[],[],0⟩,⟨[],[],[],[],1⟩,⟨[(8,7),(25,6)],[],[],[2],1⟩] (by kernel_rfl) rfl (by kernel_rfl) rfl rfl rfl fun KD hKD=>?_
 refine g ?_
 refine A9 (R5 x.start) rfl ?_
 refine g ?_
 refine A9 (R5 x.end_) rfl ?_
 refine g ?_
 repeat' (refine hKD _ _ ⟨rfl,g ?_⟩;clear hKD KD)
 refine g ?_
 repeat' refine st_ rfl (g ?_)
 have e0:Ct (Yn x it 0)=Ct (fun o=>Al x.blur o):=C6 fun o ho=>by simp [Yn,G5]
 refine AW.adoptC 900 3 9900 49 4 rfl rfl rfl ?_
 refine AW.loop (fun m:{m:Nat // m<=x.writes.length}=>⟨[(2,.ip [stI x.start,stI x.end_,spI x.blur,wrI x.writes]),(4,.bp 500 0),(5,.val (.int .i64 0)),(6,.ip (Ct fun o=>Al it o)),(7,.bp 800 0),(8,.bp 900 0),(9,.val (.int .i64 (m.1:Nat)))],[.row 9900 49 4 ((A81 it (x.writes.take m.1)).map enW),.arr 800 (Ct (Yn x it m.1)),.box 900 [.iv (stI x.start),.iv (stI x.end_),.val (.slice none 0 0),.own 9900],.box 500 [.val (.slice none 0 0),.val (.slice none 0 0),.val (.slice none 0 0),.val (.slice none 0 0)]]⟩) (fun m=>x.writes.length - m.1) ⟨0,Nat.zero_le _⟩ id ⟨⟨rfl,rfl,rfl,rfl,rfl,rfl,rfl,trivial⟩,⟨rfl,?_,rfl,rfl,trivial⟩,by simp [Aq,BA.id]⟩ fun ⟨m,hm⟩=>?_
 ·exact congrArg (fun C=>some (BA.arr 800 C)) e0.symm
 repeat (refine AW.seq ?_)
 refine AW.reg rfl fun KK hKK=>?_
 refine g ?_
 repeat' (refine hKK _ (g ?_);clear hKK KK)
 repeat (refine AW.seq ?_)
 refine st_ rfl ?_
 refine g ?_
 refine C3 (fun h=>?_) (fun h=>?_)
 ·have hlt:m < x.writes.length:=by simpa using h
  obtain ⟨-,o1,o2,o3,o4,-⟩:=D7 hok.1.2.2.2.1.2 (enW x.writes[m]) (List.mem_map_of_mem (List.getElem_mem hlt))
  obtain ⟨-,y0,y1,-⟩:=(Fz.1 (Cs.1 hF).2.2.2.2).1 x.writes[m] (List.getElem_mem hlt)
  have hto:((x.writes[m].object.toNat:Nat):Int)=x.writes[m].object:=by omega
  have hsh:By it x.writes[m].object=Al it x.writes[m].object:=by unfold By;simp [y0,y1]
  have hs1:=Af9 it (x.writes.take m) x.writes[m]
  have hs2:=Yz it (x.writes.take m) x.writes[m]
  rw [<-List.take_succ_eq_append_getElem hlt] at hs1 hs2
  refine g ?_
  repeat' refine st_ rfl (g ?_)
  refine ⟨by omega,_,C0 (List.getElem?_eq_getElem hlt),?_⟩
  refine g ?_
  repeat' refine Ag (g ?_)
  refine ⟨by omega,by omega,?_⟩
  rw [Nat.mul_one]
  refine g ?_
  repeat' refine Ag (g ?_)
  refine G2 (D6 (by omega)) ?_
  rw [hto,<-hsh]
  cases hh:By it x.writes[m].object
  ·rw [hh] at hs1 hs2
   refine g ?_
   repeat' refine st_ rfl (g ?_)
   refine ⟨by omega,_,C0 (List.getElem?_eq_getElem hlt),?_⟩
   refine g ?_
   repeat' refine Ag (g ?_)
   refine ⟨by omega,by omega,?_⟩
   rw [Nat.mul_one,Nat.zero_add]
   refine g ?_
   repeat' refine Ag (g ?_)
   refine ⟨_,rfl,⟨trivial,trivial⟩,by rw [Bx];omega,?_⟩
   refine g ?_
   repeat' (first | refine st_ rfl (g ?_) | refine Ag (g ?_))
   refine ⟨⟨m+1,hlt⟩,id,⟨⟨rfl,rfl,rfl,rfl,rfl,rfl,rfl,trivial⟩,⟨?_,?_,rfl,rfl,trivial⟩,by simp [Aq,BA.id]⟩,by show x.writes.length - (m+1) < x.writes.length - m;omega⟩
   ·rw [hs1];rfl
   ·refine congrArg (fun C=>some (BA.arr 800 C)) ((C77 (by omega)).trans (C6 fun o ho=>?_))
    unfold Yn
    rw [hs2,if_neg (by decide),List.any_append,Bool.or_assoc]
    congr 2
    simp
    omega
  ·rw [hh] at hs1 hs2
   refine g ?_
   repeat' refine st_ rfl (g ?_)
   refine AW.drawn (ds:=[41,42,43,44,45,46,47,48,49,50]) (fin:=[1,3,4,5,6]) (bs:=[4,4,4,4,4,4,4,4,5,6,6]) [⟨[],[],[],[],0⟩,⟨[(41,0)],[],[0,1,2,3],[],0⟩,⟨[],[],[],[],0⟩,⟨[(43,2)],[],[0,1,2,3],[],0⟩,⟨[],[],[],[],0⟩,⟨[(44,3),(45,4)],[],[0,1,2,3],[],0⟩,⟨[(46,5)],[],[0,1,2,3],[],0⟩,⟨[(47,6)],[],[],[],1⟩,⟨[(42,1),(48,7)],[],[1,2,3,4],[0],1⟩,⟨[],[],[],[],0⟩,⟨[(50,9),(49,8)],[],[],[2],1⟩] (by kernel_rfl) rfl (by kernel_rfl) rfl rfl rfl fun KD hKD=>?_
   refine g ?_
   refine ⟨by omega,_,C0 (List.getElem?_eq_getElem hlt),?_⟩
   refine g ?_
   repeat' refine Ag (g ?_)
   refine bs1 (by omega) rfl rfl rfl ⟨o1,o2,o3,o4,trivial⟩ ?_
   refine g ?_
   have hl2:=Aq2 it (x.writes.take m)
   rw [List.length_take] at hl2
   refine Bo rfl (by kernel_rfl) (by omega) (by kernel_rfl) rfl (by simp;omega) ?_
   refine g ?_
   repeat' (refine hKD _ _ ⟨rfl,g ?_⟩;clear hKD KD)
   refine g ?_
   repeat' refine st_ rfl (g ?_)
   refine ⟨⟨m+1,hlt⟩,fun b=>if b=9900 then 5000 else b,⟨⟨rfl,rfl,rfl,rfl,rfl,rfl,rfl,trivial⟩,⟨?_,?_,rfl,rfl,trivial⟩,by simp [Aq,BA.id]⟩,by show x.writes.length - (m+1) < x.writes.length - m;omega⟩
   ·rw [hs1,if_pos rfl,List.map_append];rfl
   ·refine congrArg (fun C=>some (BA.arr 800 C)) (C6 fun o ho=>?_)
    unfold Yn
    rw [hs2,if_pos rfl]
 ·obtain rfl:m=x.writes.length:=by simp at h;omega
  refine AW.freeze 9900 _ rfl trivial ?_
  simp only [go_sem,reduceIte,Nat.reduceEqDiff]
  refine g ?_
  repeat' refine st_ rfl (g ?_)
  refine ⟨(Bx _).symm,?_⟩
  refine A9 (Br0 _) rfl ?_
  refine g ?_
  repeat' refine st_ rfl (g ?_)
  rw [List.take_length,show Ch (Yn x it x.writes.length)=Jy x it by rw [La];unfold Yn;rw [List.take_length]]
  first | exact trivial | exact ⟨.inl trivial,id,rfl,List.nodup_nil⟩ | exact ⟨.inl trivial,id,trivial,List.nodup_nil⟩
end Go.Proofs.YthlgnjlpakimaaaGreatDoor
namespace Go.Proofs.YthlgnjlpakimaaaGreatDoor
open Go.ChangeShapes Go.WideShapes Go.ChangeAt Go.RowKit
attribute [local irreducible] AW AWY Cd Bk vop C5 Bl Bz qop Cj Cv B4 Aw C4 A7 Bq
attribute [local go_sem] Eh Fc Ce Ao As
theorem Cn4 (os:List Int):A7 Tryz.prog A8 126 [.iv (inI os)] (.iv (spI (Br (Pa os)))) []:=(C74 os).frz trivial
def enI (n:Int):List IV:=[.val (.int .i64 n)]
set_option maxHeartbeats 1600000 in
set_option maxRecDepth 100000 in
theorem Av1 (x:At) (it:List Ad) (hF:Ae x=true):A7 Tryz.prog A8 173 [Ev x,.iv (spI it)] (.tup [Ev (Eb x it),.val (.int .i64 0)]) []:=by
 refine A7.of (n:=49) (rs:=[.cell 4 37,.tmp 5]) Tryz.func173 rfl (by kernel_rfl) Tryz.ntmps173 (by kernel_rfl) (by simp) (fun _ _=>A8.later) ?_
 intro hok V w0
 have hlen:x.writes.length<=1073741824:=by simpa using hok.1.2.2.2.1.1
 refine g ?_
 refine AW.seq ?_
 refine AW.reg rfl fun KK hKK=>?_
 refine g ?_
 repeat' (refine hKK _ (g ?_);clear hKK KK)
 refine AW.freeze 300 _ rfl ⟨trivial,trivial,trivial,trivial,trivial⟩ ?_
 simp only [go_sem,reduceIte]
 refine g ?_
 repeat' refine st_ rfl (g ?_)
 refine A9 (Mc x) rfl ?_
 rw [hF]
 refine g ?_
 repeat' refine st_ rfl (g ?_)
 refine AW.adopt 6 700 49 4 rfl rfl ?_
 refine AW.adopt 7 800 3 1 rfl rfl ?_
 refine AW.loop (fun m:{m:Nat // m<=x.writes.length}=>⟨[(1,.iv (spI it)),(2,.ip [stI x.start,stI x.end_,spI x.blur,wrI x.writes]),(4,.bp 500 0),(6,.own 700),(7,.own 800),(15,.iv (wrI x.writes)),(16,.val (.int .i64 (x.writes.length:Nat))),(17,.val (.int .i64 (m.1:Nat)))],
  [.row 700 49 4 ((A81 it (x.writes.take m.1)).map enW),.row 800 3 1 ((G5 it (x.writes.take m.1)).map enI),.box 500 [.val (.slice none 0 0),.val (.slice none 0 0),.val (.slice none 0 0),.val (.slice none 0 0)]]⟩) (fun m=>x.writes.length - m.1) ⟨0,Nat.zero_le _⟩ id ⟨⟨rfl,rfl,rfl,rfl,rfl,rfl,rfl,rfl,trivial⟩,⟨rfl,rfl,rfl,trivial⟩,by simp [Aq,BA.id]⟩ fun ⟨m,hm⟩=>?_
 refine g ?_
 repeat' (first | refine st_ rfl (g ?_) | refine C3 (fun h=>g ?_) (fun h=>g ?_))
 ·have hlt:m < x.writes.length:=by simpa using h
  refine ⟨by omega,_,C0 (List.getElem?_eq_getElem hlt),?_⟩
  refine g ?_
  repeat' (first | refine st_ rfl (g ?_) | refine Ag (g ?_))
  obtain ⟨-,o1,o2,o3,o4,-⟩:=D7 hok.1.2.2.2.1.2 (enW x.writes[m]) (List.mem_map_of_mem (List.getElem_mem hlt))
  refine A9 (A37 it x.writes[m].object) rfl ?_
  have hs1:=Af9 it (x.writes.take m) x.writes[m]
  have hs2:=Yz it (x.writes.take m) x.writes[m]
  rw [<-List.take_succ_eq_append_getElem hlt] at hs1 hs2
  cases hh:By it x.writes[m].object
  ·rw [hh] at hs1 hs2
   refine g ?_
   repeat' refine st_ rfl (g ?_)
   refine bs1 (by omega) rfl rfl rfl ⟨o3,trivial⟩ ?_
   refine g ?_
   have hl2:=B33 it (x.writes.take m)
   rw [List.length_take] at hl2
   refine Bo rfl (by kernel_rfl) (by omega) (by kernel_rfl) rfl (by simp;omega) ?_
   refine g ?_
   repeat' refine st_ rfl (g ?_)
   refine ⟨⟨m+1,hlt⟩,fun b=>if b=800 then 3400 else b,⟨⟨rfl,rfl,rfl,rfl,rfl,rfl,rfl,rfl,trivial⟩,⟨?_,?_,rfl,trivial⟩,by simp [Aq,BA.id]⟩,by show x.writes.length - (m+1) < x.writes.length - m;omega⟩
   ·rw [hs1];rfl
   ·rw [hs2,if_neg (by decide),List.map_append];rfl
  ·rw [hh] at hs1 hs2
   refine g ?_
   repeat' refine st_ rfl (g ?_)
   refine bs1 (by omega) rfl rfl rfl ⟨o1,o2,o3,o4,trivial⟩ ?_
   refine g ?_
   have hl2:=Aq2 it (x.writes.take m)
   rw [List.length_take] at hl2
   refine Bo rfl (by kernel_rfl) (by omega) (by kernel_rfl) rfl (by simp;omega) ?_
   refine g ?_
   repeat' refine st_ rfl (g ?_)
   refine ⟨⟨m+1,hlt⟩,fun b=>if b=700 then 2900 else b,⟨⟨rfl,rfl,rfl,rfl,rfl,rfl,rfl,rfl,trivial⟩,⟨?_,?_,rfl,trivial⟩,by simp [Aq,BA.id]⟩,by show x.writes.length - (m+1) < x.writes.length - m;omega⟩
   ·rw [hs1,if_pos rfl,List.map_append];rfl
   ·rw [hs2];rfl
 ·obtain rfl:m=x.writes.length:=by simp at h;omega
  rw [List.take_length]
  refine AW.freeze 700 _ rfl trivial ?_
  simp only [go_sem,reduceIte]
  refine AW.freeze 800 _ rfl trivial ?_
  simp only [go_sem,reduceIte]
  refine AW.drawn (ds:=[35,36,37,38,39,40,41,42,43,44,45,46,47,48,5]) (fin:=[1,2,3]) (bs:=[1,1,1,1,1,1,1,1,1,1,1,2,3,3,3,4]) [⟨[],[],[],[],0⟩,⟨[(35,0)],[],[0],[],0⟩,⟨[(36,1)],[],[0],[],0⟩,⟨[],[],[],[],0⟩,⟨[(38,3)],[],[0],[],0⟩,⟨[(39,4)],[],[0],[],0⟩,⟨[],[],[],[],0⟩,⟨[(41,6)],[],[0],[],0⟩,⟨[],[],[],[],0⟩,⟨[(43,8)],[],[0],[],0⟩,⟨[(42,7),(44,9)],[],[],[],1⟩,⟨[(45,10)],[],[0,1],[],1⟩,⟨[],[],[],[],0⟩,⟨[(37,2),(40,5),(46,11),(47,12)],[],[],[],0⟩,⟨[(48,13)],[],[],[0],1⟩,⟨[],[],[],[],0⟩] (by kernel_rfl) rfl (by kernel_rfl) rfl rfl rfl fun KD hKD=>?_
  refine g ?_
  refine A9 (Kb x.start) rfl ?_
  refine g ?_
  refine A9 (Kb x.end_) rfl ?_
  refine g ?_
  refine A9 (Cn4 (G5 it x.writes)) rfl ?_
  refine g ?_
  refine bs2 (by omega) rfl rfl rfl ⟨trivial,trivial⟩ rfl rfl rfl ⟨trivial,trivial⟩ ?_
  refine g ?_
  refine Pb (T8 [x.blur,Br (Pa (G5 it x.writes))] ?_) ?_ rfl (Qt (Az6 _)) (by exact Sbs.rfl_ _) rfl ?_
  ·have h1:=((El _).1 (Cs.1 hF).2.2.2.1).1
   have h2:(Br (Pa (G5 it x.writes))).length<=128:=Ez _
   simp [F5];omega
  ·simp [Wn,J3,okA,okV]
  refine g ?_
  repeat' (refine hKD _ _ ⟨rfl,g ?_⟩;clear hKD KD)
  refine AW.freeze 4700 _ rfl trivial ?_
  simp only [go_sem,reduceIte,Nat.reduceEqDiff]
  refine g ?_
  repeat' refine st_ rfl (g ?_)
  rw [show [x.blur,Br (Pa (G5 it x.writes))].flatten=x.blur++Br (Pa (G5 it x.writes)) by simp]
  first | exact trivial | exact ⟨.inl trivial,id,rfl,List.nodup_nil⟩
end Go.Proofs.YthlgnjlpakimaaaGreatDoor
