/- A formed note, as one sees it who has an interest (the reference's). -/
import Derived.Test.YthlgnjlpakimaaaGreatDoorUNoteThrough
import Derived.Test.YthlgnjlpakimaaaGreatDoorUGoes
import Derived.Test.YthlgnjlpakimaaaGreatDoorUStreamSpec
set_option linter.all false
set_option linter.unnecessarySimpa false
set_option linter.unusedSimpArgs false
set_option linter.unusedVariables false
namespace Go.Proofs.YthlgnjlpakimaaaGreatDoor
open Go.ChangeShapes Go.WideShapes Go.ChangeAt Go.RowKit
section
variable {P : Program} {t : TypeId} {b p : Nat} {bk : List BA} {K : List BA -> Prop}
theorem Nt {cs:List AV} : Ar P t (.bp b p) (.agg cs) bk K=(match tyK P t with
  | some (_,s)=>okC (.agg cs)=true/\cs.length=s/\match Cd b bk with
   | some (.box _ ds)=>p+s<=ds.length/\K (D2 b [.box b (Es ds p cs)] bk)
   | some (.arr _ ds)=>∃ is,toIs cs=some is/\Ft cs/\p+s<=ds.length/\Ej (K (D2 b [.arr b (Es ds p is)] bk))
   | _=>False
  | none=>False):=Ai
theorem Js {v:Value} : Ar P t (.bp b p) (.val v) bk K=(match tyK P t with
  | some (_,s)=>okC (.val v)=true/\[AV.val v].length=s/\match Cd b bk with
   | some (.box _ ds)=>p+s<=ds.length/\K (D2 b [.box b (Es ds p [.val v])] bk)
   | some (.arr _ ds)=>∃ is,toIs [.val v]=some is/\Ft [.val v]/\p+s<=ds.length/\Ej (K (D2 b [.arr b (Es ds p is)] bk))
   | _=>False
  | none=>False):=Ai
theorem La {i:IV} : Ar P t (.bp b p) (.iv i) bk K=(match tyK P t with
  | some (_,s)=>okC (.iv i)=true/\[AV.iv i].length=s/\match Cd b bk with
   | some (.box _ ds)=>p+s<=ds.length/\K (D2 b [.box b (Es ds p [.iv i])] bk)
   | some (.arr _ ds)=>∃ is,toIs [.iv i]=some is/\Ft [.iv i]/\p+s<=ds.length/\Ej (K (D2 b [.arr b (Es ds p is)] bk))
   | _=>False
  | none=>False):=Ai
theorem Jt {r:Nat} : Ar P t (.bp b p) (.own r) bk K=(match tyK P t with
  | some (_,s)=>okC (.own r)=true/\[AV.own r].length=s/\match Cd b bk with
   | some (.box _ ds)=>p+s<=ds.length/\K (D2 b [.box b (Es ds p [.own r])] bk)
   | some (.arr _ ds)=>∃ is,toIs [.own r]=some is/\Ft [.own r]/\p+s<=ds.length/\Ej (K (D2 b [.arr b (Es ds p is)] bk))
   | _=>False
  | none=>False):=Ai
end
section
variable {P : Program} {G : World -> Prop} {ro : Option Nat} {V w0 : World} {n : Nd} {σ : Ah} {K : Exit -> Ah -> Prop}
theorem AW.adoptC {c:Code} (b j r e k:Nat) {cs:List AV} (hb:Cd b σ.bk=some (.box b cs)) (hj:cs[j]? = some (.val (.slice none 0 0))) (hf:(Ky r (r+1) σ.fr&&Jf r (r+1) σ.bk)=true) (h:AW P G ro V w0 n c ⟨σ.fr,.row r e k [] :: D2 b [.box b (cs.set j (.own r))] σ.bk⟩ K):AW P G ro V w0 n c σ K:=fun hG m0 E a w hn hs=>by
 rw [Bool.and_eq_true] at hf
 have hE:Env.same r (r+1) E ⟨E.blk,fun x=>if x=r then .slice none 0 0 else E.row x⟩:=fun x hx=>by
  have:¬ x=r:=by omega
  simp [this]
 have ho:Ac ⟨E.blk,fun x=>if x=r then .slice none 0 0 else E.row x⟩ [.row r e k []]=[]:=by simp [Ac,BA.owned,Value.ownBlock]
 have hs2:=hs.add (E':=⟨E.blk,fun x=>if x=r then .slice none 0 0 else E.row x⟩) (nb:=[.row r e k []]) (Below.refl _ w) hE hf.1 hf.2 (by rw [ho];exact List.nodup_nil) (fun g hg=>by rw [ho] at hg;cases hg) (fun x hx=>by
  simp only [List.mem_singleton] at hx
  subst hx
  refine ⟨?_,fun g hg=>by simp [Value.ownBlock] at hg⟩
  simp only [if_true]
  exact Ae.nil_ _ _ _)
 obtain ⟨pre,post,e1,e2,e3⟩:=De hb
 obtain ⟨fr,bk⟩:=σ
 simp only at e1 e3 hs2 h
 have e4:=e3 [.box b (cs.set j (.own r))]
 subst e1
 rw [e4] at h
 have hs3:St V w0 m0 ⟨E.blk,fun x=>if x=r then .slice none 0 0 else E.row x⟩ ⟨fr,(.row r e k [] :: pre)++.box b cs :: post⟩ a w:=by simpa using hs2
 have hs4:=hs3.rebox (cs':=cs.set j (.own r)) fun vs hv=>⟨by rw [hv.1,List.length_set],fun i v d h1 h2=>by
  rw [List.getElem?_set] at h2
  split at h2
  ·rename_i eij
   subst eij
   split at h2
   ·obtain rfl:=Option.some.inj h2
    have:=hv.2 j v _ h1 hj
    cases this
    exact .own (by simp)
   ·cases h2
  ·exact hv.2 i v d h1 h2⟩
 refine h hG m0 _ a w hn (by simpa using hs4)
end
attribute [local irreducible] AW AWY Bw Bc vop Bj Az Bi qop By Ce Ar Ap Bo A7 Bd
attribute [local go_sem] Jh Kq C3 Ai An
theorem T9 (l:List Ab):A7 Tryz.prog A8 40 [.iv (stI l)] (.iv (stI l)) []:=(Ae5 l).frz trivial
theorem Bg6 (l:List Ad):A7 Tryz.prog A8 86 [.iv (spI l)] (.iv (spI l)) []:=(Ae9 l).frz trivial
theorem Af1 (x:B7):A7 Tryz.prog A8 75 [Et x,Et x] (.val (.bool true)) [] :=
 Bq Tryz.func75 rfl (by kernel_rfl) fun V w E vs hV hG hr=>by
  obtain ⟨v0,v1,rfl,h0,h1⟩:=J4 hr
  obtain ⟨n0,n1,n2,n3,rfl,H0⟩:=N1 hV h0
  obtain ⟨m0,m1,m2,m3,rfl,H1⟩:=N1 hV h1
  exact A66 x _ _ _ _ _ _ _ _ w H0 H1
theorem A19 (l:List B7):A7 Tryz.prog A8 23 [.iv (noI l),.iv (noI l)] (.val (.bool true)) []:=by
 refine A7.of (n:=27) (rs:=[.tmp 4]) Tryz.func23 rfl (by kernel_rfl) Tryz.ntmps23 (by kernel_rfl) (by simp) (fun _ _=>A8.later) ?_
 intro hok V w0
 have hlen:l.length<=1073741824:=by simpa using hok.1.1
 refine g ?_
 refine g ?_
 repeat' refine st_ rfl (g ?_)
 refine AW.loop (fun m:{m:Nat // m<=l.length}=>⟨[(0,.iv (noI l)),(1,.iv (noI l)),(5,.val (.int .i64 (m.1:Nat)))],[]⟩) (fun m=>l.length - m.1) ⟨0,Nat.zero_le _⟩ id ⟨⟨rfl,rfl,rfl,trivial⟩,trivial,List.nodup_nil⟩ fun ⟨m,hm⟩=>?_
 refine g ?_
 repeat' (first | refine st_ rfl (g ?_) | refine Cl (fun h=>g ?_) (fun h=>g ?_))
 ·have hlt:m < l.length:=by simpa using h
  refine AW.drawn (ds:=[17,18,19,20,21,22,23,24,25,26]) (fin:=[]) (bs:=[0,0,0,0,0,0,0,0,0,0]) [⟨[],[],[],[],0⟩,⟨[],[],[],[],0⟩,⟨[(17,0),(18,1)],[],[],[],0⟩,⟨[(19,2)],[],[],[],0⟩,⟨[],[],[],[],0⟩,⟨[],[],[],[],0⟩,⟨[(21,4),(22,5)],[],[],[],0⟩,⟨[(23,6)],[],[],[],0⟩,⟨[(20,3),(24,7)],[],[],[],0⟩,⟨[(25,8)],[],[],[],0⟩] (by kernel_rfl) rfl (by kernel_rfl) rfl rfl rfl fun KD hKD=>?_
  refine g ?_
  refine ⟨by omega,_,Cg (List.getElem?_eq_getElem hlt),?_⟩
  refine g ?_
  repeat' refine Aj (g ?_)
  refine ⟨by omega,_,Cg (List.getElem?_eq_getElem hlt),?_⟩
  refine g ?_
  repeat' refine Aj (g ?_)
  refine Aa (Af1 l[m]) rfl ?_
  refine g ?_
  repeat' (refine hKD _ _ ⟨rfl,g ?_⟩;clear hKD KD)
  refine g ?_
  repeat' refine st_ rfl (g ?_)
  exact ⟨⟨m+1,hlt⟩,id,⟨⟨rfl,rfl,rfl,trivial⟩,trivial,List.nodup_nil⟩,by show l.length - (m+1) < l.length - m;omega⟩
 ·exact ⟨.inl trivial,id,List.nodup_nil⟩
end Go.Proofs.YthlgnjlpakimaaaGreatDoor
namespace Go.Proofs.YthlgnjlpakimaaaGreatDoor
open Go.ChangeShapes Go.WideShapes Go.ChangeAt Go.RowKit
section
attribute [local irreducible] G6
theorem Be (f:Nat->Bool):(C5 f).length=256:=by unfold C5;rw [List.length_map,Array.length_toList,E4]
theorem Cj {f:Nat->Bool} {o:Nat} (h:o < 256):(C5 f)[o]? = some (.val (.bool (f o))):=by
 unfold C5 setRow
 rw [List.getElem?_map,Array.getElem?_toList,Cv h];rfl
theorem Qn (c:Nat->Int):(Pe c).length=64:=by unfold Pe;rw [List.length_map,Array.length_toList,H5]
theorem Ax2 {c:Nat->Int} {n:Nat} (h:n < 64):(Pe c)[n]? = some (.val (.int .i64 (c n))):=by
 unfold Pe D4
 rw [List.getElem?_map,Array.getElem?_toList,Cv h];rfl
end
attribute [local irreducible] C5 Pe
theorem Bf {f g:Nat->Bool} (h:∀ o,o < 256->f o=g o):C5 f=C5 g:=List.ext_getElem? fun o=>by
 by_cases ho:o < 256
 ·rw [Cj ho,Cj ho,h o ho]
 ·rw [List.getElem?_eq_none (by rw [Be];omega),List.getElem?_eq_none (by rw [Be];omega)]
theorem B89 {f:Nat->Bool} {p:Nat} (hp:p < 256):(C5 f).set p (.val (.bool true))=C5 fun o=>f o || decide (o=p):=List.ext_getElem? fun o=>by
 rw [List.getElem?_set]
 by_cases e:p=o
 ·subst e;rw [if_pos rfl,Be,if_pos hp,Cj hp];simp
 ·rw [if_neg e]
  by_cases ho:o < 256
  ·rw [Cj ho,Cj ho,decide_eq_false (fun h=>e h.symm),Bool.or_false]
  ·rw [List.getElem?_eq_none (by rw [Be];omega),List.getElem?_eq_none (by rw [Be];omega)]
theorem G2 {P:Program} {t q s b:Nat} {cells C:List IV} {bk:List BA} {K:List BA->Prop} (ht:tyK P t=some (q,s)) (hs:C.length=s) (hb:Cd b bk=some (.arr b cells)) (hl:cells.length=s) (hK:K (D2 b [.arr b C] bk)):Ar P t (.bp b 0) (.aggI C) bk K:=by
 rw [Ai,ht]
 refine ⟨rfl,by rw [Kl,List.length_map];exact hs,?_⟩
 rw [hb]
 refine ⟨C,by rw [Kl,Xd],by rw [Kl];exact Y3 C,by omega,?_⟩
 rw [A05 (by omega)]
 exact Aj hK
attribute [local irreducible] AW AWY Bw Bc vop Bj Az Bi qop By Ce Ar Ap Bo A7 Bd
attribute [local go_sem] Dp Ei C3 Nt Js La Jt
def Sf (x:B7) (it:List Ad) (m:Nat) (o:Nat):Bool:=Ak x.blur o || (Em it (x.writes.take m)).any fun p=>decide (p=(o:Int))
theorem Av1 (f:Nat->Bool):A7 Tryz.prog A8 167 [.aggI (C5 f)] (.iv (spI (C1 f))) []:=(B02 f).frz trivial
set_option maxHeartbeats 3200000 in
set_option maxRecDepth 100000 in
theorem Zb (x:B7) (it:List Ad) (hF:Al x=true):A7 Tryz.prog A8 100 [Et x,.iv (spI it)] (.tup [Et (G1 x it),.val (.int .i64 0)]) []:=by
 refine A7.of (n:=62) (rs:=[.cell 4 37,.tmp 5]) Tryz.func100 rfl (by kernel_rfl) Tryz.ntmps100 (by kernel_rfl) (by simp) (fun _ _=>A8.later) ?_
 intro hok V w0
 have hlen:x.writes.length<=1073741824:=by simpa using hok.1.2.2.2.1.1
 have hrf:=Gt x
 rw [hF] at hrf
 refine g ?_
 refine AW.seq ?_
 refine AW.reg rfl fun KK hKK=>?_
 refine g ?_
 repeat' (refine hKK _ (g ?_);clear hKK KK)
 refine AW.freeze 300 _ rfl ⟨trivial,trivial,trivial,trivial,trivial⟩ ?_
 simp only [go_sem,reduceIte,Nat.reduceEqDiff]
 refine g ?_
 repeat' refine st_ rfl (g ?_)
 refine Aa hrf rfl ?_
 refine g ?_
 repeat' refine st_ rfl (g ?_)
 refine Aa (Hu it) rfl ?_
 refine g ?_
 refine G2 (q:=2) (s:=256) (by kernel_rfl) (Be _) rfl (by simp [rep]) ?_
 refine g ?_
 repeat' refine st_ rfl (g ?_)
 refine Aa (Hu x.blur) rfl ?_
 refine g ?_
 refine G2 (q:=2) (s:=256) (by kernel_rfl) (Be _) rfl (by simp [rep]) ?_
 refine g ?_
 refine AW.freeze 700 _ rfl trivial ?_
 simp only [go_sem,reduceIte,Nat.reduceEqDiff]
 refine g ?_
 repeat' refine st_ rfl (g ?_)
 refine AW.drawn (ds:=[19,20,21,22,23,24,25,8]) (fin:=[0,1,3]) (bs:=[2,2,2,2,2,2,2,2,3]) [⟨[],[],[],[],0⟩,⟨[(19,0)],[],[0,1],[],0⟩,⟨[(20,1)],[],[0,1],[],0⟩,⟨[],[],[],[],0⟩,⟨[(22,3)],[],[0,1],[],0⟩,⟨[(23,4)],[],[0,1],[],0⟩,⟨[(21,2),(24,5)],[],[],[],0⟩,⟨[],[],[],[],1⟩,⟨[(8,7),(25,6)],[],[],[2],1⟩] (by kernel_rfl) rfl (by kernel_rfl) rfl rfl rfl fun KD hKD=>?_
 refine g ?_
 refine Aa (T9 x.start) rfl ?_
 refine g ?_
 refine Aa (T9 x.end_) rfl ?_
 refine g ?_
 repeat' (refine hKD _ _ ⟨rfl,g ?_⟩;clear hKD KD)
 refine g ?_
 repeat' refine st_ rfl (g ?_)
 have e0:C5 (Sf x it 0)=C5 (fun o=>Ak x.blur o):=Bf fun o ho=>by simp [Sf,Em]
 refine AW.adoptC 900 3 9900 49 4 rfl rfl rfl ?_
 refine AW.loop (fun m:{m:Nat // m<=x.writes.length}=>⟨[(2,.ip [stI x.start,stI x.end_,spI x.blur,wrI x.writes]),(4,.bp 500 0),(5,.val (.int .i64 0)),(6,.ip (C5 fun o=>Ak it o)),(7,.bp 800 0),(8,.bp 900 0),(9,.val (.int .i64 (m.1:Nat)))],[.row 9900 49 4 ((Vm it (x.writes.take m.1)).map enW),.arr 800 (C5 (Sf x it m.1)),.box 900 [.iv (stI x.start),.iv (stI x.end_),.val (.slice none 0 0),.own 9900],.box 500 [.val (.slice none 0 0),.val (.slice none 0 0),.val (.slice none 0 0),.val (.slice none 0 0)]]⟩) (fun m=>x.writes.length - m.1) ⟨0,Nat.zero_le _⟩ id ⟨⟨rfl,rfl,rfl,rfl,rfl,rfl,rfl,trivial⟩,⟨rfl,?_,rfl,rfl,trivial⟩,by simp [Ay,BA.id]⟩ fun ⟨m,hm⟩=>?_
 ·exact congrArg (fun C=>some (BA.arr 800 C)) e0.symm
 repeat (refine AW.seq ?_)
 refine AW.reg rfl fun KK hKK=>?_
 refine g ?_
 repeat' (refine hKK _ (g ?_);clear hKK KK)
 repeat (refine AW.seq ?_)
 refine st_ rfl ?_
 refine g ?_
 refine Cl (fun h=>?_) (fun h=>?_)
 ·have hlt:m < x.writes.length:=by simpa using h
  obtain ⟨-,o1,o2,o3,o4,-⟩:=Gc hok.1.2.2.2.1.2 (enW x.writes[m]) (List.mem_map_of_mem (List.getElem_mem hlt))
  obtain ⟨-,y0,y1,-⟩:=(G0.1 (D5.1 hF).2.2.2.2).1 x.writes[m] (List.getElem_mem hlt)
  have hto:((x.writes[m].object.toNat:Nat):Int)=x.writes[m].object:=by omega
  have hsh:Bv it x.writes[m].object=Ak it x.writes[m].object:=by unfold Bv;simp [y0,y1]
  have hs1:=Xq it (x.writes.take m) x.writes[m]
  have hs2:=Sq it (x.writes.take m) x.writes[m]
  rw [<-List.take_succ_eq_append_getElem hlt] at hs1 hs2
  refine g ?_
  repeat' refine st_ rfl (g ?_)
  refine ⟨by omega,_,Cg (List.getElem?_eq_getElem hlt),?_⟩
  refine g ?_
  repeat' refine Aj (g ?_)
  refine ⟨by omega,by omega,?_⟩
  rw [Nat.mul_one]
  refine g ?_
  repeat' refine Aj (g ?_)
  refine En (Cj (by omega)) ?_
  rw [hto,<-hsh]
  cases hh:Bv it x.writes[m].object
  ·rw [hh] at hs1 hs2
   refine g ?_
   repeat' refine st_ rfl (g ?_)
   refine ⟨by omega,_,Cg (List.getElem?_eq_getElem hlt),?_⟩
   refine g ?_
   repeat' refine Aj (g ?_)
   refine ⟨by omega,by omega,?_⟩
   rw [Nat.mul_one,Nat.zero_add]
   refine g ?_
   repeat' refine Aj (g ?_)
   refine ⟨_,rfl,⟨trivial,trivial⟩,by rw [Be];omega,?_⟩
   refine g ?_
   repeat' (first | refine st_ rfl (g ?_) | refine Aj (g ?_))
   refine ⟨⟨m+1,hlt⟩,id,⟨⟨rfl,rfl,rfl,rfl,rfl,rfl,rfl,trivial⟩,⟨?_,?_,rfl,rfl,trivial⟩,by simp [Ay,BA.id]⟩,by show x.writes.length - (m+1) < x.writes.length - m;omega⟩
   ·rw [hs1];rfl
   ·refine congrArg (fun C=>some (BA.arr 800 C)) ((B89 (by omega)).trans (Bf fun o ho=>?_))
    unfold Sf
    rw [hs2,if_neg (by decide),List.any_append,Bool.or_assoc]
    congr 2
    simp
    omega
  ·rw [hh] at hs1 hs2
   refine g ?_
   repeat' refine st_ rfl (g ?_)
   refine AW.drawn (ds:=[41,42,43,44,45,46,47,48,49,50]) (fin:=[1,3,4,5,6]) (bs:=[4,4,4,4,4,4,4,4,5,6,6]) [⟨[],[],[],[],0⟩,⟨[(41,0)],[],[0,1,2,3],[],0⟩,⟨[],[],[],[],0⟩,⟨[(43,2)],[],[0,1,2,3],[],0⟩,⟨[],[],[],[],0⟩,⟨[(44,3),(45,4)],[],[0,1,2,3],[],0⟩,⟨[(46,5)],[],[0,1,2,3],[],0⟩,⟨[(47,6)],[],[],[],1⟩,⟨[(42,1),(48,7)],[],[1,2,3,4],[0],1⟩,⟨[],[],[],[],0⟩,⟨[(50,9),(49,8)],[],[],[2],1⟩] (by kernel_rfl) rfl (by kernel_rfl) rfl rfl rfl fun KD hKD=>?_
   refine g ?_
   refine ⟨by omega,_,Cg (List.getElem?_eq_getElem hlt),?_⟩
   refine g ?_
   repeat' refine Aj (g ?_)
   refine bs1 (by omega) rfl rfl rfl ⟨o1,o2,o3,o4,trivial⟩ ?_
   refine g ?_
   have hl2:=A08 it (x.writes.take m)
   rw [List.length_take] at hl2
   refine C6 rfl (by kernel_rfl) (by omega) (by kernel_rfl) rfl (by simp;omega) ?_
   refine g ?_
   repeat' (refine hKD _ _ ⟨rfl,g ?_⟩;clear hKD KD)
   refine g ?_
   repeat' refine st_ rfl (g ?_)
   refine ⟨⟨m+1,hlt⟩,fun b=>if b=9900 then 5000 else b,⟨⟨rfl,rfl,rfl,rfl,rfl,rfl,rfl,trivial⟩,⟨?_,?_,rfl,rfl,trivial⟩,by simp [Ay,BA.id]⟩,by show x.writes.length - (m+1) < x.writes.length - m;omega⟩
   ·rw [hs1,if_pos rfl,List.map_append];rfl
   ·refine congrArg (fun C=>some (BA.arr 800 C)) (Bf fun o ho=>?_)
    unfold Sf
    rw [hs2,if_pos rfl]
 ·obtain rfl:m=x.writes.length:=by simp at h;omega
  refine AW.freeze 9900 _ rfl trivial ?_
  simp only [go_sem,reduceIte,Nat.reduceEqDiff]
  refine g ?_
  repeat' refine st_ rfl (g ?_)
  refine ⟨(Be _).symm,?_⟩
  refine Aa (Av1 _) rfl ?_
  refine g ?_
  repeat' refine st_ rfl (g ?_)
  rw [List.take_length,show C1 (Sf x it x.writes.length)=Hj x it by rw [Km];unfold Sf;rw [List.take_length]]
  first | exact trivial | exact ⟨.inl trivial,id,rfl,List.nodup_nil⟩ | exact ⟨.inl trivial,id,trivial,List.nodup_nil⟩ | rfl
end Go.Proofs.YthlgnjlpakimaaaGreatDoor
