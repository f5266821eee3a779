/- Logs: checked, copied, compared, and the place of what is new (the reference's). -/
import Derived.Test.YtahgkllhbggmgaaGreatDoorKNoteMerge
import Derived.Test.YtahgkllhbggmgaaGreatDoorKStreamArgs
set_option linter.all false
set_option linter.unnecessarySimpa false
set_option linter.unusedSimpArgs false
set_option linter.unusedVariables false
namespace Go.Proofs.YtahgkllhbggmgaaGreatDoor
open Go.ChangeShapes Go.WideShapes Go.ChangeAt Go.RowKit
section
variable {P : Program} {t : TypeId} {b p : Nat} {bk : List BA} {K : List BA -> Prop}
theorem Uz {cs:List AV} : Ai P t (.bp b p) (.agg cs) bk K=(match tyK P t with
  | some (_,s)=>okC (.agg cs)=true/\cs.length=s/\match C3 b bk with
   | some (.box _ ds)=>p+s<=ds.length/\K (Ca b [.box b (Ez ds p cs)] bk)
   | some (.arr _ ds)=>∃ is,toIs cs=some is/\J8 cs/\p+s<=ds.length/\Ct (K (Ca b [.arr b (Ez ds p is)] bk))
   | _=>False
  | none=>False):=Ae
theorem M0 {v:Value} : Ai P t (.bp b p) (.val v) bk K=(match tyK P t with
  | some (_,s)=>okC (.val v)=true/\[AV.val v].length=s/\match C3 b bk with
   | some (.box _ ds)=>p+s<=ds.length/\K (Ca b [.box b (Ez ds p [.val v])] bk)
   | some (.arr _ ds)=>∃ is,toIs [.val v]=some is/\J8 [.val v]/\p+s<=ds.length/\Ct (K (Ca b [.arr b (Ez ds p is)] bk))
   | _=>False
  | none=>False):=Ae
theorem Nv {i:IV} : Ai P t (.bp b p) (.iv i) bk K=(match tyK P t with
  | some (_,s)=>okC (.iv i)=true/\[AV.iv i].length=s/\match C3 b bk with
   | some (.box _ ds)=>p+s<=ds.length/\K (Ca b [.box b (Ez ds p [.iv i])] bk)
   | some (.arr _ ds)=>∃ is,toIs [.iv i]=some is/\J8 [.iv i]/\p+s<=ds.length/\Ct (K (Ca b [.arr b (Ez ds p is)] bk))
   | _=>False
  | none=>False):=Ae
theorem M1 {r:Nat} : Ai P t (.bp b p) (.own r) bk K=(match tyK P t with
  | some (_,s)=>okC (.own r)=true/\[AV.own r].length=s/\match C3 b bk with
   | some (.box _ ds)=>p+s<=ds.length/\K (Ca b [.box b (Ez ds p [.own r])] bk)
   | some (.arr _ ds)=>∃ is,toIs [.own r]=some is/\J8 [.own r]/\p+s<=ds.length/\Ct (K (Ca b [.arr b (Ez ds p is)] bk))
   | _=>False
  | none=>False):=Ae
end
section
variable {P : Program} {G : World -> Prop} {ro : Option Nat} {V w0 : World} {n : Nd} {σ : Ab} {K : Exit -> Ab -> Prop}
theorem AW.adoptC {c:Code} (b j r e k:Nat) {cs:List AV} (hb:C3 b σ.bk=some (.box b cs)) (hj:cs[j]? = some (.val (.slice none 0 0))) (hf:(Kg r (r+1) σ.fr&&Ha r (r+1) σ.bk)=true) (h:AW P G ro V w0 n c ⟨σ.fr,.row r e k [] :: Ca b [.box b (cs.set j (.own r))] σ.bk⟩ K):AW P G ro V w0 n c σ K:=fun hG m0 E a w hn hs=>by
 rw [Bool.and_eq_true] at hf
 have hE:Env.same r (r+1) E ⟨E.blk,fun x=>if x=r then .slice none 0 0 else E.row x⟩:=fun x hx=>by
  have:¬ x=r:=by omega
  simp [this]
 have ho:Ac ⟨E.blk,fun x=>if x=r then .slice none 0 0 else E.row x⟩ [.row r e k []]=[]:=by simp [Ac,BA.owned,Value.ownBlock]
 have hs2:=hs.add (E':=⟨E.blk,fun x=>if x=r then .slice none 0 0 else E.row x⟩) (nb:=[.row r e k []]) (Below.refl _ w) hE hf.1 hf.2 (by rw [ho];exact List.nodup_nil) (fun g hg=>by rw [ho] at hg;cases hg) (fun x hx=>by
  simp only [List.mem_singleton] at hx
  subst hx
  refine ⟨?_,fun g hg=>by simp [Value.ownBlock] at hg⟩
  simp only [if_true]
  exact Am.nil_ _ _ _)
 obtain ⟨pre,post,e1,e2,e3⟩:=D2 hb
 obtain ⟨fr,bk⟩:=σ
 simp only at e1 e3 hs2 h
 have e4:=e3 [.box b (cs.set j (.own r))]
 subst e1
 rw [e4] at h
 have hs3:St V w0 m0 ⟨E.blk,fun x=>if x=r then .slice none 0 0 else E.row x⟩ ⟨fr,(.row r e k [] :: pre)++.box b cs :: post⟩ a w:=by simpa using hs2
 have hs4:=hs3.rebox (cs':=cs.set j (.own r)) fun vs hv=>⟨by rw [hv.1,List.length_set],fun i v d h1 h2=>by
  rw [List.getElem?_set] at h2
  split at h2
  ·rename_i eij
   subst eij
   split at h2
   ·obtain rfl:=Option.some.inj h2
    have:=hv.2 j v _ h1 hj
    cases this
    exact .own (by simp)
   ·cases h2
  ·exact hv.2 i v d h1 h2⟩
 refine h hG m0 _ a w hn (by simpa using hs4)
end
section
variable {P : Program} {G : World -> Prop} {ops rest : List Oper} {KK : Ab -> Prop} {σ : Ab} {d : Option Tmp} {op : Op} {ty : TypeId} {pos : String} {after : Array Edge} {j : Nat} {g : Bool} {A B X p : Prop} [Decidable p]
variable {ds : List Nat} {fr0 : List (Nat × AV)} {toks : List BA} {rs : List AV} {KD : List BA -> List AV -> Prop} {hs : List El}
theorem Aj (h1:p->A) (h2:¬ p->B):Ka (.val (.bool (decide p))) A B:=Da (fun h=>h1 (of_decide_eq_true h)) (fun h=>h2 (of_decide_eq_false h))
theorem B7 (_:X=Bd P G ops (⟨d,op,ty,pos,after,some (j,g)⟩ :: rest) σ KK) (_:Gx ops σ.fr j=.val (.bool (decide p))) (h1:p->decide p=true->X) (h2:¬ p->decide p=false->X):X:=by
 by_cases h:p
 ·exact h1 h (decide_eq_true h)
 ·exact h2 h (decide_eq_false h)
theorem Ee (_:X=Ap P G ds fr0 (⟨d,op,ty,pos,after,some (j,g)⟩ :: rest) hs toks rs KD) (_:nrm (rs.getD j .any)=.val (.bool (decide p))) (h1:p->decide p=true->X) (h2:¬ p->decide p=false->X):X:=by
 by_cases h:p
 ·exact h1 h (decide_eq_true h)
 ·exact h2 h (decide_eq_false h)
theorem ix_ {α:Type} {l:List α} {f:α->List IV} {i:Nat} {K:List IV->Prop} (h:i < l.length) (hk:K (f l[i])):0<=(i:Int)/\∃ cs,(l.map f)[i]? = some cs/\Ct (K cs):=⟨by omega,_,Dv (List.getElem?_eq_getElem h),Bt hk⟩
end
attribute [go_sem] true_or exists_const List.nodup_nil AV.val.injEq Value.bool.injEq Value.int.injEq and_self
attribute [local irreducible] AW AWY Bd As vop B4 Ap Aw qop Bc Bs Ai Ag Ay A7 Av
attribute [local go_sem] Fx K7 Cp Ae Af
theorem Zu (l:List Ad):A7 Tryz.prog A8 165 [.iv (stI l)] (.iv (stI l)) []:=(A85 l).frz trivial
theorem A88 (x:Bv):A7 Tryz.prog A8 356 [Py x,Py x] (.val (.bool true)) [] :=
 Bm Tryz.func356 rfl (by kernel_rfl) fun V w E vs hV hG hr=>by
  obtain ⟨v0,v1,rfl,h0,h1⟩:=Kz hr
  obtain ⟨n0,n1,n2,n3,rfl,H0⟩:=Li hV h0
  obtain ⟨m0,m1,m2,m3,rfl,H1⟩:=Li hV h1
  exact A02 x _ _ _ _ _ _ _ _ w H0 H1
theorem S8 (l:List Bv):A7 Tryz.prog A8 275 [.iv (noI l),.iv (noI l)] (.val (.bool true)) []:=by
 refine A7.of (n:=27) (rs:=[.tmp 4]) Tryz.func275 rfl (by kernel_rfl) Tryz.ntmps275 (by kernel_rfl) (by simp) (fun _ _=>A8.later) ?_
 intro hok V w0
 have hlen:l.length<=1073741824:=by simpa using hok.1.1
 refine g ?_
 refine g ?_
 repeat' refine st_ rfl (g ?_)
 refine AW.loop (fun m:{m:Nat // m<=l.length}=>⟨[(0,.iv (noI l)),(1,.iv (noI l)),(5,.val (.int .i64 (m.1:Nat)))],[]⟩) (fun m=>l.length - m.1) ⟨0,Nat.zero_le _⟩ id ⟨⟨rfl,rfl,rfl,trivial⟩,trivial,List.nodup_nil⟩ fun ⟨m,hm⟩=>?_
 refine g ?_
 repeat' (first | refine st_ rfl (g ?_) | refine Da (fun h=>g ?_) (fun h=>g ?_))
 ·have hlt:m < l.length:=by simpa using h
  refine AW.drawn (ds:=[17,18,19,20,21,22,23,24,25,26]) (fin:=[]) (bs:=[0,0,0,0,0,0,0,0,0,0]) [⟨[],[],[],[],0⟩,⟨[],[],[],[],0⟩,⟨[(17,0),(18,1)],[],[],[],0⟩,⟨[(19,2)],[],[],[],0⟩,⟨[],[],[],[],0⟩,⟨[],[],[],[],0⟩,⟨[(21,4),(22,5)],[],[],[],0⟩,⟨[(23,6)],[],[],[],0⟩,⟨[(20,3),(24,7)],[],[],[],0⟩,⟨[(25,8)],[],[],[],0⟩] (by kernel_rfl) rfl (by kernel_rfl) rfl rfl rfl fun KD hKD=>?_
  refine g ?_
  refine ⟨by omega,_,Dv (List.getElem?_eq_getElem hlt),?_⟩
  refine g ?_
  repeat' refine Bt (g ?_)
  refine ⟨by omega,_,Dv (List.getElem?_eq_getElem hlt),?_⟩
  refine g ?_
  repeat' refine Bt (g ?_)
  refine Aa (A88 l[m]) rfl ?_
  refine g ?_
  repeat' (refine hKD _ _ ⟨rfl,g ?_⟩;clear hKD KD)
  refine g ?_
  repeat' refine st_ rfl (g ?_)
  exact ⟨⟨m+1,hlt⟩,id,⟨⟨rfl,rfl,rfl,trivial⟩,trivial,List.nodup_nil⟩,by show l.length - (m+1) < l.length - m;omega⟩
 ·first | exact trivial | exact ⟨.inl trivial,id,List.nodup_nil⟩ | rfl
end Go.Proofs.YtahgkllhbggmgaaGreatDoor
namespace Go.Proofs.YtahgkllhbggmgaaGreatDoor
open Go.ChangeShapes Go.WideShapes Go.ChangeAt Go.RowKit
section
attribute [local irreducible] G3
theorem Jv (f:Nat->Bool):(Et f).length=256:=by unfold Et;rw [List.length_map,Array.length_toList,Km]
theorem M3 {f:Nat->Bool} {o:Nat} (h:o < 256):(Et f)[o]? = some (.val (.bool (f o))):=by
 unfold Et setRow
 rw [List.getElem?_map,Array.getElem?_toList,Dr h];rfl
end
attribute [local irreducible] Et Aq1
theorem V8 {f g:Nat->Bool} (h:∀ o,o < 256->f o=g o):Et f=Et g:=List.ext_getElem? fun o=>by
 by_cases ho:o < 256
 ·rw [M3 ho,M3 ho,h o ho]
 ·rw [List.getElem?_eq_none (by rw [Jv];omega),List.getElem?_eq_none (by rw [Jv];omega)]
attribute [local irreducible] AW AWY Bd As vop B4 Ap Aw qop Bc Bs Ai Ag Ay A7 Av
attribute [local go_sem] Cr Ei Cp Uz M0 Nv M1
def Di5 (x:Bv) (it:List Ar) (m:Nat) (o:Nat):Bool:=Dj x.blur o || (Ar0 it (x.writes.take m)).any fun p=>decide (p=(o:Int))
end Go.Proofs.YtahgkllhbggmgaaGreatDoor
namespace Go.Proofs.YtahgkllhbggmgaaGreatDoor
open Go.ChangeShapes Go.WideShapes Go.ChangeAt Go.RowKit
attribute [local irreducible] AW AWY Bd As vop B4 Ap Aw qop Bc Bs Ai Ag Ay A7 Av
attribute [local go_sem] Fx K7 Fs Cp Ae Af
theorem B71 (l m:List Ad):A7 Tryz.prog A8 164 [.iv (stI l),.iv (stI m)] (.iv (stI (Dl [l,m]))) []:=(Aj7 l m).frz trivial
set_option maxHeartbeats 1600000 in
set_option maxRecDepth 100000 in
theorem Pw (l:Log) (iS:I64 l.sure):A7 Tryz.prog A8 77 [Sj l] (.val (.bool (C0 l))) []:=by
 refine A7.of (n:=56) (rs:=[.tmp 2]) Tryz.func77 rfl (by kernel_rfl) Tryz.ntmps77 (by kernel_rfl) (by simp) (fun _ _=>A8.later) ?_
 intro hok V w0
 have hlen:l.notes.length<=1073741824:=by simpa using hok.1.2.1.1
 obtain ⟨B,hB⟩ : ∃ B,C0 l=B:=⟨_,rfl⟩
 rw [hB]
 unfold C0 Uy at hB
 refine g ?_
 refine AW.seq ?_
 refine AW.reg rfl fun KK hKK=>?_
 refine g ?_
 repeat' (refine hKK _ (g ?_);clear hKK KK)
 refine AW.freeze 200 _ rfl ⟨trivial,trivial,iS,trivial⟩ ?_
 simp only [go_sem,reduceIte,Nat.reduceEqDiff]
 refine g ?_
 repeat' refine st_ rfl (g ?_)
 refine Aa (G2 l.base) rfl ?_
 cases hb:B6 l.base
 ·obtain rfl:B=false:=by rw [<-hB,hb];rfl
  refine g ?_
  repeat' refine st_ rfl (g ?_)
  first | exact trivial | exact ⟨.inl trivial,id,List.nodup_nil⟩ | exact ⟨.inl trivial,id,rfl,List.nodup_nil⟩ | rfl
 refine g ?_
 by_cases h0:l.sure < 0
 ·obtain rfl:B=false:=by rw [<-hB,decide_eq_false (p:=0<=l.sure) (by omega)];simp
  simp only [decide_eq_true h0]
  refine g ?_
  repeat' refine st_ rfl (g ?_)
  first | exact trivial | exact ⟨.inl trivial,id,List.nodup_nil⟩ | exact ⟨.inl trivial,id,rfl,List.nodup_nil⟩ | rfl
 simp only [decide_eq_false h0]
 refine g ?_
 repeat' (first | refine st_ rfl (g ?_) | refine Da (fun h=>g ?_) (fun h=>g ?_))
 ·obtain rfl:B=false:=by
   have:=of_decide_eq_true h
   rw [<-hB,decide_eq_false (p:=l.sure<=l.notes.length) (by omega)];simp
  first | exact trivial | exact ⟨.inl trivial,id,List.nodup_nil⟩ | exact ⟨.inl trivial,id,rfl,List.nodup_nil⟩ | rfl
 have h1:l.sure<=l.notes.length:=by have:=of_decide_eq_false h;omega
 rw [hb,decide_eq_true h1,decide_eq_true (p:=0<=l.sure) (by omega),Bool.true_and,Bool.true_and,Bool.true_and] at hB
 refine AW.loop (fun m:{m:Nat // m<=l.notes.length/\Bz l.base (l.notes.take m)=true}=>⟨[(1,.ip [stI l.base,noI l.notes,.val (.int .i64 l.sure)]),(3,.iv (stI (Ax l.base (l.notes.take m.1)))),(4,.val (.int .i64 (m.1:Nat)))],[]⟩) (fun m=>l.notes.length - m.1) ⟨0,Nat.zero_le _,rfl⟩ id ⟨⟨rfl,rfl,rfl,trivial⟩,trivial,List.nodup_nil⟩ fun ⟨m,hm,ht⟩=>?_
 have hsp:∀ (hlt:m < l.notes.length),l.notes=l.notes.take m++l.notes[m] :: l.notes.drop (m+1):=fun hlt=>by rw [<-List.drop_eq_getElem_cons hlt,List.take_append_drop]
 clear h
 refine g ?_
 repeat' (first | refine st_ rfl (g ?_) | refine Da (fun h=>g ?_) (fun h=>g ?_))
 ·have hlt:m < l.notes.length:=by simpa using h
  have hs2:Bz l.base l.notes=((Bl l.notes[m]&&Bo (Ax l.base (l.notes.take m)) l.notes[m].start)&&Bz (Dl [Ax l.base (l.notes.take m),l.notes[m].end_]) (l.notes.drop (m+1))):=by
   conv=>lhs;rw [hsp hlt]
   rw [D6,ht,Bool.true_and];rfl
  refine ⟨by omega,_,Dv (List.getElem?_eq_getElem hlt),?_⟩
  refine g ?_
  repeat' refine Bt (g ?_)
  refine Aa (Pv l.notes[m]) rfl ?_
  cases hf:Bl l.notes[m]
  ·refine g ?_
   repeat' refine st_ rfl (g ?_)
   obtain rfl:B=false:=by rw [<-hB,hs2,hf];rfl
   first | exact trivial | exact ⟨.inl trivial,id,List.nodup_nil⟩ | exact ⟨.inl trivial,id,rfl,List.nodup_nil⟩ | rfl
  refine g ?_
  refine ⟨by omega,_,Dv (List.getElem?_eq_getElem hlt),?_⟩
  refine g ?_
  repeat' refine Bt (g ?_)
  refine Aa (A90 l.notes[m] _) rfl ?_
  cases hc:Bo (Ax l.base (l.notes.take m)) l.notes[m].start
  ·refine g ?_
   repeat' refine st_ rfl (g ?_)
   obtain rfl:B=false:=by rw [<-hB,hs2,hf,hc];rfl
   first | exact trivial | exact ⟨.inl trivial,id,List.nodup_nil⟩ | exact ⟨.inl trivial,id,rfl,List.nodup_nil⟩ | rfl
  refine g ?_
  repeat' refine st_ rfl (g ?_)
  refine ⟨by omega,_,Dv (List.getElem?_eq_getElem hlt),?_⟩
  refine g ?_
  repeat' refine Bt (g ?_)
  refine Aa (B71 (Ax l.base (l.notes.take m)) l.notes[m].end_) rfl ?_
  refine g ?_
  repeat' refine st_ rfl (g ?_)
  refine ⟨⟨m+1,hlt,?_⟩,id,⟨⟨rfl,?_,rfl,trivial⟩,trivial,List.nodup_nil⟩,by show l.notes.length - (m+1) < l.notes.length - m;omega⟩
  ·rw [List.take_succ_eq_append_getElem hlt,D6,ht,Bool.true_and]
   simp [Bz,hf,hc]
  ·rw [List.take_succ_eq_append_getElem hlt,K4]
   rfl
 ·have:m=l.notes.length:=by simp at h;omega
  subst this
  rw [List.take_length] at ht
  rw [ht] at hB
  subst hB
  first | exact trivial | exact ⟨.inl trivial,id,List.nodup_nil⟩ | exact ⟨.inl trivial,id,rfl,List.nodup_nil⟩ | rfl
theorem A93 (l:Log) (iS:I64 l.sure):A7 Tryz.prog A8 150 [Sj l,Sj l] (.val (.bool true)) []:=by
 refine A7.of (n:=24) (rs:=[.tmp 4]) Tryz.func150 rfl (by kernel_rfl) Tryz.ntmps150 (by kernel_rfl) (by simp) (fun _ _=>A8.later) ?_
 intro hok V w0
 refine g ?_
 refine g ?_
 repeat' refine st_ rfl (g ?_)
 refine Aa (Ep l.base l.base) rfl ?_
 simp only [decide_true]
 refine g ?_
 refine Aa (S8 l.notes) rfl ?_
 refine g ?_
 repeat' refine st_ rfl (g ?_)
 first | exact trivial | exact ⟨.inl trivial,id,List.nodup_nil⟩ | exact ⟨.inl trivial,id,rfl,List.nodup_nil⟩ | rfl
end Go.Proofs.YtahgkllhbggmgaaGreatDoor
