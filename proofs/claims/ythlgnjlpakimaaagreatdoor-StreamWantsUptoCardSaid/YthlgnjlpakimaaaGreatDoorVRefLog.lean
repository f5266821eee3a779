/- Logs: checked, copied, compared, and the place of what is new (the reference's). -/
import Derived.Test.YthlgnjlpakimaaaGreatDoorVNoteThrough
import Derived.Test.YthlgnjlpakimaaaGreatDoorVLogAll
set_option linter.all false
set_option linter.unnecessarySimpa false
set_option linter.unusedSimpArgs false
set_option linter.unusedVariables false
namespace Go.Proofs.YthlgnjlpakimaaaGreatDoor
open Go.ChangeShapes Go.WideShapes Go.ChangeAt Go.RowKit
section
variable {P : Program} {t : TypeId} {b p : Nat} {bk : List BA} {K : List BA -> Prop}
theorem Qe {cs:List AV} : Az P t (.bp b p) (.agg cs) bk K=(match tyK P t with
  | some (_,s)=>okC (.agg cs)=true/\cs.length=s/\match Cm b bk with
   | some (.box _ ds)=>p+s<=ds.length/\K (Dg b [.box b (Fs ds p cs)] bk)
   | some (.arr _ ds)=>∃ is,toIs cs=some is/\Gj cs/\p+s<=ds.length/\Fb (K (Dg b [.arr b (Fs ds p is)] bk))
   | _=>False
  | none=>False):=Ap
theorem Kt {v:Value} : Az P t (.bp b p) (.val v) bk K=(match tyK P t with
  | some (_,s)=>okC (.val v)=true/\[AV.val v].length=s/\match Cm b bk with
   | some (.box _ ds)=>p+s<=ds.length/\K (Dg b [.box b (Fs ds p [.val v])] bk)
   | some (.arr _ ds)=>∃ is,toIs [.val v]=some is/\Gj [.val v]/\p+s<=ds.length/\Fb (K (Dg b [.arr b (Fs ds p is)] bk))
   | _=>False
  | none=>False):=Ap
theorem M6 {i:IV} : Az P t (.bp b p) (.iv i) bk K=(match tyK P t with
  | some (_,s)=>okC (.iv i)=true/\[AV.iv i].length=s/\match Cm b bk with
   | some (.box _ ds)=>p+s<=ds.length/\K (Dg b [.box b (Fs ds p [.iv i])] bk)
   | some (.arr _ ds)=>∃ is,toIs [.iv i]=some is/\Gj [.iv i]/\p+s<=ds.length/\Fb (K (Dg b [.arr b (Fs ds p is)] bk))
   | _=>False
  | none=>False):=Ap
theorem Ku {r:Nat} : Az P t (.bp b p) (.own r) bk K=(match tyK P t with
  | some (_,s)=>okC (.own r)=true/\[AV.own r].length=s/\match Cm b bk with
   | some (.box _ ds)=>p+s<=ds.length/\K (Dg b [.box b (Fs ds p [.own r])] bk)
   | some (.arr _ ds)=>∃ is,toIs [.own r]=some is/\Gj [.own r]/\p+s<=ds.length/\Fb (K (Dg b [.arr b (Fs ds p is)] bk))
   | _=>False
  | none=>False):=Ap
end
section
variable {P : Program} {G : World -> Prop} {ro : Option Nat} {V w0 : World} {n : Nd} {σ : Ah} {K : Exit -> Ah -> Prop}
theorem AW.adoptC {c:Code} (b j r e k:Nat) {cs:List AV} (hb:Cm b σ.bk=some (.box b cs)) (hj:cs[j]? = some (.val (.slice none 0 0))) (hf:(Lx r (r+1) σ.fr&&Hv r (r+1) σ.bk)=true) (h:AW P G ro V w0 n c ⟨σ.fr,.row r e k [] :: Dg b [.box b (cs.set j (.own r))] σ.bk⟩ K):AW P G ro V w0 n c σ K:=fun hG m0 E a w hn hs=>by
 rw [Bool.and_eq_true] at hf
 have hE:Env.same r (r+1) E ⟨E.blk,fun x=>if x=r then .slice none 0 0 else E.row x⟩:=fun x hx=>by
  have:¬ x=r:=by omega
  simp [this]
 have ho:Ac ⟨E.blk,fun x=>if x=r then .slice none 0 0 else E.row x⟩ [.row r e k []]=[]:=by simp [Ac,BA.owned,Value.ownBlock]
 have hs2:=hs.add (E':=⟨E.blk,fun x=>if x=r then .slice none 0 0 else E.row x⟩) (nb:=[.row r e k []]) (Below.refl _ w) hE hf.1 hf.2 (by rw [ho];exact List.nodup_nil) (fun g hg=>by rw [ho] at hg;cases hg) (fun x hx=>by
  simp only [List.mem_singleton] at hx
  subst hx
  refine ⟨?_,fun g hg=>by simp [Value.ownBlock] at hg⟩
  simp only [if_true]
  exact Af.nil_ _ _ _)
 obtain ⟨pre,post,e1,e2,e3⟩:=D9 hb
 obtain ⟨fr,bk⟩:=σ
 simp only at e1 e3 hs2 h
 have e4:=e3 [.box b (cs.set j (.own r))]
 subst e1
 rw [e4] at h
 have hs3:St V w0 m0 ⟨E.blk,fun x=>if x=r then .slice none 0 0 else E.row x⟩ ⟨fr,(.row r e k [] :: pre)++.box b cs :: post⟩ a w:=by simpa using hs2
 have hs4:=hs3.rebox (cs':=cs.set j (.own r)) fun vs hv=>⟨by rw [hv.1,List.length_set],fun i v d h1 h2=>by
  rw [List.getElem?_set] at h2
  split at h2
  ·rename_i eij
   subst eij
   split at h2
   ·obtain rfl:=Option.some.inj h2
    have:=hv.2 j v _ h1 hj
    cases this
    exact .own (by simp)
   ·cases h2
  ·exact hv.2 i v d h1 h2⟩
 refine h hG m0 _ a w hn (by simpa using hs4)
end
attribute [local irreducible] AW AWY Cf Bf vop Bw Bh Bx qop Cg Cz Az Aw C5 A7 Bl
attribute [local go_sem] Lk Lm Ce Ap Ar
theorem N9 (l:List Aa):A7 Tryz.prog A9 40 [.iv (stI l)] (.iv (stI l)) []:=(Ak3 l).frz trivial
theorem Ak9 (x:Aq):A7 Tryz.prog A9 75 [F3 x,F3 x] (.val (.bool true)) [] :=
 Cd Tryz.func75 rfl (by kernel_rfl) fun V w E vs hV hG hr=>by
  obtain ⟨v0,v1,rfl,h0,h1⟩:=K1 hr
  obtain ⟨n0,n1,n2,n3,rfl,H0⟩:=Pj hV h0
  obtain ⟨m0,m1,m2,m3,rfl,H1⟩:=Pj hV h1
  exact Ae4 x _ _ _ _ _ _ _ _ w H0 H1
theorem B92 (l:List Aq):A7 Tryz.prog A9 23 [.iv (noI l),.iv (noI l)] (.val (.bool true)) []:=by
 refine A7.of (n:=27) (rs:=[.tmp 4]) Tryz.func23 rfl (by kernel_rfl) Tryz.ntmps23 (by kernel_rfl) (by simp) (fun _ _=>A9.later) ?_
 intro hok V w0
 have hlen:l.length<=1073741824:=by simpa using hok.1.1
 refine g ?_
 refine g ?_
 repeat' refine st_ rfl (g ?_)
 refine AW.loop (fun m:{m:Nat // m<=l.length}=>⟨[(0,.iv (noI l)),(1,.iv (noI l)),(5,.val (.int .i64 (m.1:Nat)))],[]⟩) (fun m=>l.length - m.1) ⟨0,Nat.zero_le _⟩ id ⟨⟨rfl,rfl,rfl,trivial⟩,trivial,List.nodup_nil⟩ fun ⟨m,hm⟩=>?_
 refine g ?_
 repeat' (first | refine st_ rfl (g ?_) | refine C9 (fun h=>g ?_) (fun h=>g ?_))
 ·have hlt:m < l.length:=by simpa using h
  refine AW.drawn (ds:=[17,18,19,20,21,22,23,24,25,26]) (fin:=[]) (bs:=[0,0,0,0,0,0,0,0,0,0]) [⟨[],[],[],[],0⟩,⟨[],[],[],[],0⟩,⟨[(17,0),(18,1)],[],[],[],0⟩,⟨[(19,2)],[],[],[],0⟩,⟨[],[],[],[],0⟩,⟨[],[],[],[],0⟩,⟨[(21,4),(22,5)],[],[],[],0⟩,⟨[(23,6)],[],[],[],0⟩,⟨[(20,3),(24,7)],[],[],[],0⟩,⟨[(25,8)],[],[],[],0⟩] (by kernel_rfl) rfl (by kernel_rfl) rfl rfl rfl fun KD hKD=>?_
  refine g ?_
  refine ⟨by omega,_,Cb (List.getElem?_eq_getElem hlt),?_⟩
  refine g ?_
  repeat' refine Am (g ?_)
  refine ⟨by omega,_,Cb (List.getElem?_eq_getElem hlt),?_⟩
  refine g ?_
  repeat' refine Am (g ?_)
  refine Ab (Ak9 l[m]) rfl ?_
  refine g ?_
  repeat' (refine hKD _ _ ⟨rfl,g ?_⟩;clear hKD KD)
  refine g ?_
  repeat' refine st_ rfl (g ?_)
  exact ⟨⟨m+1,hlt⟩,id,⟨⟨rfl,rfl,rfl,trivial⟩,trivial,List.nodup_nil⟩,by show l.length - (m+1) < l.length - m;omega⟩
 ·exact ⟨.inl trivial,id,List.nodup_nil⟩
end Go.Proofs.YthlgnjlpakimaaaGreatDoor
namespace Go.Proofs.YthlgnjlpakimaaaGreatDoor
open Go.ChangeShapes Go.WideShapes Go.ChangeAt Go.RowKit
attribute [local irreducible] AW AWY Cf Bf vop Bw Bh Bx qop Cg Cz Az Aw C5 A7 Bl
attribute [local go_sem] Lk Lm Kj Ce Ap Ar
theorem Bx3 (l m:List Aa):A7 Tryz.prog A9 28 [.iv (stI l),.iv (stI m)] (.iv (stI (Dq [l,m]))) []:=(A02 l m).frz trivial
set_option maxHeartbeats 1600000 in
set_option maxRecDepth 100000 in
theorem Nu (l:Log) (iS:I64 l.sure):A7 Tryz.prog A9 37 [Ug l] (.val (.bool (C0 l))) []:=by
 refine A7.of (n:=56) (rs:=[.tmp 2]) Tryz.func37 rfl (by kernel_rfl) Tryz.ntmps37 (by kernel_rfl) (by simp) (fun _ _=>A9.later) ?_
 intro hok V w0
 have hlen:l.notes.length<=1073741824:=by simpa using hok.1.2.1.1
 obtain ⟨B,hB⟩ : ∃ B,C0 l=B:=⟨_,rfl⟩
 rw [hB]
 unfold C0 Y5 at hB
 refine g ?_
 refine AW.seq ?_
 refine AW.reg rfl fun KK hKK=>?_
 refine g ?_
 repeat' (refine hKK _ (g ?_);clear hKK KK)
 refine AW.freeze 200 _ rfl ⟨trivial,trivial,iS,trivial⟩ ?_
 simp only [go_sem,reduceIte,Nat.reduceEqDiff]
 refine g ?_
 repeat' refine st_ rfl (g ?_)
 refine Ab (L4 l.base) rfl ?_
 cases hb:Ak l.base
 ·obtain rfl:B=false:=by rw [<-hB,hb];rfl
  refine g ?_
  repeat' refine st_ rfl (g ?_)
  first | exact trivial | exact ⟨.inl trivial,id,List.nodup_nil⟩ | exact ⟨.inl trivial,id,rfl,List.nodup_nil⟩
 refine g ?_
 by_cases h0:l.sure < 0
 ·obtain rfl:B=false:=by rw [<-hB,decide_eq_false (p:=0<=l.sure) (by omega)];simp
  simp only [decide_eq_true h0]
  refine g ?_
  repeat' refine st_ rfl (g ?_)
  first | exact trivial | exact ⟨.inl trivial,id,List.nodup_nil⟩ | exact ⟨.inl trivial,id,rfl,List.nodup_nil⟩
 simp only [decide_eq_false h0]
 refine g ?_
 repeat' (first | refine st_ rfl (g ?_) | refine C9 (fun h=>g ?_) (fun h=>g ?_))
 ·obtain rfl:B=false:=by
   have:=of_decide_eq_true h
   rw [<-hB,decide_eq_false (p:=l.sure<=l.notes.length) (by omega)];simp
  first | exact trivial | exact ⟨.inl trivial,id,List.nodup_nil⟩ | exact ⟨.inl trivial,id,rfl,List.nodup_nil⟩
 have h1:l.sure<=l.notes.length:=by have:=of_decide_eq_false h;omega
 rw [hb,decide_eq_true h1,decide_eq_true (p:=0<=l.sure) (by omega),Bool.true_and,Bool.true_and,Bool.true_and] at hB
 refine AW.loop (fun m:{m:Nat // m<=l.notes.length/\C7 l.base (l.notes.take m)=true}=>⟨[(1,.ip [stI l.base,noI l.notes,.val (.int .i64 l.sure)]),(3,.iv (stI (Db l.base (l.notes.take m.1)))),(4,.val (.int .i64 (m.1:Nat)))],[]⟩) (fun m=>l.notes.length - m.1) ⟨0,Nat.zero_le _,rfl⟩ id ⟨⟨rfl,rfl,rfl,trivial⟩,trivial,List.nodup_nil⟩ fun ⟨m,hm,ht⟩=>?_
 have hsp:∀ (hlt:m < l.notes.length),l.notes=l.notes.take m++l.notes[m] :: l.notes.drop (m+1):=fun hlt=>by rw [<-List.drop_eq_getElem_cons hlt,List.take_append_drop]
 clear h
 refine g ?_
 repeat' (first | refine st_ rfl (g ?_) | refine C9 (fun h=>g ?_) (fun h=>g ?_))
 ·have hlt:m < l.notes.length:=by simpa using h
  have hs2:C7 l.base l.notes=((Ag l.notes[m]&&At (Db l.base (l.notes.take m)) l.notes[m].start)&&C7 (Dq [Db l.base (l.notes.take m),l.notes[m].end_]) (l.notes.drop (m+1))):=by
   conv=>lhs;rw [hsp hlt]
   rw [Dp,ht,Bool.true_and];rfl
  refine ⟨by omega,_,Cb (List.getElem?_eq_getElem hlt),?_⟩
  refine g ?_
  repeat' refine Am (g ?_)
  refine Ab (L6 l.notes[m]) rfl ?_
  cases hf:Ag l.notes[m]
  ·refine g ?_
   repeat' refine st_ rfl (g ?_)
   obtain rfl:B=false:=by rw [<-hB,hs2,hf];rfl
   first | exact trivial | exact ⟨.inl trivial,id,List.nodup_nil⟩ | exact ⟨.inl trivial,id,rfl,List.nodup_nil⟩
  refine g ?_
  refine ⟨by omega,_,Cb (List.getElem?_eq_getElem hlt),?_⟩
  refine g ?_
  repeat' refine Am (g ?_)
  refine Ab (Al0 l.notes[m] _) rfl ?_
  cases hc:At (Db l.base (l.notes.take m)) l.notes[m].start
  ·refine g ?_
   repeat' refine st_ rfl (g ?_)
   obtain rfl:B=false:=by rw [<-hB,hs2,hf,hc];rfl
   first | exact trivial | exact ⟨.inl trivial,id,List.nodup_nil⟩ | exact ⟨.inl trivial,id,rfl,List.nodup_nil⟩
  refine g ?_
  repeat' refine st_ rfl (g ?_)
  refine ⟨by omega,_,Cb (List.getElem?_eq_getElem hlt),?_⟩
  refine g ?_
  repeat' refine Am (g ?_)
  refine Ab (Bx3 (Db l.base (l.notes.take m)) l.notes[m].end_) rfl ?_
  refine g ?_
  repeat' refine st_ rfl (g ?_)
  refine ⟨⟨m+1,hlt,?_⟩,id,⟨⟨rfl,?_,rfl,trivial⟩,trivial,List.nodup_nil⟩,by show l.notes.length - (m+1) < l.notes.length - m;omega⟩
  ·rw [List.take_succ_eq_append_getElem hlt,Dp,ht,Bool.true_and]
   simp [C7,hf,hc]
  ·rw [List.take_succ_eq_append_getElem hlt,S3]
   rfl
 ·have:m=l.notes.length:=by simp at h;omega
  subst this
  rw [List.take_length] at ht
  rw [ht] at hB
  subst hB
  first | exact trivial | exact ⟨.inl trivial,id,List.nodup_nil⟩ | exact ⟨.inl trivial,id,rfl,List.nodup_nil⟩
end Go.Proofs.YthlgnjlpakimaaaGreatDoor
