/- A region that draws its order: the law. No program is known here. -/
import Derived.Test.YtahgkllhbggmgaaGreatDoorKAbsDraw
set_option linter.all false
set_option linter.unnecessarySimpa false
set_option linter.unusedSimpArgs false
set_option linter.unusedVariables false
namespace Go.Proofs.YtahgkllhbggmgaaGreatDoor
open Go.ChangeShapes Go.WideShapes Go.ChangeAt Go.RowKit
theorem Bi9 {p q r:Prop} (h:p\/q) (f:q->r):p\/r:=h.elim Or.inl fun h=>.inr (f h)
structure Br7 (m:Nat) (ops:List Oper) (hs:List El) (A:List Nat) (i:Nat) (o:Oper) (h:El):Prop where
 lt:∀ d∈Cd o,d < i
 sl:∀ p∈h.sl,(A.getD i 0).testBit p.2=true/\Br ops p.2=some p.1
 pre:∀ j d,j < ops.length->Br ops j=some d->d∈h.pre->j=i\/(A.getD j 0).testBit i=true
 from_:∀ t∈h.cs++h.rd,t < (Cx m hs).getD i 0/\(t < m\/∃ j,j < i/\t∈outs (Cx m hs) hs j/\(A.getD i 0).testBit j=true)
 use:∀ j g,hs[j]? = some g->j < ops.length->j≠i->∀ t∈h.cs,t∈g.cs++g.rd->(A.getD i 0).testBit j=true
 nodup:(h.cs++h.rd).Nodup
 guard:∀ j b,o.guard=some (j,b)->(A.getD i 0).testBit j=true/\(Br ops j).isSome=true
theorem Cn1 {m:Nat} {ops:List Oper} {hs:List El} {A:List Nat} {i:Nat} {o:Oper} {h:El} (hk:Ao3 m ops hs A (Cx m hs) i o h=true):Br7 m ops hs A i o h:=by
 simp only [Ao3,Bool.and_eq_true,List.all_eq_true,decide_eq_true_eq,List.mem_range,Bool.or_eq_true,List.any_eq_true,beq_iff_eq,List.contains_eq_mem,Bool.not_eq_true',decide_eq_false_iff_not] at hk
 obtain ⟨⟨⟨⟨⟨⟨h1,h2⟩,h3⟩,h4⟩,h5⟩,h6⟩,h7⟩:=hk
 refine ⟨h1,fun p hp=>h2 p hp,fun j d hj hd hp=>?_,fun t ht=>?_,fun j g hg hj hne t ht htg=>?_,M8 h6,fun j b hg=>by rw [hg] at h7;simp only [Bool.and_eq_true] at h7;exact h7⟩
 ·have:=h3 j hj
  unfold Br at hd
  rw [hd] at this
  simp only [Bool.or_eq_true,Bool.not_eq_true',decide_eq_false_iff_not,beq_iff_eq] at this
  rcases this with (h | h) | h
  ·exact absurd hp h
  ·exact .inl h
  ·exact .inr h
 ·obtain ⟨a1,a2⟩:=h4 t ht
  refine ⟨a1,Bi9 a2 fun ⟨j,b1,b2,b3⟩=>⟨j,b1,b2,b3⟩⟩
 ·rcases h5 j hj with h | h
  ·exact absurd h hne
  ·rcases h t ht with h | h
   ·rw [hg] at h
    exact absurd htg h
   ·exact h
section
variable {ops : List Oper} {S : Nat -> Bool}
theorem Nt (hlt:∀ (i:Nat) o,ops[i]? = some o->∀ d∈Cd o,d < i) (hcl:∀ (i:Nat) o,ops[i]? = some o->S i=true->∀ d∈Cd o,S d=true):∀ (i:Nat),i < ops.length->(∀ o,ops[i]? = some o->∀ d∈Cd o,S d=true)->∀ j,((bef [] (ops.map Cd)).getD i 0).testBit j=true->S j=true/\j < i:=by
 intro i
 induction i using Nat.strongRecOn with
 | _ i ih =>
  intro hi hd j hj
  have ho:ops[i]? = some ops[i]:=List.getElem?_eq_getElem hi
  have hr:(ops.map Cd).getD i []=Cd ops[i]:=by rw [List.getD_eq_getElem?_getD,List.getElem?_map,ho];rfl
  obtain ⟨d,h1,h2⟩:=Aq4 (ops.map Cd) [] i j (by simpa using hj) (by simpa using hi) (fun d hdm=>by
   rw [hr] at hdm
   simpa using hlt i _ ho d hdm)
  rw [hr] at h1
  have hdi:=hlt i _ ho d h1
  have hSd:=hd _ ho d h1
  rcases h2 with rfl | h2
  ·exact ⟨hSd,hdi⟩
  ·obtain ⟨h3,h4⟩:=ih d hdi (by omega) (fun o ho' d' hd'=>hcl d o ho' hSd d' hd') j h2
   exact ⟨h3,by omega⟩
end
section
variable {P : Program} {G : World -> Prop} {V w0 : World} {n : Nd} {ro : Option Nat} {σ : Ab} {K : Exit -> Ab -> Prop}
def Bc2 (m:Nat) (hs:List El):List Nat:=(List.range (Lg m hs)).filter fun t=>!hs.any fun h=>h.cs.contains t
def Xs (m:Nat) (hs:List El) (S:Nat->Bool) (t:Nat):Prop:=(t < m\/∃ i,S i=true/\t∈outs (Cx m hs) hs i)/\∀ j g,hs[j]? = some g->t∈g.cs->S j=false
open Classical in
noncomputable def Az8 (m:Nat) (hs:List El) (toks:List BA) (S:Nat->Bool):List BA:=Cn ((List.range (Lg m hs)).filter fun t=>decide (Xs m hs S t)) toks
theorem Fg (a b:List Nat) (toks:List BA):Cn (a++b) toks=Cn a toks++Cn b toks:=by simp [R5]
theorem Nx {a b:List Nat} (h:a.Perm b) (toks:List BA):(Cn a toks).Perm (Cn b toks):=by
 rw [R5,R5]
 exact h.map _
theorem AW.draw {id m:Nat} {ops:List Oper} (hs:List El) (hp:P.follows .mixedOrders=true) (hm:σ.bk.length=m) (hok:Ap7 n m ops hs=true)
  {Fr:List BA->List AV->Prop} (hFr:∀ toks rs,Fr toks rs->Wg toks σ.fr ops rs hs (Cx m hs))
  (h:Ap P G (F7 ops) σ.fr ops hs σ.bk [] fun toks rs=>Fr toks rs/\K .normal ⟨U4 ops rs σ.fr,Cn (Bc2 m hs) toks⟩):AW P G ro V w0 n (.region id ops.toArray true) σ K:=fun hG m0 E0 a0 w1 hn0 hs0=>by
 classical
 simp only [Ap7,Bool.and_eq_true,beq_iff_eq,List.all_eq_true,List.mem_range] at hok
 obtain ⟨⟨⟨⟨hlen,hnd⟩,hdst⟩,hlex⟩,hall⟩:=hok
 have hnd:=M8 hnd
 obtain ⟨toks,rs,⟨hfr,hK⟩,⟨e1,he1⟩,_,hrl,htl,hop⟩:=Uu ops hs σ.bk [] _ h hlen
 replace hfr:=hFr toks rs hfr
 simp only [List.length_nil,Nat.zero_add] at hrl hop
 rw [hm] at htl hop
 have hint:∀ i o,ops[i]? = some o->∃ g,hs[i]? = some g/\Br7 m ops hs (bef [] (ops.map Cd)) i o g:=fun i o ho=>by
  have hi:=(List.getElem?_eq_some_iff.1 ho).1
  have:=hall i hi
  rw [ho] at this
  cases hg:hs[i]? with
  | none=>rw [List.getElem?_eq_none_iff] at hg;omega
  | some g =>
   rw [hg] at this
   exact ⟨g,rfl,Cn1 this⟩
 have hlt:∀ (i:Nat) o,ops[i]? = some o->∀ d∈Cd o,d < i:=fun i o ho=>by
  obtain ⟨g,_,hg⟩:=hint i o ho
  exact hg.lt
 refine Mp hp hlex (fun S a w=>∃ E,St V w0 m0 E ⟨F1 rs S 0 ops++σ.fr,Az8 m hs toks S⟩ a w) ?_ ?_ ?_
 ·-- ahead of all
  refine ⟨E0,?_⟩
  have hnil:F1 rs (fun _=>false) 0 ops=[]:=by
   cases hd:F1 rs (fun _=>false) 0 ops with
   | nil=>rfl
   | cons p l =>
    have:p∈F1 rs (fun _=>false) 0 ops:=by rw [hd];simp
    obtain ⟨_,_,h,_⟩:=Hc.1 this
    cases h
  rw [hnil]
  have hbk:σ.bk=Cn (List.range' 0 m) toks:=by
   rw [Q9 m 0 (by rw [htl];have:=Qv hs m;omega),he1,List.drop_zero,<-hm,List.take_left]
  refine St.perm (bk:=σ.bk) (fr:=σ.fr) hs0.drew ?_
  rw [hbk]
  refine Nx ((List.perm_ext_iff_of_nodup (List.nodup_range' (step:=1)) ((List.nodup_range).filter _)).2 fun t=>?_) toks
  rw [List.mem_range'_1,List.mem_filter,List.mem_range,decide_eq_true_eq]
  have:=Qv hs m
  constructor
  ·rintro ⟨_,h⟩
   exact ⟨by omega,.inl (by omega),fun _ _ _ _=>rfl⟩
  ·rintro ⟨_,h | ⟨i,h,_⟩,_⟩
   ·omega
   ·cases h
 ·-- a step
  rintro i o S a w ho hSi haf hcl ⟨E,hst⟩
  have ho':ops[i]? = some o:=by simpa using ho
  have hi:=(List.getElem?_eq_some_iff.1 ho').1
  obtain ⟨g,hg,hp⟩:=hint i o ho'
  have hdep:∀ {o:Oper} {T:Nat->Bool},(∀ e∈o.after,Region.binds .any e=true->T e.on=true)->∀ d∈Cd o,T d=true:=fun {o T} h d hd=>by
   unfold Cd at hd
   obtain ⟨e,he,hb⟩:=List.mem_filterMap.1 hd
   split at hb
   ·rename_i hbi
    obtain rfl:=Option.some.inj hb
    exact h e (by simpa using he) hbi
   ·cases hb
  have hcl':∀ (k:Nat) o',ops[k]? = some o'->S k=true->∀ d∈Cd o',S d=true:=fun k o' hk hSk=>hdep (hcl k o' (by simpa using hk) hSk)
  have anc:∀ j,((bef [] (ops.map Cd)).getD i 0).testBit j=true->S j=true/\j < i:=Nt hlt hcl' i hi fun o2 ho2=>by
   rw [ho'] at ho2
   obtain rfl:=Option.some.inj ho2
   exact hdep haf
  have anc2:∀ j,S j=true->j < ops.length->∀ k,((bef [] (ops.map Cd)).getD j 0).testBit k=true->S k=true:=fun j hSj hj k hk =>
   (Nt hlt hcl' j hj (fun o2 ho2=>hcl' j o2 ho2 hSj) k hk).1
  obtain ⟨b,hb1,hb2,hb3⟩:=Lr hs m i g hg
  obtain ⟨x,hx,hcase⟩:=hop i o g b ho' hg hb1
  have hbD:(Cx m hs).getD i 0=b:=by rw [List.getD_eq_getElem?_getD,hb1];rfl
  -- what the hint names lies there
  have there:∀ t∈g.cs++g.rd,Xs m hs S t:=fun t ht=>by
   obtain ⟨_,h2⟩:=hp.from_ t ht
   refine ⟨Bi9 h2 fun ⟨j,_,j2,j3⟩=>⟨j,(anc j j3).1,j2⟩,fun j gj hj htj=>?_⟩
   cases hSj:S j with
   | false=>rfl
   | true =>
    exfalso
    by_cases hji:j=i
    ·subst hji;rw [hSi] at hSj;cases hSj
    ·have hjl:j < ops.length:=by rw [<-hlen];exact (List.getElem?_eq_some_iff.1 hj).1
     obtain ⟨gj',h1',hpj⟩:=hint j _ (List.getElem?_eq_getElem hjl)
     rw [hj] at h1'
     obtain rfl:=Option.some.inj h1'
     have:=hpj.use i g hg hi (Ne.symm hji) t htj ht
     rw [anc2 j hSj hjl i this] at hSi
     cases hSi
  have hM:∀ t∈g.cs++g.rd,t < b:=fun t ht=>by have:=(hp.from_ t ht).1;rw [hbD] at this;exact this
  have oi:∀ t,t∈outs (Cx m hs) hs i↔b<=t/\t < b+g.out:=fun t=>Nf hg hb1
  -- the others
  let rest:=(List.range (Lg m hs)).filter fun t=>decide (Xs m hs S t/\t∉g.cs++g.rd)
  have hrest:∀ t,t∈rest↔t < Lg m hs/\Xs m hs S t/\t∉g.cs++g.rd:=fun t=>by simp only [rest,List.mem_filter,List.mem_range,decide_eq_true_eq]
  have hrn:rest.Nodup:=(List.nodup_range).filter _
  have p1:((List.range (Lg m hs)).filter fun t=>decide (Xs m hs S t)).Perm ((g.cs++g.rd)++rest):=by
   refine (List.perm_ext_iff_of_nodup ((List.nodup_range).filter _) (List.nodup_append.2 ⟨hp.nodup,hrn,fun t h1 t' h2 e=>?_⟩)).2 fun t=>?_
   ·subst e;exact ((hrest t).1 h2).2.2 h1
   ·rw [List.mem_filter,List.mem_range,decide_eq_true_eq,List.mem_append,hrest]
    constructor
    ·rintro ⟨h1,h2⟩
     by_cases h3:t∈g.cs++g.rd
     ·exact .inl h3
     ·exact .inr ⟨h1,h2,h3⟩
    ·rintro (h1 | ⟨h1,h2,_⟩)
     ·exact ⟨by have:=hM t h1;omega,there t h1⟩
     ·exact ⟨h1,h2⟩
  have p2:((List.range' b g.out++g.rd)++rest).Perm ((List.range (Lg m hs)).filter fun t=>decide (Xs m hs (fun j=>S j || decide (j=i)) t)):=by
   have hrd:g.rd.Nodup:=(List.nodup_append.1 hp.nodup).2.1
   have hcr:∀ t∈g.rd,t∉g.cs:=fun t h1 h2=>(List.nodup_append.1 hp.nodup).2.2 t h2 t h1 rfl
   -- what i lays is new
   have new:∀ t,t∈outs (Cx m hs) hs i->¬ Xs m hs S t:=fun t ht hl=>by
    rcases hl.1 with h | ⟨j,h1,h2⟩
    ·have:=U8 ht;omega
    ·have:=Ln ht h2
     subst this
     rw [hSi] at h1;cases h1
   refine (List.perm_ext_iff_of_nodup (List.nodup_append.2 ⟨List.nodup_append.2 ⟨List.nodup_range' (step:=1),hrd,fun t h1 t' h2 e=>?_⟩,hrn,fun t h1 t' h2 e=>?_⟩) ((List.nodup_range).filter _)).2 fun t=>?_
   ·subst e
    rw [List.mem_range'_1] at h1
    have:=hM t (List.mem_append_right _ h2)
    omega
   ·subst e
    obtain ⟨_,q2,q3⟩:=(hrest t).1 h2
    rcases List.mem_append.1 h1 with h1 | h1
    ·rw [List.mem_range'_1] at h1
     exact new t ((oi t).2 h1) q2
    ·exact q3 (List.mem_append_right _ h1)
   ·rw [List.mem_filter,List.mem_range,decide_eq_true_eq,List.mem_append,List.mem_append,List.mem_range'_1,hrest]
    have keep:Xs m hs S t->t∉g.cs->Xs m hs (fun j=>S j || decide (j=i)) t:=fun hl hc =>
     ⟨Bi9 hl.1 fun ⟨j,j1,j2⟩=>⟨j,by simp [j1],j2⟩,fun j gj hj htj=>by
      have:=hl.2 j gj hj htj
      simp only [this,Bool.false_or,decide_eq_false_iff_not]
      rintro rfl
      rw [hg] at hj
      obtain rfl:=Option.some.inj hj
      exact hc htj⟩
    constructor
    ·rintro ((h1 | h1) | ⟨h1,h2,h3⟩)
     ·have ht:=(oi t).2 h1
      refine ⟨by omega,.inr ⟨i,by simp,ht⟩,fun j gj hj htj=>?_⟩
      have hjl:j < ops.length:=by rw [<-hlen];exact (List.getElem?_eq_some_iff.1 hj).1
      obtain ⟨gj',h1',hpj⟩:=hint j _ (List.getElem?_eq_getElem hjl)
      rw [hj] at h1'
      obtain rfl:=Option.some.inj h1'
      obtain ⟨_,q⟩:=hpj.from_ t (List.mem_append_left _ htj)
      have hge:=U8 ht
      rcases q with q | ⟨k,k1,k2,k3⟩
      ·omega
      ·have:=Ln ht k2
       subst this
       have hji:j≠i:=by omega
       cases hSj:S j with
       | false=>simp [hSj,hji]
       | true=>rw [anc2 j hSj hjl i k3] at hSi;cases hSi
     ·exact ⟨by have:=hM t (List.mem_append_right _ h1);omega,keep (there t (List.mem_append_right _ h1)) (hcr t h1)⟩
     ·exact ⟨h1,keep h2 fun h=>h3 (List.mem_append_left _ h)⟩
    ·rintro ⟨h1,h2,h3⟩
     by_cases ht:t∈outs (Cx m hs) hs i
     ·exact .inl (.inl ((oi t).1 ht))
     ·have hl:Xs m hs S t:=⟨Bi9 h2 fun ⟨j,j1,j2⟩=>⟨j,by
       simp only [Bool.or_eq_true,decide_eq_true_eq] at j1
       rcases j1 with j1 | rfl
       ·exact j1
       ·exact absurd j2 ht,j2⟩,fun j gj hj htj=>by
       have:=h3 j gj hj htj
       simp only [Bool.or_eq_false_iff] at this
       exact this.1⟩
      by_cases hr:t∈g.rd
      ·exact .inl (.inr hr)
      ·refine .inr ⟨h1,hl,fun hc=>?_⟩
       rcases List.mem_append.1 hc with hc | hc
       ·have:=h3 i g hg hc
        simp at this
       ·exact hr hc
  have hst1:=hst.perm (show (Az8 m hs toks S).Perm (Cn (g.cs++g.rd) toks++Cn rest toks) by
   rw [<-Fg]
   exact Nx p1 toks)
  -- the operation sees what it saw in the text's order
  have hcs:Cn g.cs (toks.take b)=Cn g.cs toks:=S3 fun t ht=>hM t (List.mem_append_left _ ht)
  have hrd:Cn g.rd (toks.take b)=Cn g.rd toks:=S3 fun t ht=>hM t (List.mem_append_right _ ht)
  have hsl:J5 g.sl (rs.take i)=J5 g.sl rs:=Ya fun p hpp=>(anc p.2 (hp.sl p hpp).1).2
  have hout:(toks.drop b).take g.out=Cn (List.range' b g.out) toks:=(Q9 g.out b (by omega)).symm
  rw [hcs,hrd,hsl,hout] at hcase
  have hlook:∀ s,look (J5 g.sl rs++Fj g.pre (F7 ops)++σ.fr) s=.any\/look (J5 g.sl rs++Fj g.pre (F7 ops)++σ.fr) s=look (F1 rs S 0 ops++σ.fr) s:=fun s=>by
   have memSel:∀ {sl:List (Nat×Nat)} {p:Nat×AV},p∈J5 sl rs->∃ q∈sl,p.1=q.1/\p.2=rs.getD q.2 .any:=by
    intro sl
    induction sl with
    | nil=>intro p h;cases h
    | cons q sl ih =>
     intro p h
     obtain ⟨d,j⟩:=q
     simp only [J5] at h
     rcases List.mem_cons.1 h with rfl | h
     ·exact ⟨(d,j),by simp,rfl,rfl⟩
     ·obtain ⟨q,h1,h2⟩:=ih h
      exact ⟨q,List.mem_cons_of_mem _ h1,h2⟩
   have memMask:∀ {ds:List Nat} {p:Nat×AV},p∈Fj g.pre ds↔p.2=.any/\p.1∈ds/\p.1∉g.pre:=by
    intro ds
    induction ds with
    | nil=>intro p;simp [Fj]
    | cons d ds ih =>
     intro p
     simp only [Fj]
     by_cases hc:g.pre.contains d=true
     ·rw [if_pos hc,ih]
      simp only [List.contains_eq_mem,decide_eq_true_eq] at hc
      constructor
      ·rintro ⟨q1,q2,q3⟩;exact ⟨q1,List.mem_cons_of_mem _ q2,q3⟩
      ·rintro ⟨q1,q2,q3⟩
       rcases List.mem_cons.1 q2 with e | q2
       ·exact absurd (e ▸ hc) q3
       ·exact ⟨q1,q2,q3⟩
     ·rw [if_neg hc,List.mem_cons,ih]
      simp only [List.contains_eq_mem,decide_eq_true_eq] at hc
      obtain ⟨p1,p2⟩:=p
      constructor
      ·rintro (e | ⟨q1,q2,q3⟩)
       ·injection e with e1 e2
        subst e1 e2
        exact ⟨rfl,by simp,hc⟩
       ·exact ⟨q1,List.mem_cons_of_mem _ q2,q3⟩
      ·rintro ⟨q1,q2,q3⟩
       simp only at q1
       subst q1
       rcases List.mem_cons.1 q2 with e | q2
       ·exact .inl (congrArg (fun z=>(z,AV.any)) e)
       ·exact .inr ⟨rfl,q2,q3⟩
   by_cases hsel:∃ q∈g.sl,q.1=s
   ·obtain ⟨q,hq1,hq2⟩:=hsel
    obtain ⟨a1,a2⟩:=hp.sl q hq1
    rw [hq2] at a2
    right
    rw [Gd hnd _ a2,if_pos (anc _ a1).1,List.append_assoc]
    refine Mb s _ _ (fun p hpp e=>?_) ?_
    ·obtain ⟨q',b1,b2,b3⟩:=memSel hpp
     obtain ⟨_,c2⟩:=hp.sl q' b1
     rw [<-b2,e] at c2
     rw [b3,Gr hnd c2 a2]
    ·have:∀ {sl:List (Nat×Nat)},q∈sl->∃ p∈J5 sl rs,p.1=s:=by
      intro sl
      induction sl with
      | nil=>intro h;cases h
      | cons q' sl ih =>
       intro h
       obtain ⟨d,j⟩:=q'
       simp only [J5]
       rcases List.mem_cons.1 h with rfl | h
       ·exact ⟨(d,rs.getD j .any),List.mem_cons_self ..,hq2⟩
       ·obtain ⟨p,p1,p2⟩:=ih h
        exact ⟨p,List.mem_cons_of_mem _ p1,p2⟩
     exact this hq1
   ·rw [List.append_assoc,J2 s _ _ fun p hpp e=>by
     obtain ⟨q,b1,b2,_⟩:=memSel hpp
     exact hsel ⟨q,b1,by rw [<-b2];exact e⟩]
    by_cases hmask:s∈F7 ops/\s∉g.pre
    ·left
     exact Mb s _ _ (fun p hpp _=>(memMask.1 hpp).1) ⟨(s,.any),memMask.2 ⟨rfl,hmask.1,hmask.2⟩,rfl⟩
    ·right
     rw [J2 s _ _ fun p hpp e=>by
      obtain ⟨_,b2,b3⟩:=memMask.1 hpp
      exact hmask ⟨e ▸ b2,e ▸ b3⟩]
     by_cases hd:∃ j,Br ops j=some s
     ·obtain ⟨j,hj⟩:=hd
      have hpre:s∈g.pre:=by
       by_cases h:s∈g.pre
       ·exact h
       ·exact absurd ⟨Bl7 hj,h⟩ hmask
      have hjl:j < ops.length:=by
       rcases Nat.lt_or_ge j ops.length with h | h
       ·exact h
       ·unfold Br at hj;rw [List.getElem?_eq_none h] at hj;cases hj
      have hSj:S j=false:=by
       rcases hp.pre j s hjl hj hpre with rfl | h
       ·exact hSi
       ·cases hSj:S j with
        | false=>rfl
        | true=>rw [anc2 j hSj hjl i h] at hSi;cases hSi
      rw [Gd hnd _ hj,hSj]
      simp
     ·rw [Gq _ fun j hj=>hd ⟨j,hj⟩]
  have hL:∀ y,At E (vis V w0 w (Ac E (Cn (g.cs++g.rd) toks++Cn rest toks))) (a.eval y) (ev (J5 g.sl rs++Fj g.pre (F7 ops)++σ.fr) y):=(hst1.frame hlook).ev
  -- the names that it gives are free
  have hfo:G6 o=true->Kg (cid o.dst) (cid o.dst+100) (F1 rs S 0 ops++σ.fr)=true/\Kg (cid o.dst) (cid o.dst+100) (J5 g.sl rs++Fj g.pre (F7 ops)++σ.fr)=true/\Ha (cid o.dst) (cid o.dst+100) (Cn (g.cs++g.rd) toks++Cn rest toks)=true:=fun hmk=>by
   obtain ⟨f1,f2,f3⟩:=hfr i o ho' hmk
   have offFapp:∀ {u v:List (Nat×AV)},(∀ p∈u,p.2.off (cid o.dst) (cid o.dst+100)=true)->Kg (cid o.dst) (cid o.dst+100) v=true->Kg (cid o.dst) (cid o.dst+100) (u++v)=true:=by
    intro u
    induction u with
    | nil=>exact fun _ h=>h
    | cons p u ih =>
     intro v h1 h2
     obtain ⟨d,c⟩:=p
     simp only [List.cons_append,Kg,Bool.and_eq_true]
     exact ⟨h1 (d,c) (by simp),ih (fun p hp=>h1 p (List.mem_cons_of_mem _ hp)) h2⟩
   have behind:∀ j,S j=true->j < ops.length->((bef [] (ops.map Cd)).getD j 0).testBit i=false:=fun j hSj hjl=>by
    cases hb:((bef [] (ops.map Cd)).getD j 0).testBit i with
    | false=>rfl
    | true=>rw [anc2 j hSj hjl i hb] at hSi;cases hSi
   have rsoff:∀ j,j≠i->S j=true->j < ops.length->(rs.getD j .any).off (cid o.dst) (cid o.dst+100)=true:=fun j hj hSj hjl=>by
    rw [List.getD_eq_getElem?_getD]
    cases hr:rs[j]? with
    | none=>rfl
    | some y=>exact f2 j y hj (behind j hSj hjl) hr
   refine ⟨offFapp (fun p hpp=>?_) f1,?_,?_⟩
   ·obtain ⟨j,j1,j2,j3⟩:=Hc.1 hpp
    rw [j3]
    have hjl:0+j < ops.length:=by
     rw [Nat.zero_add]
     rcases Nat.lt_or_ge j ops.length with h | h
     ·exact h
     ·unfold Br at j1;rw [List.getElem?_eq_none h] at j1;cases j1
    refine rsoff _ (fun e=>?_) j2 hjl
    rw [e,hSi] at j2;cases j2
   ·rw [List.append_assoc]
    refine offFapp (fun p hpp=>?_) (offFapp (fun p hpp=>?_) f1)
    ·have:∀ {sl:List (Nat×Nat)},(∀ q∈sl,q.2≠i/\S q.2=true/\q.2 < ops.length)->∀ p∈J5 sl rs,p.2.off (cid o.dst) (cid o.dst+100)=true:=by
      intro sl
      induction sl with
      | nil=>intro _ p h;cases h
      | cons q sl ih =>
       intro hq p h
       obtain ⟨d,j⟩:=q
       simp only [J5] at h
       rcases List.mem_cons.1 h with rfl | h
       ·obtain ⟨u1,u2,u3⟩:=hq (d,j) (by simp)
        exact rsoff j u1 u2 u3
       ·exact ih (fun q h=>hq q (List.mem_cons_of_mem _ h)) p h
     exact this (fun q hq=>by have:=anc q.2 (hp.sl q hq).1;exact ⟨by omega,this.1,by omega⟩) p hpp
    ·have:∀ {ds:List Nat},∀ p∈Fj g.pre ds,p.2=.any:=by
      intro ds
      induction ds with
      | nil=>intro p h;cases h
      | cons d ds ih =>
       intro p h
       simp only [Fj] at h
       split at h
       ·exact ih p h
       ·rcases List.mem_cons.1 h with rfl | h
        ·rfl
        ·exact ih p h
     rw [this p hpp];rfl
   ·have offBall:∀ {l:List BA},(∀ b∈l,b.off (cid o.dst) (cid o.dst+100)=true)->Ha (cid o.dst) (cid o.dst+100) l=true:=by
     intro l
     induction l with
     | nil=>exact fun _=>rfl
     | cons b l ih=>intro h;simp only [Ha,Bool.and_eq_true];exact ⟨h b (by simp),ih fun c hc=>h c (List.mem_cons_of_mem _ hc)⟩
    refine offBall fun b hbm=>?_
    rw [<-Fg,R5] at hbm
    obtain ⟨t,ht,rfl⟩:=List.mem_map.1 hbm
    have hno:t∉outs (Cx m hs) hs i:=fun hc=>by
     rcases List.mem_append.1 ht with ht | ht
     ·have:=hM t ht
      have:=(oi t).1 hc
      omega
     ·have hl:=((hrest t).1 ht).2.1
      rcases hl.1 with q | ⟨j,q1,q2⟩
      ·have:=U8 hc;omega
      ·have:=Ln hc q2
       subst this
       rw [hSi] at q1;cases q1
    have htt:t < toks.length:=by
     rw [htl]
     rcases List.mem_append.1 ht with ht | ht
     ·have:=hM t ht;omega
     ·exact ((hrest t).1 ht).1
    have hby:∀ j,t∈outs (Cx m hs) hs j->((bef [] (ops.map Cd)).getD j 0).testBit i=false:=fun j hj=>by
     have hjl:j < ops.length:=by
      rcases Nat.lt_or_ge j hs.length with h | h
      ·omega
      ·exact absurd hj (P2 (List.getElem?_eq_none h))
     refine behind j ?_ hjl
     have hge:=U8 hj
     rcases List.mem_append.1 ht with ht | ht
     ·rcases (hp.from_ t ht).2 with q | ⟨j',_,q2,q3⟩
      ·omega
      ·rw [Ln hj q2];exact (anc j' q3).1
     ·rcases ((hrest t).1 ht).2.1.1 with q | ⟨j',q1,q2⟩
      ·omega
      ·rw [Ln hj q2];exact q1
    exact f3 t _ hno hby (by rw [List.getD_eq_getElem?_getD,List.getElem?_eq_getElem htt];rfl)
  -- the state behind the operation
  have fin_:∀ (E':Env) (v:Value) (x':AV) (a:Act) (w':World),St V w0 m0 E' ⟨F1 rs S 0 ops++σ.fr,Cn (List.range' b g.out) toks++Cn g.rd toks++Cn rest toks⟩ a w'->At E' (vis V w0 w' (Ac E' (Cn (List.range' b g.out) toks++Cn g.rd toks++Cn rest toks))) v x'->x'=x ->
    ∃ E,St V w0 m0 E ⟨F1 rs (fun j=>S j || decide (j=i)) 0 ops++σ.fr,Az8 m hs toks fun j=>S j || decide (j=i)⟩ (a.put o.dst v) w':=by
   rintro E' v x' a w' h1 h2 rfl
   have hput:=h1.put (dst:=o.dst) (fun d hd=>by
    have:∀ {l:List Oper},D8 n l=true->o∈l->d < n.n/\d∉n.fx:=by
     intro l
     induction l with
     | nil=>intro _ h;cases h
     | cons q l ih =>
      intro h hm
      simp only [D8,Bool.and_eq_true] at h
      rcases List.mem_cons.1 hm with rfl | hm
      ·have:=h.1
       rw [hd] at this
       simp only [Bool.and_eq_true,Bool.not_eq_true'] at this
       exact ⟨Bk.1 this.1,Lo this.2⟩
      ·exact ih h.2 hm
    rw [hn0];exact this hdst (List.mem_of_getElem? ho')) h2
   refine ⟨E',(hput.perm (bk':=Az8 m hs toks fun j=>S j || decide (j=i)) ?_).frame fun s=>.inr ?_⟩
   ·show (Cn (List.range' b g.out) toks++Cn g.rd toks++Cn rest toks).Perm _
    rw [<-Fg,<-Fg]
    exact Nx p2 toks
   ·-- the slots
    by_cases hd:∃ j,Br ops j=some s
    ·obtain ⟨j,hj⟩:=hd
     rw [Gd hnd _ hj]
     have hdi:Br ops i=o.dst:=by unfold Br;rw [ho'];rfl
     by_cases hji:j=i
     ·subst hji
      rw [hdi] at hj
      simp only [decide_true,Bool.or_true,if_true,hj,Dy,look]
      rw [List.getD_eq_getElem?_getD,hx];rfl
     ·have hne:o.dst≠some s:=fun e=>hji (Gr hnd hj (hdi.trans e))
      have e2:look (Dy o.dst x' (F1 rs S 0 ops++σ.fr)) s=look (F1 rs S 0 ops++σ.fr) s:=by
       cases hdd:o.dst with
       | none=>rfl
       | some d =>
        simp only [Dy,look]
        rw [if_neg fun e=>hne (by rw [hdd,e])]
      rw [e2,Gd hnd _ hj]
      simp [hji]
    ·rw [Gq _ fun j hj=>hd ⟨j,hj⟩]
     have hdi:Br ops i=o.dst:=by unfold Br;rw [ho'];rfl
     have e2:look (Dy o.dst x' (F1 rs S 0 ops++σ.fr)) s=look (F1 rs S 0 ops++σ.fr) s:=by
      cases hdd:o.dst with
      | none=>rfl
      | some d =>
       simp only [Dy,look]
       rw [if_neg fun e=>hd ⟨i,by rw [hdi,hdd,e]⟩]
     rw [e2,Gq _ fun j hj=>hd ⟨j,hj⟩]
  -- what the guard says
  have hyield:∀ (j:Nat) (c:Bool),(((bef [] (ops.map Cd)).getD i 0).testBit j=true/\(Br ops j).isSome=true)->nrm ((rs.take i).getD j .any)=.val (.bool c)->yielded ops.toArray a.tmps j=some c:=fun j c hb hn=>by
   obtain ⟨hSj,hji⟩:=anc j hb.1
   rw [List.getD_eq_getElem?_getD,List.getElem?_take_of_lt hji,<-List.getD_eq_getElem?_getD] at hn
   cases hd:Br ops j with
   | none=>rw [hd] at hb;cases hb.2
   | some d =>
    have hv:=hst.slots d
    simp only at hv
    rw [Gd hnd _ hd,if_pos hSj] at hv
    have hv:=hv.nrm_
    rw [hn] at hv
    generalize hu:a.tmps.getD d undef=u at hv
    cases hv
    have:a.tmps[d]? = some (.bool c):=by
     rw [Array.getD_eq_getD_getElem?] at hu
     cases hdd:a.tmps[d]? with
     | none=>rw [hdd] at hu;simp [undef] at hu
     | some y=>rw [hdd] at hu;simp at hu;rw [hu]
    unfold Br at hd
    simp [yielded,hd,this]
  have hyieldN:∀ (j:Nat) (tt:Array Value),(((bef [] (ops.map Cd)).getD i 0).testBit j=true/\(Br ops j).isSome=true)->nrm ((rs.take i).getD j .any)=.val (.tuple tt)->yielded ops.toArray a.tmps j=none:=fun j c hb hn=>by
   obtain ⟨hSj,hji⟩:=anc j hb.1
   rw [List.getD_eq_getElem?_getD,List.getElem?_take_of_lt hji,<-List.getD_eq_getElem?_getD] at hn
   cases hd:Br ops j with
   | none=>rw [hd] at hb;cases hb.2
   | some d =>
    have hv:=hst.slots d
    simp only at hv
    rw [Gd hnd _ hd,if_pos hSj] at hv
    have hv:=hv.nrm_
    rw [hn] at hv
    generalize hu:a.tmps.getD d undef=u at hv
    cases hv
    unfold Br at hd
    rw [Array.getD_eq_getD_getElem?] at hu
    cases hdd:a.tmps[d]? with
    | none=>simp [yielded,hd,hdd]
    | some y =>
     rw [hdd] at hu
     simp at hu
     simp [yielded,hd,hdd,hu]
  refine wpListIn_step fun K' hK'=>?_
  rcases hcase with ⟨hgd,hu⟩ | ⟨⟨j,c,hg1,hg2⟩,rfl,ho0,hc0⟩
  case inr =>
   have hw:Region.wanted o (yielded ops.toArray a.tmps)=false:=by
    unfold Region.wanted
    rw [hg1]
    simp only
    rcases hg2 with hg2 | ⟨tt,hg2⟩
    ·rw [hyield j (!c) (hp.guard j c hg1) hg2]
     cases c<;>rfl
    ·rw [hyieldN j tt (hp.guard j c hg1) hg2]
     rfl
   rw [if_neg (by rw [hw];simp)]
   refine ⟨fun _ _=>trivial,hK' _ _ ?_⟩
   show ∃ E,St V w0 m0 E ⟨F1 rs (fun j=>S j || decide (j=i)) 0 ops++σ.fr,Az8 m hs toks fun j=>S j || decide (j=i)⟩ (a.put o.dst undef) w
   have hst2:St V w0 m0 E ⟨F1 rs S 0 ops++σ.fr,Cn (List.range' b g.out) toks++Cn g.rd toks++Cn rest toks⟩ a w:=by
    rw [ho0]
    rw [hc0] at hst1
    simpa [Cn] using hst1
   exact fin_ E undef (.val undef) a w hst2 .val rfl
  have hw:Region.wanted o (yielded ops.toArray a.tmps)=true:=by
   unfold Region.wanted
   rcases hgd with hgd | ⟨j,c,hg1,hg2⟩
   ·rw [hgd]
   ·rw [hg1]
    simp only
    rw [hyield j c (hp.guard j c hg1) hg2]
    simp
  rw [if_pos hw]
  have hus:=hu fun hmk y=>B94 (hfo hmk).2.1 y
  rw [<-Fg] at hus
  refine hus V w0 m0 E a w _ (Cn rest toks) hst1 hL (fun hmk=>⟨(hfo hmk).1,(hfo hmk).2.2⟩) hG K' _ (fun v w' E' h1 h2=>hK' _ _ ?_) ro
  show ∃ E,St V w0 m0 E ⟨F1 rs (fun j=>S j || decide (j=i)) 0 ops++σ.fr,Az8 m hs toks fun j=>S j || decide (j=i)⟩ (a.put o.dst v) w'
  exact fin_ E' v x a w' (by rw [<-Fg] at h1 ⊢;exact h1) (by rw [<-Fg] at h2 ⊢;exact h2) rfl
 ·-- behind all
  rintro S a w hall' ⟨E,hst⟩
  have hS:∀ i,i < ops.length->S i=true:=fun i hi=>hall' i (by simpa using hi)
  refine ⟨m0,E,_,Fm.le.refl m0,hK,?_⟩
  refine (hst.perm (bk':=Cn (Bc2 m hs) toks) (Nx ((List.perm_ext_iff_of_nodup ((List.nodup_range).filter _) ((List.nodup_range).filter _)).2 fun t=>?_) toks)).frame fun s=>.inr ?_
  ·rw [List.mem_filter,List.mem_filter,List.mem_range,decide_eq_true_eq]
   simp only [Bool.not_eq_true',List.any_eq_false,List.contains_eq_mem,decide_eq_true_eq]
   have hjl:∀ {j:Nat} {g:El},hs[j]? = some g->S j=true:=fun {j g} hj=>hS j (by rw [<-hlen];exact (List.getElem?_eq_some_iff.1 hj).1)
   constructor
   ·rintro ⟨h1,h2,h3⟩
    refine ⟨h1,fun g hgm ht=>?_⟩
    obtain ⟨j,hj⟩:=List.mem_iff_getElem?.1 hgm
    have:=h3 j g hj ht
    rw [hjl hj] at this;cases this
   ·rintro ⟨h1,h2⟩
    refine ⟨h1,?_,fun j g hj ht=>absurd ht (h2 g (List.mem_of_getElem? hj))⟩
    by_cases hm':t < m
    ·exact .inl hm'
    ·right
     -- some operation laid it
     have key:∀ (hs:List El) (m t:Nat),m<=t->t < Lg m hs->∃ (i:Nat) (g:El) (b:Nat),hs[i]? = some g/\(Cx m hs)[i]? = some b/\b<=t/\t < b+g.out:=by
      intro hs
      induction hs with
      | nil=>intro m t h1 h2;simp only [Lg] at h2;omega
      | cons g hs ih =>
       intro m t h1 h2
       by_cases h3:t < m+g.out
       ·exact ⟨0,g,m,rfl,rfl,h1,h3⟩
       ·obtain ⟨i,g',b,a1,a2,a3,a4⟩:=ih (m+g.out) t (by omega) h2
        exact ⟨i+1,g',b,by simpa using a1,by simpa [Cx] using a2,a3,a4⟩
     obtain ⟨i,g,b,a1,a2,a3,a4⟩:=key hs m t (by omega) h1
     exact ⟨i,hjl a1,(Nf a1 a2).2 ⟨a3,a4⟩⟩
  ·show look (U4 ops rs σ.fr) s=_
   rw [Ad0 0 rs (by simp) hrl]
   by_cases hd:∃ j,Br ops j=some s
   ·obtain ⟨j,hj⟩:=hd
    have hjl:j < ops.length:=by
     rcases Nat.lt_or_ge j ops.length with h | h
     ·exact h
     ·unfold Br at hj;rw [List.getElem?_eq_none h] at hj;cases hj
    rw [Gd hnd _ hj,Gd hnd _ hj,hS j hjl]
   ·rw [Gq _ fun j hj=>hd ⟨j,hj⟩,Gq _ fun j hj=>hd ⟨j,hj⟩]
end
end Go.Proofs.YtahgkllhbggmgaaGreatDoor
