/- A region that draws its order: the law. No program is known here. -/
import Derived.Test.YtahgkllhbggmgaaGreatDoorLAbsDraw
set_option linter.all false
set_option linter.unnecessarySimpa false
set_option linter.unusedSimpArgs false
set_option linter.unusedVariables false
namespace Go.Proofs.YtahgkllhbggmgaaGreatDoor
open Go.ChangeShapes Go.WideShapes Go.ChangeAt Go.RowKit
theorem Bw1 {p q r:Prop} (h:p\/q) (f:q->r):p\/r:=h.elim Or.inl fun h=>.inr (f h)
structure C56 (m:Nat) (ops:List Oper) (hs:List F7) (A:List Nat) (i:Nat) (o:Oper) (h:F7):Prop where
 lt:∀ d∈Cm o,d < i
 sl:∀ p∈h.sl,(A.getD i 0).testBit p.2=true/\By ops p.2=some p.1
 pre:∀ j d,j < ops.length->By ops j=some d->d∈h.pre->j=i\/(A.getD j 0).testBit i=true
 from_:∀ t∈h.cs++h.rd,t < (D8 m hs).getD i 0/\(t < m\/∃ j,j < i/\t∈outs (D8 m hs) hs j/\(A.getD i 0).testBit j=true)
 use:∀ j g,hs[j]? = some g->j < ops.length->j≠i->∀ t∈h.cs,t∈g.cs++g.rd->(A.getD i 0).testBit j=true
 nodup:(h.cs++h.rd).Nodup
 guard:∀ j b,o.guard=some (j,b)->(A.getD i 0).testBit j=true/\(By ops j).isSome=true
theorem D13 {m:Nat} {ops:List Oper} {hs:List F7} {A:List Nat} {i:Nat} {o:Oper} {h:F7} (hk:Ax2 m ops hs A (D8 m hs) i o h=true):C56 m ops hs A i o h:=by
 simp only [Ax2,Bool.and_eq_true,List.all_eq_true,decide_eq_true_eq,List.mem_range,Bool.or_eq_true,List.any_eq_true,beq_iff_eq,List.contains_eq_mem,Bool.not_eq_true',decide_eq_false_iff_not] at hk
 obtain ⟨⟨⟨⟨⟨⟨h1,h2⟩,h3⟩,h4⟩,h5⟩,h6⟩,h7⟩:=hk
 refine ⟨h1,fun p hp=>h2 p hp,fun j d hj hd hp=>?_,fun t ht=>?_,fun j g hg hj hne t ht htg=>?_,N0 h6,fun j b hg=>by rw [hg] at h7;simp only [Bool.and_eq_true] at h7;exact h7⟩
 ·have:=h3 j hj
  unfold By at hd
  rw [hd] at this
  simp only [Bool.or_eq_true,Bool.not_eq_true',decide_eq_false_iff_not,beq_iff_eq] at this
  rcases this with (h | h) | h
  ·exact absurd hp h
  ·exact .inl h
  ·exact .inr h
 ·obtain ⟨a1,a2⟩:=h4 t ht
  refine ⟨a1,Bw1 a2 fun ⟨j,b1,b2,b3⟩=>⟨j,b1,b2,b3⟩⟩
 ·rcases h5 j hj with h | h
  ·exact absurd h hne
  ·rcases h t ht with h | h
   ·rw [hg] at h
    exact absurd htg h
   ·exact h
section
variable {ops : List Oper} {S : Nat -> Bool}
theorem Px (hlt:∀ (i:Nat) o,ops[i]? = some o->∀ d∈Cm o,d < i) (hcl:∀ (i:Nat) o,ops[i]? = some o->S i=true->∀ d∈Cm o,S d=true):∀ (i:Nat),i < ops.length->(∀ o,ops[i]? = some o->∀ d∈Cm o,S d=true)->∀ j,((bef [] (ops.map Cm)).getD i 0).testBit j=true->S j=true/\j < i:=by
 intro i
 induction i using Nat.strongRecOn with
 | _ i ih =>
  intro hi hd j hj
  have ho:ops[i]? = some ops[i]:=List.getElem?_eq_getElem hi
  have hr:(ops.map Cm).getD i []=Cm ops[i]:=by rw [List.getD_eq_getElem?_getD,List.getElem?_map,ho];rfl
  obtain ⟨d,h1,h2⟩:=Az7 (ops.map Cm) [] i j (by simpa using hj) (by simpa using hi) (fun d hdm=>by
   rw [hr] at hdm
   simpa using hlt i _ ho d hdm)
  rw [hr] at h1
  have hdi:=hlt i _ ho d h1
  have hSd:=hd _ ho d h1
  rcases h2 with rfl | h2
  ·exact ⟨hSd,hdi⟩
  ·obtain ⟨h3,h4⟩:=ih d hdi (by omega) (fun o ho' d' hd'=>hcl d o ho' hSd d' hd') j h2
   exact ⟨h3,by omega⟩
end
section
variable {P : Program} {G : World -> Prop} {V w0 : World} {n : Nd} {ro : Option Nat} {σ : Ab} {K : Exit -> Ab -> Prop}
def Bo2 (m:Nat) (hs:List F7):List Nat:=(List.range (M5 m hs)).filter fun t=>!hs.any fun h=>h.cs.contains t
def Zh (m:Nat) (hs:List F7) (S:Nat->Bool) (t:Nat):Prop:=(t < m\/∃ i,S i=true/\t∈outs (D8 m hs) hs i)/\∀ j g,hs[j]? = some g->t∈g.cs->S j=false
open Classical in
noncomputable def Ba3 (m:Nat) (hs:List F7) (toks:List BA) (S:Nat->Bool):List BA:=Cy ((List.range (M5 m hs)).filter fun t=>decide (Zh m hs S t)) toks
theorem G1 (a b:List Nat) (toks:List BA):Cy (a++b) toks=Cy a toks++Cy b toks:=by simp [Se]
theorem Q1 {a b:List Nat} (h:a.Perm b) (toks:List BA):(Cy a toks).Perm (Cy b toks):=by
 rw [Se,Se]
 exact h.map _
theorem AW.draw {id m:Nat} {ops:List Oper} (hs:List F7) (hp:P.follows .mixedOrders=true) (hm:σ.bk.length=m) (hok:Ay7 n m ops hs=true)
  {Fr:List BA->List AV->Prop} (hFr:∀ toks rs,Fr toks rs->Y7 toks σ.fr ops rs hs (D8 m hs))
  (h:Aq P G (Fq ops) σ.fr ops hs σ.bk [] fun toks rs=>Fr toks rs/\K .normal ⟨Vt ops rs σ.fr,Cy (Bo2 m hs) toks⟩):AW P G ro V w0 n (.region id ops.toArray true) σ K:=fun hG m0 E0 a0 w1 hn0 hs0=>by
 classical
 simp only [Ay7,Bool.and_eq_true,beq_iff_eq,List.all_eq_true,List.mem_range] at hok
 obtain ⟨⟨⟨⟨hlen,hnd⟩,hdst⟩,hlex⟩,hall⟩:=hok
 have hnd:=N0 hnd
 obtain ⟨toks,rs,⟨hfr,hK⟩,⟨e1,he1⟩,_,hrl,htl,hop⟩:=Wq ops hs σ.bk [] _ h hlen
 replace hfr:=hFr toks rs hfr
 simp only [List.length_nil,Nat.zero_add] at hrl hop
 rw [hm] at htl hop
 have hint:∀ i o,ops[i]? = some o->∃ g,hs[i]? = some g/\C56 m ops hs (bef [] (ops.map Cm)) i o g:=fun i o ho=>by
  have hi:=(List.getElem?_eq_some_iff.1 ho).1
  have:=hall i hi
  rw [ho] at this
  cases hg:hs[i]? with
  | none=>rw [List.getElem?_eq_none_iff] at hg;omega
  | some g =>
   rw [hg] at this
   exact ⟨g,rfl,D13 this⟩
 have hlt:∀ (i:Nat) o,ops[i]? = some o->∀ d∈Cm o,d < i:=fun i o ho=>by
  obtain ⟨g,_,hg⟩:=hint i o ho
  exact hg.lt
 refine Nj hp hlex (fun S a w=>∃ E,St V w0 m0 E ⟨Fj rs S 0 ops++σ.fr,Ba3 m hs toks S⟩ a w) ?_ ?_ ?_
 ·-- ahead of all
  refine ⟨E0,?_⟩
  have hnil:Fj rs (fun _=>false) 0 ops=[]:=by
   cases hd:Fj rs (fun _=>false) 0 ops with
   | nil=>rfl
   | cons p l =>
    have:p∈Fj rs (fun _=>false) 0 ops:=by rw [hd];simp
    obtain ⟨_,_,h,_⟩:=Ja.1 this
    cases h
  rw [hnil]
  have hbk:σ.bk=Cy (List.range' 0 m) toks:=by
   rw [Rf m 0 (by rw [htl];have:=S4 hs m;omega),he1,List.drop_zero,<-hm,List.take_left]
  refine St.perm (bk:=σ.bk) (fr:=σ.fr) hs0.drew ?_
  rw [hbk]
  refine Q1 ((List.perm_ext_iff_of_nodup (List.nodup_range' (step:=1)) ((List.nodup_range).filter _)).2 fun t=>?_) toks
  rw [List.mem_range'_1,List.mem_filter,List.mem_range,decide_eq_true_eq]
  have:=S4 hs m
  constructor
  ·rintro ⟨_,h⟩
   exact ⟨by omega,.inl (by omega),fun _ _ _ _=>rfl⟩
  ·rintro ⟨_,h | ⟨i,h,_⟩,_⟩
   ·omega
   ·cases h
 ·-- a step
  rintro i o S a w ho hSi haf hcl ⟨E,hst⟩
  have ho':ops[i]? = some o:=by simpa using ho
  have hi:=(List.getElem?_eq_some_iff.1 ho').1
  obtain ⟨g,hg,hp⟩:=hint i o ho'
  have hdep:∀ {o:Oper} {T:Nat->Bool},(∀ e∈o.after,Region.binds .any e=true->T e.on=true)->∀ d∈Cm o,T d=true:=fun {o T} h d hd=>by
   unfold Cm at hd
   obtain ⟨e,he,hb⟩:=List.mem_filterMap.1 hd
   split at hb
   ·rename_i hbi
    obtain rfl:=Option.some.inj hb
    exact h e (by simpa using he) hbi
   ·cases hb
  have hcl':∀ (k:Nat) o',ops[k]? = some o'->S k=true->∀ d∈Cm o',S d=true:=fun k o' hk hSk=>hdep (hcl k o' (by simpa using hk) hSk)
  have anc:∀ j,((bef [] (ops.map Cm)).getD i 0).testBit j=true->S j=true/\j < i:=Px hlt hcl' i hi fun o2 ho2=>by
   rw [ho'] at ho2
   obtain rfl:=Option.some.inj ho2
   exact hdep haf
  have anc2:∀ j,S j=true->j < ops.length->∀ k,((bef [] (ops.map Cm)).getD j 0).testBit k=true->S k=true:=fun j hSj hj k hk =>
   (Px hlt hcl' j hj (fun o2 ho2=>hcl' j o2 ho2 hSj) k hk).1
  obtain ⟨b,hb1,hb2,hb3⟩:=Mk hs m i g hg
  obtain ⟨x,hx,hcase⟩:=hop i o g b ho' hg hb1
  have hbD:(D8 m hs).getD i 0=b:=by rw [List.getD_eq_getElem?_getD,hb1];rfl
  -- what the hint names lies there
  have there:∀ t∈g.cs++g.rd,Zh m hs S t:=fun t ht=>by
   obtain ⟨_,h2⟩:=hp.from_ t ht
   refine ⟨Bw1 h2 fun ⟨j,_,j2,j3⟩=>⟨j,(anc j j3).1,j2⟩,fun j gj hj htj=>?_⟩
   cases hSj:S j with
   | false=>rfl
   | true =>
    exfalso
    by_cases hji:j=i
    ·subst hji;rw [hSi] at hSj;cases hSj
    ·have hjl:j < ops.length:=by rw [<-hlen];exact (List.getElem?_eq_some_iff.1 hj).1
     obtain ⟨gj',h1',hpj⟩:=hint j _ (List.getElem?_eq_getElem hjl)
     rw [hj] at h1'
     obtain rfl:=Option.some.inj h1'
     have:=hpj.use i g hg hi (Ne.symm hji) t htj ht
     rw [anc2 j hSj hjl i this] at hSi
     cases hSi
  have hM:∀ t∈g.cs++g.rd,t < b:=fun t ht=>by have:=(hp.from_ t ht).1;rw [hbD] at this;exact this
  have oi:∀ t,t∈outs (D8 m hs) hs i↔b<=t/\t < b+g.out:=fun t=>Pg hg hb1
  -- the others
  let rest:=(List.range (M5 m hs)).filter fun t=>decide (Zh m hs S t/\t∉g.cs++g.rd)
  have hrest:∀ t,t∈rest↔t < M5 m hs/\Zh m hs S t/\t∉g.cs++g.rd:=fun t=>by simp only [rest,List.mem_filter,List.mem_range,decide_eq_true_eq]
  have hrn:rest.Nodup:=(List.nodup_range).filter _
  have p1:((List.range (M5 m hs)).filter fun t=>decide (Zh m hs S t)).Perm ((g.cs++g.rd)++rest):=by
   refine (List.perm_ext_iff_of_nodup ((List.nodup_range).filter _) (List.nodup_append.2 ⟨hp.nodup,hrn,fun t h1 t' h2 e=>?_⟩)).2 fun t=>?_
   ·subst e;exact ((hrest t).1 h2).2.2 h1
   ·rw [List.mem_filter,List.mem_range,decide_eq_true_eq,List.mem_append,hrest]
    constructor
    ·rintro ⟨h1,h2⟩
     by_cases h3:t∈g.cs++g.rd
     ·exact .inl h3
     ·exact .inr ⟨h1,h2,h3⟩
    ·rintro (h1 | ⟨h1,h2,_⟩)
     ·exact ⟨by have:=hM t h1;omega,there t h1⟩
     ·exact ⟨h1,h2⟩
  have p2:((List.range' b g.out++g.rd)++rest).Perm ((List.range (M5 m hs)).filter fun t=>decide (Zh m hs (fun j=>S j || decide (j=i)) t)):=by
   have hrd:g.rd.Nodup:=(List.nodup_append.1 hp.nodup).2.1
   have hcr:∀ t∈g.rd,t∉g.cs:=fun t h1 h2=>(List.nodup_append.1 hp.nodup).2.2 t h2 t h1 rfl
   -- what i lays is new
   have new:∀ t,t∈outs (D8 m hs) hs i->¬ Zh m hs S t:=fun t ht hl=>by
    rcases hl.1 with h | ⟨j,h1,h2⟩
    ·have:=Vy ht;omega
    ·have:=Mf ht h2
     subst this
     rw [hSi] at h1;cases h1
   refine (List.perm_ext_iff_of_nodup (List.nodup_append.2 ⟨List.nodup_append.2 ⟨List.nodup_range' (step:=1),hrd,fun t h1 t' h2 e=>?_⟩,hrn,fun t h1 t' h2 e=>?_⟩) ((List.nodup_range).filter _)).2 fun t=>?_
   ·subst e
    rw [List.mem_range'_1] at h1
    have:=hM t (List.mem_append_right _ h2)
    omega
   ·subst e
    obtain ⟨_,q2,q3⟩:=(hrest t).1 h2
    rcases List.mem_append.1 h1 with h1 | h1
    ·rw [List.mem_range'_1] at h1
     exact new t ((oi t).2 h1) q2
    ·exact q3 (List.mem_append_right _ h1)
   ·rw [List.mem_filter,List.mem_range,decide_eq_true_eq,List.mem_append,List.mem_append,List.mem_range'_1,hrest]
    have keep:Zh m hs S t->t∉g.cs->Zh m hs (fun j=>S j || decide (j=i)) t:=fun hl hc =>
     ⟨Bw1 hl.1 fun ⟨j,j1,j2⟩=>⟨j,by simp [j1],j2⟩,fun j gj hj htj=>by
      have:=hl.2 j gj hj htj
      simp only [this,Bool.false_or,decide_eq_false_iff_not]
      rintro rfl
      rw [hg] at hj
      obtain rfl:=Option.some.inj hj
      exact hc htj⟩
    constructor
    ·rintro ((h1 | h1) | ⟨h1,h2,h3⟩)
     ·have ht:=(oi t).2 h1
      refine ⟨by omega,.inr ⟨i,by simp,ht⟩,fun j gj hj htj=>?_⟩
      have hjl:j < ops.length:=by rw [<-hlen];exact (List.getElem?_eq_some_iff.1 hj).1
      obtain ⟨gj',h1',hpj⟩:=hint j _ (List.getElem?_eq_getElem hjl)
      rw [hj] at h1'
      obtain rfl:=Option.some.inj h1'
      obtain ⟨_,q⟩:=hpj.from_ t (List.mem_append_left _ htj)
      have hge:=Vy ht
      rcases q with q | ⟨k,k1,k2,k3⟩
      ·omega
      ·have:=Mf ht k2
       subst this
       have hji:j≠i:=by omega
       cases hSj:S j with
       | false=>simp [hSj,hji]
       | true=>rw [anc2 j hSj hjl i k3] at hSi;cases hSi
     ·exact ⟨by have:=hM t (List.mem_append_right _ h1);omega,keep (there t (List.mem_append_right _ h1)) (hcr t h1)⟩
     ·exact ⟨h1,keep h2 fun h=>h3 (List.mem_append_left _ h)⟩
    ·rintro ⟨h1,h2,h3⟩
     by_cases ht:t∈outs (D8 m hs) hs i
     ·exact .inl (.inl ((oi t).1 ht))
     ·have hl:Zh m hs S t:=⟨Bw1 h2 fun ⟨j,j1,j2⟩=>⟨j,by
       simp only [Bool.or_eq_true,decide_eq_true_eq] at j1
       rcases j1 with j1 | rfl
       ·exact j1
       ·exact absurd j2 ht,j2⟩,fun j gj hj htj=>by
       have:=h3 j gj hj htj
       simp only [Bool.or_eq_false_iff] at this
       exact this.1⟩
      by_cases hr:t∈g.rd
      ·exact .inl (.inr hr)
      ·refine .inr ⟨h1,hl,fun hc=>?_⟩
       rcases List.mem_append.1 hc with hc | hc
       ·have:=h3 i g hg hc
        simp at this
       ·exact hr hc
  have hst1:=hst.perm (show (Ba3 m hs toks S).Perm (Cy (g.cs++g.rd) toks++Cy rest toks) by
   rw [<-G1]
   exact Q1 p1 toks)
  -- the operation sees what it saw in the text's order
  have hcs:Cy g.cs (toks.take b)=Cy g.cs toks:=Tq fun t ht=>hM t (List.mem_append_left _ ht)
  have hrd:Cy g.rd (toks.take b)=Cy g.rd toks:=Tq fun t ht=>hM t (List.mem_append_right _ ht)
  have hsl:Js g.sl (rs.take i)=Js g.sl rs:=Zv fun p hpp=>(anc p.2 (hp.sl p hpp).1).2
  have hout:(toks.drop b).take g.out=Cy (List.range' b g.out) toks:=(Rf g.out b (by omega)).symm
  rw [hcs,hrd,hsl,hout] at hcase
  have hlook:∀ s,look (Js g.sl rs++G3 g.pre (Fq ops)++σ.fr) s=.any\/look (Js g.sl rs++G3 g.pre (Fq ops)++σ.fr) s=look (Fj rs S 0 ops++σ.fr) s:=fun s=>by
   have memSel:∀ {sl:List (Nat×Nat)} {p:Nat×AV},p∈Js sl rs->∃ q∈sl,p.1=q.1/\p.2=rs.getD q.2 .any:=by
    intro sl
    induction sl with
    | nil=>intro p h;cases h
    | cons q sl ih =>
     intro p h
     obtain ⟨d,j⟩:=q
     simp only [Js] at h
     rcases List.mem_cons.1 h with rfl | h
     ·exact ⟨(d,j),by simp,rfl,rfl⟩
     ·obtain ⟨q,h1,h2⟩:=ih h
      exact ⟨q,List.mem_cons_of_mem _ h1,h2⟩
   have memMask:∀ {ds:List Nat} {p:Nat×AV},p∈G3 g.pre ds↔p.2=.any/\p.1∈ds/\p.1∉g.pre:=by
    intro ds
    induction ds with
    | nil=>intro p;simp [G3]
    | cons d ds ih =>
     intro p
     simp only [G3]
     by_cases hc:g.pre.contains d=true
     ·rw [if_pos hc,ih]
      simp only [List.contains_eq_mem,decide_eq_true_eq] at hc
      constructor
      ·rintro ⟨q1,q2,q3⟩;exact ⟨q1,List.mem_cons_of_mem _ q2,q3⟩
      ·rintro ⟨q1,q2,q3⟩
       rcases List.mem_cons.1 q2 with e | q2
       ·exact absurd (e ▸ hc) q3
       ·exact ⟨q1,q2,q3⟩
     ·rw [if_neg hc,List.mem_cons,ih]
      simp only [List.contains_eq_mem,decide_eq_true_eq] at hc
      obtain ⟨p1,p2⟩:=p
      constructor
      ·rintro (e | ⟨q1,q2,q3⟩)
       ·injection e with e1 e2
        subst e1 e2
        exact ⟨rfl,by simp,hc⟩
       ·exact ⟨q1,List.mem_cons_of_mem _ q2,q3⟩
      ·rintro ⟨q1,q2,q3⟩
       simp only at q1
       subst q1
       rcases List.mem_cons.1 q2 with e | q2
       ·exact .inl (congrArg (fun z=>(z,AV.any)) e)
       ·exact .inr ⟨rfl,q2,q3⟩
   by_cases hsel:∃ q∈g.sl,q.1=s
   ·obtain ⟨q,hq1,hq2⟩:=hsel
    obtain ⟨a1,a2⟩:=hp.sl q hq1
    rw [hq2] at a2
    right
    rw [Gw hnd _ a2,if_pos (anc _ a1).1,List.append_assoc]
    refine N2 s _ _ (fun p hpp e=>?_) ?_
    ·obtain ⟨q',b1,b2,b3⟩:=memSel hpp
     obtain ⟨_,c2⟩:=hp.sl q' b1
     rw [<-b2,e] at c2
     rw [b3,Hg hnd c2 a2]
    ·have:∀ {sl:List (Nat×Nat)},q∈sl->∃ p∈Js sl rs,p.1=s:=by
      intro sl
      induction sl with
      | nil=>intro h;cases h
      | cons q' sl ih =>
       intro h
       obtain ⟨d,j⟩:=q'
       simp only [Js]
       rcases List.mem_cons.1 h with rfl | h
       ·exact ⟨(d,rs.getD j .any),List.mem_cons_self ..,hq2⟩
       ·obtain ⟨p,p1,p2⟩:=ih h
        exact ⟨p,List.mem_cons_of_mem _ p1,p2⟩
     exact this hq1
   ·rw [List.append_assoc,Jo s _ _ fun p hpp e=>by
     obtain ⟨q,b1,b2,_⟩:=memSel hpp
     exact hsel ⟨q,b1,by rw [<-b2];exact e⟩]
    by_cases hmask:s∈Fq ops/\s∉g.pre
    ·left
     exact N2 s _ _ (fun p hpp _=>(memMask.1 hpp).1) ⟨(s,.any),memMask.2 ⟨rfl,hmask.1,hmask.2⟩,rfl⟩
    ·right
     rw [Jo s _ _ fun p hpp e=>by
      obtain ⟨_,b2,b3⟩:=memMask.1 hpp
      exact hmask ⟨e ▸ b2,e ▸ b3⟩]
     by_cases hd:∃ j,By ops j=some s
     ·obtain ⟨j,hj⟩:=hd
      have hpre:s∈g.pre:=by
       by_cases h:s∈g.pre
       ·exact h
       ·exact absurd ⟨Bz2 hj,h⟩ hmask
      have hjl:j < ops.length:=by
       rcases Nat.lt_or_ge j ops.length with h | h
       ·exact h
       ·unfold By at hj;rw [List.getElem?_eq_none h] at hj;cases hj
      have hSj:S j=false:=by
       rcases hp.pre j s hjl hj hpre with rfl | h
       ·exact hSi
       ·cases hSj:S j with
        | false=>rfl
        | true=>rw [anc2 j hSj hjl i h] at hSi;cases hSi
      rw [Gw hnd _ hj,hSj]
      simp
     ·rw [Hf _ fun j hj=>hd ⟨j,hj⟩]
  have hL:∀ y,Au E (vis V w0 w (Ac E (Cy (g.cs++g.rd) toks++Cy rest toks))) (a.eval y) (ev (Js g.sl rs++G3 g.pre (Fq ops)++σ.fr) y):=(hst1.frame hlook).ev
  -- the names that it gives are free
  have hfo:Gl o=true->Lc (cid o.dst) (cid o.dst+100) (Fj rs S 0 ops++σ.fr)=true/\Lc (cid o.dst) (cid o.dst+100) (Js g.sl rs++G3 g.pre (Fq ops)++σ.fr)=true/\J9 (cid o.dst) (cid o.dst+100) (Cy (g.cs++g.rd) toks++Cy rest toks)=true:=fun hmk=>by
   obtain ⟨f1,f2,f3⟩:=hfr i o ho' hmk
   have offFapp:∀ {u v:List (Nat×AV)},(∀ p∈u,p.2.off (cid o.dst) (cid o.dst+100)=true)->Lc (cid o.dst) (cid o.dst+100) v=true->Lc (cid o.dst) (cid o.dst+100) (u++v)=true:=by
    intro u
    induction u with
    | nil=>exact fun _ h=>h
    | cons p u ih =>
     intro v h1 h2
     obtain ⟨d,c⟩:=p
     simp only [List.cons_append,Lc,Bool.and_eq_true]
     exact ⟨h1 (d,c) (by simp),ih (fun p hp=>h1 p (List.mem_cons_of_mem _ hp)) h2⟩
   have behind:∀ j,S j=true->j < ops.length->((bef [] (ops.map Cm)).getD j 0).testBit i=false:=fun j hSj hjl=>by
    cases hb:((bef [] (ops.map Cm)).getD j 0).testBit i with
    | false=>rfl
    | true=>rw [anc2 j hSj hjl i hb] at hSi;cases hSi
   have rsoff:∀ j,j≠i->S j=true->j < ops.length->(rs.getD j .any).off (cid o.dst) (cid o.dst+100)=true:=fun j hj hSj hjl=>by
    rw [List.getD_eq_getElem?_getD]
    cases hr:rs[j]? with
    | none=>rfl
    | some y=>exact f2 j y hj (behind j hSj hjl) hr
   refine ⟨offFapp (fun p hpp=>?_) f1,?_,?_⟩
   ·obtain ⟨j,j1,j2,j3⟩:=Ja.1 hpp
    rw [j3]
    have hjl:0+j < ops.length:=by
     rw [Nat.zero_add]
     rcases Nat.lt_or_ge j ops.length with h | h
     ·exact h
     ·unfold By at j1;rw [List.getElem?_eq_none h] at j1;cases j1
    refine rsoff _ (fun e=>?_) j2 hjl
    rw [e,hSi] at j2;cases j2
   ·rw [List.append_assoc]
    refine offFapp (fun p hpp=>?_) (offFapp (fun p hpp=>?_) f1)
    ·have:∀ {sl:List (Nat×Nat)},(∀ q∈sl,q.2≠i/\S q.2=true/\q.2 < ops.length)->∀ p∈Js sl rs,p.2.off (cid o.dst) (cid o.dst+100)=true:=by
      intro sl
      induction sl with
      | nil=>intro _ p h;cases h
      | cons q sl ih =>
       intro hq p h
       obtain ⟨d,j⟩:=q
       simp only [Js] at h
       rcases List.mem_cons.1 h with rfl | h
       ·obtain ⟨u1,u2,u3⟩:=hq (d,j) (by simp)
        exact rsoff j u1 u2 u3
       ·exact ih (fun q h=>hq q (List.mem_cons_of_mem _ h)) p h
     exact this (fun q hq=>by have:=anc q.2 (hp.sl q hq).1;exact ⟨by omega,this.1,by omega⟩) p hpp
    ·have:∀ {ds:List Nat},∀ p∈G3 g.pre ds,p.2=.any:=by
      intro ds
      induction ds with
      | nil=>intro p h;cases h
      | cons d ds ih =>
       intro p h
       simp only [G3] at h
       split at h
       ·exact ih p h
       ·rcases List.mem_cons.1 h with rfl | h
        ·rfl
        ·exact ih p h
     rw [this p hpp];rfl
   ·have offBall:∀ {l:List BA},(∀ b∈l,b.off (cid o.dst) (cid o.dst+100)=true)->J9 (cid o.dst) (cid o.dst+100) l=true:=by
     intro l
     induction l with
     | nil=>exact fun _=>rfl
     | cons b l ih=>intro h;simp only [J9,Bool.and_eq_true];exact ⟨h b (by simp),ih fun c hc=>h c (List.mem_cons_of_mem _ hc)⟩
    refine offBall fun b hbm=>?_
    rw [<-G1,Se] at hbm
    obtain ⟨t,ht,rfl⟩:=List.mem_map.1 hbm
    have hno:t∉outs (D8 m hs) hs i:=fun hc=>by
     rcases List.mem_append.1 ht with ht | ht
     ·have:=hM t ht
      have:=(oi t).1 hc
      omega
     ·have hl:=((hrest t).1 ht).2.1
      rcases hl.1 with q | ⟨j,q1,q2⟩
      ·have:=Vy hc;omega
      ·have:=Mf hc q2
       subst this
       rw [hSi] at q1;cases q1
    have htt:t < toks.length:=by
     rw [htl]
     rcases List.mem_append.1 ht with ht | ht
     ·have:=hM t ht;omega
     ·exact ((hrest t).1 ht).1
    have hby:∀ j,t∈outs (D8 m hs) hs j->((bef [] (ops.map Cm)).getD j 0).testBit i=false:=fun j hj=>by
     have hjl:j < ops.length:=by
      rcases Nat.lt_or_ge j hs.length with h | h
      ·omega
      ·exact absurd hj (Q6 (List.getElem?_eq_none h))
     refine behind j ?_ hjl
     have hge:=Vy hj
     rcases List.mem_append.1 ht with ht | ht
     ·rcases (hp.from_ t ht).2 with q | ⟨j',_,q2,q3⟩
      ·omega
      ·rw [Mf hj q2];exact (anc j' q3).1
     ·rcases ((hrest t).1 ht).2.1.1 with q | ⟨j',q1,q2⟩
      ·omega
      ·rw [Mf hj q2];exact q1
    exact f3 t _ hno hby (by rw [List.getD_eq_getElem?_getD,List.getElem?_eq_getElem htt];rfl)
  -- the state behind the operation
  have fin_:∀ (E':Env) (v:Value) (x':AV) (a:Act) (w':World),St V w0 m0 E' ⟨Fj rs S 0 ops++σ.fr,Cy (List.range' b g.out) toks++Cy g.rd toks++Cy rest toks⟩ a w'->Au E' (vis V w0 w' (Ac E' (Cy (List.range' b g.out) toks++Cy g.rd toks++Cy rest toks))) v x'->x'=x ->
    ∃ E,St V w0 m0 E ⟨Fj rs (fun j=>S j || decide (j=i)) 0 ops++σ.fr,Ba3 m hs toks fun j=>S j || decide (j=i)⟩ (a.put o.dst v) w':=by
   rintro E' v x' a w' h1 h2 rfl
   have hput:=h1.put (dst:=o.dst) (fun d hd=>by
    have:∀ {l:List Oper},Di n l=true->o∈l->d < n.n/\d∉n.fx:=by
     intro l
     induction l with
     | nil=>intro _ h;cases h
     | cons q l ih =>
      intro h hm
      simp only [Di,Bool.and_eq_true] at h
      rcases List.mem_cons.1 hm with rfl | hm
      ·have:=h.1
       rw [hd] at this
       simp only [Bool.and_eq_true,Bool.not_eq_true'] at this
       exact ⟨Bs.1 this.1,Mh this.2⟩
      ·exact ih h.2 hm
    rw [hn0];exact this hdst (List.mem_of_getElem? ho')) h2
   refine ⟨E',(hput.perm (bk':=Ba3 m hs toks fun j=>S j || decide (j=i)) ?_).frame fun s=>.inr ?_⟩
   ·show (Cy (List.range' b g.out) toks++Cy g.rd toks++Cy rest toks).Perm _
    rw [<-G1,<-G1]
    exact Q1 p2 toks
   ·-- the slots
    by_cases hd:∃ j,By ops j=some s
    ·obtain ⟨j,hj⟩:=hd
     rw [Gw hnd _ hj]
     have hdi:By ops i=o.dst:=by unfold By;rw [ho'];rfl
     by_cases hji:j=i
     ·subst hji
      rw [hdi] at hj
      simp only [decide_true,Bool.or_true,if_true,hj,Ee,look]
      rw [List.getD_eq_getElem?_getD,hx];rfl
     ·have hne:o.dst≠some s:=fun e=>hji (Hg hnd hj (hdi.trans e))
      have e2:look (Ee o.dst x' (Fj rs S 0 ops++σ.fr)) s=look (Fj rs S 0 ops++σ.fr) s:=by
       cases hdd:o.dst with
       | none=>rfl
       | some d =>
        simp only [Ee,look]
        rw [if_neg fun e=>hne (by rw [hdd,e])]
      rw [e2,Gw hnd _ hj]
      simp [hji]
    ·rw [Hf _ fun j hj=>hd ⟨j,hj⟩]
     have hdi:By ops i=o.dst:=by unfold By;rw [ho'];rfl
     have e2:look (Ee o.dst x' (Fj rs S 0 ops++σ.fr)) s=look (Fj rs S 0 ops++σ.fr) s:=by
      cases hdd:o.dst with
      | none=>rfl
      | some d =>
       simp only [Ee,look]
       rw [if_neg fun e=>hd ⟨i,by rw [hdi,hdd,e]⟩]
     rw [e2,Hf _ fun j hj=>hd ⟨j,hj⟩]
  -- what the guard says
  have hyield:∀ (j:Nat) (c:Bool),(((bef [] (ops.map Cm)).getD i 0).testBit j=true/\(By ops j).isSome=true)->nrm ((rs.take i).getD j .any)=.val (.bool c)->yielded ops.toArray a.tmps j=some c:=fun j c hb hn=>by
   obtain ⟨hSj,hji⟩:=anc j hb.1
   rw [List.getD_eq_getElem?_getD,List.getElem?_take_of_lt hji,<-List.getD_eq_getElem?_getD] at hn
   cases hd:By ops j with
   | none=>rw [hd] at hb;cases hb.2
   | some d =>
    have hv:=hst.slots d
    simp only at hv
    rw [Gw hnd _ hd,if_pos hSj] at hv
    have hv:=hv.nrm_
    rw [hn] at hv
    generalize hu:a.tmps.getD d undef=u at hv
    cases hv
    have:a.tmps[d]? = some (.bool c):=by
     rw [Array.getD_eq_getD_getElem?] at hu
     cases hdd:a.tmps[d]? with
     | none=>rw [hdd] at hu;simp [undef] at hu
     | some y=>rw [hdd] at hu;simp at hu;rw [hu]
    unfold By at hd
    simp [yielded,hd,this]
  have hyieldN:∀ (j:Nat) (tt:Array Value),(((bef [] (ops.map Cm)).getD i 0).testBit j=true/\(By ops j).isSome=true)->nrm ((rs.take i).getD j .any)=.val (.tuple tt)->yielded ops.toArray a.tmps j=none:=fun j c hb hn=>by
   obtain ⟨hSj,hji⟩:=anc j hb.1
   rw [List.getD_eq_getElem?_getD,List.getElem?_take_of_lt hji,<-List.getD_eq_getElem?_getD] at hn
   cases hd:By ops j with
   | none=>rw [hd] at hb;cases hb.2
   | some d =>
    have hv:=hst.slots d
    simp only at hv
    rw [Gw hnd _ hd,if_pos hSj] at hv
    have hv:=hv.nrm_
    rw [hn] at hv
    generalize hu:a.tmps.getD d undef=u at hv
    cases hv
    unfold By at hd
    rw [Array.getD_eq_getD_getElem?] at hu
    cases hdd:a.tmps[d]? with
    | none=>simp [yielded,hd,hdd]
    | some y =>
     rw [hdd] at hu
     simp at hu
     simp [yielded,hd,hdd,hu]
  refine wpListIn_step fun K' hK'=>?_
  rcases hcase with ⟨hgd,hu⟩ | ⟨⟨j,c,hg1,hg2⟩,rfl,ho0,hc0⟩
  case inr =>
   have hw:Region.wanted o (yielded ops.toArray a.tmps)=false:=by
    unfold Region.wanted
    rw [hg1]
    simp only
    rcases hg2 with hg2 | ⟨tt,hg2⟩
    ·rw [hyield j (!c) (hp.guard j c hg1) hg2]
     cases c<;>rfl
    ·rw [hyieldN j tt (hp.guard j c hg1) hg2]
     rfl
   rw [if_neg (by rw [hw];simp)]
   refine ⟨fun _ _=>trivial,hK' _ _ ?_⟩
   show ∃ E,St V w0 m0 E ⟨Fj rs (fun j=>S j || decide (j=i)) 0 ops++σ.fr,Ba3 m hs toks fun j=>S j || decide (j=i)⟩ (a.put o.dst undef) w
   have hst2:St V w0 m0 E ⟨Fj rs S 0 ops++σ.fr,Cy (List.range' b g.out) toks++Cy g.rd toks++Cy rest toks⟩ a w:=by
    rw [ho0]
    rw [hc0] at hst1
    simpa [Cy] using hst1
   exact fin_ E undef (.val undef) a w hst2 .val rfl
  have hw:Region.wanted o (yielded ops.toArray a.tmps)=true:=by
   unfold Region.wanted
   rcases hgd with hgd | ⟨j,c,hg1,hg2⟩
   ·rw [hgd]
   ·rw [hg1]
    simp only
    rw [hyield j c (hp.guard j c hg1) hg2]
    simp
  rw [if_pos hw]
  have hus:=hu fun hmk y=>Bl1 (hfo hmk).2.1 y
  rw [<-G1] at hus
  refine hus V w0 m0 E a w _ (Cy rest toks) hst1 hL (fun hmk=>⟨(hfo hmk).1,(hfo hmk).2.2⟩) hG K' _ (fun v w' E' h1 h2=>hK' _ _ ?_) ro
  show ∃ E,St V w0 m0 E ⟨Fj rs (fun j=>S j || decide (j=i)) 0 ops++σ.fr,Ba3 m hs toks fun j=>S j || decide (j=i)⟩ (a.put o.dst v) w'
  exact fin_ E' v x a w' (by rw [<-G1] at h1 ⊢;exact h1) (by rw [<-G1] at h2 ⊢;exact h2) rfl
 ·-- behind all
  rintro S a w hall' ⟨E,hst⟩
  have hS:∀ i,i < ops.length->S i=true:=fun i hi=>hall' i (by simpa using hi)
  refine ⟨m0,E,_,Fm.le.refl m0,hK,?_⟩
  refine (hst.perm (bk':=Cy (Bo2 m hs) toks) (Q1 ((List.perm_ext_iff_of_nodup ((List.nodup_range).filter _) ((List.nodup_range).filter _)).2 fun t=>?_) toks)).frame fun s=>.inr ?_
  ·rw [List.mem_filter,List.mem_filter,List.mem_range,decide_eq_true_eq]
   simp only [Bool.not_eq_true',List.any_eq_false,List.contains_eq_mem,decide_eq_true_eq]
   have hjl:∀ {j:Nat} {g:F7},hs[j]? = some g->S j=true:=fun {j g} hj=>hS j (by rw [<-hlen];exact (List.getElem?_eq_some_iff.1 hj).1)
   constructor
   ·rintro ⟨h1,h2,h3⟩
    refine ⟨h1,fun g hgm ht=>?_⟩
    obtain ⟨j,hj⟩:=List.mem_iff_getElem?.1 hgm
    have:=h3 j g hj ht
    rw [hjl hj] at this;cases this
   ·rintro ⟨h1,h2⟩
    refine ⟨h1,?_,fun j g hj ht=>absurd ht (h2 g (List.mem_of_getElem? hj))⟩
    by_cases hm':t < m
    ·exact .inl hm'
    ·right
     -- some operation laid it
     have key:∀ (hs:List F7) (m t:Nat),m<=t->t < M5 m hs->∃ (i:Nat) (g:F7) (b:Nat),hs[i]? = some g/\(D8 m hs)[i]? = some b/\b<=t/\t < b+g.out:=by
      intro hs
      induction hs with
      | nil=>intro m t h1 h2;simp only [M5] at h2;omega
      | cons g hs ih =>
       intro m t h1 h2
       by_cases h3:t < m+g.out
       ·exact ⟨0,g,m,rfl,rfl,h1,h3⟩
       ·obtain ⟨i,g',b,a1,a2,a3,a4⟩:=ih (m+g.out) t (by omega) h2
        exact ⟨i+1,g',b,by simpa using a1,by simpa [D8] using a2,a3,a4⟩
     obtain ⟨i,g,b,a1,a2,a3,a4⟩:=key hs m t (by omega) h1
     exact ⟨i,hjl a1,(Pg a1 a2).2 ⟨a3,a4⟩⟩
  ·show look (Vt ops rs σ.fr) s=_
   rw [Al0 0 rs (by simp) hrl]
   by_cases hd:∃ j,By ops j=some s
   ·obtain ⟨j,hj⟩:=hd
    have hjl:j < ops.length:=by
     rcases Nat.lt_or_ge j ops.length with h | h
     ·exact h
     ·unfold By at hj;rw [List.getElem?_eq_none h] at hj;cases hj
    rw [Gw hnd _ hj,Gw hnd _ hj,hS j hjl]
   ·rw [Hf _ fun j hj=>hd ⟨j,hj⟩,Hf _ fun j hj=>hd ⟨j,hj⟩]
end
end Go.Proofs.YtahgkllhbggmgaaGreatDoor
