/- The formulas, as rewriting rules: one for each kind of operation. No program is known here. -/
import Derived.Test.YtblfjaedaijfoaaGreatDoorQAbsLoop
import Derived.IntWalk
import Derived.Scope
set_option linter.all false
set_option linter.unnecessarySimpa false
set_option linter.unusedSimpArgs false
set_option linter.unusedVariables false
namespace Go.Proofs.YtblfjaedaijfoaaGreatDoor
open Go.ChangeShapes Go.WideShapes Go.ChangeAt Go.RowKit
structure G8 where
 sl:List (Nat×Nat)
 pre:List Nat
 rd:List Nat
 cs:List Nat
 out:Nat
def G5 (o:Oper):List Nat:=o.after.toList.filterMap fun e=>if Region.binds .any e then some e.on else none
def bef (acc:List Nat):List (List Nat)->List Nat
 | []=>acc
 | ds :: r=>bef (acc++[ds.foldl (fun s d=>s|||2 ^ d|||acc.getD d 0) 0]) r
theorem A47 {acc:List Nat} {j:Nat} : ∀ (ds:List Nat) (s:Nat),(ds.foldl (fun s d=>s|||2 ^ d|||acc.getD d 0) s).testBit j=true->s.testBit j=true\/∃ d∈ds,j=d\/(acc.getD d 0).testBit j=true
 | [],s,h=>.inl h
 | d :: ds,s,h=>by
  rcases A47 ds _ h with h | ⟨d',h1,h2⟩
  ·simp only [Nat.testBit_or,Bool.or_eq_true,Nat.testBit_two_pow,decide_eq_true_eq] at h
   rcases h with (h | h) | h
   ·exact .inl h
   ·exact .inr ⟨d,by simp,.inl h.symm⟩
   ·exact .inr ⟨d,by simp,.inr h⟩
  ·exact .inr ⟨d',List.mem_cons_of_mem _ h1,h2⟩
theorem An3:∀ (r:List (List Nat)) (acc:List Nat) (i:Nat),i < acc.length->(bef acc r).getD i 0=acc.getD i 0
 | [],acc,i,h=>rfl
 | ds :: r,acc,i,h=>by
  simp only [bef]
  rw [An3 r _ i (by simp;omega)]
  simp [List.getD_eq_getElem?_getD,List.getElem?_append_left h]
theorem C49:∀ (r:List (List Nat)) (acc:List Nat) (i j:Nat),((bef acc r).getD (acc.length+i) 0).testBit j=true->i < r.length->(∀ d∈r.getD i [],d < acc.length+i)->∃ d∈r.getD i [],j=d\/((bef acc r).getD d 0).testBit j=true
 | [],acc,i,j,_,hi,_=>by simp at hi
 | ds :: r,acc,0,j,h,_,hd=>by
  simp only [bef,Nat.add_zero] at h
  rw [An3 r _ acc.length (by simp)] at h
  simp only [List.getD_eq_getElem?_getD,List.getElem?_append_right (Nat.le_refl _),Nat.sub_self,List.getElem?_cons_zero,Option.getD_some] at h
  rcases A47 ds 0 h with h | ⟨d,h1,h2⟩
  ·simp at h
  ·refine ⟨d,h1,h2.elim Or.inl fun h=>.inr ?_⟩
   have hlt:=hd d h1
   simp only [Nat.add_zero] at hlt
   simp only [bef]
   rw [An3 r _ d (by simp;omega)]
   simpa [List.getD_eq_getElem?_getD,List.getElem?_append_left hlt] using h
 | ds :: r,acc,i+1,j,h,hi,hd=>by
  have h':=C49 r (acc++[ds.foldl (fun s d=>s|||2 ^ d|||acc.getD d 0) 0]) i j (by
   simp only [bef] at h
   simpa [Nat.add_assoc,Nat.add_comm 1 i] using h) (by simpa using hi) (fun d hdm=>by
   have:=hd d (by simpa using hdm)
   simp;omega)
  simpa [bef] using h'
def Dr (m:Nat):List G8->List Nat
 | []=>[]
 | h :: r=>m :: Dr (m+h.out) r
def outs (bs:List Nat) (hs:List G8) (i:Nat):List Nat:=List.range' (bs.getD i 0) ((hs[i]?.map (·.out)).getD 0)
def Nu (m:Nat):List G8->Nat
 | []=>m
 | h :: r=>Nu (m+h.out) r
def A25:List Nat->Bool
 | []=>true
 | x :: r=>!r.contains x&&A25 r
def Bb2 (m:Nat) (ops:List Oper) (hs:List G8) (A bs:List Nat) (i:Nat) (o:Oper) (h:G8):Bool :=
 (G5 o).all (fun d=>decide (d < i)) &&
 h.sl.all (fun p=>(A.getD i 0).testBit p.2&&((ops[p.2]?).bind (·.dst)==some p.1)) &&
 (List.range ops.length).all (fun j=>match (ops[j]?).bind (·.dst) with
  | some d=>!h.pre.contains d || j==i || (A.getD j 0).testBit i
  | none=>true) &&
 (h.cs++h.rd).all (fun t=>decide (t < bs.getD i 0)&&(decide (t < m) || (List.range i).any fun j=>(outs bs hs j).contains t&&(A.getD i 0).testBit j)) &&
 (List.range ops.length).all (fun j=>j==i || h.cs.all fun t=>!(((hs[j]?).map fun g=>g.cs++g.rd).getD []).contains t || (A.getD i 0).testBit j) &&
 A25 (h.cs++h.rd) &&
 (match o.guard with
  | none=>true
  | some (j,_)=>(A.getD i 0).testBit j&&((ops[j]?).bind (·.dst)).isSome)
def Js (ops:List Oper):List Nat:=ops.filterMap (·.dst)
def Bc8 (n:Nd) (m:Nat) (ops:List Oper) (hs:List G8):Bool :=
 let A:=bef [] (ops.map G5)
 let bs:=Dr m hs
 hs.length==ops.length&&A25 (Js ops)&&Dd n ops&&Aw2 ops.toArray&&(List.range ops.length).all (fun i=>match ops[i]?,hs[i]? with
  | some o,some h=>Bb2 m ops hs A bs i o h
  | _,_=>false)
def Lm (sl:List (Nat×Nat)) (rs:List AV):List (Nat×AV) :=
 match sl with
 | []=>[]
 | (d,j) :: r=>(d,rs.getD j .any) :: Lm r rs
def Hg (pre ds:List Nat):List (Nat×AV) :=
 match ds with
 | []=>[]
 | d :: r=>if pre.contains d then Hg pre r else (d,.any) :: Hg pre r
def Df (ts:List Nat) (toks:List BA):List BA :=
 match ts with
 | []=>[]
 | t :: r=>toks.getD t (.arr 0 []) :: Df r toks
def Yt:List Oper->List AV->List (Nat×AV)->List (Nat×AV)
 | [],_,fr=>fr
 | o :: r,rs,fr=>match o.dst,rs with
  | some d,x :: rs=>(d,x) :: Yt r rs fr
  | none,_ :: rs=>Yt r rs fr
  | _,[]=>fr
def Q6 (rs:List AV) (g:Option (Nat×Bool)) (run skip:Prop):Prop :=
 match g with
 | none=>run
 | some (j,b)=>match nrm (rs.getD j .any) with
  | .val (.bool true)=>(match b with | true=>run | false=>skip)
  | .val (.bool false)=>(match b with | true=>skip | false=>run)
  | .val (.tuple _)=>skip
  | _=>False
def Bw0 (x:AV) (b:Bool):Prop:=x=.val (.bool !b)\/∃ t,x=.val (.tuple t)
theorem Bq7 {rs:List AV} {g:Option (Nat×Bool)} {run skip:Prop} (h:Q6 rs g run skip):(run/\(g=none\/∃ j b,g=some (j,b)/\nrm (rs.getD j .any)=.val (.bool b)))\/(skip/\∃ j b,g=some (j,b)/\Bw0 (nrm (rs.getD j .any)) b):=by
 unfold Q6 at h
 split at h
 ·exact .inl ⟨h,.inl rfl⟩
 ·rename_i j b
  split at h
  ·rename_i e
   cases b
   ·exact .inr ⟨h,j,_,rfl,.inl e⟩
   ·exact .inl ⟨h,.inr ⟨j,_,rfl,e⟩⟩
  ·rename_i e
   cases b
   ·exact .inl ⟨h,.inr ⟨j,_,rfl,e⟩⟩
   ·exact .inr ⟨h,j,_,rfl,.inl e⟩
  ·rename_i tt e
   exact .inr ⟨h,j,_,rfl,.inr ⟨tt,e⟩⟩
  ·exact h.elim
def B7 (P:Program) (G:World->Prop) (ds:List Nat) (fr0:List (Nat×AV)):List Oper->List G8->List BA->List AV->(List BA->List AV->Prop)->Prop
 | [],_,toks,rs,K=>K toks rs
 | _ :: _,[],_,_,_=>False
 | o :: r,h :: hs,toks,rs,K=>Q6 rs o.guard (Bj P G (ev (Lm h.sl rs++Hg h.pre ds++fr0)) (Df h.cs toks++Df h.rd toks) o fun x bk' =>
   bk'=bk'.take h.out++Df h.rd toks/\(bk'.take h.out).length=h.out/\B7 P G ds fr0 r hs (toks++bk'.take h.out) (rs++[x]) K) (h.out=0/\h.cs=[]/\B7 P G ds fr0 r hs toks (rs++[.val undef]) K)
def A45 (toks:List BA) (fr0:List (Nat×AV)) (ops:List Oper) (rs:List AV) (hs:List G8) (bs:List Nat):Prop :=
 ∀ (i:Nat) (o:Oper),ops[i]? = some o->Jz o=true->Lg (cid o.dst) (cid o.dst+100) fr0=true/\(∀ (j:Nat) x,j≠i->((bef [] (ops.map G5)).getD j 0).testBit i=false->rs[j]? = some x->x.off (cid o.dst) (cid o.dst+100)=true) /\
  ∀ (t:Nat) b,t∉outs bs hs i->(∀ j,t∈outs bs hs j->((bef [] (ops.map G5)).getD j 0).testBit i=false)->toks[t]? = some b->b.off (cid o.dst) (cid o.dst+100)=true
theorem Tz:∀ {l:List Nat},A25 l=true->l.Nodup
 | [],_=>List.nodup_nil
 | x :: r,h=>by
  simp only [A25,Bool.and_eq_true,Bool.not_eq_true',List.contains_eq_mem,decide_eq_false_iff_not] at h
  exact List.nodup_cons.2 ⟨h.1,Tz h.2⟩
theorem Uo:∀ (hs:List G8) (m:Nat),m<=Nu m hs
 | [],m=>Nat.le_refl _
 | h :: r,m=>Nat.le_trans (by omega) (Uo r (m+h.out))
theorem Pc:∀ (hs:List G8) (m i:Nat) (h:G8),hs[i]? = some h->∃ b,(Dr m hs)[i]? = some b/\m<=b/\b+h.out<=Nu m hs
 | [],_,i,h,e=>by simp at e
 | g :: r,m,0,h,e=>by
  simp at e;subst e
  exact ⟨m,rfl,Nat.le_refl _,Uo r _⟩
 | g :: r,m,i+1,h,e=>by
  obtain ⟨b,h1,h2,h3⟩:=Pc r (m+g.out) i h (by simpa using e)
  exact ⟨b,by simpa [Dr] using h1,by omega,h3⟩
theorem A64:∀ (hs:List G8) (m i j:Nat) (g:G8) (b c:Nat),i < j->hs[i]? = some g->(Dr m hs)[i]? = some b->(Dr m hs)[j]? = some c->b+g.out<=c
 | [],_,i,_,_,_,_,_,e,_,_=>by simp at e
 | h :: r,m,0,j,g,b,c,hij,e,e1,e2=>by
  simp at e;subst e
  simp [Dr] at e1;subst e1
  obtain ⟨j',rfl⟩ : ∃ j',j=j'+1:=⟨j - 1,by omega⟩
  simp only [Dr,List.getElem?_cons_succ] at e2
  have key:∀ (r:List G8) (m j c:Nat),(Dr m r)[j]? = some c->m<=c:=by
   intro r
   induction r with
   | nil=>intro m j c h;simp [Dr] at h
   | cons h r ih =>
    intro m j c h
    cases j with
    | zero=>simp [Dr] at h;omega
    | succ j=>simp only [Dr,List.getElem?_cons_succ] at h;have:=ih _ _ _ h;omega
  exact key r _ j' c e2
 | h :: r,m,i+1,j,g,b,c,hij,e,e1,e2=>by
  obtain ⟨j',rfl⟩ : ∃ j',j=j'+1:=⟨j - 1,by omega⟩
  exact A64 r (m+h.out) i j' g b c (by omega) (by simpa using e) (by simpa [Dr] using e1) (by simpa [Dr] using e2)
theorem R9 {m:Nat} {hs:List G8} {i t:Nat} {h:G8} {b:Nat} (e:hs[i]? = some h) (eb:(Dr m hs)[i]? = some b):t∈outs (Dr m hs) hs i↔b<=t/\t < b+h.out:=by
 unfold outs
 rw [List.mem_range'_1,List.getD_eq_getElem?_getD,eb,e]
 simp
theorem S5 {m:Nat} {hs:List G8} {i t:Nat} (e:hs[i]? = none):t∉outs (Dr m hs) hs i:=by
 unfold outs
 rw [List.mem_range'_1,e]
 simp
theorem P2 {m:Nat} {hs:List G8} {i j t:Nat} (hi:t∈outs (Dr m hs) hs i) (hj:t∈outs (Dr m hs) hs j):i=j:=by
 cases ei:hs[i]? with
 | none=>exact absurd hi (S5 ei)
 | some g =>
  cases ej:hs[j]? with
  | none=>exact absurd hj (S5 ej)
  | some h =>
   obtain ⟨b,b1,b2,b3⟩:=Pc hs m i g ei
   obtain ⟨c,c1,c2,c3⟩:=Pc hs m j h ej
   rw [R9 ei b1] at hi
   rw [R9 ej c1] at hj
   rcases Nat.lt_trichotomy i j with h' | h' | h'
   ·have:=A64 hs m i j g b c h' ei b1 c1;omega
   ·exact h'
   ·have:=A64 hs m j i h c b h' ej c1 b1;omega
theorem Z0 {m:Nat} {hs:List G8} {i t:Nat} (hi:t∈outs (Dr m hs) hs i):m<=t:=by
 cases ei:hs[i]? with
 | none=>exact absurd hi (S5 ei)
 | some g =>
  obtain ⟨b,b1,b2,_⟩:=Pc hs m i g ei
  rw [R9 ei b1] at hi;omega
theorem Aa5 {rs:List AV} {k:Nat} : ∀ {sl:List (Nat×Nat)},(∀ p∈sl,p.2 < k)->Lm sl (rs.take k)=Lm sl rs
 | [],_=>rfl
 | (d,j) :: r,h=>by
  simp only [Lm]
  have hj:j < k:=h (d,j) (by simp)
  rw [Aa5 fun p hp=>h p (List.mem_cons_of_mem _ hp),List.getD_eq_getElem?_getD,List.getElem?_take_of_lt hj,<-List.getD_eq_getElem?_getD]
theorem Wr {toks:List BA} {k:Nat} : ∀ {ts:List Nat},(∀ t∈ts,t < k)->Df ts (toks.take k)=Df ts toks
 | [],_=>rfl
 | t :: r,h=>by
  simp only [Df]
  rw [Wr fun p hp=>h p (List.mem_cons_of_mem _ hp),List.getD_eq_getElem?_getD,List.getElem?_take_of_lt (h t (by simp)),<-List.getD_eq_getElem?_getD]
theorem Tv {toks:List BA} : ∀ (k b:Nat),b+k<=toks.length->Df (List.range' b k) toks=(toks.drop b).take k
 | 0,b,_=>by simp [Df]
 | k+1,b,h=>by
  rw [List.range'_succ]
  simp only [Df]
  rw [Tv k (b+1) (by omega),List.drop_eq_getElem_cons (by omega:b < toks.length),List.take_succ_cons,List.getD_eq_getElem?_getD,List.getElem?_eq_getElem (by omega)]
  rfl
theorem Uy (ts:List Nat) (toks:List BA):Df ts toks=ts.map fun t=>toks.getD t (.arr 0 []):=by
 induction ts with
 | nil=>rfl
 | cons t r ih=>simp [Df,ih]
section
variable {P : Program} {G : World -> Prop}
def E16 (P:Program) (G:World->Prop) (ds:List Nat) (fr0:List (Nat×AV)) (toks:List BA) (rs:List AV) (o:Oper) (h:G8) (i b:Nat):Prop :=
 ∃ x,rs[i]? = some x/\(((o.guard=none\/∃ j c,o.guard=some (j,c)/\nrm ((rs.take i).getD j .any)=.val (.bool c))/\((Jz o=true->∀ y,(ev (Lm h.sl (rs.take i)++Hg h.pre ds++fr0) y).off (cid o.dst) (cid o.dst+100)=true) ->
  Cm1 P G o (ev (Lm h.sl (rs.take i)++Hg h.pre ds++fr0)) (Df h.cs (toks.take b)++Df h.rd (toks.take b)) x ((toks.drop b).take h.out++Df h.rd (toks.take b)))) \/
  ((∃ j c,o.guard=some (j,c)/\Bw0 (nrm ((rs.take i).getD j .any)) c)/\x=.val undef/\h.out=0/\h.cs=[]))
theorem Zf {ds:List Nat} {fr0:List (Nat×AV)} : ∀ (r:List Oper) (hr:List G8) (toks:List BA) (rs:List AV) (K:List BA->List AV->Prop),B7 P G ds fr0 r hr toks rs K->hr.length=r.length ->
  ∃ toks' rs',K toks' rs'/\(∃ e,toks'=toks++e)/\(∃ e,rs'=rs++e)/\rs'.length=rs.length+r.length/\toks'.length=Nu toks.length hr /\
   ∀ (i:Nat) o h b,r[i]? = some o->hr[i]? = some h->(Dr toks.length hr)[i]? = some b->E16 P G ds fr0 toks' rs' o h (rs.length+i) b
 | [],[],toks,rs,K,h,_=>⟨toks,rs,h,⟨[],by simp⟩,⟨[],by simp⟩,by simp,rfl,fun i o h b e=>by simp at e⟩
 | [],_ :: _,_,_,_,_,hl=>by simp at hl
 | _ :: _,[],_,_,_,_,hl=>by simp at hl
 | o :: r,h :: hr,toks,rs,K,hv,hl=>by
  simp only [B7] at hv
  rcases Bq7 hv with ⟨hv,hg⟩ | ⟨⟨s1,s2,s3⟩,hg⟩
  case inr =>
   obtain ⟨toks',rs',k1,⟨e1,k2⟩,⟨e2,k3⟩,k4,k5,k6⟩:=Zf r hr _ _ K s3 (by simpa using hl)
   refine ⟨toks',rs',k1,⟨e1,k2⟩,⟨[.val undef]++e2,by rw [k3,List.append_assoc]⟩,by rw [k4];simp;omega,by rw [k5];simp [Nu,s1],fun i o' h' b' a1 a2 a3=>?_⟩
   cases i with
   | zero =>
    simp at a1 a2
    subst a1 a2
    simp [Dr] at a3
    subst a3
    have t3:rs'.take rs.length=rs:=by rw [k3,List.append_assoc,List.take_left]
    refine ⟨.val undef,by rw [k3];simp,.inr ⟨?_,rfl,s1,s2⟩⟩
    simp only [Nat.add_zero,t3]
    exact hg
   | succ i =>
    have:=k6 i o' h' b' (by simpa using a1) (by simpa using a2) (by simpa [Dr,s1] using a3)
    simpa [Nat.add_assoc,Nat.add_comm 1 i] using this
  obtain ⟨x,bk',⟨h1,h2,h3⟩,hu⟩:=Bk2 hv
  obtain ⟨toks',rs',k1,⟨e1,k2⟩,⟨e2,k3⟩,k4,k5,k6⟩:=Zf r hr _ _ K h3 (by simpa using hl)
  have hlen:(toks++bk'.take h.out).length=toks.length+h.out:=by rw [List.length_append,h2]
  refine ⟨toks',rs',k1,⟨bk'.take h.out++e1,by rw [k2,List.append_assoc]⟩,⟨[x]++e2,by rw [k3,List.append_assoc]⟩,by rw [k4];simp;omega,by rw [k5,hlen];rfl,fun i o' h' b' a1 a2 a3=>?_⟩
  cases i with
  | zero =>
   simp at a1 a2
   subst a1 a2
   simp [Dr] at a3
   subst a3
   have t1:toks'.take toks.length=toks:=by rw [k2,List.append_assoc,List.take_left]
   have t2:(toks'.drop toks.length).take h.out=bk'.take h.out:=by
    rw [k2,List.append_assoc,List.drop_left,List.take_append_of_le_length (by omega),List.take_of_length_le (by omega)]
   have t3:rs'.take rs.length=rs:=by rw [k3,List.append_assoc,List.take_left]
   refine ⟨x,by rw [k3];simp,.inl ?_⟩
   simp only [Nat.add_zero,t1,t2,t3]
   rw [<-h1]
   exact ⟨hg,hu⟩
  | succ i =>
   have:=k6 i o' h' b' (by simpa using a1) (by simpa using a2) (by rw [hlen];simpa [Dr] using a3)
   simpa [Nat.add_assoc,Nat.add_comm 1 i] using this
end
theorem Bn3 (E:Env) {bk bk':List BA} (h:bk.Perm bk'):(Ac E bk).Perm (Ac E bk'):=by
 induction h with
 | nil=>exact List.Perm.refl _
 | cons x _ ih=>exact ih.append_left _
 | swap x y l=>simp only [Ac,<-List.append_assoc];exact List.perm_append_comm.append_right _
 | trans _ _ i1 i2=>exact i1.trans i2
section
variable {V w0 : World} {n : Fm} {E : Env} {a : Act} {w : World}
theorem St.perm {fr:List (Nat×AV)} {bk bk':List BA} (h:St V w0 n E ⟨fr,bk⟩ a w) (hp:bk.Perm bk'):St V w0 n E ⟨fr,bk'⟩ a w:=by
 have ho:=Bn3 E hp
 have hx:Ext (vis V w0 w (Ac E bk)) (vis V w0 w (Ac E bk')):=D6 (Nat.le_refl _) fun p u _ _ h4 h5=>⟨fun hm=>h4 (ho.mem_iff.2 hm),h5⟩
 exact ⟨h.ext,h.low,ho.nodup_iff.1 h.apart,fun g hg=>h.base g (ho.mem_iff.2 hg),fun b hb=>BA.holds_ext (Env.same_refl 0 0 E) hx (fun _ _=>rfl) b.off_none (h.holds b (hp.mem_iff.2 hb)),fun i=>(h.slots i).mono hx,h.size,h.defers,h.hold.1,fun g o hg=>⟨(h.hold.2 g o hg).1,fun hm=>(h.hold.2 g o hg).2 (ho.mem_iff.2 hm)⟩⟩
theorem St.frame {fr fr':List (Nat×AV)} {bk:List BA} (h:St V w0 n E ⟨fr,bk⟩ a w) (hf:∀ i,Cq fr' i=.any\/Cq fr' i=Cq fr i):St V w0 n E ⟨fr',bk⟩ a w :=
 ⟨h.ext,h.low,h.apart,h.base,h.holds,fun i=>by
  rcases hf i with e | e
  ·rw [e];exact .any
  ·rw [e];exact h.slots i,h.size,h.defers,h.hold⟩
theorem Lj (i:Nat):∀ (a b:List (Nat×AV)),(∀ p∈a,p.1≠i)->Cq (a++b) i=Cq b i
 | [],_,_=>rfl
 | (j,c) :: a,b,h=>by
  simp only [List.cons_append,Cq]
  rw [if_neg (Ne.symm (h (j,c) (by simp))),Lj i a b fun p hp=>h p (List.mem_cons_of_mem _ hp)]
theorem Q3 (i:Nat) {c:AV} : ∀ (a b:List (Nat×AV)),(∀ p∈a,p.1=i->p.2=c)->(∃ p∈a,p.1=i)->Cq (a++b) i=c
 | [],_,_,⟨p,hp,_⟩=>by cases hp
 | (j,d) :: a,b,h,⟨p,hp,e⟩=>by
  simp only [List.cons_append,Cq]
  by_cases hj:i=j
  ·rw [if_pos hj];exact h (j,d) (by simp) hj.symm
  ·rw [if_neg hj]
   refine Q3 i a b (fun q hq=>h q (List.mem_cons_of_mem _ hq)) ⟨p,?_,e⟩
   rcases List.mem_cons.1 hp with rfl | hp
   ·exact absurd e.symm hj
   ·exact hp
end
def Da (ops:List Oper) (j:Nat):Option Nat:=(ops[j]?).bind (·.dst)
theorem Rl:∀ {ops:List Oper},(Js ops).Nodup->∀ {i j d:Nat},Da ops i=some d->Da ops j=some d->i=j
 | [],_,i,_,_,h,_=>by simp [Da] at h
 | o :: r,hn,i,j,d,hi,hj=>by
  unfold Js at hn
  have mem:∀ {k:Nat},Da r k=some d->d∈Js r:=fun {k} h=>by
   unfold Da at h
   obtain ⟨o',h1,h2⟩:=Option.bind_eq_some_iff.1 h
   exact List.mem_filterMap.2 ⟨o',List.mem_of_getElem? h1,h2⟩
  have hr:(Js r).Nodup:=by
   simp only [List.filterMap_cons] at hn
   split at hn
   ·exact hn
   ·exact (List.nodup_cons.1 hn).2
  have no:o.dst=some d->d∉Js r:=fun e=>by
   simp only [List.filterMap_cons,e] at hn
   exact (List.nodup_cons.1 hn).1
  cases i with
  | zero =>
   cases j with
   | zero=>rfl
   | succ j =>
    have h1:o.dst=some d:=by simpa [Da] using hi
    exact absurd (mem (by simpa [Da] using hj)) (no h1)
  | succ i =>
   cases j with
   | zero =>
    have h1:o.dst=some d:=by simpa [Da] using hj
    exact absurd (mem (by simpa [Da] using hi)) (no h1)
   | succ j=>exact congrArg Nat.succ (Rl hr (by simpa [Da] using hi) (by simpa [Da] using hj))
theorem Cb7 {ops:List Oper} {j d:Nat} (h:Da ops j=some d):d∈Js ops:=by
 unfold Da at h
 obtain ⟨o',h1,h2⟩:=Option.bind_eq_some_iff.1 h
 exact List.mem_filterMap.2 ⟨o',List.mem_of_getElem? h1,h2⟩
def Gq (rs:List AV) (S:Nat->Bool):Nat->List Oper->List (Nat×AV)
 | _,[]=>[]
 | j,o :: r=>match o.dst with
  | some d=>if S j then (d,rs.getD j .any) :: Gq rs S (j+1) r else Gq rs S (j+1) r
  | none=>Gq rs S (j+1) r
theorem L3 {rs:List AV} {S:Nat->Bool} : ∀ {ops:List Oper} {s:Nat} {p:Nat×AV},p∈Gq rs S s ops↔∃ j,Da ops j=some p.1/\S (s+j)=true/\p.2=rs.getD (s+j) .any
 | [],s,p=>by simp [Gq,Da]
 | o :: r,s,p=>by
  have split0:∀ {q:Nat->Prop},(∃ j,q j)↔q 0\/∃ j,q (j+1):=fun {q}=>⟨fun ⟨j,h⟩=>by cases j with | zero=>exact .inl h | succ j=>exact .inr ⟨j,h⟩,fun h=>h.elim (fun h=>⟨0,h⟩) fun ⟨j,h⟩=>⟨j+1,h⟩⟩
  rw [split0]
  have e0:Da (o :: r) 0=o.dst:=by simp [Da]
  have e1:∀ j,Da (o :: r) (j+1)=Da r j:=fun j=>by simp [Da]
  simp only [e0,e1,Nat.add_zero]
  have ih:=L3 (rs:=rs) (S:=S) (ops:=r) (s:=s+1) (p:=p)
  simp only [Nat.add_assoc,Nat.add_comm 1] at ih
  simp only [Gq]
  cases hd:o.dst with
  | none=>simp [ih]
  | some d =>
   simp only
   by_cases hS:S s=true
   ·rw [if_pos hS,List.mem_cons,ih]
    constructor
    ·rintro (rfl | h)
     ·exact .inl ⟨rfl,hS,rfl⟩
     ·exact .inr h
    ·rintro (⟨h1,_,h2⟩ | h)
     ·left
      obtain ⟨p1,p2⟩:=p
      simp only [Option.some.injEq] at h1 h2
      subst h1 h2;rfl
     ·exact .inr h
   ·rw [if_neg hS,ih]
    constructor
    ·exact .inr
    ·rintro (⟨_,h,_⟩ | h)
     ·exact absurd h hS
     ·exact h
theorem K1 {rs:List AV} {S:Nat->Bool} {ops:List Oper} (hn:(Js ops).Nodup) (fr0:List (Nat×AV)) {j d:Nat} (hd:Da ops j=some d):Cq (Gq rs S 0 ops++fr0) d=if S j=true then rs.getD j .any else Cq fr0 d:=by
 by_cases hS:S j=true
 ·rw [if_pos hS]
  refine Q3 d _ _ (fun p hp e=>?_) ⟨(d,rs.getD j .any),L3.2 ⟨j,hd,by simpa using hS,by simp⟩,rfl⟩
  obtain ⟨k,k1,_,k3⟩:=L3.1 hp
  rw [e] at k1
  obtain rfl:=Rl hn hd k1
  simpa using k3
 ·rw [if_neg hS]
  refine Lj d _ _ fun p hp e=>?_
  obtain ⟨k,k1,k2,_⟩:=L3.1 hp
  rw [e] at k1
  obtain rfl:=Rl hn hd k1
  exact hS (by simpa using k2)
theorem Km {rs:List AV} {S:Nat->Bool} {ops:List Oper} (fr0:List (Nat×AV)) {d:Nat} (hd:∀ j,Da ops j≠some d):Cq (Gq rs S 0 ops++fr0) d=Cq fr0 d:=by
 refine Lj d _ _ fun p hp e=>?_
 obtain ⟨k,k1,_,_⟩:=L3.1 hp
 rw [e] at k1
 exact hd k k1
theorem Av9:∀ {ops:List Oper} {rs:List AV} {fr0:List (Nat×AV)} (s:Nat) (l:List AV),rs=l.drop s->rs.length=ops.length->Yt ops rs fr0=Gq l (fun _=>true) s ops++fr0
 | [],rs,fr0,s,l,_,_=>rfl
 | o :: r,[],fr0,s,l,_,h=>by simp at h
 | o :: r,x :: rs,fr0,s,l,hl,h=>by
  have hx:l.getD s .any=x:=by
   have:=congrArg (fun q=>q[0]?) hl
   simp only [List.getElem?_drop,List.getElem?_cons_zero,Nat.add_zero] at this
   rw [List.getD_eq_getElem?_getD,<-this];rfl
  have ht:rs=l.drop (s+1):=by
   have:=congrArg List.tail hl
   simpa [List.tail_drop] using this
  have ih:=Av9 (ops:=r) (fr0:=fr0) (s+1) l ht (by simpa using h)
  simp only [Yt,Gq]
  cases o.dst with
  | none=>exact ih
  | some d=>simp only [if_true,hx,ih];rfl
theorem C84 {p q r:Prop} (h:p\/q) (f:q->r):p\/r:=h.elim Or.inl fun h=>.inr (f h)
structure Cf5 (m:Nat) (ops:List Oper) (hs:List G8) (A:List Nat) (i:Nat) (o:Oper) (h:G8):Prop where
 lt:∀ d∈G5 o,d < i
 sl:∀ p∈h.sl,(A.getD i 0).testBit p.2=true/\Da ops p.2=some p.1
 pre:∀ j d,j < ops.length->Da ops j=some d->d∈h.pre->j=i\/(A.getD j 0).testBit i=true
 from_:∀ t∈h.cs++h.rd,t < (Dr m hs).getD i 0/\(t < m\/∃ j,j < i/\t∈outs (Dr m hs) hs j/\(A.getD i 0).testBit j=true)
 use:∀ j g,hs[j]? = some g->j < ops.length->j≠i->∀ t∈h.cs,t∈g.cs++g.rd->(A.getD i 0).testBit j=true
 nodup:(h.cs++h.rd).Nodup
 guard:∀ j b,o.guard=some (j,b)->(A.getD i 0).testBit j=true/\(Da ops j).isSome=true
theorem D77 {m:Nat} {ops:List Oper} {hs:List G8} {A:List Nat} {i:Nat} {o:Oper} {h:G8} (hk:Bb2 m ops hs A (Dr m hs) i o h=true):Cf5 m ops hs A i o h:=by
 simp only [Bb2,Bool.and_eq_true,List.all_eq_true,decide_eq_true_eq,List.mem_range,Bool.or_eq_true,List.any_eq_true,beq_iff_eq,List.contains_eq_mem,Bool.not_eq_true',decide_eq_false_iff_not] at hk
 obtain ⟨⟨⟨⟨⟨⟨h1,h2⟩,h3⟩,h4⟩,h5⟩,h6⟩,h7⟩:=hk
 refine ⟨h1,fun p hp=>h2 p hp,fun j d hj hd hp=>?_,fun t ht=>?_,fun j g hg hj hne t ht htg=>?_,Tz h6,fun j b hg=>by rw [hg] at h7;simp only [Bool.and_eq_true] at h7;exact h7⟩
 ·have:=h3 j hj
  unfold Da at hd
  rw [hd] at this
  simp only [Bool.or_eq_true,Bool.not_eq_true',decide_eq_false_iff_not,beq_iff_eq] at this
  rcases this with (h | h) | h
  ·exact absurd hp h
  ·exact .inl h
  ·exact .inr h
 ·obtain ⟨a1,a2⟩:=h4 t ht
  refine ⟨a1,C84 a2 fun ⟨j,b1,b2,b3⟩=>⟨j,b1,b2,b3⟩⟩
 ·rcases h5 j hj with h | h
  ·exact absurd h hne
  ·rcases h t ht with h | h
   ·rw [hg] at h
    exact absurd htg h
   ·exact h
section
variable {ops : List Oper} {S : Nat -> Bool}
theorem B14 (hlt:∀ (i:Nat) o,ops[i]? = some o->∀ d∈G5 o,d < i) (hcl:∀ (i:Nat) o,ops[i]? = some o->S i=true->∀ d∈G5 o,S d=true):∀ (i:Nat),i < ops.length->(∀ o,ops[i]? = some o->∀ d∈G5 o,S d=true)->∀ j,((bef [] (ops.map G5)).getD i 0).testBit j=true->S j=true/\j < i:=by
 intro i
 induction i using Nat.strongRecOn with
 | _ i ih =>
  intro hi hd j hj
  have ho:ops[i]? = some ops[i]:=List.getElem?_eq_getElem hi
  have hr:(ops.map G5).getD i []=G5 ops[i]:=by rw [List.getD_eq_getElem?_getD,List.getElem?_map,ho];rfl
  obtain ⟨d,h1,h2⟩:=C49 (ops.map G5) [] i j (by simpa using hj) (by simpa using hi) (fun d hdm=>by
   rw [hr] at hdm
   simpa using hlt i _ ho d hdm)
  rw [hr] at h1
  have hdi:=hlt i _ ho d h1
  have hSd:=hd _ ho d h1
  rcases h2 with rfl | h2
  ·exact ⟨hSd,hdi⟩
  ·obtain ⟨h3,h4⟩:=ih d hdi (by omega) (fun o ho' d' hd'=>hcl d o ho' hSd d' hd') j h2
   exact ⟨h3,by omega⟩
end
section
variable {P : Program} {G : World -> Prop} {V w0 : World} {n : Nd} {ro : Option Nat} {σ : Ag} {K : Exit -> Ag -> Prop}
def C25 (m:Nat) (hs:List G8):List Nat:=(List.range (Nu m hs)).filter fun t=>!hs.any fun h=>h.cs.contains t
def A82 (m:Nat) (hs:List G8) (S:Nat->Bool) (t:Nat):Prop:=(t < m\/∃ i,S i=true/\t∈outs (Dr m hs) hs i)/\∀ j g,hs[j]? = some g->t∈g.cs->S j=false
open Classical in
noncomputable def Bo5 (m:Nat) (hs:List G8) (toks:List BA) (S:Nat->Bool):List BA:=Df ((List.range (Nu m hs)).filter fun t=>decide (A82 m hs S t)) toks
theorem He (a b:List Nat) (toks:List BA):Df (a++b) toks=Df a toks++Df b toks:=by simp [Uy]
theorem Rz {a b:List Nat} (h:a.Perm b) (toks:List BA):(Df a toks).Perm (Df b toks):=by
 rw [Uy,Uy]
 exact h.map _
theorem AW.draw {id m:Nat} {ops:List Oper} (hs:List G8) (hp:P.follows .mixedOrders=true) (hm:σ.bk.length=m) (hok:Bc8 n m ops hs=true)
  {Fr:List BA->List AV->Prop} (hFr:∀ toks rs,Fr toks rs->A45 toks σ.fr ops rs hs (Dr m hs))
  (h:B7 P G (Js ops) σ.fr ops hs σ.bk [] fun toks rs=>Fr toks rs/\K .normal ⟨Yt ops rs σ.fr,Df (C25 m hs) toks⟩):AW P G ro V w0 n (.region id ops.toArray true) σ K:=fun hG m0 E0 a0 w1 hn0 hs0=>by
 classical
 simp only [Bc8,Bool.and_eq_true,beq_iff_eq,List.all_eq_true,List.mem_range] at hok
 obtain ⟨⟨⟨⟨hlen,hnd⟩,hdst⟩,hlex⟩,hall⟩:=hok
 have hnd:=Tz hnd
 obtain ⟨toks,rs,⟨hfr,hK⟩,⟨e1,he1⟩,_,hrl,htl,hop⟩:=Zf ops hs σ.bk [] _ h hlen
 replace hfr:=hFr toks rs hfr
 simp only [List.length_nil,Nat.zero_add] at hrl hop
 rw [hm] at htl hop
 have hint:∀ i o,ops[i]? = some o->∃ g,hs[i]? = some g/\Cf5 m ops hs (bef [] (ops.map G5)) i o g:=fun i o ho=>by
  have hi:=(List.getElem?_eq_some_iff.1 ho).1
  have:=hall i hi
  rw [ho] at this
  cases hg:hs[i]? with
  | none=>rw [List.getElem?_eq_none_iff] at hg;omega
  | some g =>
   rw [hg] at this
   exact ⟨g,rfl,D77 this⟩
 have hlt:∀ (i:Nat) o,ops[i]? = some o->∀ d∈G5 o,d < i:=fun i o ho=>by
  obtain ⟨g,_,hg⟩:=hint i o ho
  exact hg.lt
 refine Yo hp hlex (fun S a w=>∃ E,St V w0 m0 E ⟨Gq rs S 0 ops++σ.fr,Bo5 m hs toks S⟩ a w) ?_ ?_ ?_
 ·-- ahead of all
  refine ⟨E0,?_⟩
  have hnil:Gq rs (fun _=>false) 0 ops=[]:=by
   cases hd:Gq rs (fun _=>false) 0 ops with
   | nil=>rfl
   | cons p l =>
    have:p∈Gq rs (fun _=>false) 0 ops:=by rw [hd];simp
    obtain ⟨_,_,h,_⟩:=L3.1 this
    cases h
  rw [hnil]
  have hbk:σ.bk=Df (List.range' 0 m) toks:=by
   rw [Tv m 0 (by rw [htl];have:=Uo hs m;omega),he1,List.drop_zero,<-hm,List.take_left]
  refine St.perm (bk:=σ.bk) (fr:=σ.fr) hs0.drew ?_
  rw [hbk]
  refine Rz ((List.perm_ext_iff_of_nodup (List.nodup_range' (step:=1)) ((List.nodup_range).filter _)).2 fun t=>?_) toks
  rw [List.mem_range'_1,List.mem_filter,List.mem_range,decide_eq_true_eq]
  have:=Uo hs m
  constructor
  ·rintro ⟨_,h⟩
   exact ⟨by omega,.inl (by omega),fun _ _ _ _=>rfl⟩
  ·rintro ⟨_,h | ⟨i,h,_⟩,_⟩
   ·omega
   ·cases h
 ·-- a step
  rintro i o S a w ho hSi haf hcl ⟨E,hst⟩
  have ho':ops[i]? = some o:=by simpa using ho
  have hi:=(List.getElem?_eq_some_iff.1 ho').1
  obtain ⟨g,hg,hp⟩:=hint i o ho'
  have hdep:∀ {o:Oper} {T:Nat->Bool},(∀ e∈o.after,Region.binds .any e=true->T e.on=true)->∀ d∈G5 o,T d=true:=fun {o T} h d hd=>by
   unfold G5 at hd
   obtain ⟨e,he,hb⟩:=List.mem_filterMap.1 hd
   split at hb
   ·rename_i hbi
    obtain rfl:=Option.some.inj hb
    exact h e (by simpa using he) hbi
   ·cases hb
  have hcl':∀ (k:Nat) o',ops[k]? = some o'->S k=true->∀ d∈G5 o',S d=true:=fun k o' hk hSk=>hdep (hcl k o' (by simpa using hk) hSk)
  have anc:∀ j,((bef [] (ops.map G5)).getD i 0).testBit j=true->S j=true/\j < i:=B14 hlt hcl' i hi fun o2 ho2=>by
   rw [ho'] at ho2
   obtain rfl:=Option.some.inj ho2
   exact hdep haf
  have anc2:∀ j,S j=true->j < ops.length->∀ k,((bef [] (ops.map G5)).getD j 0).testBit k=true->S k=true:=fun j hSj hj k hk =>
   (B14 hlt hcl' j hj (fun o2 ho2=>hcl' j o2 ho2 hSj) k hk).1
  obtain ⟨b,hb1,hb2,hb3⟩:=Pc hs m i g hg
  obtain ⟨x,hx,hcase⟩:=hop i o g b ho' hg hb1
  have hbD:(Dr m hs).getD i 0=b:=by rw [List.getD_eq_getElem?_getD,hb1];rfl
  -- what the hint names lies there
  have there:∀ t∈g.cs++g.rd,A82 m hs S t:=fun t ht=>by
   obtain ⟨_,h2⟩:=hp.from_ t ht
   refine ⟨C84 h2 fun ⟨j,_,j2,j3⟩=>⟨j,(anc j j3).1,j2⟩,fun j gj hj htj=>?_⟩
   cases hSj:S j with
   | false=>rfl
   | true =>
    exfalso
    by_cases hji:j=i
    ·subst hji;rw [hSi] at hSj;cases hSj
    ·have hjl:j < ops.length:=by rw [<-hlen];exact (List.getElem?_eq_some_iff.1 hj).1
     obtain ⟨gj',h1',hpj⟩:=hint j _ (List.getElem?_eq_getElem hjl)
     rw [hj] at h1'
     obtain rfl:=Option.some.inj h1'
     have:=hpj.use i g hg hi (Ne.symm hji) t htj ht
     rw [anc2 j hSj hjl i this] at hSi
     cases hSi
  have hM:∀ t∈g.cs++g.rd,t < b:=fun t ht=>by have:=(hp.from_ t ht).1;rw [hbD] at this;exact this
  have oi:∀ t,t∈outs (Dr m hs) hs i↔b<=t/\t < b+g.out:=fun t=>R9 hg hb1
  -- the others
  let rest:=(List.range (Nu m hs)).filter fun t=>decide (A82 m hs S t/\t∉g.cs++g.rd)
  have hrest:∀ t,t∈rest↔t < Nu m hs/\A82 m hs S t/\t∉g.cs++g.rd:=fun t=>by simp only [rest,List.mem_filter,List.mem_range,decide_eq_true_eq]
  have hrn:rest.Nodup:=(List.nodup_range).filter _
  have p1:((List.range (Nu m hs)).filter fun t=>decide (A82 m hs S t)).Perm ((g.cs++g.rd)++rest):=by
   refine (List.perm_ext_iff_of_nodup ((List.nodup_range).filter _) (List.nodup_append.2 ⟨hp.nodup,hrn,fun t h1 t' h2 e=>?_⟩)).2 fun t=>?_
   ·subst e;exact ((hrest t).1 h2).2.2 h1
   ·rw [List.mem_filter,List.mem_range,decide_eq_true_eq,List.mem_append,hrest]
    constructor
    ·rintro ⟨h1,h2⟩
     by_cases h3:t∈g.cs++g.rd
     ·exact .inl h3
     ·exact .inr ⟨h1,h2,h3⟩
    ·rintro (h1 | ⟨h1,h2,_⟩)
     ·exact ⟨by have:=hM t h1;omega,there t h1⟩
     ·exact ⟨h1,h2⟩
  have p2:((List.range' b g.out++g.rd)++rest).Perm ((List.range (Nu m hs)).filter fun t=>decide (A82 m hs (fun j=>S j || decide (j=i)) t)):=by
   have hrd:g.rd.Nodup:=(List.nodup_append.1 hp.nodup).2.1
   have hcr:∀ t∈g.rd,t∉g.cs:=fun t h1 h2=>(List.nodup_append.1 hp.nodup).2.2 t h2 t h1 rfl
   -- what i lays is new
   have new:∀ t,t∈outs (Dr m hs) hs i->¬ A82 m hs S t:=fun t ht hl=>by
    rcases hl.1 with h | ⟨j,h1,h2⟩
    ·have:=Z0 ht;omega
    ·have:=P2 ht h2
     subst this
     rw [hSi] at h1;cases h1
   refine (List.perm_ext_iff_of_nodup (List.nodup_append.2 ⟨List.nodup_append.2 ⟨List.nodup_range' (step:=1),hrd,fun t h1 t' h2 e=>?_⟩,hrn,fun t h1 t' h2 e=>?_⟩) ((List.nodup_range).filter _)).2 fun t=>?_
   ·subst e
    rw [List.mem_range'_1] at h1
    have:=hM t (List.mem_append_right _ h2)
    omega
   ·subst e
    obtain ⟨_,q2,q3⟩:=(hrest t).1 h2
    rcases List.mem_append.1 h1 with h1 | h1
    ·rw [List.mem_range'_1] at h1
     exact new t ((oi t).2 h1) q2
    ·exact q3 (List.mem_append_right _ h1)
   ·rw [List.mem_filter,List.mem_range,decide_eq_true_eq,List.mem_append,List.mem_append,List.mem_range'_1,hrest]
    have keep:A82 m hs S t->t∉g.cs->A82 m hs (fun j=>S j || decide (j=i)) t:=fun hl hc =>
     ⟨C84 hl.1 fun ⟨j,j1,j2⟩=>⟨j,by simp [j1],j2⟩,fun j gj hj htj=>by
      have:=hl.2 j gj hj htj
      simp only [this,Bool.false_or,decide_eq_false_iff_not]
      rintro rfl
      rw [hg] at hj
      obtain rfl:=Option.some.inj hj
      exact hc htj⟩
    constructor
    ·rintro ((h1 | h1) | ⟨h1,h2,h3⟩)
     ·have ht:=(oi t).2 h1
      refine ⟨by omega,.inr ⟨i,by simp,ht⟩,fun j gj hj htj=>?_⟩
      have hjl:j < ops.length:=by rw [<-hlen];exact (List.getElem?_eq_some_iff.1 hj).1
      obtain ⟨gj',h1',hpj⟩:=hint j _ (List.getElem?_eq_getElem hjl)
      rw [hj] at h1'
      obtain rfl:=Option.some.inj h1'
      obtain ⟨_,q⟩:=hpj.from_ t (List.mem_append_left _ htj)
      have hge:=Z0 ht
      rcases q with q | ⟨k,k1,k2,k3⟩
      ·omega
      ·have:=P2 ht k2
       subst this
       have hji:j≠i:=by omega
       cases hSj:S j with
       | false=>simp [hSj,hji]
       | true=>rw [anc2 j hSj hjl i k3] at hSi;cases hSi
     ·exact ⟨by have:=hM t (List.mem_append_right _ h1);omega,keep (there t (List.mem_append_right _ h1)) (hcr t h1)⟩
     ·exact ⟨h1,keep h2 fun h=>h3 (List.mem_append_left _ h)⟩
    ·rintro ⟨h1,h2,h3⟩
     by_cases ht:t∈outs (Dr m hs) hs i
     ·exact .inl (.inl ((oi t).1 ht))
     ·have hl:A82 m hs S t:=⟨C84 h2 fun ⟨j,j1,j2⟩=>⟨j,by
       simp only [Bool.or_eq_true,decide_eq_true_eq] at j1
       rcases j1 with j1 | rfl
       ·exact j1
       ·exact absurd j2 ht,j2⟩,fun j gj hj htj=>by
       have:=h3 j gj hj htj
       simp only [Bool.or_eq_false_iff] at this
       exact this.1⟩
      by_cases hr:t∈g.rd
      ·exact .inl (.inr hr)
      ·refine .inr ⟨h1,hl,fun hc=>?_⟩
       rcases List.mem_append.1 hc with hc | hc
       ·have:=h3 i g hg hc
        simp at this
       ·exact hr hc
  have hst1:=hst.perm (show (Bo5 m hs toks S).Perm (Df (g.cs++g.rd) toks++Df rest toks) by
   rw [<-He]
   exact Rz p1 toks)
  -- the operation sees what it saw in the text's order
  have hcs:Df g.cs (toks.take b)=Df g.cs toks:=Wr fun t ht=>hM t (List.mem_append_left _ ht)
  have hrd:Df g.rd (toks.take b)=Df g.rd toks:=Wr fun t ht=>hM t (List.mem_append_right _ ht)
  have hsl:Lm g.sl (rs.take i)=Lm g.sl rs:=Aa5 fun p hpp=>(anc p.2 (hp.sl p hpp).1).2
  have hout:(toks.drop b).take g.out=Df (List.range' b g.out) toks:=(Tv g.out b (by omega)).symm
  rw [hcs,hrd,hsl,hout] at hcase
  have hlook:∀ s,Cq (Lm g.sl rs++Hg g.pre (Js ops)++σ.fr) s=.any\/Cq (Lm g.sl rs++Hg g.pre (Js ops)++σ.fr) s=Cq (Gq rs S 0 ops++σ.fr) s:=fun s=>by
   have memSel:∀ {sl:List (Nat×Nat)} {p:Nat×AV},p∈Lm sl rs->∃ q∈sl,p.1=q.1/\p.2=rs.getD q.2 .any:=by
    intro sl
    induction sl with
    | nil=>intro p h;cases h
    | cons q sl ih =>
     intro p h
     obtain ⟨d,j⟩:=q
     simp only [Lm] at h
     rcases List.mem_cons.1 h with rfl | h
     ·exact ⟨(d,j),by simp,rfl,rfl⟩
     ·obtain ⟨q,h1,h2⟩:=ih h
      exact ⟨q,List.mem_cons_of_mem _ h1,h2⟩
   have memMask:∀ {ds:List Nat} {p:Nat×AV},p∈Hg g.pre ds↔p.2=.any/\p.1∈ds/\p.1∉g.pre:=by
    intro ds
    induction ds with
    | nil=>intro p;simp [Hg]
    | cons d ds ih =>
     intro p
     simp only [Hg]
     by_cases hc:g.pre.contains d=true
     ·rw [if_pos hc,ih]
      simp only [List.contains_eq_mem,decide_eq_true_eq] at hc
      constructor
      ·rintro ⟨q1,q2,q3⟩;exact ⟨q1,List.mem_cons_of_mem _ q2,q3⟩
      ·rintro ⟨q1,q2,q3⟩
       rcases List.mem_cons.1 q2 with e | q2
       ·exact absurd (e ▸ hc) q3
       ·exact ⟨q1,q2,q3⟩
     ·rw [if_neg hc,List.mem_cons,ih]
      simp only [List.contains_eq_mem,decide_eq_true_eq] at hc
      obtain ⟨p1,p2⟩:=p
      constructor
      ·rintro (e | ⟨q1,q2,q3⟩)
       ·injection e with e1 e2
        subst e1 e2
        exact ⟨rfl,by simp,hc⟩
       ·exact ⟨q1,List.mem_cons_of_mem _ q2,q3⟩
      ·rintro ⟨q1,q2,q3⟩
       simp only at q1
       subst q1
       rcases List.mem_cons.1 q2 with e | q2
       ·exact .inl (congrArg (fun z=>(z,AV.any)) e)
       ·exact .inr ⟨rfl,q2,q3⟩
   by_cases hsel:∃ q∈g.sl,q.1=s
   ·obtain ⟨q,hq1,hq2⟩:=hsel
    obtain ⟨a1,a2⟩:=hp.sl q hq1
    rw [hq2] at a2
    right
    rw [K1 hnd _ a2,if_pos (anc _ a1).1,List.append_assoc]
    refine Q3 s _ _ (fun p hpp e=>?_) ?_
    ·obtain ⟨q',b1,b2,b3⟩:=memSel hpp
     obtain ⟨_,c2⟩:=hp.sl q' b1
     rw [<-b2,e] at c2
     rw [b3,Rl hnd c2 a2]
    ·have:∀ {sl:List (Nat×Nat)},q∈sl->∃ p∈Lm sl rs,p.1=s:=by
      intro sl
      induction sl with
      | nil=>intro h;cases h
      | cons q' sl ih =>
       intro h
       obtain ⟨d,j⟩:=q'
       simp only [Lm]
       rcases List.mem_cons.1 h with rfl | h
       ·exact ⟨(d,rs.getD j .any),List.mem_cons_self ..,hq2⟩
       ·obtain ⟨p,p1,p2⟩:=ih h
        exact ⟨p,List.mem_cons_of_mem _ p1,p2⟩
     exact this hq1
   ·rw [List.append_assoc,Lj s _ _ fun p hpp e=>by
     obtain ⟨q,b1,b2,_⟩:=memSel hpp
     exact hsel ⟨q,b1,by rw [<-b2];exact e⟩]
    by_cases hmask:s∈Js ops/\s∉g.pre
    ·left
     exact Q3 s _ _ (fun p hpp _=>(memMask.1 hpp).1) ⟨(s,.any),memMask.2 ⟨rfl,hmask.1,hmask.2⟩,rfl⟩
    ·right
     rw [Lj s _ _ fun p hpp e=>by
      obtain ⟨_,b2,b3⟩:=memMask.1 hpp
      exact hmask ⟨e ▸ b2,e ▸ b3⟩]
     by_cases hd:∃ j,Da ops j=some s
     ·obtain ⟨j,hj⟩:=hd
      have hpre:s∈g.pre:=by
       by_cases h:s∈g.pre
       ·exact h
       ·exact absurd ⟨Cb7 hj,h⟩ hmask
      have hjl:j < ops.length:=by
       rcases Nat.lt_or_ge j ops.length with h | h
       ·exact h
       ·unfold Da at hj;rw [List.getElem?_eq_none h] at hj;cases hj
      have hSj:S j=false:=by
       rcases hp.pre j s hjl hj hpre with rfl | h
       ·exact hSi
       ·cases hSj:S j with
        | false=>rfl
        | true=>rw [anc2 j hSj hjl i h] at hSi;cases hSi
      rw [K1 hnd _ hj,hSj]
      simp
     ·rw [Km _ fun j hj=>hd ⟨j,hj⟩]
  have hL:∀ y,Bd E (vis V w0 w (Ac E (Df (g.cs++g.rd) toks++Df rest toks))) (a.eval y) (ev (Lm g.sl rs++Hg g.pre (Js ops)++σ.fr) y):=(hst1.frame hlook).ev
  -- the names that it gives are free
  have hfo:Jz o=true->Lg (cid o.dst) (cid o.dst+100) (Gq rs S 0 ops++σ.fr)=true/\Lg (cid o.dst) (cid o.dst+100) (Lm g.sl rs++Hg g.pre (Js ops)++σ.fr)=true/\Jq (cid o.dst) (cid o.dst+100) (Df (g.cs++g.rd) toks++Df rest toks)=true:=fun hmk=>by
   obtain ⟨f1,f2,f3⟩:=hfr i o ho' hmk
   have offFapp:∀ {u v:List (Nat×AV)},(∀ p∈u,p.2.off (cid o.dst) (cid o.dst+100)=true)->Lg (cid o.dst) (cid o.dst+100) v=true->Lg (cid o.dst) (cid o.dst+100) (u++v)=true:=by
    intro u
    induction u with
    | nil=>exact fun _ h=>h
    | cons p u ih =>
     intro v h1 h2
     obtain ⟨d,c⟩:=p
     simp only [List.cons_append,Lg,Bool.and_eq_true]
     exact ⟨h1 (d,c) (by simp),ih (fun p hp=>h1 p (List.mem_cons_of_mem _ hp)) h2⟩
   have behind:∀ j,S j=true->j < ops.length->((bef [] (ops.map G5)).getD j 0).testBit i=false:=fun j hSj hjl=>by
    cases hb:((bef [] (ops.map G5)).getD j 0).testBit i with
    | false=>rfl
    | true=>rw [anc2 j hSj hjl i hb] at hSi;cases hSi
   have rsoff:∀ j,j≠i->S j=true->j < ops.length->(rs.getD j .any).off (cid o.dst) (cid o.dst+100)=true:=fun j hj hSj hjl=>by
    rw [List.getD_eq_getElem?_getD]
    cases hr:rs[j]? with
    | none=>rfl
    | some y=>exact f2 j y hj (behind j hSj hjl) hr
   refine ⟨offFapp (fun p hpp=>?_) f1,?_,?_⟩
   ·obtain ⟨j,j1,j2,j3⟩:=L3.1 hpp
    rw [j3]
    have hjl:0+j < ops.length:=by
     rw [Nat.zero_add]
     rcases Nat.lt_or_ge j ops.length with h | h
     ·exact h
     ·unfold Da at j1;rw [List.getElem?_eq_none h] at j1;cases j1
    refine rsoff _ (fun e=>?_) j2 hjl
    rw [e,hSi] at j2;cases j2
   ·rw [List.append_assoc]
    refine offFapp (fun p hpp=>?_) (offFapp (fun p hpp=>?_) f1)
    ·have:∀ {sl:List (Nat×Nat)},(∀ q∈sl,q.2≠i/\S q.2=true/\q.2 < ops.length)->∀ p∈Lm sl rs,p.2.off (cid o.dst) (cid o.dst+100)=true:=by
      intro sl
      induction sl with
      | nil=>intro _ p h;cases h
      | cons q sl ih =>
       intro hq p h
       obtain ⟨d,j⟩:=q
       simp only [Lm] at h
       rcases List.mem_cons.1 h with rfl | h
       ·obtain ⟨u1,u2,u3⟩:=hq (d,j) (by simp)
        exact rsoff j u1 u2 u3
       ·exact ih (fun q h=>hq q (List.mem_cons_of_mem _ h)) p h
     exact this (fun q hq=>by have:=anc q.2 (hp.sl q hq).1;exact ⟨by omega,this.1,by omega⟩) p hpp
    ·have:∀ {ds:List Nat},∀ p∈Hg g.pre ds,p.2=.any:=by
      intro ds
      induction ds with
      | nil=>intro p h;cases h
      | cons d ds ih =>
       intro p h
       simp only [Hg] at h
       split at h
       ·exact ih p h
       ·rcases List.mem_cons.1 h with rfl | h
        ·rfl
        ·exact ih p h
     rw [this p hpp];rfl
   ·have offBall:∀ {l:List BA},(∀ b∈l,b.off (cid o.dst) (cid o.dst+100)=true)->Jq (cid o.dst) (cid o.dst+100) l=true:=by
     intro l
     induction l with
     | nil=>exact fun _=>rfl
     | cons b l ih=>intro h;simp only [Jq,Bool.and_eq_true];exact ⟨h b (by simp),ih fun c hc=>h c (List.mem_cons_of_mem _ hc)⟩
    refine offBall fun b hbm=>?_
    rw [<-He,Uy] at hbm
    obtain ⟨t,ht,rfl⟩:=List.mem_map.1 hbm
    have hno:t∉outs (Dr m hs) hs i:=fun hc=>by
     rcases List.mem_append.1 ht with ht | ht
     ·have:=hM t ht
      have:=(oi t).1 hc
      omega
     ·have hl:=((hrest t).1 ht).2.1
      rcases hl.1 with q | ⟨j,q1,q2⟩
      ·have:=Z0 hc;omega
      ·have:=P2 hc q2
       subst this
       rw [hSi] at q1;cases q1
    have htt:t < toks.length:=by
     rw [htl]
     rcases List.mem_append.1 ht with ht | ht
     ·have:=hM t ht;omega
     ·exact ((hrest t).1 ht).1
    have hby:∀ j,t∈outs (Dr m hs) hs j->((bef [] (ops.map G5)).getD j 0).testBit i=false:=fun j hj=>by
     have hjl:j < ops.length:=by
      rcases Nat.lt_or_ge j hs.length with h | h
      ·omega
      ·exact absurd hj (S5 (List.getElem?_eq_none h))
     refine behind j ?_ hjl
     have hge:=Z0 hj
     rcases List.mem_append.1 ht with ht | ht
     ·rcases (hp.from_ t ht).2 with q | ⟨j',_,q2,q3⟩
      ·omega
      ·rw [P2 hj q2];exact (anc j' q3).1
     ·rcases ((hrest t).1 ht).2.1.1 with q | ⟨j',q1,q2⟩
      ·omega
      ·rw [P2 hj q2];exact q1
    exact f3 t _ hno hby (by rw [List.getD_eq_getElem?_getD,List.getElem?_eq_getElem htt];rfl)
  -- the state behind the operation
  have fin_:∀ (E':Env) (v:Value) (x':AV) (a:Act) (w':World),St V w0 m0 E' ⟨Gq rs S 0 ops++σ.fr,Df (List.range' b g.out) toks++Df g.rd toks++Df rest toks⟩ a w'->Bd E' (vis V w0 w' (Ac E' (Df (List.range' b g.out) toks++Df g.rd toks++Df rest toks))) v x'->x'=x ->
    ∃ E,St V w0 m0 E ⟨Gq rs (fun j=>S j || decide (j=i)) 0 ops++σ.fr,Bo5 m hs toks fun j=>S j || decide (j=i)⟩ (a.put o.dst v) w':=by
   rintro E' v x' a w' h1 h2 rfl
   have hput:=h1.put (dst:=o.dst) (fun d hd=>by
    have:∀ {l:List Oper},Dd n l=true->o∈l->d < n.n/\d∉n.fx:=by
     intro l
     induction l with
     | nil=>intro _ h;cases h
     | cons q l ih =>
      intro h hm
      simp only [Dd,Bool.and_eq_true] at h
      rcases List.mem_cons.1 hm with rfl | hm
      ·have:=h.1
       rw [hd] at this
       simp only [Bool.and_eq_true,Bool.not_eq_true'] at this
       exact ⟨Dh.1 this.1,Kj this.2⟩
      ·exact ih h.2 hm
    rw [hn0];exact this hdst (List.mem_of_getElem? ho')) h2
   refine ⟨E',(hput.perm (bk':=Bo5 m hs toks fun j=>S j || decide (j=i)) ?_).frame fun s=>.inr ?_⟩
   ·show (Df (List.range' b g.out) toks++Df g.rd toks++Df rest toks).Perm _
    rw [<-He,<-He]
    exact Rz p2 toks
   ·-- the slots
    by_cases hd:∃ j,Da ops j=some s
    ·obtain ⟨j,hj⟩:=hd
     rw [K1 hnd _ hj]
     have hdi:Da ops i=o.dst:=by unfold Da;rw [ho'];rfl
     by_cases hji:j=i
     ·subst hji
      rw [hdi] at hj
      simp only [decide_true,Bool.or_true,if_true,hj,Fv,Cq]
      rw [List.getD_eq_getElem?_getD,hx];rfl
     ·have hne:o.dst≠some s:=fun e=>hji (Rl hnd hj (hdi.trans e))
      have e2:Cq (Fv o.dst x' (Gq rs S 0 ops++σ.fr)) s=Cq (Gq rs S 0 ops++σ.fr) s:=by
       cases hdd:o.dst with
       | none=>rfl
       | some d =>
        simp only [Fv,Cq]
        rw [if_neg fun e=>hne (by rw [hdd,e])]
      rw [e2,K1 hnd _ hj]
      simp [hji]
    ·rw [Km _ fun j hj=>hd ⟨j,hj⟩]
     have hdi:Da ops i=o.dst:=by unfold Da;rw [ho'];rfl
     have e2:Cq (Fv o.dst x' (Gq rs S 0 ops++σ.fr)) s=Cq (Gq rs S 0 ops++σ.fr) s:=by
      cases hdd:o.dst with
      | none=>rfl
      | some d =>
       simp only [Fv,Cq]
       rw [if_neg fun e=>hd ⟨i,by rw [hdi,hdd,e]⟩]
     rw [e2,Km _ fun j hj=>hd ⟨j,hj⟩]
  -- what the guard says
  have hyield:∀ (j:Nat) (c:Bool),(((bef [] (ops.map G5)).getD i 0).testBit j=true/\(Da ops j).isSome=true)->nrm ((rs.take i).getD j .any)=.val (.bool c)->yielded ops.toArray a.tmps j=some c:=fun j c hb hn=>by
   obtain ⟨hSj,hji⟩:=anc j hb.1
   rw [List.getD_eq_getElem?_getD,List.getElem?_take_of_lt hji,<-List.getD_eq_getElem?_getD] at hn
   cases hd:Da ops j with
   | none=>rw [hd] at hb;cases hb.2
   | some d =>
    have hv:=hst.slots d
    simp only at hv
    rw [K1 hnd _ hd,if_pos hSj] at hv
    have hv:=hv.nrm_
    rw [hn] at hv
    generalize hu:a.tmps.getD d undef=u at hv
    cases hv
    have:a.tmps[d]? = some (.bool c):=by
     rw [Array.getD_eq_getD_getElem?] at hu
     cases hdd:a.tmps[d]? with
     | none=>rw [hdd] at hu;simp [undef] at hu
     | some y=>rw [hdd] at hu;simp at hu;rw [hu]
    unfold Da at hd
    simp [yielded,hd,this]
  have hyieldN:∀ (j:Nat) (tt:Array Value),(((bef [] (ops.map G5)).getD i 0).testBit j=true/\(Da ops j).isSome=true)->nrm ((rs.take i).getD j .any)=.val (.tuple tt)->yielded ops.toArray a.tmps j=none:=fun j c hb hn=>by
   obtain ⟨hSj,hji⟩:=anc j hb.1
   rw [List.getD_eq_getElem?_getD,List.getElem?_take_of_lt hji,<-List.getD_eq_getElem?_getD] at hn
   cases hd:Da ops j with
   | none=>rw [hd] at hb;cases hb.2
   | some d =>
    have hv:=hst.slots d
    simp only at hv
    rw [K1 hnd _ hd,if_pos hSj] at hv
    have hv:=hv.nrm_
    rw [hn] at hv
    generalize hu:a.tmps.getD d undef=u at hv
    cases hv
    unfold Da at hd
    rw [Array.getD_eq_getD_getElem?] at hu
    cases hdd:a.tmps[d]? with
    | none=>simp [yielded,hd,hdd]
    | some y =>
     rw [hdd] at hu
     simp at hu
     simp [yielded,hd,hdd,hu]
  refine wpListIn_step fun K' hK'=>?_
  rcases hcase with ⟨hgd,hu⟩ | ⟨⟨j,c,hg1,hg2⟩,rfl,ho0,hc0⟩
  case inr =>
   have hw:Region.wanted o (yielded ops.toArray a.tmps)=false:=by
    unfold Region.wanted
    rw [hg1]
    simp only
    rcases hg2 with hg2 | ⟨tt,hg2⟩
    ·rw [hyield j (!c) (hp.guard j c hg1) hg2]
     cases c<;>rfl
    ·rw [hyieldN j tt (hp.guard j c hg1) hg2]
     rfl
   rw [if_neg (by rw [hw];simp)]
   refine ⟨fun _ _=>trivial,hK' _ _ ?_⟩
   show ∃ E,St V w0 m0 E ⟨Gq rs (fun j=>S j || decide (j=i)) 0 ops++σ.fr,Bo5 m hs toks fun j=>S j || decide (j=i)⟩ (a.put o.dst undef) w
   have hst2:St V w0 m0 E ⟨Gq rs S 0 ops++σ.fr,Df (List.range' b g.out) toks++Df g.rd toks++Df rest toks⟩ a w:=by
    rw [ho0]
    rw [hc0] at hst1
    simpa [Df] using hst1
   exact fin_ E undef (.val undef) a w hst2 .val rfl
  have hw:Region.wanted o (yielded ops.toArray a.tmps)=true:=by
   unfold Region.wanted
   rcases hgd with hgd | ⟨j,c,hg1,hg2⟩
   ·rw [hgd]
   ·rw [hg1]
    simp only
    rw [hyield j c (hp.guard j c hg1) hg2]
    simp
  rw [if_pos hw]
  have hus:=hu fun hmk y=>Bz2 (hfo hmk).2.1 y
  rw [<-He] at hus
  refine hus V w0 m0 E a w _ (Df rest toks) hst1 hL (fun hmk=>⟨(hfo hmk).1,(hfo hmk).2.2⟩) hG K' _ (fun v w' E' h1 h2=>hK' _ _ ?_) ro
  show ∃ E,St V w0 m0 E ⟨Gq rs (fun j=>S j || decide (j=i)) 0 ops++σ.fr,Bo5 m hs toks fun j=>S j || decide (j=i)⟩ (a.put o.dst v) w'
  exact fin_ E' v x a w' (by rw [<-He] at h1 ⊢;exact h1) (by rw [<-He] at h2 ⊢;exact h2) rfl
 ·-- behind all
  rintro S a w hall' ⟨E,hst⟩
  have hS:∀ i,i < ops.length->S i=true:=fun i hi=>hall' i (by simpa using hi)
  refine ⟨m0,E,_,Fm.le.refl m0,hK,?_⟩
  refine (hst.perm (bk':=Df (C25 m hs) toks) (Rz ((List.perm_ext_iff_of_nodup ((List.nodup_range).filter _) ((List.nodup_range).filter _)).2 fun t=>?_) toks)).frame fun s=>.inr ?_
  ·rw [List.mem_filter,List.mem_filter,List.mem_range,decide_eq_true_eq]
   simp only [Bool.not_eq_true',List.any_eq_false,List.contains_eq_mem,decide_eq_true_eq]
   have hjl:∀ {j:Nat} {g:G8},hs[j]? = some g->S j=true:=fun {j g} hj=>hS j (by rw [<-hlen];exact (List.getElem?_eq_some_iff.1 hj).1)
   constructor
   ·rintro ⟨h1,h2,h3⟩
    refine ⟨h1,fun g hgm ht=>?_⟩
    obtain ⟨j,hj⟩:=List.mem_iff_getElem?.1 hgm
    have:=h3 j g hj ht
    rw [hjl hj] at this;cases this
   ·rintro ⟨h1,h2⟩
    refine ⟨h1,?_,fun j g hj ht=>absurd ht (h2 g (List.mem_of_getElem? hj))⟩
    by_cases hm':t < m
    ·exact .inl hm'
    ·right
     -- some operation laid it
     have key:∀ (hs:List G8) (m t:Nat),m<=t->t < Nu m hs->∃ (i:Nat) (g:G8) (b:Nat),hs[i]? = some g/\(Dr m hs)[i]? = some b/\b<=t/\t < b+g.out:=by
      intro hs
      induction hs with
      | nil=>intro m t h1 h2;simp only [Nu] at h2;omega
      | cons g hs ih =>
       intro m t h1 h2
       by_cases h3:t < m+g.out
       ·exact ⟨0,g,m,rfl,rfl,h1,h3⟩
       ·obtain ⟨i,g',b,a1,a2,a3,a4⟩:=ih (m+g.out) t (by omega) h2
        exact ⟨i+1,g',b,by simpa using a1,by simpa [Dr] using a2,a3,a4⟩
     obtain ⟨i,g,b,a1,a2,a3,a4⟩:=key hs m t (by omega) h1
     exact ⟨i,hjl a1,(R9 a1 a2).2 ⟨a3,a4⟩⟩
  ·show Cq (Yt ops rs σ.fr) s=_
   rw [Av9 0 rs (by simp) hrl]
   by_cases hd:∃ j,Da ops j=some s
   ·obtain ⟨j,hj⟩:=hd
    have hjl:j < ops.length:=by
     rcases Nat.lt_or_ge j ops.length with h | h
     ·exact h
     ·unfold Da at hj;rw [List.getElem?_eq_none h] at hj;cases hj
    rw [K1 hnd _ hj,K1 hnd _ hj,hS j hjl]
   ·rw [Km _ fun j hj=>hd ⟨j,hj⟩,Km _ fun j hj=>hd ⟨j,hj⟩]
end
def Tk:Prop:=True
@[go_sem] theorem E55:Tk=True:=eq_true (show Tk from trivial)
def rep (n:Nat) (v:Value):List Value:=List.replicate n v
theorem Bw6 {n:Nat} {v:Value} (h:okV v):∀ u,u∈rep n v->okV u:=fun u hu=>by rw [List.eq_of_mem_replicate hu];exact h
@[go_sem] theorem E50 {n:Nat} {b:Bool} : (∀ u,u∈rep n (.bool b)->okV u)=True:=eq_true (Bw6 trivial)
@[go_sem] theorem E49 {n:Nat} : (∀ u,u∈rep n (.int .i64 0)->okV u)=True:=eq_true (Bw6 rfl)
def Dv (X:Prop):Prop:=X
@[congr] theorem Dm1 {X b:Prop} (_:Tk=b):Dv X=Dv X:=rfl
theorem Bi {X:Prop} (h:X):Dv X:=h
section
variable {P : Program} {G : World -> Prop} {σ : Ag} {L : Operand -> AV} {bk : List BA} {K : AV -> List BA -> Prop} {dst : Option Tmp} {ty : TypeId} {pos : String} {after : Array Edge} {gd : Option (Nat × Bool)}
@[go_sem] theorem Cw3 {ops:List Oper} {KK:Ag->Prop} : Bo P G ops [] σ KK=KK σ:=rfl
@[go_sem] theorem Cm6 {ops:List Oper} {op:Op} {rest:List Oper} {KK:Ag->Prop} : Bo P G ops (⟨dst,op,ty,pos,after,none⟩ :: rest) σ KK=vop P G σ ⟨dst,op,ty,pos,after,none⟩ fun r bk=>Bo P G ops rest ⟨Fv dst r σ.fr,bk⟩ KK:=rfl
theorem Tl {ops:List Oper} {op:Op} {rest:List Oper} {j:Nat} {b:Bool} {KK:Ag->Prop} : Bo P G ops (⟨dst,op,ty,pos,after,some (j,b)⟩ :: rest) σ KK =
  match J7 ops σ.fr j with
  | .val (.bool x)=>(x=b->vop P G σ ⟨dst,op,ty,pos,after,some (j,b)⟩ fun r bk=>Bo P G ops rest ⟨Fv dst r σ.fr,bk⟩ KK)/\(x=!b->Bo P G ops rest ⟨Fv dst (.val undef) σ.fr,σ.bk⟩ KK)
  | .val (.tuple _)=>Bo P G ops rest ⟨Fv dst (.val undef) σ.fr,σ.bk⟩ KK
  | _=>False:=rfl
@[go_sem] theorem Cs0 {d:Nat} {r:AV} {fr:List (Nat×AV)} : Fv (some d) r fr=(d,r) :: fr:=rfl
@[go_sem] theorem Cs1 {r:AV} {fr:List (Nat×AV)} : Fv none r fr=fr:=rfl
@[go_sem] theorem Cs6 {j i:Nat} {a:AV} {r:List (Nat×AV)} : Cq ((j,a) :: r) i=if i=j then a else Cq r i:=rfl
@[go_sem] theorem D70 {i:Nat} : Cq [] i=.any:=rfl
@[go_sem] theorem Dz6 {fr:List (Nat×AV)} {t:Nat} : ev fr (.tmp t)=Cq fr t:=rfl
@[go_sem] theorem Dz7 {fr:List (Nat×AV)} {k:IntKind} {m:Int} : ev fr (.const (.int k m))=.val (.int k m):=rfl
@[go_sem] theorem Dn4 {fr:List (Nat×AV)} {b:Bool} : ev fr (.const (.bool b))=.val (.bool b):=rfl
@[go_sem] theorem Cu4 {fr:List (Nat×AV)} {s:ByteArray} : ev fr (.const (.string s))=.val (.string s):=rfl
@[go_sem] theorem Da0 {fr:List (Nat×AV)} {A:Option Addr} {m c:Nat} : ev fr (.const (.slice A m c))=.val (.slice A m c):=rfl
@[go_sem] theorem Dz8 {fr:List (Nat×AV)} {cs:Array Value} : ev fr (.const (.agg cs))=.agg (cs.toList.map AV.val):=rfl
@[go_sem] theorem Ck5 {fr:List (Nat×AV)} : ev fr (.const .nilFunc)=.val .nilFunc:=rfl
@[go_sem] theorem Cu5 {fr:List (Nat×AV)} : ev fr (.const (.pointer none))=.val (.pointer none):=rfl
@[go_sem] theorem Dn3 {fr:List (Nat×AV)} {f:Nat} : ev fr (.func f)=.fn f []:=rfl
@[go_sem] theorem Cu6 {fr:List (Nat×AV)} {g:Nat} : ev fr (.global g)=.val (.pointer (some ⟨g,0,none⟩)):=rfl
@[go_sem] theorem Dk9 {v:Value} : nrm (.val v)=.val v:=rfl
@[go_sem] theorem Dx8 {v:Value} : nrm (.iv (.val v))=.val v:=rfl
@[go_sem] theorem Dx6 {cs:List IV} : nrm (.iv (.pt cs))=.ip cs:=rfl
@[go_sem] theorem Dx5 {k:Nat} {l:List (List IV)} : nrm (.iv (.sl k l))=.iv (.sl k l):=rfl
@[go_sem] theorem Dl0 {b:Nat} : nrm (.own b)=.own b:=rfl
@[go_sem] theorem Dl1:nrm .any=.any:=rfl
@[go_sem] theorem Dl2 {cs:List AV} : nrm (.agg cs)=.agg cs:=rfl
@[go_sem] theorem D63 {cs:List IV} : nrm (.aggI cs)=.aggI cs:=rfl
@[go_sem] theorem Dy0 {b o:Nat} : nrm (.bp b o)=.bp b o:=rfl
@[go_sem] theorem Dx9 {cs:List IV} : nrm (.ip cs)=.ip cs:=rfl
@[go_sem] theorem Ct8 {b:Nat} : Ci b []=none:=rfl
@[go_sem] theorem Ct9 {b c:Nat} {cs:List AV} {r:List BA} : Ci b (.box c cs :: r)=if c=b then some (.box c cs) else Ci b r:=rfl
@[go_sem] theorem Cu0 {b c:Nat} {cs:List IV} {r:List BA} : Ci b (.arr c cs :: r)=if c=b then some (.arr c cs) else Ci b r:=rfl
@[go_sem] theorem Cj9 {b c e k i j d:Nat} {l:List (List IV)} {r:List BA} : Ci b (.rowN c e k l i j d :: r)=if c=b then some (.rowN c e k l i j d) else Ci b r:=rfl
@[go_sem] theorem Ci2 {b c e k i j d:Nat} {l:List (List IV)} {r y:List BA} : Cu b y (.rowN c e k l i j d :: r)=if c=b then y++r else .rowN c e k l i j d :: Cu b y r:=rfl
@[go_sem] theorem Ct7 {b c:Nat} {F:Far} {r:List BA} : Ci b (.opq c F :: r)=if c=b then some (.opq c F) else Ci b r:=rfl
@[go_sem] theorem Cr4 {b c:Nat} {F:Far} {r y:List BA} : Cu b y (.opq c F :: r)=if c=b then y++r else .opq c F :: Cu b y r:=rfl
@[go_sem] theorem D97 {b c:Nat} {k:IntKind} {kv:List (Int×Value)} {r:List BA} : Ci b (.mp c k kv :: r)=if c=b then some (.mp c k kv) else Ci b r:=rfl
@[go_sem] theorem D50 {b c:Nat} {k:IntKind} {kv:List (Int×Value)} {r y:List BA} : Cu b y (.mp c k kv :: r)=if c=b then y++r else .mp c k kv :: Cu b y r:=rfl
@[go_sem] theorem Dx7 {b:Nat} : nrm (.mv b)=.mv b:=rfl
@[go_sem] theorem Ct6 {b c e k:Nat} {l:List (List IV)} {r:List BA} : Ci b (.row c e k l :: r)=if c=b then some (.row c e k l) else Ci b r:=rfl
@[go_sem] theorem Cr5 {b c:Nat} {cs:List AV} {r y:List BA} : Cu b y (.box c cs :: r)=if c=b then y++r else .box c cs :: Cu b y r:=rfl
@[go_sem] theorem Cr6 {b c:Nat} {cs:List IV} {r y:List BA} : Cu b y (.arr c cs :: r)=if c=b then y++r else .arr c cs :: Cu b y r:=rfl
@[go_sem] theorem Cr3 {b c e k:Nat} {l:List (List IV)} {r y:List BA} : Cu b y (.row c e k l :: r)=if c=b then y++r else .row c e k l :: Cu b y r:=rfl
@[go_sem] theorem Cq9 {α:Type} {cs:List α} {o:Nat} : F2 cs o []=cs:=rfl
@[go_sem] theorem Ch9 {α:Type} {cs:List α} {o:Nat} {d:α} {ds:List α} : F2 cs o (d :: ds)=F2 (cs.set o d) (o+1) ds:=rfl
@[go_sem] theorem E35 {s:Nat} {c:IV} {cs:List IV} {KK:AV->Prop} : rdI 0 s (c :: cs) KK=KK (nrm (.iv c)):=rfl
@[go_sem] theorem E34 {s:Nat} {cs:List IV} {KK:AV->Prop} : rdI 1 s cs KK=(s<=cs.length/\KK (.agg ((cs.take s).map fun c=>nrm (.iv c)))):=rfl
@[go_sem] theorem E33 {s:Nat} {cs:List IV} {KK:AV->Prop} : rdI 2 s cs KK=(s<=cs.length/\KK (.aggI (cs.take s))):=rfl
@[go_sem] theorem E37 {s:Nat} {c:AV} {cs:List AV} {KK:AV->Prop} : rdA 0 s (c :: cs) KK=KK c:=rfl
@[go_sem] theorem E36 {s:Nat} {cs:List AV} {KK:AV->Prop} : rdA 1 s cs KK=(s<=cs.length/\KK (.agg (cs.take s))):=rfl
@[go_sem] theorem Db7 {d:Nat} : cid (some d)=100*(d+1):=rfl
@[go_sem] theorem Cl6 {cs:List AV} : Bp (.agg cs)=cs:=rfl
@[go_sem] theorem Cl4 {v:Value} : Bp (.val v)=[.val v]:=rfl
@[go_sem] theorem Cv0 {i:IV} : Bp (.iv i)=[.iv i]:=rfl
@[go_sem] theorem Cl5 {b:Nat} : Bp (.own b)=[.own b]:=rfl
@[go_sem] theorem Cv3 {b o:Nat} : Bp (.bp b o)=[.bp b o]:=rfl
@[go_sem] theorem Cv1 {cs:List IV} : Bp (.ip cs)=[.ip cs]:=rfl
@[go_sem] theorem Cv2 {f:Nat} {cs:List AV} : Bp (.fn f cs)=[.fn f cs]:=rfl
@[go_sem] theorem Yg {cs:List IV} : Bp (.aggI cs)=cs.map AV.iv:=rfl
@[go_sem] theorem Dm6 {b x y:Operand} : Cz ⟨dst,.pick b x y,ty,pos,after,gd⟩ σ=True:=by unfold Cz;simp [Jz]
@[go_sem] theorem Cm8 {b x y:Operand} : Bj P G L bk ⟨dst,.pick b x y,ty,pos,after,gd⟩ K=match nrm (L b) with
  | .val (.bool true)=>K (L x) bk
  | .val (.bool false)=>K (L y) bk
  | _=>False:=by unfold Bj qop;rfl
def Mq (dst:Option Tmp) (σ:Ag):Prop:=(Lg (cid dst) (cid dst+100) σ.fr&&Jq (cid dst) (cid dst+100) σ.bk)=true
theorem D4 {o:Oper} (h:Jz o=false):Cz o σ=True:=by unfold Cz;rw [h];simp
theorem M7 {o:Oper} (h:Jz o=true):Cz o σ=Mq o.dst σ:=by unfold Cz Mq;rw [h];simp
@[go_sem] theorem Dm7 {x:Operand} : Cz ⟨dst,.move x,ty,pos,after,gd⟩ σ=True:=D4 rfl
@[go_sem] theorem Ct4 {x:Operand} : Cz ⟨dst,.assign x,ty,pos,after,gd⟩ σ=True:=D4 rfl
@[go_sem] theorem Dm8 {t:TypeId} {x:Operand} : Cz ⟨dst,.load t x,ty,pos,after,gd⟩ σ=True:=D4 rfl
@[go_sem] theorem D91 {t:TypeId} {x y:Operand} : Cz ⟨dst,.store t x y,ty,pos,after,gd⟩ σ=True:=D4 rfl
@[go_sem] theorem Dy8 {x:Operand} : Cz ⟨dst,.nilCheck x,ty,pos,after,gd⟩ σ=True:=D4 rfl
@[go_sem] theorem Dz5 {op:BinOp} {t tz:TypeId} {x y:Operand} : Cz ⟨dst,.binOp op t x y tz,ty,pos,after,gd⟩ σ=True:=D4 rfl
@[go_sem] theorem E40 {op:UnOp} {t:TypeId} {x:Operand} : Cz ⟨dst,.unOp op t x,ty,pos,after,gd⟩ σ=True:=D4 rfl
@[go_sem] theorem Dn0 {s d:TypeId} {x:Operand} : Cz ⟨dst,.convert s d x,ty,pos,after,gd⟩ σ=True:=D4 rfl
@[go_sem] theorem Dm9 {f:Fn} {a c:Array Operand} : Cz ⟨dst,.makeFunc f a c,ty,pos,after,gd⟩ σ=True:=D4 rfl
@[go_sem] theorem D92 {t:TypeId} {x:Operand} {l h m:Option Operand} : Cz ⟨dst,.slice t x l h m,ty,pos,after,gd⟩ σ=True:=D4 rfl
@[go_sem] theorem Ca7 {t:TypeId} {x:Operand} {f:Nat} : Cz ⟨dst,.fieldAddr t x f,ty,pos,after,gd⟩ σ=True:=D4 rfl
@[go_sem] theorem D94 {t:TypeId} {x:Operand} {f:Nat} : Cz ⟨dst,.field t x f,ty,pos,after,gd⟩ σ=True:=D4 rfl
@[go_sem] theorem Ca6 {t:TypeId} {x i:Operand} : Cz ⟨dst,.indexAddr t x i,ty,pos,after,gd⟩ σ=True:=D4 rfl
@[go_sem] theorem D93 {t:TypeId} {x i:Operand} : Cz ⟨dst,.index t x i,ty,pos,after,gd⟩ σ=True:=D4 rfl
@[go_sem] theorem Cj8 {x:Operand} {i:Nat} : Cz ⟨dst,.extract x i,ty,pos,after,gd⟩ σ=True:=D4 rfl
@[go_sem] theorem D95 {t:TypeId} {ps:Array (Nat×Operand)} : Cz ⟨dst,.build t ps,ty,pos,after,gd⟩ σ=True:=D4 rfl
@[go_sem] theorem Dz2 {x:Array Operand} {t:Array TypeId} : Cz ⟨dst,.call { callee:=.builtin .len,args:=x,argTypes:=t },ty,pos,after,gd⟩ σ=True:=D4 rfl
@[go_sem] theorem Dz1 {x:Array Operand} {t:Array TypeId} : Cz ⟨dst,.call { callee:=.builtin .max,args:=x,argTypes:=t },ty,pos,after,gd⟩ σ=True:=D4 rfl
@[go_sem] theorem Dz0 {x:Array Operand} {t:Array TypeId} : Cz ⟨dst,.call { callee:=.builtin .min,args:=x,argTypes:=t },ty,pos,after,gd⟩ σ=True:=D4 rfl
@[go_sem] theorem Ct5 {x:Array Operand} {t:Array TypeId} : Cz ⟨dst,.call { callee:=.builtin .append,args:=x,argTypes:=t },ty,pos,after,gd⟩ σ=Mq dst σ:=M7 rfl
@[go_sem] theorem Dn1 {f:Operand} {x:Array Operand} {t:Array TypeId} : Cz ⟨dst,.call { callee:=.value f,args:=x,argTypes:=t },ty,pos,after,gd⟩ σ=Mq dst σ:=M7 rfl
@[go_sem] theorem D96 {e:TypeId} : Cz ⟨dst,.alloc e,ty,pos,after,gd⟩ σ=Mq dst σ:=M7 rfl
@[go_sem] theorem Dz4 {e:TypeId} {x:Operand} : Cz ⟨dst,.box e x,ty,pos,after,gd⟩ σ=Mq dst σ:=M7 rfl
@[go_sem] theorem Cj7 {t:TypeId} {r:Option Operand} : Cz ⟨dst,.makeMap t r,ty,pos,after,gd⟩ σ=Mq dst σ:=M7 rfl
@[go_sem] theorem Ct3 {t:TypeId} {x i:Operand} {ok:Bool} : Cz ⟨dst,.lookup t x i ok,ty,pos,after,gd⟩ σ=True:=D4 rfl
@[go_sem] theorem Dy9 {t:TypeId} {x i y:Operand} : Cz ⟨dst,.mapUpdate t x i y,ty,pos,after,gd⟩ σ=True:=D4 rfl
@[go_sem] theorem C63 {t:TypeId} {k:Nat} {ps:Array (Nat×Operand)} : Cz ⟨dst,.buildSlice t k ps,ty,pos,after,gd⟩ σ=Mq dst σ:=M7 rfl
@[go_sem] theorem De4 {o:Oper} : vop P G σ o K=(Cz o σ/\Bj P G (ev σ.fr) σ.bk o K):=rfl
@[go_sem] theorem Cm9 {x:Operand} : Bj P G L bk ⟨dst,.move x,ty,pos,after,gd⟩ K=K (L x) bk:=rfl
@[go_sem] theorem Cd3 {x:Operand} : Bj P G L bk ⟨dst,.assign x,ty,pos,after,gd⟩ K=K (L x) bk:=rfl
@[go_sem] theorem Cg3 {e:TypeId} : Bj P G L bk ⟨dst,.alloc e,ty,pos,after,gd⟩ K=(match tyZ P e with
  | some (2,zs)=>(∀ v∈zs,okV v)/\K (.bp (cid dst) 0) (.arr (cid dst) (zs.map IV.val) :: bk)
  | some (_,zs)=>K (.bp (cid dst) 0) (.box (cid dst) (zs.map AV.val) :: bk)
  | none=>False):=rfl
@[go_sem] theorem C62 {t:TypeId} : Bj P G L bk ⟨dst,.makeMap t none,ty,pos,after,gd⟩ K=(match Wf P t with
  | some (k,_)=>True/\K (.mv (cid dst)) (.mp (cid dst) k [] :: bk)
  | none=>False):=rfl
@[go_sem] theorem C61 {t:TypeId} {q:IntKind} {m:Int} : Bj P G L bk ⟨dst,.makeMap t (some (.const (.int q m))),ty,pos,after,gd⟩ K=(match Wf P t with
  | some (k,_)=>(∃ q' m',nrm (L (.const (.int q m)))=.val (.int q' m'))/\K (.mv (cid dst)) (.mp (cid dst) k [] :: bk)
  | none=>False):=rfl
@[go_sem] theorem Ck4 {k:IntKind} {m:Int} : (∃ q' m',AV.val (.int k m)=.val (.int q' m'))=True:=eq_true ⟨_,_,rfl⟩
@[go_sem] theorem Cd2 {t:TypeId} {x i:Operand} {ok:Bool} : Bj P G L bk ⟨dst,.lookup t x i ok,ty,pos,after,gd⟩ K=match Wf P t,L x,nrm (L i) with
  | some (k,z),.mv b,.val (.int k' m)=>match Ci b bk with
   | some (.mp _ k'' kv)=>ok=false/\k'=k/\k''=k/\∃ u,(N4 kv m).getD z=u/\Dv (K (.val u) bk)
   | _=>False
  | _,_,_=>False:=rfl
@[go_sem] theorem Cw6 {t:TypeId} {x i y:Operand} : Bj P G L bk ⟨dst,.mapUpdate t x i y,ty,pos,after,gd⟩ K=Av5 P t (L x) (L i) (L y) bk fun bk'=>K .any bk':=rfl
@[go_sem] theorem Dl4 {t:TypeId} {b:Nat} {k':IntKind} {m:Int} {u:Value} {KB:List BA->Prop} : Av5 P t (.mv b) (.val (.int k' m)) (.val u) bk KB=match Wf P t with
  | some (k,_)=>match Ci b bk with
   | some (.mp _ k'' kv)=>k'=k/\k''=k/\KB (Cu b [.mp b k (P4 kv m u)] bk)
   | _=>False
  | _=>False:=by unfold Av5;simp only [nrm];cases Wf P t<;>rfl
@[go_sem] theorem Cx1 {e:TypeId} {x:Operand} : Bj P G L bk ⟨dst,.box e x,ty,pos,after,gd⟩ K=(match L x with
  | .aggI cs=>K (.bp (cid dst) 0) (.arr (cid dst) cs :: bk)
  | u=>okC u=true/\K (.bp (cid dst) 0) (.box (cid dst) (Bp u) :: bk)):=rfl
@[go_sem] theorem Cn0 {t:TypeId} {x:Operand} : Bj P G L bk ⟨dst,.load t x,ty,pos,after,gd⟩ K=match tyK P t with
  | some (q,s)=>match L x with
   | .ip cs=>rdI q s cs fun r=>K r bk
   | .bp b p=>match Ci b bk with
    | some (.box _ cs)=>rdA q s (cs.drop p) fun r=>K r bk
    | some (.arr _ cs)=>match q with
     | 0=>∃ u,cs[p]? = some u/\Dv (K (nrm (.iv u)) bk)
     | 1=>∃ ds,(cs.drop p).take s=ds/\ds.length=s/\Dv (K (.agg (ds.map fun c=>nrm (.iv c))) bk)
     | _=>p=0/\s=cs.length/\K (.aggI cs) bk
    | _=>False
   | .rp b k i j=>match Ci b bk with
    | some (.row _ _ k' l)=>k'=k/\∃ cs,l[i]? = some cs/\Dv (rdI q s (cs.drop j) fun r=>K r bk)
    | some (.rowN _ _ k' l i' j' c')=>k'=k/\q=0/\∃ cs u,l[i]? = some cs/\cs[j]? = some u/\((i=i'/\j=j'/\Dv (K (.own c') bk))\/(¬ (i=i'/\j=j')/\Dv (K (nrm (.iv u)) bk)))
    | _=>False
   | _=>False
  | none=>False:=rfl
@[go_sem] theorem Cw5 {x : Operand} : Bj P G L bk ⟨dst, .nilCheck x, ty, pos, after, gd⟩ K = match L x with
      | .ip cs => K (.ip cs) bk
      | .bp b p => K (.bp b p) bk
      | .rp b k i j => K (.rp b k i j) bk
      | .fn f cs => K (.fn f cs) bk
      | _ => False := rfl
@[go_sem] theorem Cx2 {op:BinOp} {t tz:TypeId} {x y:Operand} : Bj P G L bk ⟨dst,.binOp op t x y tz,ty,pos,after,gd⟩ K=Bu P op t x y (L x) (L y) fun r=>K r bk:=rfl
@[go_sem] theorem De5 {op:UnOp} {t:TypeId} {x:Operand} : Bj P G L bk ⟨dst,.unOp op t x,ty,pos,after,gd⟩ K=match op,nrm (L x) with
  | .not,.val (.bool b)=>K (.val (.bool !b)) bk
  | .neg,.val (.int k m)=>∃ m',k.wrap (0 - m)=m'/\Dv (K (.val (.int k m')) bk)
  | _,_=>False:=rfl
@[go_sem] theorem Cn2 {s d:TypeId} {x:Operand} : Bj P G L bk ⟨dst,.convert s d x,ty,pos,after,gd⟩ K=Tf P s d (nrm (L x)) fun r=>K r bk:=rfl
@[go_sem] theorem Cu9 {s d:TypeId} {q:IntKind} {m:Int} {KK:AV->Prop} : Tf P s d (.val (.int q m)) KK=match Su P s,Su P d with
  | some _,some k=>∃ m',k.wrap m=m'/\Dv (KK (.val (.int k m')))
  | _,_=>False:=rfl
@[go_sem] theorem Cu8 {s d:TypeId} {KK:AV->Prop} : Tf P s d (.val (.slice none 0 0)) KK=(Un P s=true/\Lr P d=true/\KK (.val (.string ByteArray.empty))):=rfl
@[go_sem] theorem Cu7 {s d:TypeId} {z:ByteArray} {KK:AV->Prop} : Tf P s d (.val (.string z)) KK=(Lr P s=true/\Un P d=true/\z.size<=1048576/\KK (.iv (.sl 1 (byR (M1 z))))):=rfl
@[go_sem] theorem Db2 {s d:TypeId} {k:Nat} {l:List (List IV)} {KK:AV->Prop} : Tf P s d (.iv (.sl k l)) KK=(Un P s=true/\Lr P d=true/\k=1/\∃ bs:List Nat,l=byR bs/\Dv (KK (.val (.string (Zo bs))))):=rfl
@[go_sem] theorem Cn1 {f:FuncId} {first caps:Array Operand} : Bj P G L bk ⟨dst,.makeFunc (.func f) first caps,ty,pos,after,gd⟩ K=(first=#[]/\K (.fn f (caps.toList.map (L))) bk):=rfl
@[go_sem] theorem Cf9 {t:TypeId} {x:Operand} {lo hi mx:Option Operand} : Bj P G L bk ⟨dst,.slice t x lo hi mx,ty,pos,after,gd⟩ K=match Ez P t,nrm (L x) with
  | some (_,k,_),.iv (.sl k' l) =>
   k=k'/\∃ i j:Nat,(match lo with | none=>i=0 | some p=>L p=.val (.int .i64 i))/\(match hi with | none=>j=l.length | some p=>L p=.val (.int .i64 j))/\i<=j/\j<=l.length/\mxQ L mx hi j l.length (Dv (K (.iv (.sl k ((l.take j).drop i))) bk))
  | some (_,k,_),.own b=>match Ci b bk,lo,hi,mx with
   | some (.row _ _ k' l),some p,none,none=>k=k'/\∃ i:Nat,L p=.val (.int .i64 i)/\i<=l.length/\Dv (K .any bk)
   | _,_,_,_=>False
  | _,_=>False:=rfl
@[go_sem] theorem D66 {hi:Option Operand} {j m:Nat} {X:Prop} : mxQ L none hi j m X=X:=rfl
@[go_sem] theorem D65 {p q:Operand} {j n:Nat} {X:Prop} : mxQ L (some p) (some q) j n X=∃ m:Nat,L p=.val (.int .i64 m)/\j<=m/\m<=n/\X:=by simp [mxQ]
@[go_sem] theorem Cx0 {x : Operand} {t : TypeId} : Bj P G L bk ⟨dst, .call { callee := .builtin .cap, args := #[x], argTypes := #[t] }, ty, pos, after, gd⟩ K = match nrm (L x) with
      | .val (.slice none 0 0) => (Ez P t).isSome = true /\ K (.val (.int .i64 0)) bk
      | _ => False := rfl
@[go_sem] theorem Dz3 {x:Array Operand} {t:Array TypeId} : Cz ⟨dst,.call { callee:=.builtin .cap,args:=x,argTypes:=t },ty,pos,after,gd⟩ σ=True:=D4 rfl
@[go_sem] theorem Bu0 {t:TypeId} {x:Operand} {f:Nat} : Bj P G L bk ⟨dst,.fieldAddr t x f,ty,pos,after,gd⟩ K=match tyF P t f with
  | some (off,_,s)=>s≠0/\match L x with
   | .ip cs=>K (.ip (cs.drop off)) bk
   | .bp b p=>K (.bp b (p+off)) bk
   | .rp b k i j=>K (.rp b k i (j+off)) bk
   | _=>False
  | none=>False:=rfl
@[go_sem] theorem Cg1 {t:TypeId} {x:Operand} {f:Nat} : Bj P G L bk ⟨dst,.field t x f,ty,pos,after,gd⟩ K=match tyF P t f,L x with
  | some (off,q,s),.agg cs=>rdA q s (cs.drop off) fun r=>K r bk
  | _,_=>False:=rfl
@[go_sem] theorem Bt9 {t:TypeId} {x i:Operand} : Bj P G L bk ⟨dst,.indexAddr t x i,ty,pos,after,gd⟩ K=match nrm (L i) with
  | .val (.int _ m)=>match Ez P t with
   | some (_,k,_)=>match nrm (L x) with
    | .iv (.sl k' l)=>k=k'/\0<=m/\∃ cs,l[m.toNat]? = some cs/\Dv (K (.ip cs) bk)
    | .own b=>match Ci b bk with
     | some (.row _ _ k' l)=>k=k'/\0<=m/\m.toNat < l.length/\Dv (K (.rp b k m.toNat 0) bk)
     | some (.rowN _ _ k' l _ _ _)=>k=k'/\0<=m/\m.toNat < l.length/\Dv (K (.rp b k m.toNat 0) bk)
     | _=>False
    | _=>False
   | none=>match Wh P t,L x with
    | some (n,_,k),.bp b p=>0<=m/\m < (n:Int)/\0 < k/\Dv (K (.bp b (p+m.toNat*k)) bk)
    | some (n,_,k),.ip cs=>0<=m/\m < (n:Int)/\0 < k/\Dv (K (.ip (cs.drop (m.toNat*k))) bk)
    | _,_=>False
  | _=>False:=rfl
@[go_sem] theorem Cg0 {t:TypeId} {x i:Operand} : Bj P G L bk ⟨dst,.index t x i,ty,pos,after,gd⟩ K=match nrm (L i),L x with
  | .val (.int _ m),.aggI cs=>match Wh P t with
   | some (n,0,1)=>0<=m/\m < (n:Int)/\∃ u,cs[m.toNat]? = some u/\Dv (K (nrm (.iv u)) bk)
   | _=>False
  | .val (.int _ m),.val (.string s)=>Lr P t=true/\0<=m/\∃ b,s[m.toNat]? = some b/\Dv (K (.val (.int .u8 (b.toNat:Nat))) bk)
  | _,_=>False:=rfl
@[go_sem] theorem Cd1 {t:TypeId} {parts:Array (Nat×Operand)} : Bj P G L bk ⟨dst,.build t parts,ty,pos,after,gd⟩ K=match K7 P t with
  | some (zs,places)=>match Tc places (zs.map AV.val) (parts.toList.map fun p=>(p.1,L p.2)) with
   | some cs=>K (.agg cs) bk
   | none=>False
  | none=>False:=rfl
@[go_sem] theorem Cu3 {ps:List (Nat×Nat)} {cells:List AV} : Tc ps cells []=some cells:=rfl
@[go_sem] theorem Ck0 {ps:List (Nat×Nat)} {cells:List AV} {i:Nat} {v:AV} {rest:List (Nat×AV)} : Tc ps cells ((i,v) :: rest)=match ps[i]? with
  | none=>none
  | some (off,size)=>if (Bp v).length=size/\okC v=true/\off+size<=cells.length then Tc ps (F2 cells off (Bp v)) rest else none:=rfl
@[go_sem] theorem C65 {x:Operand} {i:Nat} : Bj P G L bk ⟨dst,.extract x i,ty,pos,after,gd⟩ K=match L x with
  | .tup cs=>i < cs.length/\K (cs.getD i .any) bk
  | _=>False:=rfl
@[go_sem] theorem Cf8 {t:TypeId} {x y:Operand} : Bj P G L bk ⟨dst,.store t x y,ty,pos,after,gd⟩ K=Aq P t (L x) (L y) bk fun bk'=>K .any bk':=rfl
@[go_sem] theorem Cd4 {x y:Operand} {t t':TypeId} : Bj P G L bk ⟨dst,.call { callee:=.builtin .append,args:=#[x,y],argTypes:=#[t,t'] },ty,pos,after,gd⟩ K=(t'=t/\Aj P t (L x) (L y) (cid dst) bk K):=rfl
@[go_sem] theorem Cw9 {x:Operand} {t:TypeId} : Bj P G L bk ⟨dst,.call { callee:=.builtin .len,args:=#[x],argTypes:=#[t] },ty,pos,after,gd⟩ K=C4 P t (fun b=>Ci b bk) (L x) fun r=>K r bk:=rfl
@[go_sem] theorem Cw8 {x y : Operand} {tt : Array TypeId} : Bj P G L bk ⟨dst, .call { callee := .builtin .max, args := #[x, y], argTypes := tt }, ty, pos, after, gd⟩ K = match nrm (L x), nrm (L y) with
      | .val (.int k p), .val (.int _ q) => ∃ m, max p q = m /\ Dv (K (.val (.int k m)) bk)
      | _, _ => False := rfl
@[go_sem] theorem Cw7 {x y : Operand} {tt : Array TypeId} : Bj P G L bk ⟨dst, .call { callee := .builtin .min, args := #[x, y], argTypes := tt }, ty, pos, after, gd⟩ K = match nrm (L x), nrm (L y) with
      | .val (.int k p), .val (.int _ q) => ∃ m, min p q = m /\ Dv (K (.val (.int k m)) bk)
      | _, _ => False := rfl
def Bf (P:Program) (G:World->Prop) (f:FuncId) (args:List AV) (dst:Option Tmp) (bk:List BA) (K:AV->List BA->Prop):Prop:=(Bh P G (fun b=>Ci b bk) f args (cid dst) fun r nb=>K r (nb++bk))\/Bu6 P G f args (cid dst) bk K
@[go_sem] theorem Cn3 {fo:Operand} {args:Array Operand} {tt:Array TypeId} : Bj P G L bk ⟨dst,.call { callee:=.value fo,args:=args,argTypes:=tt },ty,pos,after,gd⟩ K=match L fo with
  | .fn f caps=>Bf P G f (args.toList.map L++caps) dst bk K
  | _=>False:=rfl
def bsQ (L:Operand->AV) (k len:Nat) (parts:Array (Nat×Operand)) (A B:List (List IV)->Prop):Prop:=∃ l:List (List IV),l.length=len/\0 < k/\len*k<=16777216/\(∀ (i:Nat) (cs:List IV),l[i]? = some cs->cs.length=k/\∃ x,parts[i]? = some (i,x)/\okC (L x)=true/\AsI (Bp (L x)) cs)/\parts.size=len/\(A l\/B l)
@[go_sem] theorem Cg2 {t:TypeId} {len:Nat} {parts:Array (Nat×Operand)} : Bj P G L bk ⟨dst,.buildSlice t len parts,ty,pos,after,gd⟩ K=(match Ez P t with
  | some (e,k,_)=>(tyZ P e).isSome=true/\bsQ L k len parts (fun l=>K (.own (cid dst)) (.row (cid dst) e k l :: bk)) (fun l=>K (.iv (.sl k l)) bk)
  | none=>False):=rfl
@[go_sem] theorem Dl6 {t:TypeId} {B:Nat->Option BA} {k:Nat} {l:List (List IV)} {KK:AV->Prop} : C4 P t B (.iv (.sl k l)) KK=((Ez P t).isSome=true/\KK (.val (.int .i64 (l.length:Nat)))):=rfl
@[go_sem] theorem D72 {t:TypeId} {B:Nat->Option BA} {b:Nat} {KK:AV->Prop} : C4 P t B (.own b) KK=match B b with
  | some (.row _ _ _ l)=>(Ez P t).isSome=true/\KK (.val (.int .i64 (l.length:Nat)))
  | some (.rowN _ _ _ l _ _ _)=>(Ez P t).isSome=true/\KK (.val (.int .i64 (l.length:Nat)))
  | _=>False:=rfl
@[go_sem] theorem D71 {t:TypeId} {B:Nat->Option BA} {s:ByteArray} {KK:AV->Prop} : C4 P t B (.val (.string s)) KK=(Lr P t=true/\KK (.val (.int .i64 (s.size:Nat)))):=rfl
@[go_sem] theorem D73 {t:TypeId} {B:Nat->Option BA} {KK:AV->Prop} : C4 P t B (.val (.slice none 0 0)) KK=((Ez P t).isSome=true/\KK (.val (.int .i64 0))):=rfl
section
variable {t : TypeId} {x y : Operand} {k k' : IntKind} {p q : Int} {KK : AV -> Prop}
@[go_sem] theorem Bu2 {v:Value} : J8 (.val v)=some v:=rfl
@[go_sem] theorem Cx5 {cs:List AV} : J8 (.agg cs)=(J8.valAs cs).map fun l=>.agg l.toArray:=rfl
@[go_sem] theorem Cn5:J8.valAs []=some []:=rfl
@[go_sem] theorem Cg5 {v:Value} {cs:List AV} : J8.valAs (.val v :: cs)=(J8.valAs cs).map fun l=>v :: l:=by
 show (match J8 (.val v),J8.valAs cs with | some v,some l=>some (v :: l) | _,_=>none)=_
 rw [Bu2]
 cases J8.valAs cs<;>rfl
@[go_sem] theorem Dp1 {op:BinOp} {u v:List AV} : Bu P op t x y (.agg u) (.agg v) KK=match J8 (.agg u),J8 (.agg v) with
  | some p,some q=>∃ r,(∀ w,(do eqGuard op t x y p q;binOp op t p q:Sem Value).run P w=.ok r w)/\Dv (KK (.val r))
  | _,_=>False:=by cases op<;>rfl
@[go_sem] theorem Dc1 {op:BinOp} {u v:Bool} : Bu P op t x y (.val (.bool u)) (.val (.bool v)) KK=∃ r,(∀ w,(do eqGuard op t x y (.bool u) (.bool v);binOp op t (.bool u) (.bool v):Sem Value).run P w=.ok r w)/\Dv (KK (.val r)):=by cases op<;>rfl
@[go_sem] theorem Do5:Bu P .lss t x y (.val (.int k p)) (.val (.int k' q)) KK=(k=k'/\KK (.val (.bool (decide (p < q))))):=rfl
@[go_sem] theorem Do6:Bu P .leq t x y (.val (.int k p)) (.val (.int k' q)) KK=(k=k'/\KK (.val (.bool (decide (p<=q))))):=rfl
@[go_sem] theorem Do7:Bu P .gtr t x y (.val (.int k p)) (.val (.int k' q)) KK=(k=k'/\KK (.val (.bool (decide (q < p))))):=rfl
@[go_sem] theorem Do8:Bu P .geq t x y (.val (.int k p)) (.val (.int k' q)) KK=(k=k'/\KK (.val (.bool (decide (q<=p))))):=rfl
@[go_sem] theorem Do9:Bu P .eql t x y (.val (.int k p)) (.val (.int k' q)) KK=(k=k'/\KK (.val (.bool (decide (p=q))))):=rfl
@[go_sem] theorem Do3:Bu P .neq t x y (.val (.int k p)) (.val (.int k' q)) KK=(k=k'/\KK (.val (.bool (decide (p≠q))))):=rfl
@[go_sem] theorem Dp2:Bu P .add t x y (.val (.int k p)) (.val (.int k' q)) KK=(k=k'/\∃ m,k.wrap (p+q)=m/\Dv (KK (.val (.int k m)))):=rfl
@[go_sem] theorem Dn8:Bu P .sub t x y (.val (.int k p)) (.val (.int k' q)) KK=(k=k'/\∃ m,k.wrap (p - q)=m/\Dv (KK (.val (.int k m)))):=rfl
@[go_sem] theorem Dp0:Bu P .and t x y (.val (.int k p)) (.val (.int k' q)) KK=∃ r,(∀ w,(do eqGuard .and t x y (.int k p) (.int k' q);binOp .and t (.int k p) (.int k' q):Sem Value).run P w=.ok r w)/\Dv (KK (.val r)):=rfl
@[go_sem] theorem Do1:Bu P .rem t x y (.val (.int k p)) (.val (.int k' q)) KK=∃ r,(∀ w,(do eqGuard .rem t x y (.int k p) (.int k' q);binOp .rem t (.int k p) (.int k' q):Sem Value).run P w=.ok r w)/\Dv (KK (.val r)):=rfl
@[go_sem] theorem Do2:Bu P .quo t x y (.val (.int k p)) (.val (.int k' q)) KK=∃ r,(∀ w,(do eqGuard .quo t x y (.int k p) (.int k' q);binOp .quo t (.int k p) (.int k' q):Sem Value).run P w=.ok r w)/\Dv (KK (.val r)):=rfl
@[go_sem] theorem E04:Bu P .or t x y (.val (.int k p)) (.val (.int k' q)) KK=∃ r,(∀ w,(do eqGuard .or t x y (.int k p) (.int k' q);binOp .or t (.int k p) (.int k' q):Sem Value).run P w=.ok r w)/\Dv (KK (.val r)):=rfl
@[go_sem] theorem Dn7:Bu P .xor t x y (.val (.int k p)) (.val (.int k' q)) KK=∃ r,(∀ w,(do eqGuard .xor t x y (.int k p) (.int k' q);binOp .xor t (.int k p) (.int k' q):Sem Value).run P w=.ok r w)/\Dv (KK (.val r)):=rfl
@[go_sem] theorem Do0:Bu P .shl t x y (.val (.int k p)) (.val (.int k' q)) KK=∃ r,(∀ w,(do eqGuard .shl t x y (.int k p) (.int k' q);binOp .shl t (.int k p) (.int k' q):Sem Value).run P w=.ok r w)/\Dv (KK (.val r)):=rfl
@[go_sem] theorem Dn9:Bu P .shr t x y (.val (.int k p)) (.val (.int k' q)) KK=∃ r,(∀ w,(do eqGuard .shr t x y (.int k p) (.int k' q);binOp .shr t (.int k p) (.int k' q):Sem Value).run P w=.ok r w)/\Dv (KK (.val r)):=rfl
@[go_sem] theorem Do4:Bu P .mul t x y (.val (.int k p)) (.val (.int k' q)) KK=(k=k'/\∃ m,k.wrap (p*q)=m/\Dv (KK (.val (.int k m)))):=rfl
end
end
@[go_sem] theorem Cv4 {i:Nat} {c:AV} {cs:List AV} : Ub i (c :: cs)=(i,c) :: Ub (i+1) cs:=rfl
@[go_sem] theorem Dc4 {i:Nat} : Ub i []=[]:=rfl
@[go_sem] theorem Cs5 {c:AV} : A21 [c]=c:=rfl
@[go_sem] theorem Cs4 {c d:AV} {l:List AV} : A21 (c :: d :: l)=.tup (c :: d :: l):=rfl
@[go_sem] theorem Dl8 {ρ:Nat->Nat} {fr:List (Nat×AV)} : leF ρ fr []=True:=rfl
@[go_sem] theorem D74 {ρ:Nat->Nat} {fr r:List (Nat×AV)} {i:Nat} {c:AV} : leF ρ fr ((i,c) :: r)=(Cq fr i=c.ren ρ/\leF ρ fr r):=rfl
@[go_sem] theorem Dl9 {ρ:Nat->Nat} {bk:List BA} : leB ρ bk []=True:=rfl
@[go_sem] theorem D75 {ρ:Nat->Nat} {bk r:List BA} {b:BA} : leB ρ bk (b :: r)=(Ci (ρ b.id) bk=some (b.ren ρ)/\leB ρ bk r):=rfl
@[go_sem] theorem Cs7 {ρ:Nat->Nat} : By ρ []=[]:=rfl
@[go_sem] theorem Cj3 {ρ:Nat->Nat} {b:BA} {r:List BA} : By ρ (b :: r)=ρ b.id :: By ρ r:=rfl
@[go_sem] theorem Dy5 {b:Nat} {cs:List AV} : (BA.box b cs).id=b:=rfl
@[go_sem] theorem Dy6 {b:Nat} {cs:List IV} : (BA.arr b cs).id=b:=rfl
@[go_sem] theorem Dm0 {b e k i j d:Nat} {l:List (List IV)} : (BA.rowN b e k l i j d).id=b:=rfl
@[go_sem] theorem Dy4 {b:Nat} {F:Far} : (BA.opq b F).id=b:=rfl
@[go_sem] theorem E39 {b:Nat} {k:IntKind} {kv:List (Int×Value)} : (BA.mp b k kv).id=b:=rfl
@[go_sem] theorem Dy3 {b e k:Nat} {l:List (List IV)} : (BA.row b e k l).id=b:=rfl
section
variable {ρ : Nat -> Nat}
@[go_sem] theorem Dk3:AV.any.ren ρ=.any:=rfl
@[go_sem] theorem Dk0 {v:Value} : (AV.val v).ren ρ=.val v:=rfl
@[go_sem] theorem Dw5 {i:IV} : (AV.iv i).ren ρ=.iv i:=rfl
@[go_sem] theorem Dw6 {cs:List IV} : (AV.ip cs).ren ρ=.ip cs:=rfl
@[go_sem] theorem D53 {cs:List IV} : (AV.aggI cs).ren ρ=.aggI cs:=rfl
@[go_sem] theorem Dw8 {b o:Nat} : (AV.bp b o).ren ρ=.bp (ρ b) o:=rfl
@[go_sem] theorem Dk2 {b:Nat} : (AV.own b).ren ρ=.own (ρ b):=rfl
@[go_sem] theorem Dk4 {cs:List AV} : (AV.agg cs).ren ρ=.agg (AV.ren.rens ρ cs):=rfl
@[go_sem] theorem Dk1 {cs:List AV} : (AV.tup cs).ren ρ=.tup (AV.ren.rens ρ cs):=rfl
@[go_sem] theorem Dw7 {f:Nat} {cs:List AV} : (AV.fn f cs).ren ρ=.fn f (AV.ren.rens ρ cs):=rfl
@[go_sem] theorem D52:AV.ren.rens ρ []=[]:=rfl
@[go_sem] theorem Cr7 {c:AV} {cs:List AV} : AV.ren.rens ρ (c :: cs)=c.ren ρ :: AV.ren.rens ρ cs:=rfl
@[go_sem] theorem D57 {b:Nat} {cs:List AV} : (BA.box b cs).ren ρ=.box (ρ b) (AV.ren.rens ρ cs):=rfl
@[go_sem] theorem D58 {b:Nat} {cs:List IV} : (BA.arr b cs).ren ρ=.arr (ρ b) cs:=rfl
@[go_sem] theorem Cr9 {b e k i j d:Nat} {l:List (List IV)} : (BA.rowN b e k l i j d).ren ρ=.rowN (ρ b) e k l i j (ρ d):=rfl
@[go_sem] theorem D56 {b:Nat} {F:Far} : (BA.opq b F).ren ρ=.opq (ρ b) F:=rfl
@[go_sem] theorem Dk5 {b:Nat} {k:IntKind} {kv:List (Int×Value)} : (BA.mp b k kv).ren ρ=.mp (ρ b) k kv:=rfl
@[go_sem] theorem Dw4 {b:Nat} : (AV.mv b).ren ρ=.mv (ρ b):=rfl
@[go_sem] theorem D55 {b e k:Nat} {l:List (List IV)} : (BA.row b e k l).ren ρ=.row (ρ b) e k l:=rfl
end
@[go_sem] theorem D49 {P:Program} {σ:Ag} {K:List AV->Prop} : Py P σ [] K=K []:=rfl
@[go_sem] theorem D48 {P:Program} {σ:Ag} {t:Nat} {r:List ResultVar} {K:List AV->Prop} : Py P σ (.tmp t :: r) K=Py P σ r fun l=>K (Cq σ.fr t :: l):=rfl
@[go_sem] theorem Cr2 {P:Program} {σ:Ag} {d t:Nat} {r:List ResultVar} {K:List AV->Prop} : Py P σ (.cell d t :: r) K=match Cq σ.fr d with
  | .bp b p=>match Ci b σ.bk,tyK P t with
   | some (.box _ cs),some (q,s)=>rdA q s (cs.drop p) fun u=>Py P σ r fun l=>K (u :: l)
   | some (.arr _ cs),some (2,s)=>p=0/\s=cs.length/\Py P σ r fun l=>K (.aggI cs :: l)
   | _,_=>False
  | _=>False:=rfl
def Bz4 (lo hi:Nat) (A:List Nat) (skip:Nat):Nat->List AV->Bool
 | _,[]=>true
 | j,x :: r=>(x.off lo hi || (Nat.beq j skip || (A.getD j 0).testBit skip))&&Bz4 lo hi A skip (j+1) r
def Bz3 (lo hi:Nat) (ex:Nat->Bool):Nat->List BA->Bool
 | _,[]=>true
 | t,b :: r=>(b.off lo hi || ex t)&&Bz3 lo hi ex (t+1) r
def exT (A:List Nat) (bs:List Nat) (hs:List G8) (i t:Nat):Bool:=(outs bs hs i).contains t || (List.range hs.length).any fun j=>(outs bs hs j).contains t&&(A.getD j 0).testBit i
def A44 (A:List Nat) (toks:List BA) (fr0:List (Nat×AV)) (rs:List AV) (hs:List G8) (bs:List Nat):Nat->List Oper->Bool
 | _,[]=>true
 | i,o :: r=>(match Jz o with
  | true=>Lg (cid o.dst) (cid o.dst+100) fr0&&Bz4 (cid o.dst) (cid o.dst+100) A i 0 rs&&Bz3 (cid o.dst) (cid o.dst+100) (exT A bs hs i) 0 toks
  | false=>true)&&A44 A toks fr0 rs hs bs (i+1) r
theorem Au8 {lo hi skip:Nat} {A:List Nat} : ∀ {rs:List AV} {s:Nat},Bz4 lo hi A skip s rs=true->∀ (j:Nat) x,s+j≠skip->(A.getD (s+j) 0).testBit skip=false->rs[j]? = some x->x.off lo hi=true
 | [],_,_,j,x,_,_,h=>by simp at h
 | y :: r,s,h,j,x,hne,hA,hx=>by
  simp only [Bz4,Bool.and_eq_true,Bool.or_eq_true] at h
  cases j with
  | zero =>
   simp at hx;subst hx
   rcases h.1 with h | h | h
   ·exact h
   ·exact absurd (Nat.eq_of_beq_eq_true h) (by simpa using hne)
   ·rw [Nat.add_zero] at hA
    rw [hA] at h;cases h
  | succ j=>exact Au8 h.2 j x (by omega) (by rwa [show s+1+j=s+(j+1) by omega]) (by simpa using hx)
theorem Au7 {lo hi:Nat} {ex:Nat->Bool} : ∀ {toks:List BA} {s:Nat},Bz3 lo hi ex s toks=true->∀ (j:Nat) b,ex (s+j)=false->toks[j]? = some b->b.off lo hi=true
 | [],_,_,j,x,_,h=>by simp at h
 | y :: r,s,h,j,x,hne,hx=>by
  simp only [Bz3,Bool.and_eq_true,Bool.or_eq_true] at h
  cases j with
  | zero =>
   simp at hx;subst hx
   rcases h.1 with h | h
   ·exact h
   ·rw [Nat.add_zero] at hne
    rw [hne] at h;cases h
  | succ j=>exact Au7 h.2 j x (by rwa [show s+1+j=s+(j+1) by omega]) (by simpa using hx)
theorem Bb9 {toks:List BA} {fr0:List (Nat×AV)} {ops:List Oper} {rs:List AV} {hs:List G8} {bs:List Nat} (h:A44 (bef [] (ops.map G5)) toks fr0 rs hs bs 0 ops=true):A45 toks fr0 ops rs hs bs:=by
 obtain ⟨A,hA⟩ : ∃ A,bef [] (ops.map G5)=A:=⟨_,rfl⟩
 rw [hA] at h
 unfold A45
 rw [hA]
 have key:∀ (ops:List Oper) (s:Nat),A44 A toks fr0 rs hs bs s ops=true->∀ (i:Nat) o,ops[i]? = some o->Jz o=true->Lg (cid o.dst) (cid o.dst+100) fr0=true/\Bz4 (cid o.dst) (cid o.dst+100) A (s+i) 0 rs=true/\Bz3 (cid o.dst) (cid o.dst+100) (exT A bs hs (s+i)) 0 toks=true:=by
  intro ops
  induction ops with
  | nil=>intro s _ i o h;simp at h
  | cons q r ih =>
   intro s h i o ho hm
   simp only [A44,Bool.and_eq_true] at h
   cases i with
   | zero =>
    simp at ho;subst ho
    have:=h.1
    rw [hm] at this
    simp only [Bool.and_eq_true] at this
    exact ⟨this.1.1,this.1.2,this.2⟩
   | succ i =>
    have:=ih (s+1) h.2 i o (by simpa using ho) hm
    rwa [show s+1+i=s+(i+1) by omega] at this
 intro i o ho hm
 obtain ⟨k1,k2,k3⟩:=key ops 0 h i o ho hm
 simp only [Nat.zero_add] at k2 k3
 refine ⟨k1,fun j x hj hb hx=>Au8 k2 j x (by simpa using hj) (by rwa [Nat.zero_add]) hx,fun t b ht ha hb=>Au7 k3 t b ?_ hb⟩
 rw [Nat.zero_add]
 unfold exT
 rw [Bool.or_eq_false_iff]
 refine ⟨by simpa using ht,?_⟩
 rw [List.any_eq_false]
 intro j _ hc
 rw [Bool.and_eq_true] at hc
 rw [ha j (by simpa using hc.1)] at hc
 cases hc.2
@[go_sem] theorem Cm5 {ops:List Oper} {fr:List (Nat×AV)} {j:Nat} : J7 ops fr j=match ops[j]? with
 | some o=>match o.dst with
  | some d=>nrm (Cq fr d)
  | none=>.any
 | none=>.any:=rfl
section
variable {P : Program} {G : World -> Prop} {fr : List (Nat × AV)} {bk : List BA} {ops rest : List Oper} {KK : Ag -> Prop} {dst : Option Tmp} {op : Op} {ty : TypeId} {pos : String} {after : Array Edge} {j : Nat} {b : Bool}
variable {ds : List Nat} {fr0 : List (Nat × AV)} {toks : List BA} {rs : List AV} {KD : List BA -> List AV -> Prop} {sl : List (Nat × Nat)} {pre rd cs : List Nat} {out : Nat} {hs : List G8}
end
theorem AW.reg {P:Program} {G:World->Prop} {V w0:World} {n:Nd} {ro:Option Nat} {σ:Ag} {K:Exit->Ag->Prop} {id:Nat} {l:List Oper} (hd:Dd n l=true) (h:∀ KK:Ag->Prop,(∀ σ',K .normal σ'->KK σ')->Bo P G l l σ KK):AW P G ro V w0 n (.region id l.toArray false) σ K:=AW.region hd (h _ fun _ h=>h)
theorem AW.scope {P:Program} {G:World->Prop} {V w0:World} {n:Nd} {ro:Option Nat} {σ:Ag} {K:Exit->Ag->Prop} {c:Code} (h:AW P G ro V w0 n c σ fun e σ'=>match e with
  | .goto _=>False
  | e=>K e σ'):AW P G ro V w0 n (.scope c) σ K:=fun hG m E a w hn hs=>Sj (wpIn_mono (h hG m E a w hn hs) fun e a w h=>by
 obtain ⟨m',E',σ',h0,h1,h2⟩:=h
 cases e<;>first | exact ⟨m',E',σ',h0,h1,h2⟩ | exact h1.elim)
theorem AW.drawn {P:Program} {G:World->Prop} {V w0:World} {n:Nd} {ro:Option Nat} {σ:Ag} {K:Exit->Ag->Prop} {id m:Nat} {ops:List Oper} (hs:List G8) {ds fin bs:List Nat} (hp:P.follows .mixedOrders=true) (hm:σ.bk.length=m) (hok:Bc8 n m ops hs=true) (hds:Js ops=ds) (hfin:C25 m hs=fin) (hbs:Dr m hs=bs)
  (h:∀ KD:List BA->List AV->Prop,(∀ toks rs,(A44 (bef [] (ops.map G5)) toks σ.fr rs hs bs 0 ops=true/\K .normal ⟨Yt ops rs σ.fr,Df fin toks⟩)->KD toks rs)->B7 P G ds σ.fr ops hs σ.bk [] KD):AW P G ro V w0 n (.region id ops.toArray true) σ K:=by
 subst hds hfin hbs
 exact AW.draw hs hp hm hok (fun _ _ h=>Bb9 h) (h _ fun _ _ h=>h)
section
variable {P : Program} {G : World -> Prop} {ds : List Nat} {fr0 : List (Nat × AV)} {toks : List BA} {rs : List AV} {K : List BA -> List AV -> Prop}
@[go_sem] theorem Cn4:B7 P G ds fr0 [] [] toks rs K=K toks rs:=rfl
theorem Tp {dst:Option Tmp} {op:Op} {ty:TypeId} {pos:String} {after:Array Edge} {gd:Option (Nat×Bool)} {r:List Oper} {sl:List (Nat×Nat)} {pre rd cs:List Nat} {out:Nat} {hs:List G8} :
  B7 P G ds fr0 (⟨dst,op,ty,pos,after,gd⟩ :: r) (⟨sl,pre,rd,cs,out⟩ :: hs) toks rs K=Q6 rs gd (Bj P G (ev (Lm sl rs++Hg pre ds++fr0)) (Df cs toks++Df rd toks) ⟨dst,op,ty,pos,after,gd⟩ fun x bk' =>
   bk'=bk'.take out++Df rd toks/\(bk'.take out).length=out/\B7 P G ds fr0 r hs (toks++bk'.take out) (rs++[x]) K) (out=0/\cs=[]/\B7 P G ds fr0 r hs toks (rs++[.val undef]) K):=rfl
@[go_sem] theorem Ce3 {run skip:Prop} : Q6 rs none run skip=run:=rfl
@[go_sem] theorem Ce2 {j:Nat} {b:Bool} {run skip:Prop} : Q6 rs (some (j,b)) run skip=match nrm (rs.getD j .any) with
  | .val (.bool true)=>(match b with | true=>run | false=>skip)
  | .val (.bool false)=>(match b with | true=>skip | false=>run)
  | .val (.tuple _)=>skip
  | _=>False:=rfl
@[go_sem] theorem D45:Lm [] rs=[]:=rfl
@[go_sem] theorem Cr0 {d j:Nat} {r:List (Nat×Nat)} : Lm ((d,j) :: r) rs=(d,rs.getD j .any) :: Lm r rs:=rfl
@[go_sem] theorem Bp2 {pre:List Nat} : Hg pre []=[]:=rfl
@[go_sem] theorem D68 {d:Nat} {r:List Nat} : Hg [] (d :: r)=(d,.any) :: Hg [] r:=rfl
theorem B95 {p d:Nat} {pre r:List Nat} : Hg (p :: pre) (d :: r)=if (p :: pre).contains d then Hg (p :: pre) r else (d,.any) :: Hg (p :: pre) r:=rfl
@[go_sem] theorem D46:Df [] toks=[]:=rfl
@[go_sem] theorem Cr1 {t:Nat} {r:List Nat} : Df (t :: r) toks=toks.getD t (.arr 0 []) :: Df r toks:=rfl
@[go_sem] theorem D98 {fr:List (Nat×AV)} : Yt [] rs fr=fr:=rfl
@[go_sem] theorem Cu1 {d:Nat} {op:Op} {ty:TypeId} {pos:String} {after:Array Edge} {gd:Option (Nat×Bool)} {r:List Oper} {x:AV} {fr:List (Nat×AV)} : Yt (⟨some d,op,ty,pos,after,gd⟩ :: r) (x :: rs) fr=(d,x) :: Yt r rs fr:=rfl
@[go_sem] theorem Cu2 {op:Op} {ty:TypeId} {pos:String} {after:Array Edge} {gd:Option (Nat×Bool)} {r:List Oper} {x:AV} {fr:List (Nat×AV)} : Yt (⟨none,op,ty,pos,after,gd⟩ :: r) (x :: rs) fr=Yt r rs fr:=rfl
end
attribute [go_sem] Option.map_some Option.map_none List.getElem?_cons_zero List.getElem?_cons_succ List.map_cons List.map_nil List.take_succ_cons List.take_zero List.drop_succ_cons List.drop_zero List.length_cons List.length_nil List.nil_append List.cons_append List.getD_cons_zero List.getD_cons_succ List.set_cons_zero List.set_cons_succ List.length_map true_and and_true Option.isSome_some List.append_nil List.take_nil List.drop_nil eq_self
theorem C17 {x:Int} (h1:-9223372036854775808<=x) (h2:x<=9223372036854775807):IntKind.i64.wrap x=x:=IntWalk.i64_in _ (by omega)
theorem Cx {α β:Type} {f:α->β} {l:List α} {i:Nat} {y:α} (h:l[i]? = some y):(l.map f)[i]? = some (f y):=by rw [List.getElem?_map,h];rfl
@[go_sem] theorem Cq4 {m:Nat} : ((m:Nat):Int).toNat=m:=rfl
-- the small first parts of the formulas
section
variable {b : Prop}
theorem nF {d:Option Tmp} {σ:Ag} (hb:b) (h:Mq d σ:=by rfl):Mq d σ/\b:=⟨h,hb⟩
end
-- what simp may go into
section
variable {P : Program} {G : World -> Prop} {V w0 : World} {n : Nd} {ro : Option Nat} {σ σ' : Ag} {K : AV -> List BA -> Prop} {KE : Exit -> Ag -> Prop} {KS : Ag -> Prop} {KA : AV -> Prop} {KB : List BA -> Prop} {o : Oper} {ops l : List Oper} {L L' : Operand -> AV} {bk bk' : List BA} {c : Code} {x x' y y' : AV} {cs cs' : List AV} {is is' : List IV} {t : TypeId} {f : FuncId} {dst : Option Tmp}
@[congr] theorem E47 {B0:Prop} (h:σ=σ') (_:Tk=B0):AW P G ro V w0 n c σ KE=AW P G ro V w0 n c σ' KE:=by rw [h]
@[congr] theorem De0 {B0:Prop} (h:σ=σ') (_:Tk=B0):Bo P G ops l σ KS=Bo P G ops l σ' KS:=by rw [h]
@[congr] theorem Dq6 {B0:Prop} (h:σ=σ') (_:Tk=B0):vop P G σ o K=vop P G σ' o K:=by rw [h]
@[congr] theorem De6 {B0:Prop} (h:L=L') (hb:bk=bk') (_:Tk=B0):Bj P G L bk o K=Bj P G L' bk' o K:=by rw [h,hb]
@[congr] theorem Db8 {B0:Prop} (h:cs=cs') (hb:bk=bk') (_:Tk=B0):Bf P G f cs dst bk K=Bf P G f cs' dst bk' K:=by rw [h,hb]
@[congr] theorem Cq6 {B0:Prop} (h:x=x') (h2:y=y') (hb:bk=bk') (_:Tk=B0):Aq P t x y bk KB=Aq P t x' y' bk' KB:=by rw [h,h2,hb]
@[congr] theorem Db3 {B0:Prop} {s d:TypeId} (h:x=x') (_:Tk=B0):Tf P s d x KA=Tf P s d x' KA:=by rw [h]
@[congr] theorem Dl5 {B0:Prop} {i i':AV} (h:x=x') (h3:i=i') (h2:y=y') (hb:bk=bk') (_:Tk=B0):Av5 P t x i y bk KB=Av5 P t x' i' y' bk' KB:=by rw [h,h3,h2,hb]
@[congr] theorem Cl8 {B0:Prop} {d d':Nat} (h:x=x') (h2:y=y') (hd:d=d') (hb:bk=bk') (_:Tk=B0):Aj P t x y d bk K=Aj P t x' y' d' bk' K:=by rw [h,h2,hd,hb]
@[congr] theorem E02 {B0:Prop} {k m:Nat} {parts:Array (Nat×Operand)} {C D:List (List IV)->Prop} (h:L=L') (_:Tk=B0):bsQ L k m parts C D=bsQ L' k m parts C D:=by rw [h]
@[congr] theorem Dl7 {B0:Prop} {B:Nat->Option BA} (h:x=x') (_:Tk=B0):C4 P t B x KA=C4 P t B x' KA:=by rw [h]
@[congr] theorem Dp3 {B0:Prop} {op:BinOp} {u v:Operand} (h:x=x') (h2:y=y') (_:Tk=B0):Bu P op t u v x y KA=Bu P op t u v x' y' KA:=by rw [h,h2]
@[congr] theorem Dw9 {B0:Prop} {q s:Nat} (h:is=is') (_:Tk=B0):rdI q s is KA=rdI q s is' KA:=by rw [h]
@[congr] theorem Dx0 {B0:Prop} {q s:Nat} (h:cs=cs') (_:Tk=B0):rdA q s cs KA=rdA q s cs' KA:=by rw [h]
@[congr] theorem Cx4 {B0:Prop} {ds:List Nat} {fr0:List (Nat×AV)} {hs:List G8} {KD:List BA->List AV->Prop} (h:bk=bk') (h2:cs=cs') (_:Tk=B0):B7 P G ds fr0 l hs bk cs KD=B7 P G ds fr0 l hs bk' cs' KD:=by rw [h,h2]
@[congr] theorem Dj9 {B0:Prop} {rs:List ResultVar} {KL:List AV->Prop} (h:σ=σ') (_:Tk=B0):Py P σ rs KL=Py P σ' rs KL:=by rw [h]
def N8 (x:AV) (A B:Prop):Prop:=∃ t,x=.val (.bool t)/\(t=true->A)/\(t=false->B)
variable {A B : Prop}
@[congr] theorem Db6 {B0:Prop} (h:x=x') (_:Tk=B0):N8 x A B=N8 x' A B:=by rw [h]
@[go_sem] theorem Cb9:N8 (.val (.bool true)) A B=A:=by simp [N8]
@[go_sem] theorem Cc0:N8 (.val (.bool false)) A B=B:=by simp [N8]
@[go_sem] theorem Db4 {t:Bool} (h:t=true):N8 (.val (.bool t)) A B=A:=by rw [h,Cb9]
@[go_sem] theorem Db5 {t:Bool} (h:t=false):N8 (.val (.bool t)) A B=B:=by rw [h,Cc0]
theorem Cy {t:Bool} (h1:t=true->A) (h2:t=false->B):N8 (.val (.bool t)) A B:=⟨t,rfl,h1,h2⟩
def Rk (p:Bool) (A:Prop):Prop:=p=true/\A
@[congr] theorem E43 {B0:Prop} {p:Bool} (_:Tk=B0):Rk p A=Rk p A:=rfl
@[go_sem] theorem E56 {p:Bool} (h:p=true):Rk p A=A:=by simp [Rk,h]
def W1 (P:Program) (G:World->Prop) (ro:Option Nat) (V w0:World) (n:Nd):Code->Ag->(Exit->Ag->Prop)->Prop
 | .skip,σ,K=>K .normal σ
 | .ret,σ,K=>K .ret σ
 | .exit id,σ,K=>K (.exit id) σ
 | .label _,σ,K=>K .normal σ
 | .seq x y,σ,K=>W1 P G ro V w0 n x σ fun e σ'=>match e with
  | .normal=>AW P G ro V w0 n y σ' K
  | e=>K e σ'
 | .block id c,σ,K=>W1 P G ro V w0 n c σ fun e σ'=>match e with
  | .exit j=>if j=id then K .normal σ' else K (.exit j) σ'
  | e=>K e σ'
 | .scope c,σ,K=>W1 P G ro V w0 n c σ fun e σ'=>match e with
  | .goto _=>False
  | e=>K e σ'
 | .cond c x y,σ,K=>N8 (nrm (ev σ.fr c)) (AW P G ro V w0 n x σ K) (AW P G ro V w0 n y σ K)
 | .region _ ops false,σ,K=>Rk (Dd n ops.toList) (Bo P G ops.toList ops.toList σ fun σ'=>K .normal σ')
 | c,σ,K=>AW P G ro V w0 n c σ K
def Cd5:Code->Bool
 | .region _ _ d=>!d
 | .loop _=>false
 | .rangeFunc _ _ _ _=>false
 | .goto _=>false
 | .refuse _=>false
 | _=>true
@[congr] theorem E42 {B0:Prop} (h:σ=σ') (_:Tk=B0):W1 P G ro V w0 n c σ KE=W1 P G ro V w0 n c σ' KE:=by rw [h]
theorem Cl9:∀ {c:Code} {σ:Ag} {K:Exit->Ag->Prop},W1 P G ro V w0 n c σ K->AW P G ro V w0 n c σ K:=by
 intro c
 induction c with
 | skip=>exact fun h=>AW.skip h
 | ret=>exact fun h=>AW.ret h
 | exit id=>exact fun h=>AW.exit h
 | label l=>exact fun h=>AW.label h
 | seq x y ihx _=>exact fun h=>AW.seq (ihx h)
 | block id c ih=>exact fun h=>AW.block (ih h)
 | scope c ih=>exact fun h=>AW.scope (ih h)
 | cond c x y _ _=>exact fun ⟨t,h0,h1,h2⟩=>AW.cond h0 h1 h2
 | region id ops d =>
  cases d with
  | false =>
   intro σ K h
   exact AW.region (l:=ops.toList) h.1 h.2
  | true=>exact fun h=>h
 | _=>exact fun h=>h
theorem st_ (_:Cd5 c=true) (h:W1 P G ro V w0 n c σ KE):AW P G ro V w0 n c σ KE:=Cl9 h
variable {id : Nat} {a b : Code}
@[go_sem] theorem Dp5:W1 P G ro V w0 n .skip σ KE=KE .normal σ:=rfl
@[go_sem] theorem E12:W1 P G ro V w0 n .ret σ KE=KE .ret σ:=rfl
@[go_sem] theorem Dp7:W1 P G ro V w0 n (.exit id) σ KE=KE (.exit id) σ:=rfl
@[go_sem] theorem Dc7:W1 P G ro V w0 n (.label id) σ KE=KE .normal σ:=rfl
@[go_sem] theorem E11:W1 P G ro V w0 n (.seq a b) σ KE=W1 P G ro V w0 n a σ fun e σ'=>match e with
  | .normal=>AW P G ro V w0 n b σ' KE
  | e=>KE e σ':=rfl
@[go_sem] theorem Dc9:W1 P G ro V w0 n (.block id a) σ KE=W1 P G ro V w0 n a σ fun e σ'=>match e with
  | .exit j=>if j=id then KE .normal σ' else KE (.exit j) σ'
  | e=>KE e σ':=rfl
@[go_sem] theorem Dc5:W1 P G ro V w0 n (.scope a) σ KE=W1 P G ro V w0 n a σ fun e σ'=>match e with
  | .goto _=>False
  | e=>KE e σ':=rfl
@[go_sem] theorem Dp8 {q:Operand} : W1 P G ro V w0 n (.cond q a b) σ KE=N8 (nrm (ev σ.fr q)) (AW P G ro V w0 n a σ KE) (AW P G ro V w0 n b σ KE):=rfl
@[go_sem] theorem Cv5:W1 P G ro V w0 n (.region id l.toArray false) σ KE=Rk (Dd n l) (Bo P G l l σ fun σ'=>KE .normal σ'):=rfl
@[go_sem] theorem Dc8 {q:Array Oper} : W1 P G ro V w0 n (.region id q true) σ KE=AW P G ro V w0 n (.region id q true) σ KE:=rfl
@[go_sem] theorem Dp6:W1 P G ro V w0 n (.loop a) σ KE=AW P G ro V w0 n (.loop a) σ KE:=rfl
@[go_sem] theorem Dc6 {q:Operand} {ps:Array Tmp} : W1 P G ro V w0 n (.rangeFunc q ps a b) σ KE=AW P G ro V w0 n (.rangeFunc q ps a b) σ KE:=rfl
end
theorem g {A B:Prop} (hb:B) (h:A=B:=by (conv=>lhs;try simp -implicitDefEqProofs (disch:=first | with_unfolding_all exact Eq.trans rfl rfl | omega) only [go_sem,seval]);try rfl):A:=h.mpr hb
-- premises that the discharger settles
section
variable {b : Prop} {P : Program} {G : World -> Prop} {ops rest : List Oper} {KK : Ag -> Prop} {σ : Ag} {d : Option Tmp} {op : Op} {ty : TypeId} {pos : String} {after : Array Edge} {j : Nat} {g : Bool}
@[go_sem] theorem Dm5 (h:(Lg (cid d) (cid d+100) σ.fr&&Jq (cid d) (cid d+100) σ.bk)=true):Mq d σ=True:=eq_true h
@[go_sem] theorem E38 {y:AV} (h:okC y=true):(okC y=true)=True:=eq_true h
@[go_sem] theorem E52 {s m:Nat} (h:Nat.blt s m=true):(s < m/\b)=b:=by simp [Dh.1 h]
@[go_sem] theorem Dq2 {x:Int} {KI:Int->Prop} (h1:-9223372036854775808<=x) (h2:x<=9223372036854775807):(∃ m,IntKind.i64.wrap x=m/\Dv (KI m))=KI x:=by simp [Dv,C17 h1 h2]
@[go_sem] theorem Dq4 (h:J7 ops σ.fr j=.val (.bool g)):Bo P G ops (⟨d,op,ty,pos,after,some (j,g)⟩ :: rest) σ KK=vop P G σ ⟨d,op,ty,pos,after,some (j,g)⟩ fun r bk=>Bo P G ops rest ⟨Fv d r σ.fr,bk⟩ KK:=by
 rw [Tl]
 simp only [h,true_implies]
 cases g<;>simp
@[go_sem] theorem Dq5 (h:J7 ops σ.fr j=.val (.bool !g)):Bo P G ops (⟨d,op,ty,pos,after,some (j,g)⟩ :: rest) σ KK=Bo P G ops rest ⟨Fv d (.val undef) σ.fr,σ.bk⟩ KK:=by
 rw [Tl]
 simp only [h,true_implies]
 cases g<;>simp
@[go_sem] theorem Dq3 (h:J7 ops σ.fr j=.val undef):Bo P G ops (⟨d,op,ty,pos,after,some (j,g)⟩ :: rest) σ KK=Bo P G ops rest ⟨Fv d (.val undef) σ.fr,σ.bk⟩ KK:=by
 rw [Tl]
 simp only [h,undef]
variable {ds : List Nat} {fr0 : List (Nat × AV)} {toks : List BA} {rs : List AV} {KD : List BA -> List AV -> Prop} {sl : List (Nat × Nat)} {pre rd cs : List Nat} {out : Nat} {hs : List G8}
def Dn (out:Nat) (rt:List BA) (bk':List BA) (F:List BA->Prop):Prop:=bk'=bk'.take out++rt/\(bk'.take out).length=out/\F (bk'.take out)
@[congr] theorem E46 {B0:Prop} {rt bk bk':List BA} {F:List BA->Prop} (h:bk=bk') (_:Tk=B0):Dn out rt bk F=Dn out rt bk' F:=by rw [h]
@[go_sem] theorem E57 {rt bk':List BA} {F:List BA->Prop} (h:bk'=bk'.take out++rt) (h2:(bk'.take out).length=out):Dn out rt bk' F=F (bk'.take out):=by
 unfold Dn
 simp only [h2,true_and]
 exact propext ⟨fun h=>h.2,fun h'=>⟨h,h'⟩⟩
@[go_sem] theorem De8 : B7 P G ds fr0 (⟨d, op, ty, pos, after, none⟩ :: rest) (⟨sl, pre, rd, cs, out⟩ :: hs) toks rs KD = Bj P G (ev (Lm sl rs ++ Hg pre ds ++ fr0)) (Df cs toks ++ Df rd toks) ⟨d, op, ty, pos, after, none⟩ fun x bk' =>
      Dn out (Df rd toks) bk' fun nb => B7 P G ds fr0 rest hs (toks ++ nb) (rs ++ [x]) KD := rfl
@[go_sem] theorem De9 (h : nrm (rs.getD j .any) = .val (.bool g)) : B7 P G ds fr0 (⟨d, op, ty, pos, after, some (j, g)⟩ :: rest) (⟨sl, pre, rd, cs, out⟩ :: hs) toks rs KD = Bj P G (ev (Lm sl rs ++ Hg pre ds ++ fr0)) (Df cs toks ++ Df rd toks) ⟨d, op, ty, pos, after, some (j, g)⟩ fun x bk' =>
      Dn out (Df rd toks) bk' fun nb => B7 P G ds fr0 rest hs (toks ++ nb) (rs ++ [x]) KD := by
  rw [Tp]
  unfold Q6
  simp only [h]
  cases g <;> rfl
@[go_sem] theorem Df0 (h:nrm (rs.getD j .any)=.val (.bool !g)) (h0:out=0) (h1:cs=[]):B7 P G ds fr0 (⟨d,op,ty,pos,after,some (j,g)⟩ :: rest) (⟨sl,pre,rd,cs,out⟩ :: hs) toks rs KD=B7 P G ds fr0 rest hs toks (rs++[.val undef]) KD:=by
 rw [Tp]
 unfold Q6
 simp only [h]
 subst h0 h1
 cases g<;>simp
@[go_sem] theorem De7 (h:nrm (rs.getD j .any)=.val undef) (h0:out=0) (h1:cs=[]):B7 P G ds fr0 (⟨d,op,ty,pos,after,some (j,g)⟩ :: rest) (⟨sl,pre,rd,cs,out⟩ :: hs) toks rs KD=B7 P G ds fr0 rest hs toks (rs++[.val undef]) KD:=by
 rw [Tp]
 unfold Q6
 simp only [h,undef]
 subst h0 h1
 simp
theorem Cn {x:Bool} {X:Prop} (_:X=Bo P G ops (⟨d,op,ty,pos,after,some (j,g)⟩ :: rest) σ KK) (_:J7 ops σ.fr j=.val (.bool x)) (h1:x=true->X) (h2:x=false->X):X:=by
 cases x
 ·exact h2 rfl
 ·exact h1 rfl
theorem Ul {x:Bool} {X:Prop} (_:X=B7 P G ds fr0 (⟨d,op,ty,pos,after,some (j,g)⟩ :: rest) hs toks rs KD) (_:nrm (rs.getD j .any)=.val (.bool x)) (h1:x=true->X) (h2:x=false->X):X:=by
 cases x
 ·exact h2 rfl
 ·exact h1 rfl
end
@[go_sem] theorem Dn2 {α:Type} {c:α} {K:α->Prop} : (∃ u,some c=some u/\Dv (K u))=K c:=by simp [Dv]
attribute [go_sem] ne_eq not_false_eq_true Bool.not_true Bool.not_false
attribute [irreducible] Dv
end Go.Proofs.YtblfjaedaijfoaaGreatDoor
