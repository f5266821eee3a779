/- The sum of a view (the program's). -/
import Derived.Test.YthlgnjlpakimaaaGreatDoorQSumLaw
import Derived.Test.YthlgnjlpakimaaaGreatDoorQPart
set_option linter.all false
set_option linter.unnecessarySimpa false
set_option linter.unusedSimpArgs false
set_option linter.unusedVariables false
namespace Go.Proofs.YthlgnjlpakimaaaGreatDoor
def Dp (z:List Av) (it:List Ad):Nat->List (List Ab)
 | 0=>[]
 | i+1=>Dp z it i++match z[i]? with
  | some x=>if Ko [x.span] it=true/\x.vec∉Dp z it i then [x.vec] else []
  | none=>[]
theorem Ud {z:List Av} {it:List Ad} {i:Nat} (h:i < z.length):Dp z it (i+1)=Dp z it i++if Ko [z[i].span] it=true/\z[i].vec∉Dp z it i then [z[i].vec] else []:=by
 rw [Dp,List.getElem?_eq_getElem h]
theorem Sv {z:List Av} {it:List Ad} {r:List Ab} : ∀ {i:Nat},i<=z.length->(r∈Dp z it i↔∃ j,∃ h:j < z.length,j < i/\z[j].vec=r/\Ko [z[j].span] it=true)
 | 0,_=>by simp [Dp]
 | i+1,hi=>by
  rw [Ud (by omega),List.mem_append,Sv (by omega)]
  constructor
  ·rintro (⟨j,h,h1,h2⟩ | h)
   ·exact ⟨j,h,by omega,h2⟩
   ·split at h
    ·rename_i hb
     exact ⟨i,by omega,by omega,(List.mem_singleton.1 h).symm,hb.1⟩
    ·cases h
  ·rintro ⟨j,h,h1,h2,h3⟩
   rcases Nat.lt_or_ge j i with h4 | h4
   ·exact .inl ⟨j,h,h4,h2,h3⟩
   ·obtain rfl:j=i:=by omega
    by_cases hm:z[j].vec∈Dp z it j
    ·exact .inl (h2 ▸ (Sv (by omega)).1 hm)
    ·right
     rw [if_pos ⟨h3,hm⟩,h2]
     simp
theorem Ap2 {s:Ad} {it:List Ad} : Ko [s] it=true↔∃ o:Nat,o < 256/\(s.lo<=o/\(o:Int)<=s.hi)/\Al it o=true:=by
 rw [Bv3]
 constructor
 ·rintro ⟨o,h1,h2,h3⟩;exact ⟨o,h1,L5.1 h2,h3⟩
 ·rintro ⟨o,h1,h2,h3⟩;exact ⟨o,h1,L5.2 h2,h3⟩
theorem Ag3 {v:B8} {it:List Ad} {a:Nat} : ∀ {b:Nat},a<=b->(∀ o,a<=o->o < b->Mq v it o=false)->Cr v it b=Cr v it a
 | 0,h,_=>by
  obtain rfl:a=0:=by omega
  rfl
 | b+1,h,hb=>by
  rcases Nat.eq_or_lt_of_le h with rfl | h1
  ·rfl
  ·rw [Cr,if_neg (by rw [hb b (by omega) (by omega)];simp),List.append_nil]
   exact Ag3 (by omega) fun o h2 h3=>hb o h2 (by omega)
open Classical in
theorem B67 {v:B8} {it:List Ad} {r:List Ab} {a:Nat} : ∀ {b:Nat},a<=b->(∀ o,a<=o->o < b->Mq v it o=Al it o/\Bb v.zones v.known o=r)->Cr v it b=Cr v it a++if (∃ o:Nat,(a<=o/\o < b)/\Al it o=true)/\r∉Cr v it a then [r] else []
 | 0,h,_=>by
  obtain rfl:a=0:=by omega
  rw [if_neg (by rintro ⟨⟨o,h1,_⟩,_⟩;omega),List.append_nil]
 | b+1,h,hb=>by
  rcases Nat.eq_or_lt_of_le h with rfl | h1
  ·rw [if_neg (by rintro ⟨⟨o,h1,_⟩,_⟩;omega),List.append_nil]
  ·have ih:=B67 (v:=v) (it:=it) (r:=r) (a:=a) (b:=b) (by omega) fun o h2 h3=>hb o h2 (by omega)
   obtain ⟨e1,e2⟩:=hb b (by omega) (by omega)
   rw [Cr,e1,e2]
   by_cases hA:r∈Cr v it a
   ·have hs:Cr v it b=Cr v it a:=by rw [ih,if_neg (fun h=>h.2 hA),List.append_nil]
    rw [hs,if_neg (fun h=>h.2 hA),if_neg (fun h=>h.2 hA)]
   ·rw [ih]
    by_cases hE:∃ o:Nat,(a<=o/\o < b)/\Al it o=true
    ·rw [if_pos ⟨hE,hA⟩,if_neg (by simp),List.append_nil,if_pos]
     obtain ⟨o,h2,h3⟩:=hE
     exact ⟨⟨o,by omega,h3⟩,hA⟩
    ·rw [if_neg (fun h=>hE h.1),List.append_nil]
     by_cases hm:Al it b=true
     ·rw [if_pos ⟨hm,hA⟩,if_pos ⟨⟨b,by omega,hm⟩,hA⟩]
     ·rw [if_neg (fun h=>hm h.1),if_neg]
      rintro ⟨⟨o,h2,h3⟩,_⟩
      rcases Nat.eq_or_lt_of_le (show o<=b by omega) with rfl | h4
      ·exact hm h3
      ·exact hE ⟨o,by omega,h3⟩
theorem Rh {v:B8} (hv:VF v) {o:Nat} (ho:o < 256):Al (E5 v.zones) o=true↔∃ j,∃ h:j < v.zones.length,v.zones[j].span.lo<=o/\(o:Int)<=v.zones[j].span.hi:=by
 unfold E5
 rw [if_pos hv.zones,show Br (v.zones.map (·.span))=Ch fun o=>Al (v.zones.map (·.span)) o from rfl,Cc _ ho,Mf]
 constructor
 ·rintro ⟨s,hs,h1,h2⟩
  obtain ⟨x,hx,rfl⟩:=List.mem_map.1 hs
  obtain ⟨j,hj,rfl⟩:=List.mem_iff_getElem.1 hx
  exact ⟨j,hj,h1,h2⟩
 ·rintro ⟨j,hj,h1,h2⟩
  exact ⟨_,List.mem_map_of_mem (List.getElem_mem hj),h1,h2⟩
theorem Bx3 {v:B8} (hv:VF v) (it:List Ad):Cr v it 256=Dp v.zones it v.zones.length:=by
 have key:∀ i,i<=v.zones.length->∀ m:Nat,(m:Int)=Bu (v.zones.take i).getLast? + 1->Cr v it m=Dp v.zones it i:=by
  intro i
  induction i with
  | zero =>
   intro _ m hm
   simp only [List.take_zero,List.getLast?_nil,Bu] at hm
   obtain rfl:m=0:=by omega
   rfl
  | succ i ih =>
   intro hi m hm
   have hlt:=Bp0 hv.zones (i:=i) (by omega)
   have hle:=Yr hv.zones (i:=i) (by omega)
   have hge:=Mt (l:=v.zones) (m:=i) (by
    have h1:=hv.zones
    unfold B7 at h1
    rw [<-List.take_append_drop i v.zones,Fu,Bool.and_eq_true] at h1
    exact h1.1)
   have hok:=F3 hv.zones v.zones[i] (List.getElem_mem (by omega))
   simp only [Cu,Bool.and_eq_true,decide_eq_true_eq] at hok
   rw [A01 (l:=v.zones) (m:=i+1) (by omega) (by omega)] at hm
   simp only [Nat.add_sub_cancel] at hm
   obtain ⟨a,ha⟩ : ∃ a:Nat,(a:Int)=Bu (v.zones.take i).getLast? + 1:=⟨(Bu (v.zones.take i).getLast? + 1).toNat,by omega⟩
   obtain ⟨b,hb⟩ : ∃ b:Nat,(b:Int)=v.zones[i].span.lo:=⟨v.zones[i].span.lo.toNat,by omega⟩
   have hgap:Cr v it b=Cr v it a:=Ag3 (by omega) fun o h1 h2=>by
    unfold Mq
    cases hm2:Al (E5 v.zones) o with
    | false=>rw [Bool.and_false]
    | true =>
     obtain ⟨j,hj,h3,h4⟩:=(Rh hv (by omega)).1 hm2
     exfalso
     rcases Nat.lt_or_ge j i with h5 | h5
     ·have:=B02 hv.zones h5 (by omega)
      omega
     ·rcases Nat.eq_or_lt_of_le h5 with rfl | h6
      ·omega
      ·have:=Ab3 hv.zones h6 hj
       omega
   have hrun:=B67 (v:=v) (it:=it) (r:=v.zones[i].vec) (a:=b) (b:=m) (by omega) fun o h1 h2=>by
    refine ⟨?_,Uy hv.zones v.known (by omega) (by omega)⟩
    unfold Mq
    rw [(Rh hv (by omega)).2 ⟨i,by omega,by omega,by omega⟩,Bool.and_true]
   rw [hrun,hgap,ih (by omega) a ha,Ud (by omega)]
   congr 1
   have e:(∃ o:Nat,(b<=o/\o < m)/\Al it o=true)↔Ko [v.zones[i].span] it=true:=by
    rw [Ap2]
    constructor
    ·rintro ⟨o,h1,h2⟩;exact ⟨o,by omega,by omega,h2⟩
    ·rintro ⟨o,h0,h1,h2⟩;exact ⟨o,by omega,h2⟩
   by_cases h1:Ko [v.zones[i].span] it=true/\v.zones[i].vec∉Dp v.zones it i
   ·exact (if_pos ⟨e.2 h1.1,h1.2⟩).trans (if_pos h1).symm
   ·exact (if_neg fun h=>h1 ⟨e.1 h.1,h.2⟩).trans (if_neg h1).symm
 have hge:=Mt (l:=v.zones) (m:=v.zones.length) (by rw [List.take_length];exact hv.zones)
 obtain ⟨a,ha⟩ : ∃ a:Nat,(a:Int)=Bu (v.zones.take v.zones.length).getLast? + 1:=⟨(Bu (v.zones.take v.zones.length).getLast? + 1).toNat,by omega⟩
 rw [<-key _ (Nat.le_refl _) a ha]
 refine Ag3 (by omega) fun o h1 h2=>?_
 unfold Mq
 cases hm2:Al (E5 v.zones) o with
 | false=>rw [Bool.and_false]
 | true =>
  obtain ⟨j,hj,h3,h4⟩:=(Rh hv (by omega)).1 hm2
  have:=B02 hv.zones (show j < v.zones.length from hj) (Nat.le_refl _)
  omega
def Uo (z:List Av) (it:List Ad) (i:Nat) (r:List Ab) (k:Nat) (o:Nat):Bool:=Al it o&&((z.drop i).take k).any fun x=>decide (x.vec=r)&&x.has o
theorem Bw3 (z:List Av) (it:List Ad) (i:Nat) (r:List Ab):Ch (Uo z it i r 0)=[]:=by
 refine Nh (Bt _) (show Bj _ []=true from rfl) fun o=>⟨fun h=>?_,fun h=>by simp [Al] at h⟩
 obtain ⟨k,_,_,h2⟩:=J6 h
 simp [Uo] at h2
theorem Bw4 {z:List Av} {it:List Ad} {i k:Nat} (h:i+k < z.length) (r:List Ab) (o:Nat):Uo z it i r (k+1) o=(Uo z it i r k o || (decide (z[i+k].vec=r)&&(Al [z[i+k].span] o&&Al it o))):=by
 unfold Uo
 rw [List.take_succ_eq_append_getElem (by simp;omega),List.any_append,List.getElem_drop]
 simp only [List.any_cons,List.any_nil,Bool.or_false]
 rw [show Al [z[i+k].span] (o:Int)=z[i+k].has o from by simp [Al,Av.has]]
 cases Al it o<;>simp
theorem C78 {z:List Av} {it:List Ad} {i k:Nat} (h:i+k < z.length):Br (Ch (Uo z it i z[i].vec k)++Cw [z[i+k].span] it)=Ch (fun o=>Uo z it i z[i].vec k o || (Al [z[i+k].span] o&&Al it o)):=by
 refine Er fun o ho=>?_
 rw [D2,Cc _ ho]
 unfold Cw
 rw [Cc _ ho]
theorem C79 {v:B8} (hv:VF v) {it:List Ad} {i:Nat} (hi:i < v.zones.length) (hn:v.zones[i].vec∉Dp v.zones it i):Ch (Uo v.zones it i v.zones[i].vec (v.zones.length - i))=Ch (Ga v it v.zones[i].vec):=by
 refine Er fun o ho=>?_
 unfold Uo Ga Mq
 rw [List.take_of_length_le (by simp)]
 cases hm:Al it o with
 | false=>simp
 | true =>
  rw [Bool.true_and,Bool.true_and,Bool.eq_iff_iff,List.any_eq_true,Bool.and_eq_true,decide_eq_true_eq,Rh hv ho]
  constructor
  ·rintro ⟨x,hx,h1⟩
   obtain ⟨j,hj,rfl⟩:=List.mem_drop_iff_getElem.1 hx
   simp only [Av.has,Bool.and_eq_true,decide_eq_true_eq] at h1
   exact ⟨⟨i+j,by omega,h1.2⟩,by rw [Uy hv.zones v.known (i:=i+j) (by omega) h1.2,h1.1]⟩
  ·rintro ⟨⟨j,hj,h1⟩,h2⟩
   rw [Uy hv.zones v.known hj h1] at h2
   rcases Nat.lt_or_ge j i with h3 | h3
   ·exact (hn ((Sv (by omega)).2 ⟨j,hj,h3,h2,Ap2.2 ⟨o,ho,h1,hm⟩⟩)).elim
   ·refine ⟨v.zones[j],List.mem_drop_iff_getElem.2 ⟨j - i,by omega,by congr 1;omega⟩,?_⟩
    simp only [Av.has,Bool.and_eq_true,decide_eq_true_eq]
    exact ⟨h2,h1⟩
end Go.Proofs.YthlgnjlpakimaaaGreatDoor
namespace Go.Proofs.YthlgnjlpakimaaaGreatDoor
open Go.ChangeShapes Go.WideShapes Go.ChangeAt Go.RowKit
attribute [local irreducible] AW AWY Cd Bk vop C5 Bl Bz qop Cj Cv B4 Aw C4 A7 Bq
attribute [local go_sem] Gp Gv Ei Ce Mk Kt Ao As
@[go_sem] theorem Dp9 {b:Nat} {k:IntKind} {kv:List (Int×Value)} {x:BA} {r:List BA} : L6 x (.mp b k kv :: r)=.mp b k kv :: L6 x r:=rfl
@[go_sem] theorem Co5 {b c:Nat} {cs:List AV} : Gk (.box b cs) (.mv c)=if c=b then .any else .mv c:=rfl
theorem Ar8 (v:B8) (r:List Ab) (f:Nat->Bool):(⟨[],r,Gn [⟨0,255⟩] (Ch f),Fi v.held (Ch f)⟩ : At)=Dg v r f:=by
 unfold Dg Gn
 rw [show Ch (fun o=>Al [⟨0,255⟩] o&&!Al (Ch f) o)=Ch fun o=>!f o from Er fun o ho=>by
  rw [Cc _ ho,show Al [⟨0,255⟩] (o:Int)=true from L5.2 ⟨by simp only;omega,by simp only;omega⟩,Bool.true_and]]
theorem Ap9 (v:B8) (it:List Ad):Gn it (E5 v.zones)=Ch (Gb v it):=rfl
theorem C68 {q:List At×Int} {e:Int} (h:q=([],e)):Cm (.tup [.val (.slice none 0 0),.val (.int .i64 e)]) (.tup [.iv (noI q.1),.val (.int .i64 q.2)]):=by
 subst h
 refine G6 rfl fun p hp=>?_
 simp only [List.zip_cons_cons,List.zip_nil_right,List.mem_cons,List.not_mem_nil,or_false] at hp
 rcases hp with rfl | rfl
 ·exact Bf 4
 ·exact Cm.rfl_ _
theorem Yt (z:List Av) (it:List Ad):∀ i,(Dp z it i).length<=i
 | 0=>Nat.le_refl _
 | i+1=>by
  have:=Yt z it i
  rw [Dp,List.length_append]
  split
  ·split<;>simp<;>omega
  ·simp;omega
def Ua (v:B8) (it:List Ad) (i:Nat):List At:=Dg v v.known (Gb v it) :: (Dp v.zones it i).map fun r=>Dg v r (Ga v it r)
def Cp1 (z:List Av) (i:Nat) (p:Av->Nat->Bool) (kv:List (Int×Value)):Prop:=∀ (j:Nat) (x:Av),i<=j->z[j]? = some x->(Qp kv (j:Int)).getD (.bool false)=.bool (p x j)
set_option maxRecDepth 100000 in
set_option maxHeartbeats 3200000 in
theorem Ao5 (v:B8) (it:List Ad) (iR:I64 v.room):A7 Tryz.prog A8 73 [vwA v,.iv (spI it)] (.tup [.iv (noI (Ae3 v it).1),.val (.int .i64 (Ae3 v it).2)]) []:=by
 refine A7.ofS (n:=84) (rs:=[.tmp 4,.tmp 5]) Tryz.func73 rfl (by kernel_rfl) Tryz.ntmps73 (by kernel_rfl) (by simp) (fun _ _=>A8.later) ?_
 intro hok V w0
 obtain ⟨R,hR⟩ : ∃ R,Ae3 v it=R:=⟨_,rfl⟩
 rw [hR]
 unfold Ae3 at hR
 refine g ?_
 refine AW.seq ?_
 refine AW.reg rfl fun KK hKK=>?_
 refine g ?_
 repeat' (refine hKK _ (g ?_);clear hKK KK)
 refine AW.freeze 300 _ rfl ⟨trivial,trivial,trivial,trivial,iR,trivial⟩ ?_
 simp only [go_sem,reduceIte,Nat.reduceEqDiff]
 refine g ?_
 repeat' (first | refine st_ rfl (g ?_) | refine C3 (fun h=>g ?_) (fun h=>g ?_) | refine A9 (Jv v iR) rfl (g ?_))
 ·rw [if_neg (by simpa using h)] at hR
  exact C68 hR.symm
 have hF:Af v=true:=by simpa using h
 rw [if_pos hF] at hR
 have hv:=Ja.1 hF
 have hhf:Bv v.held=true:=Ge.2 hv.held
 have hzl:=Ad4 hF
 have hp0:=Ad3 v v.known (Gn it (E5 v.zones)) iR hhf
 rw [Ap9,Ar8] at hp0
 have hl0:=Av9 it (E5 v.zones)
 rw [Ap9] at hl0
 refine AW.drawn (ds:=[16,17,18,19,20,21,22,23,24,25,6]) (fin:=[0]) (bs:=[0,0,0,0,0,0,0,0,0,0,1]) [⟨[],[],[],[],0⟩,⟨[],[],[],[],0⟩,⟨[(17,1)],[],[],[],0⟩,⟨[],[],[],[],0⟩,⟨[],[],[],[],0⟩,⟨[(20,4)],[],[],[],0⟩,⟨[(21,5)],[],[],[],0⟩,⟨[(19,3),(22,6)],[],[],[],0⟩,⟨[(16,0),(18,2),(23,7)],[],[],[],0⟩,⟨[(24,8)],[],[],[],1⟩,⟨[(25,9)],[],[],[],0⟩] (by kernel_rfl) rfl (by kernel_rfl) rfl rfl rfl fun KD hKD=>?_
 refine g ?_
 repeat' (first | refine A9 (Ad0 _) rfl (g ?_) | refine A9 (hl0) rfl (g ?_) | refine A9 (hp0) rfl (g ?_))
 refine bs1 (by omega) rfl rfl rfl ⟨trivial,trivial,trivial,trivial,trivial⟩ ?_
 refine g ?_
 repeat' (first | refine st_ rfl (g ?_) | (refine hKD _ _ ⟨rfl,g ?_⟩;clear hKD KD))
 have hzI:∀ z∈v.zones,I64 z.span.lo/\I64 z.span.hi:=fun z hz=>by
  obtain ⟨-,o1,o2,-⟩:=D7 (by simpa [znI] using hok.1.2.1.2) (enZ z) (List.mem_map_of_mem hz)
  exact ⟨o1,o2⟩
 refine AW.loop (fun x:{x:Nat×List (Int×Value) // x.1<=v.zones.length/\Cp1 v.zones x.1 (fun z _=>decide (z.vec∈Dp v.zones it x.1)) x.2}=>⟨[(1,.iv (spI it)),(2,.ip [stI v.known,znI v.zones,wrI v.held,boI v.bodies,.val (.int .i64 v.room)]),(6,.own 2600),(7,.mv 2700),(28,.iv (znI v.zones)),(29,.val (.int .i64 (v.zones.length:Nat))),(30,.val (.int .i64 (x.1.1:Nat)))],[.mp 2700 .i64 x.1.2,.row 2600 37 4 ((Ua v it x.1.1).map enN)]⟩) (fun x=>v.zones.length - x.1.1) ⟨(0,[]),Nat.zero_le _,fun j x _ _=>rfl⟩ id ⟨⟨rfl,rfl,rfl,rfl,rfl,rfl,rfl,trivial⟩,⟨rfl,rfl,trivial⟩,by simp [Aq,BA.id]⟩ fun ⟨⟨i,kv⟩,hi,hk⟩=>?_
 simp only at hi hk ⊢
 repeat (refine AW.seq ?_)
 refine AW.reg rfl fun KK hKK=>?_
 refine g ?_
 repeat' (refine hKK _ (g ?_);clear hKK KK)
 repeat (refine AW.seq ?_)
 refine st_ rfl ?_
 refine g ?_
 refine Az (fun h=>?_) (fun h=>?_)
 ·have hlt:i < v.zones.length:=by omega
  obtain ⟨x,hx⟩ : ∃ x,v.zones[i]=x:=⟨_,rfl⟩
  have hgx:v.zones[i]? = some x:=by rw [List.getElem?_eq_getElem hlt,hx]
  obtain ⟨w1,w2⟩:=hzI _ (List.getElem_mem hlt)
  have hz:=Ud (it:=it) hlt
  have hzl2:=Yt v.zones it i
  have hall:=C79 hv (it:=it) hlt
  rw [hx] at w1 w2 hz hall
  have hki:=hk i x (Nat.le_refl _) hgx
  have htc:=B42 [x.span] it
  refine st_ rfl (g ?_)
  refine AW.seq ?_
  refine AW.block ?_
  repeat (refine AW.seq ?_)
  refine AW.reg rfl fun KK hKK=>?_
  refine g ?_
  refine ⟨by omega,_,C0 (f:=enZ) hgx,?_⟩
  refine g ?_
  repeat' (first | refine Ag (g ?_) | (refine hKK _ (g ?_);clear hKK KK))
  refine AW.freeze 1000 _ rfl ⟨w1,w2,trivial,trivial⟩ ?_
  simp only [go_sem,reduceIte,Nat.reduceEqDiff]
  refine g ?_
  repeat' refine st_ rfl (g ?_)
  refine ⟨_,hki,?_⟩
  refine g ?_
  repeat' (first | refine st_ rfl (g ?_) | refine Ag (g ?_) | (refine Ci rfl rfl (fun h e=>?_) (fun h e=>?_)<;>simp only [e]<;>clear e<;>refine g ?_))
  ·have hz0:Dp v.zones it (i+1)=Dp v.zones it i:=by rw [hz,if_neg (fun q=>q.2 h),List.append_nil]
   refine ⟨⟨(i+1,kv),hlt,fun j y hj hy=>by rw [hz0];exact hk j y (by omega) hy⟩,id,⟨⟨rfl,rfl,rfl,rfl,rfl,rfl,rfl,trivial⟩,⟨rfl,?_,trivial⟩,by simp [Aq,BA.id]⟩,by show v.zones.length - (i+1) < v.zones.length - i;omega⟩
   show some (BA.row _ _ _ _)=some (BA.row _ _ _ ((Ua v it (i+1)).map enN))
   unfold Ua
   rw [hz0]
   rfl
  refine bd1 (by omega) rfl rfl rfl ⟨w1,w2,trivial⟩ ?_
  refine g ?_
  repeat' (first | refine st_ rfl (g ?_) | refine C3 (fun h=>g ?_) (fun h=>g ?_) | refine A9 (htc) rfl (g ?_))
  ·have hz0:Dp v.zones it (i+1)=Dp v.zones it i:=by rw [hz,if_neg (fun q=>by rw [q.1] at h;cases h),List.append_nil]
   refine ⟨⟨(i+1,kv),hlt,fun j y hj hy=>by rw [hz0];exact hk j y (by omega) hy⟩,id,⟨⟨rfl,rfl,rfl,rfl,rfl,rfl,rfl,trivial⟩,⟨rfl,?_,trivial⟩,by simp [Aq,BA.id]⟩,by show v.zones.length - (i+1) < v.zones.length - i;omega⟩
   show some (BA.row _ _ _ _)=some (BA.row _ _ _ ((Ua v it (i+1)).map enN))
   unfold Ua
   rw [hz0]
   rfl
  rename_i ht
  have htt:Ko [x.span] it=true:=by simpa using h
  rw [if_pos ⟨htt,ht⟩] at hz
  have hp1:=Ad3 v x.vec (Ch (Ga v it x.vec)) iR hhf
  rw [Ar8] at hp1
  refine ⟨i,v.zones.length,rfl,rfl,by omega,Nat.le_refl _,?_⟩
  rw [show ((v.zones.map enZ).take v.zones.length).drop i=(v.zones.drop i).map enZ by rw [List.take_of_length_le (by simp),List.map_drop]]
  have hdl:(v.zones.drop i).length=v.zones.length - i:=List.length_drop
  refine g ?_
  repeat' (first | refine st_ rfl (g ?_) | refine Ag (g ?_))
  refine AW.sub 10 _ (.iv (spI [])) rfl (Bf 2) ?_
  refine AW.loop (fun y:{y:Nat×List (Int×Value) // y.1<=v.zones.length - i/\Cp1 v.zones i (fun z j=>decide (z.vec∈Dp v.zones it i) || (decide (j < i+y.1)&&decide (z.vec=x.vec))) y.2}=>⟨[(1,.iv (spI it)),(2,.ip [stI v.known,znI v.zones,wrI v.held,boI v.bodies,.val (.int .i64 v.room)]),(6,.own 2600),(7,.mv 2700),(8,.val (.int .i64 (i:Nat))),(9,.ip [.val (.int .i64 x.span.lo),.val (.int .i64 x.span.hi),stI x.vec]),(10,.iv (spI (Ch (Uo v.zones it i x.vec y.1.1)))),(28,.iv (znI v.zones)),(29,.val (.int .i64 (v.zones.length:Nat))),(30,.val (.int .i64 (i:Nat))),(49,.iv (znI (v.zones.drop i))),(50,.val (.int .i64 ((v.zones.drop i).length:Nat))),(51,.val (.int .i64 (y.1.1:Nat)))],[.mp 2700 .i64 y.1.2,.row 2600 37 4 ((Ua v it i).map enN)]⟩) (fun y=>v.zones.length - i - y.1.1) ⟨(0,kv),Nat.zero_le _,fun j y hj hy=>by rw [hk j y hj hy];simp;omega⟩ id ⟨⟨rfl,rfl,rfl,rfl,rfl,rfl,?_,rfl,rfl,rfl,rfl,rfl,rfl,trivial⟩,⟨rfl,rfl,trivial⟩,by simp [Aq,BA.id]⟩ fun ⟨⟨k,kv'⟩,hkl,hk'⟩=>?_
  ·show AV.iv (spI [])=AV.iv (spI (Ch (Uo v.zones it i x.vec 0)))
   rw [Bw3]
  simp only at hkl hk' ⊢
  repeat (refine AW.seq ?_)
  refine AW.reg rfl fun KK hKK=>?_
  refine g ?_
  repeat' (refine hKK _ (g ?_);clear hKK KK)
  repeat (refine AW.seq ?_)
  refine st_ rfl ?_
  refine g ?_
  refine Az (fun h=>?_) (fun h=>?_)
  ·have hlk:i+k < v.zones.length:=by omega
   obtain ⟨y,hy⟩ : ∃ y,v.zones[i+k]=y:=⟨_,rfl⟩
   have hgy:v.zones[i+k]? = some y:=by rw [List.getElem?_eq_getElem hlk,hy]
   have hgd:(v.zones.drop i)[k]? = some y:=by rw [List.getElem?_drop];exact hgy
   obtain ⟨u1,u2⟩:=hzI _ (List.getElem_mem hlk)
   have hfs:=Bw4 (it:=it) hlk x.vec
   have hfp:=C78 (it:=it) hlk
   rw [hx] at hfp
   rw [hy] at u1 u2 hfs hfp
   have hSl:=Ez (Uo v.zones it i x.vec k)
   have hMl:(Cw [y.span] it).length<=128:=Ez _
   have hmc:=Za [y.span] it
   have heq:=Wj y.vec x.vec
   obtain ⟨T,hT⟩ : ∃ T,Ch (Uo v.zones it i x.vec k)=T:=⟨_,rfl⟩
   obtain ⟨M,hM⟩ : ∃ M,Cw [y.span] it=M:=⟨_,rfl⟩
   rw [hT] at hSl hfp ⊢
   rw [hM] at hMl hfp hmc
   refine st_ rfl (g ?_)
   refine AW.seq ?_
   refine AW.block ?_
   repeat (refine AW.seq ?_)
   refine AW.reg rfl fun KK hKK=>?_
   refine g ?_
   refine ⟨by omega,_,C0 (f:=enZ) hgd,?_⟩
   refine g ?_
   repeat' (first | refine Ag (g ?_) | (refine hKK _ (g ?_);clear hKK KK))
   refine AW.freeze 1300 _ rfl ⟨u1,u2,trivial,trivial⟩ ?_
   simp only [go_sem,reduceIte,Nat.reduceEqDiff]
   refine g ?_
   repeat' (first | refine st_ rfl (g ?_) | refine Az (fun h=>g ?_) (fun h=>g ?_) | refine A9 (heq) rfl (g ?_))
   ·refine bd1 (by omega) rfl rfl rfl ⟨u1,u2,trivial⟩ ?_
    refine g ?_
    repeat' refine A9 (hmc) rfl (g ?_)
    refine bd2 (by omega) rfl rfl rfl ⟨trivial,trivial⟩ rfl rfl rfl ⟨trivial,trivial⟩ ?_
    refine g ?_
    repeat' (first | refine st_ rfl (g ?_) | refine A9 (C75 [T,M] (by simp [F5];omega)) rfl (g ?_))
    refine ⟨⟨(k+1,Rb kv' ((i:Int)+k) (.bool true)),by omega,fun j z hj hz=>?_⟩,id,⟨⟨rfl,rfl,rfl,rfl,rfl,rfl,?_,rfl,rfl,rfl,rfl,rfl,rfl,trivial⟩,⟨rfl,rfl,trivial⟩,by simp [Aq,BA.id]⟩,by show v.zones.length - i - (k+1) < v.zones.length - i - k;omega⟩
    ·rw [A56]
     by_cases e:j=i+k
     ·subst e
      rw [hgy] at hz
      cases hz
      rw [if_pos (by omega)]
      simp [h]
     ·rw [if_neg (by omega),hk' j z hj hz]
      simp only
      rw [show decide (j < i+(k+1))=decide (j < i+k) from decide_eq_decide.2 (by omega)]
    ·show AV.iv (spI _)=AV.iv (spI (Ch (Uo v.zones it i x.vec (k+1))))
     rw [Er (g:=fun o=>Uo v.zones it i x.vec k o || (Al [y.span] o&&Al it o)) fun o _=>by rw [hfs,decide_eq_true h,Bool.true_and],<-hfp]
     simp
   ·refine ⟨⟨(k+1,kv'),by omega,fun j z hj hz=>?_⟩,id,⟨⟨rfl,rfl,rfl,rfl,rfl,rfl,?_,rfl,rfl,rfl,rfl,rfl,rfl,trivial⟩,⟨rfl,rfl,trivial⟩,by simp [Aq,BA.id]⟩,by show v.zones.length - i - (k+1) < v.zones.length - i - k;omega⟩
    ·rw [hk' j z hj hz]
     by_cases e:j=i+k
     ·subst e
      rw [hgy] at hz
      cases hz
      simp [h]
     ·simp only
      rw [show decide (j < i+(k+1))=decide (j < i+k) from decide_eq_decide.2 (by omega)]
    ·show AV.iv (spI T)=AV.iv (spI (Ch (Uo v.zones it i x.vec (k+1))))
     rw [Er (g:=Uo v.zones it i x.vec k) fun o _=>by rw [hfs,decide_eq_false h,Bool.false_and,Bool.or_false],hT]
  ·obtain rfl:k=v.zones.length - i:=by omega
   rw [hall ht]
   have hsl:(Ua v it i).length<=257:=by
    unfold Ua
    rw [List.length_cons,List.length_map]
    omega
   refine AW.exit ?_
   simp only [reduceIte]
   refine g ?_
   repeat' (first | refine st_ rfl (g ?_) | refine A9 (hp1) rfl (g ?_))
   refine bs1 (by omega) rfl rfl rfl ⟨trivial,trivial,trivial,trivial,trivial⟩ ?_
   refine g ?_
   refine Bo rfl (by kernel_rfl) (by omega) (by kernel_rfl) rfl (by simp;omega) ?_
   refine g ?_
   repeat' refine st_ rfl (g ?_)
   refine ⟨⟨(i+1,kv'),hlt,fun j z hj hz9=>?_⟩,fun b=>if b=2600 then 8200 else b,⟨⟨rfl,rfl,rfl,rfl,rfl,rfl,rfl,trivial⟩,⟨rfl,?_,trivial⟩,by simp [Aq,BA.id]⟩,by show v.zones.length - (i+1) < v.zones.length - i;omega⟩
   ·have hjl:j < v.zones.length:=(List.getElem?_eq_some_iff.1 hz9).1
    simp only at hj
    rw [hk' j z (by omega) hz9,hz]
    simp only
    rw [decide_eq_true (p:=j < i+(v.zones.length - i)) (by omega),Bool.true_and]
    simp
   ·show some (BA.row _ _ _ _)=some (BA.row _ _ _ ((Ua v it (i+1)).map enN))
    unfold Ua
    rw [hz,List.map_append,<-List.cons_append,List.map_append]
    rfl
 ·obtain rfl:i=v.zones.length:=by omega
  have hs:Ua v it v.zones.length=Z5 v it:=by
   unfold Ua Z5
   rw [Bx3 hv]
  rw [hs]
  refine AW.exit ?_
  simp only [reduceIte]
  refine AW.freeze 2600 _ rfl trivial ?_
  simp only [go_sem,reduceIte,Nat.reduceEqDiff]
  refine g ?_
  repeat' refine st_ rfl (g ?_)
  subst hR
  exact Cm.rfl_ _
end Go.Proofs.YthlgnjlpakimaaaGreatDoor
