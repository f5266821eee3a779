/- The law StreamWants: who takes a batch knows as much as who takes the notes, and reads the interest alike. The card (second form: of bulk at most 1048576). -/
import Derived.Test.YthlgnjlpakimaaaGreatDoorVSumLaw
import Derived.Test.YthlgnjlpakimaaaGreatDoorVViewRead
import Derived.Test.YthlgnjlpakimaaaGreatDoorVAbsNil
import Derived.Test.YthlgnjlpakimaaaGreatDoorVRefLog
import Derived.Test.YthlgnjlpakimaaaGreatDoorVRefCopy13
import Derived.Test.YthlgnjlpakimaaaGreatDoorVBatch
import Derived.Test.YthlgnjlpakimaaaGreatDoorVAlive16
import Derived.Test.YthlgnjlpakimaaaGreatDoorVLogAll
import Derived.Test.YthlgnjlpakimaaaGreatDoorVTzLaid
set_option linter.all false
set_option linter.unnecessarySimpa false
set_option linter.unusedSimpArgs false
set_option linter.unusedVariables false
namespace Go.Proofs.YthlgnjlpakimaaaGreatDoor
structure D98 (v x:Br) (T:Nat->Bool):Prop where
 vf:VF x
 known:x.known=v.known
 reach:∀ o:Nat,o < 256->Bd x.zones x.known o=if T o=true then Bd v.zones v.known o else []
 held:∀ o:Nat,o < 256->E6 x.held o=if T o=true then E6 v.held o else none
 bodies:x.bodies=[]
def By5:Br:=⟨[],[],[],[],0⟩
theorem A30:VF By5:=Pa.1 (by decide)
theorem B36 {v : Br} (h : VF v) {o : Nat} (ho : o < 256) : Tp v o = if At (Bd v.zones v.known o) v.known = true then (match E6 v.held o with
      | none => ([], noW, 8)
      | some w => if w.gone = true then ([], w, 0) else ((Yv v.bodies o w.stamp).1, w, (Yv v.bodies o w.stamp).2)) else ([], noW, 9) := by
  have hr : Fo o = true := by simp [Fo]; omega
  have hs : By (Dr v.zones) o = !At (Bd v.zones v.known o) v.known := by
    unfold By
    rw [Bn0 h ho, decide_eq_true (by omega), Bool.true_and]
  unfold Tp
  rw [if_pos ⟨Pa.2 h, hr⟩, hs]
  cases At (Bd v.zones v.known o) v.known <;> rfl
attribute [local irreducible] Ft Gq Ra
structure K3 (it:List Ad) (a b:Br):Prop where
 va:VF a
 vb:VF b
 known:a.known=b.known
 reach:∀ o:Nat,o < 256->Ae it o=true->Bd a.zones a.known o=Bd b.zones b.known o
 held:∀ o:Nat,o < 256->Ae it o=true->E6 a.held o=E6 b.held o
 ba:a.bodies=[]
 bb:b.bodies=[]
theorem K3.refl {it:List Ad} {a:Br} (h:VF a) (hb:a.bodies=[]):K3 it a a:=⟨h,h,rfl,fun _ _ _=>rfl,fun _ _ _=>rfl,hb,hb⟩
theorem K3.trans {it:List Ad} {a b c:Br} (h:K3 it a b) (g:K3 it b c):K3 it a c :=
 ⟨h.va,g.vb,h.known.trans g.known,fun o ho hi=>(h.reach o ho hi).trans (g.reach o ho hi),fun o ho hi=>(h.held o ho hi).trans (g.held o ho hi),h.ba,g.bb⟩
structure R7 (it:List Ad) (m n:Aq):Prop where
 fm:Ag m=true
 fn:Ag n=true
 start:m.start=n.start
 end_ : m.end_ = n.end_
 blur:∀ o:Nat,o < 256->Ae it o=true->Ae m.blur o=Ae n.blur o
 told:∀ o:Nat,o < 256->Ae it o=true->E6 m.writes o=E6 n.writes o
theorem R7.refl {it:List Ad} {m:Aq} (h:Ag m=true):R7 it m m:=⟨h,h,rfl,rfl,fun _ _ _=>rfl,fun _ _ _=>rfl⟩
theorem Bl1 {m n:Aq} (h1:m.start=n.start) (h2:m.end_=n.end_) (v:List Aa):Hc v m=Hc v n:=by
 unfold Hc
 refine G5 fun k _=>?_
 unfold Eh
 rw [h1,h2]
theorem R7.then_ {it:List Ad} {a b:Br} {m n:Aq} (h:K3 it a b) (hn:R7 it m n) {o:Nat} (ho:o < 256) (hi:Ae it o=true):Cw a.zones a.known m o=Cw b.zones b.known n o:=by
 unfold Cw
 rw [hn.blur o ho hi,h.reach o ho hi]
 unfold J4
 rw [hn.told o ho hi,Bl1 hn.start hn.end_]
theorem Ab8 {v:Br} {n:Aq} (hv:VF v) (hn:Ag n=true) {o:Nat} (ho:o < 256):E6 (Mo v.held (Gg (Gq v n) (Bv v.known n) n)) o=match E6 n.writes o with
  | some w=>if Dv (Cw v.zones v.known n o) w.stamp=true then some (Am1 (E6 v.held o) w) else E6 v.held o
  | none=>E6 v.held o:=by
 have hr:∀ w∈Gg (Gq v n) (Bv v.known n) n,Di w=true:=Ks
 have hz:=Y4 hv n
 have hk:Ak (Bv v.known n)=true:=Ff _
 cases hg:E6 n.writes o with
 | none =>
  refine H5 hv.held hr fun w hw e=>?_
  have:=(Pw hn).2 ⟨(List.mem_filter.1 hw).1,e⟩
  rw [hg] at this
  cases this
 | some w =>
  obtain ⟨hw,he⟩:=(Pw hn).1 hg
  simp only
  have hiff:Ej (Gq v n) (Bv v.known n) w=true↔Dv (Cw v.zones v.known n o) w.stamp=true:=by
   rw [Na hz hk,he,Gu hv n ho]
   exact ⟨fun h=>h.2,fun h=>⟨by omega,h⟩⟩
  by_cases hh:Dv (Cw v.zones v.known n o) w.stamp=true
  ·rw [if_pos hh]
   have h1:=Am3 hv.held hr (B71 hn) w (List.mem_filter.2 ⟨hw,hiff.2 hh⟩)
   rw [he] at h1
   exact h1
  ·rw [if_neg hh]
   refine H5 hv.held hr fun u hu e=>?_
   have h2:=(Pw hn).2 ⟨(List.mem_filter.1 hu).1,e⟩
   rw [hg] at h2
   cases h2
   exact hh (hiff.1 (List.mem_filter.1 hu).2)
theorem K3.take {it:List Ad} {a b:Br} {m n:Aq} (h:K3 it a b) (hn:R7 it m n) (hc:At a.known m.start=true):(Cu a m).2=0/\(Cu b n).2=0/\K3 it (Cu a m).1 (Cu b n).1:=by
 obtain ⟨h1,e1⟩:=Rj h.va hn.fm hc
 obtain ⟨h2,e2⟩:=Rj h.vb hn.fn (by rw [<-h.known,<-hn.start];exact hc)
 have f1:=Pf h1
 have f2:=Pf h2
 refine ⟨h1,h2,f1,f2,?_,fun o ho hi=>?_,fun o ho hi=>?_,by rw [e1,h.ba];rfl,by rw [e2,h.bb];rfl⟩
 ·rw [e1,e2]
  show Dq _=Dq _
  rw [h.known,hn.end_]
 ·rw [e1,e2]
  simp only
  rw [Gu h.va m ho,Gu h.vb n ho]
  exact R7.then_ h hn ho hi
 ·rw [e1,e2]
  simp only
  rw [Ab8 h.va hn.fm ho,Ab8 h.vb hn.fn ho,hn.told o ho hi,R7.then_ h hn ho hi,h.held o ho hi]
theorem A49 {n:Aq} (it:List Ad) (h:Ag n=true):R7 it n (Dl n it):=by
 refine ⟨h,K5 it h,rfl,rfl,fun o ho hi=>?_,fun o ho hi=>?_⟩
 ·rw [show (Dl n it).blur=Gv n it from rfl,Jf,C3 _ ho]
  have:((F6 it n.writes).any fun p=>decide (p=(o:Int)))=false:=by
   rw [List.any_eq_false]
   intro p hp e
   obtain ⟨w,hw,rfl⟩:=List.mem_map.1 hp
   have h1:=(List.mem_filter.1 hw).2
   rw [of_decide_eq_true e] at h1
   unfold By at h1
   rw [hi,decide_eq_true (by omega)] at h1
   simp at h1
  rw [this,Bool.or_false]
 ·show n.writes.find? _=(n.writes.filter fun y=>By it y.object).find? _
  rw [List.find?_filter]
  congr 1
  funext w
  by_cases e:w.object=(o:Int)
  ·have:By it (o:Int)=true:=by
    unfold By
    rw [hi,decide_eq_true (by omega)]
    rfl
   simp [e,this]
  ·simp [e]
theorem Wp {v:Br} {n:Aq} (hw:n.writes=[]):Gg (Gq v n) (Bv v.known n) n=[]:=by simp [Gg,hw]
theorem Ao2 {it:List Ad} {c:Br} {x y:Aq} (hc:VF c) (hb:c.bodies=[]) (hx:Ag x=true) (hy:Ag y=true) (hg:Lr it x y=true) (h0:At c.known x.start=true) :
  (Cu c x).2=0/\(Cu (Cu c x).1 y).2=0/\(Cu c (Kx x y)).2=0/\K3 it (Cu (Cu c x).1 y).1 (Cu c (Kx x y)).1:=by
 simp only [Lr,Bool.and_eq_true,decide_eq_true_eq] at hg
 obtain ⟨⟨⟨hwx,hwy⟩,hse⟩,hbl⟩:=hg
 obtain ⟨h1,e1⟩:=Rj hc hx h0
 have f1:=Pf h1
 have k1:(Cu c x).1.known=Bv c.known x:=by rw [e1]
 have hs2:At (Cu c x).1.known y.start=true:=by
  rw [k1,<-hse]
  exact Cx.2 fun k hk=>by rw [Qv hk];omega
 obtain ⟨h2,e2⟩:=Rj f1 hy hs2
 obtain ⟨h3,e3⟩:=Rj hc (Qs hx hy) h0
 have f2:=Pf h2
 have f3:=Pf h3
 have cx:=(Cl.1 hx).2.2.1
 have cy:=(Cl.1 hy).2.2.1
 have held1:(Cu c x).1.held=c.held:=by rw [e1,Wp hwx];rfl
 have bod1:(Cu c x).1.bodies=[]:=by rw [e1,hb];rfl
 refine ⟨h1,h2,h3,f2,f3,?_,fun o ho hi=>?_,fun o ho hi=>?_,by rw [e2,bod1];rfl,by rw [e3,hb];rfl⟩
 ·rw [e2,e3,k1]
  show Eg _=Eg _
  refine G5 fun k hk=>?_
  rw [Kz,Kz,Qv hk]
  show _=max _ (A8 (Dq [x.end_,y.end_]) (k:Nat))
  rw [La _ hk,Kz]
  omega
 ·have r1:Bd (Cu c x).1.zones (Cu c x).1.known o=Cw c.zones c.known x o:=by rw [e1];exact Gu hc x ho
  rw [e2,e3]
  try simp only
  rw [Gu f1 y ho,Gu hc (Kx x y) ho]
  unfold Cw at r1 ⊢
  have hbo:Ae x.blur o=Ae y.blur o:=by
   have:Ae (Ci x.blur it) (o:Int)=Ae (Ci y.blur it) (o:Int):=by rw [hbl]
   unfold Ci at this
   rw [C3 _ ho,C3 _ ho,hi,Bool.and_true,Bool.and_true] at this
   exact this
  have hbm:Ae (Kx x y).blur o=Ae x.blur o:=by
   show Ae (Ba (x.blur++y.blur)) o=_
   rw [show Ba (x.blur++y.blur)=C8 fun o=>Ae (x.blur++y.blur) o from rfl,C3 _ ho,Cn,<-hbo,Bool.or_self]
  rw [hbm,<-hbo,r1]
  split
  ·rfl
  ·rename_i hnb
   unfold J4
   rw [hwx,hwy,show (Kx x y).writes=[] from rfl,show E6 [] (o:Int)=none from rfl]
   simp only
   generalize Bd c.zones c.known o=r
   show Eg _=Eg _
   refine G5 fun k hk=>?_
   have q1:=Cx.1 cx k hk
   have q2:=Cx.1 cy k hk
   have q3:=Ny r x hk
   have q4:A8 (Kx x y).end_ (k:Nat)=max (A8 x.end_ (k:Nat)) (A8 y.end_ (k:Nat)):=by
    show A8 (Dq [x.end_,y.end_]) (k:Nat)=_
    rw [La _ hk,Kz]
   unfold Eh at q3 ⊢
   rw [q3,q4,<-hse,show (Kx x y).start=x.start from rfl]
   rw [<-hse] at q2
   split<;>split<;>omega
 ·rw [e2,e3,Wp (n:=y) hwy,Wp (n:=Kx x y) rfl,held1]
theorem Fh (v:Br) (n:Aq) (l:List Aq):Bt v (n :: l)=if (Cu v n).2=0 then Bt (Cu v n).1 l else (v,false):=by rw [Bt]
theorem J3:∀ {l m:List Aq} {v:Br},(Bt v l).2=true->Bt v (l++m)=Bt (Bt v l).1 m
 | [],_,_,_=>rfl
 | n :: l,m,v,h=>by
  rw [Fh] at h
  rw [List.cons_append,Fh,Fh v n l]
  split at h
  ·rename_i h0
   rw [if_pos h0,if_pos h0]
   exact J3 h
  ·cases h
theorem Lb {l:List Aq} {v:Br} {n:Aq} (h:(Bt v l).2=true) (h0:(Cu (Bt v l).1 n).2=0):Bt v (l++[n])=((Cu (Bt v l).1 n).1,true):=by
 rw [J3 h,Bt,if_pos h0]
 rfl
theorem Lv {l m:List Aq} {v:Br} (h:(Bt v (l++m)).2=true):(Bt v l).2=true:=by
 induction l generalizing v with
 | nil=>rfl
 | cons n l ih =>
  rw [List.cons_append,Fh] at h
  rw [Fh]
  split at h
  ·rename_i h0
   rw [if_pos h0]
   exact ih h
  ·cases h
theorem Rh:∀ {l:List Aq} {v:Br},(Bt v l).2=true->(Bt v l).1.known=Db v.known l
 | [],_,_=>rfl
 | n :: l,v,h=>by
  rw [Fh] at h ⊢
  split at h
  ·rename_i h0
   rw [if_pos h0,Rh h]
   have:=(Pg h0).2.2.2
   rw [this]
   rfl
  ·cases h
theorem Th {it:List Ad} : ∀ {l:List Aq} {a b:Br},K3 it a b->C7 a.known l=true->(Bt a l).2=true/\(Bt b (l.map fun n=>Dl n it)).2=true/\K3 it (Bt a l).1 (Bt b (l.map fun n=>Dl n it)).1
 | [],_,_,h,_=>⟨rfl,rfl,h⟩
 | n :: l,a,b,h,hn=>by
  simp only [C7,Bool.and_eq_true] at hn
  obtain ⟨h1,h2,h3⟩:=h.take (A49 it hn.1.1) hn.1.2
  rw [List.map_cons,Bt,Bt,if_pos h1,if_pos h2]
  refine Th h3 ?_
  have:=(Pg h1).2.2.2
  rw [this]
  exact hn.2
theorem Tr (it:List Ad):∀ {l:List Aq} {k:List Aa},C7 k l=true->C7 k (l.map fun n=>Dl n it)=true
 | [],_,_=>rfl
 | n :: l,k,h=>by
  simp only [C7,Bool.and_eq_true,List.map_cons] at h ⊢
  exact ⟨⟨K5 it h.1.1,h.1.2⟩,Tr it h.2⟩
theorem Ri {it:List Ad} {b:Br} (hb:VF b) (h0:b.bodies=[]):∀ (k:Nat) (l:List Aq),k<=l.length->C7 b.known l=true ->
  (Bt b (l.take k)).2=true/\(Bt b (Ha it [] (l.take k))).2=true/\(∀ n∈Ha it [] (l.take k),Ag n=true)/\K3 it (Bt b (l.take k)).1 (Bt b (Ha it [] (l.take k))).1
 | 0,l,_,_=>⟨rfl,rfl,fun n hn=>by simp [Ha] at hn,K3.refl hb h0⟩
 | k+1,l,hk,hl=>by
  obtain ⟨h1,h2,h3,h4⟩:=Ri hb h0 k l (by omega) hl
  obtain ⟨n,hn⟩ : ∃ n,l[k]=n:=⟨_,rfl⟩
  have ht:l.take (k+1)=l.take k++[n]:=by rw [List.take_succ_eq_append_getElem (by omega),hn]
  have hfk:Ag n=true:=hn ▸ Nv hl _ (List.getElem_mem (by omega))
  have hck:At (Bt b (l.take k)).1.known n.start=true:=by
   rw [Rh h1]
   have h5:=hl
   rw [<-List.take_append_drop k l,Dp,Bool.and_eq_true,List.drop_eq_getElem_cons (show k < l.length by omega),hn] at h5
   have h6:=h5.2
   simp only [C7,Bool.and_eq_true] at h6
   exact h6.1.2
  obtain ⟨g1,g2,g3⟩:=h4.take (R7.refl (it:=it) hfk) hck
  have hf:Ha it [] (l.take k++[n])=G6 it (Ha it [] (l.take k)) n:=by
   unfold Ha
   rw [List.foldl_append]
   rfl
  rw [ht,hf,Lb h1 g1]
  obtain ⟨O,hO⟩ : ∃ O,Ha it [] (l.take k)=O:=⟨_,rfl⟩
  rw [hO] at h2 h3 h4 g2 g3 ⊢
  have hplain:(Bt b (O++[n])).2=true/\(∀ x∈O++[n],Ag x=true)/\K3 it (Cu (Bt b (l.take k)).1 n).1 (Bt b (O++[n])).1:=by
   rw [Lb h2 g2]
   refine ⟨rfl,fun x hx=>?_,g3⟩
   rcases List.mem_append.1 hx with hx | hx
   ·exact h3 x hx
   ·rw [List.mem_singleton.1 hx];exact hfk
  refine ⟨rfl,?_⟩
  unfold G6
  split
  ·rename_i z hz
   split
   ·rename_i hg
    have hl2:=Pt hz
    obtain ⟨D,hD⟩ : ∃ D,O.dropLast=D:=⟨_,rfl⟩
    rw [hD] at hl2 ⊢
    subst hl2
    have hz2:Ag z=true:=h3 z (by simp)
    have hd:=Lv h2
    have hzt:(Cu (Bt b D).1 z).2=0:=by
     rw [J3 hd,Bt] at h2
     split at h2
     ·assumption
     ·cases h2
    obtain ⟨hcv,_,hcs,_⟩:=Pg hzt
    have hcb:(Bt b D).1.bodies=[]:=by
     have:∀ (D:List Aq) (v:Br),v.bodies=[]->(Bt v D).1.bodies=[]:=by
      intro D
      induction D with
      | nil=>exact fun v h=>h
      | cons x D ih =>
       intro v h
       rw [Fh]
       split
       ·rename_i h9
        refine ih _ ?_
        rw [(Pg h9).2.2.2,h]
        rfl
       ·exact h
     exact this D b h0
    obtain ⟨m1,m2,m3,m4⟩:=Ao2 hcv hcb hz2 hfk hg hcs
    have e2:(Bt b (D++[z])).1=(Cu (Bt b D).1 z).1:=by rw [Lb hd hzt]
    rw [e2] at g3
    rw [Lb hd m3]
    refine ⟨rfl,fun x hx=>?_,g3.trans m4⟩
    rcases List.mem_append.1 hx with hx | hx
    ·exact h3 x (List.mem_append_left _ hx)
    ·rw [List.mem_singleton.1 hx];exact Qs hz2 hfk
   ·exact hplain
  ·exact hplain
theorem K3.reads {it:List Ad} {a b:Br} (h:K3 it a b) {o:Nat} (ho:o < 256) (hi:Ae it o=true):Tp a o=Tp b o:=by
 rw [B36 h.va ho,B36 h.vb ho,h.reach o ho hi,h.known,h.held o ho hi,h.ba,h.bb]
end Go.Proofs.YthlgnjlpakimaaaGreatDoor
namespace Go.Proofs.YthlgnjlpakimaaaGreatDoor
attribute [local irreducible] Ft Gq Ra
def De (l:Log):Br:=⟨l.base,[],[],[],0⟩
def at_ (x:Br) (l:List Aq) (i:Nat):Br:=(Bt x (l.take i)).1
theorem Bs2 {l:Log} (h:Ak l.base=true):VF (De l) where
 known:=h
 zones:=A30.zones
 held:=by
  have:=A30.held
  exact this
 cache:=A30.cache
 below:=fun x hx=>by cases hx
 reached:=fun x hx=>by cases hx
 wanted:=fun x hx=>by cases hx
theorem Ah3 {x:Br} {l:List Aq} (h:(Bt x l).2=true) {i:Nat} (hi:i < l.length):Cu (at_ x l i) l[i]=(at_ x l (i+1),0):=by
 have e:l=l.take (i+1)++l.drop (i+1):=(List.take_append_drop _ _).symm
 have h1:(Bt x (l.take (i+1))).2=true:=by
  rw [e] at h
  exact Lv h
 rw [List.take_succ_eq_append_getElem hi] at h1
 have h2:=Lv h1
 have h3:(Cu (Bt x (l.take i)).1 l[i]).2=0:=by
  rw [J3 h2,Bt] at h1
  split at h1
  ·assumption
  ·cases h1
 unfold at_
 rw [List.take_succ_eq_append_getElem hi,Lb h2 h3]
 exact Prod.ext rfl h3
theorem Cl5 {x:Br} (hx:VF x) {l:List Aq} : (Bt x l).2=true->VF (Bt x l).1:=by
 induction l generalizing x with
 | nil=>exact fun _=>hx
 | cons n l ih =>
  intro h
  rw [Fh] at h ⊢
  split at h
  ·rename_i h0
   rw [if_pos h0]
   exact ih (Pf h0) h
  ·cases h
theorem Bd6 {x:Br} (hb:x.bodies=[]) {l:List Aq} : (Bt x l).1.bodies=[]:=by
 induction l generalizing x with
 | nil=>exact hb
 | cons n l ih =>
  rw [Fh]
  split
  ·rename_i h0
   refine ih ?_
   rw [(Pg h0).2.2.2,hb]
   rfl
  ·exact hb
theorem Aj2 (it:List Ad) (out:List Aq) (x:Aq):(G6 it out x).length<=out.length+1:=by
 unfold G6
 split
 ·split
  ·rw [List.length_append,List.length_dropLast]
   simp only [List.length_cons,List.length_nil]
   omega
  ·simp
 ·simp
theorem Bb8 (it:List Ad) (l:List Aq):∀ out:List Aq,(Ha it out l).length<=out.length+l.length:=by
 induction l with
 | nil=>exact fun out=>Nat.le_refl _
 | cons x l ih =>
  intro out
  have h1:=ih (G6 it out x)
  have h2:=Aj2 it out x
  have h3:Ha it out (x :: l)=Ha it (G6 it out x) l:=rfl
  rw [h3,List.length_cons]
  omega
theorem C86 {l:Log} (hf:C0 l=true) (h60:l.notes.length<=60) {k:Nat} (hk:(k:Int)<=l.sure) (it:List Ad) :
  (Bt (De l) l.notes).2=true/\Mz l k it 100=((N0 l k it 100).1,l.sure,0)/\(N0 l k it 100).1.length<=60 /\
   (Bt (at_ (De l) l.notes k) (N0 l k it 100).1).2=true/\K3 it (at_ (De l) l.notes l.sure.toNat) (Bt (at_ (De l) l.notes k) (N0 l k it 100).1).1:=by
 have hf':=hf
 simp only [C0,Bool.and_eq_true,Y5,decide_eq_true_eq] at hf'
 obtain ⟨⟨hb,hs0,hs1⟩,hn⟩:=hf'
 obtain ⟨s,hs⟩ : ∃ s:Nat,l.sure=s:=⟨l.sure.toNat,by omega⟩
 rw [hs] at hk hs1
 have hk':k<=s:=by omega
 have hs':s<=l.notes.length:=by omega
 have hsn:l.sure.toNat=s:=by omega
 have hv:=Bs2 hb
 obtain ⟨h1,-,-,-⟩:=Ri (it:=it) hv rfl l.notes.length l.notes (Nat.le_refl _) hn
 rw [List.take_length] at h1
 have e1:l.notes=l.notes.take k++l.notes.drop k:=(List.take_append_drop _ _).symm
 have hk1:(Bt (De l) (l.notes.take k)).2=true:=by
  rw [e1] at h1
  exact Lv h1
 obtain ⟨b,hbv⟩ : ∃ b,at_ (De l) l.notes k=b:=⟨_,rfl⟩
 have hbf:VF b:=hbv ▸ Cl5 hv hk1
 have hbb:b.bodies=[]:=hbv ▸ Bd6 rfl
 have hbk:b.known=Db l.base (l.notes.take k):=by rw [<-hbv];exact Rh hk1
 -- the notes told
 obtain ⟨L,hL⟩ : ∃ L,(l.notes.take s).drop k=L:=⟨_,rfl⟩
 have hLe:(Fg l it).drop k=L.map fun n=>Dl n it:=by
  unfold Fg
  rw [hsn,<-List.map_drop,hL]
 have hLl:L.length=s - k:=by rw [<-hL,List.length_drop,List.length_take,Nat.min_eq_left hs']
 have hLn:C7 b.known L=true:=by
  have e2:l.notes=l.notes.take k++(L++l.notes.drop s):=by
   have:l.notes.take s=l.notes.take k++L:=by
    rw [<-hL]
    conv=>lhs;rw [<-List.take_append_drop k (l.notes.take s)]
    rw [List.take_take,Nat.min_eq_left hk']
   rw [<-List.append_assoc,<-this,List.take_append_drop]
  have h9:C7 l.base (l.notes.take k++(L++l.notes.drop s))=true:=by rw [<-e2];exact hn
  rw [Dp,Dp,Bool.and_eq_true,Bool.and_eq_true] at h9
  rw [hbk]
  exact h9.2.1
 have hle:(N0 l k it 100)=(Ha it [] (L.map fun n=>Dl n it),s):=by
  unfold N0
  rw [Int.toNat_natCast,hLe,A67 (by simp only [List.length_nil,List.length_map];omega),List.length_map,hLl]
  congr 1
  omega
 obtain ⟨t1,t2,t3⟩:=Th (it:=it) (K3.refl hbf hbb) hLn
 have t4:=Ri (it:=it) hbf hbb L.length (L.map fun n=>Dl n it) (by rw [List.length_map];exact Nat.le_refl _) (Tr it hLn)
 rw [List.take_of_length_le (by rw [List.length_map];exact Nat.le_refl _)] at t4
 obtain ⟨-,u2,-,u4⟩:=t4
 have hask:Bn3 l k 100=true:=by
  simp only [Bn3,Bool.and_eq_true,decide_eq_true_eq]
  exact ⟨⟨⟨hf,by omega⟩,by omega⟩,by omega⟩
 rw [hbv,hle]
 refine ⟨h1,?_,?_,u2,?_⟩
 ·unfold Mz
  rw [if_pos hask,hle,hs]
 ·have:=Bb8 it (L.map fun n=>Dl n it) []
  rw [List.length_map,List.length_nil] at this
  show (Ha it [] _).length<=60
  omega
 ·have:at_ (De l) l.notes l.sure.toNat=(Bt b L).1:=by
   unfold at_
   rw [hsn,show l.notes.take s=l.notes.take k++L from ?_,J3 hk1]
   ·rw [<-hbv];rfl
   ·rw [<-hL]
    conv=>lhs;rw [<-List.take_append_drop k (l.notes.take s)]
    rw [List.take_take,Nat.min_eq_left hk']
  rw [this]
  exact t3.trans u4
end Go.Proofs.YthlgnjlpakimaaaGreatDoor
namespace Go.Proofs.YthlgnjlpakimaaaGreatDoor
open Go.ChangeShapes Go.WideShapes Go.ChangeAt Go.RowKit
section
variable {P : Program} {G : World -> Prop} {σ : Ah} {V w0 : World} {n : Nd} {ro : Option Nat} {K : Exit -> Ah -> Prop}
theorem AW.subB {c:Code} (b:Nat) {cs cs':List AV} (hb:Cm b σ.bk=some (.box b cs)) (hl:cs.length=cs'.length) (hsb:∀ p∈cs.zip cs',D1 p.1 p.2) (h:AW P G ro V w0 n c ⟨σ.fr,Dg b [.box b cs'] σ.bk⟩ K):AW P G ro V w0 n c σ K:=fun hG m0 E a w hn hs=>by
 obtain ⟨pre,post,e1,e2,e3⟩:=D9 hb
 obtain ⟨fr,bk⟩:=σ
 simp only at e1 e3 hs h
 have e4:=e3 [.box b cs']
 subst e1
 rw [e4] at h
 have hs4:=hs.rebox (cs':=cs') fun vs hv=>As.sub hv hl.symm (Bs6.get hl hsb)
 exact h hG m0 _ a w hn (by simpa using hs4)
end
attribute [local irreducible] AW AWY Cf Bf vop Bw Bh Bx qop Cg Cz Az Aw C5 A7 Bl Cj
attribute [local go_sem] Lk Ce Lm Jp Kj Fl Ap Ar
theorem D47 {n:Int} (h1:-9223372036854775808<=n) (h2:n<=9223372036854775807):IntKind.i64.wrap n=n:=Ap5 h1 h2
theorem D29 (x y:Operand) (n m:Int) (h0:0<=n) (hm:0 < m) (h1:m < 1000000) (w:World):(do eqGuard .rem 3 x y (.int .i64 n) (.int .i64 m);binOp .rem 3 (.int .i64 n) (.int .i64 m):Sem Value).run Tryz.prog w=.ok (.int .i64 (n % m)) w:=by
 have h:Int.tmod n m=n % m:=Int.tmod_eq_emod_of_nonneg h0
 have h2:n % m < m:=Int.emod_lt_of_pos n hm
 have h3:0<=n % m:=Int.emod_nonneg n (by omega)
 have i:I64 (n % m):=I64.of (by omega) (by omega)
 have hm0:m≠0:=by omega
 go_simp
theorem Zk:∀ (l:List Aq) (x:Br),I64 x.room->I64 (Bt x l).1.room
 | [],_,h=>h
 | n :: l,x,h=>by
  unfold Bt
  split
  ·exact Zk l _ (B73 x n h)
  ·exact h
set_option maxRecDepth 100000 in
set_option maxHeartbeats 800000 in
theorem Bk0 (l:Log) (at0:Int) (it:List Ad) (iS:I64 l.sure) (a0:0<=at0) (a1:at0<=255):A7 Tryz.prog A9 9 [Ug l,.val (.int .u8 at0),.iv (spI it)] (.val (.bool true)) []:=by
 refine A7.of (n:=162) (rs:=[.tmp 6]) Tryz.func9 rfl (by kernel_rfl) Tryz.ntmps9 (by kernel_rfl) (by simp) (fun _ _=>A9.later) ?_
 intro hok V w0
 refine g ?_
 refine AW.seq ?_
 refine AW.reg rfl fun KK hKK=>?_
 refine g ?_
 repeat' (refine hKK _ (g ?_);clear hKK KK)
 refine AW.freeze 400 _ rfl ⟨trivial,trivial,iS,trivial⟩ ?_
 simp only [go_sem,reduceIte,Nat.reduceEqDiff]
 refine g ?_
 repeat' (first | refine st_ rfl (g ?_) | exact trivial | refine Bq (fun h=>g ?_) (fun h=>g ?_) | (refine G9 rfl rfl (fun h=>?_) (fun h=>?_)<;>simp only [h]<;>refine g ?_) | refine Ab (A46) rfl (g ?_) | refine Ab (Nu l iS) rfl (g ?_))
 have hF:C0 l=true:=by simpa using ‹(!C0 l)=false›
 have hF':=hF
 simp only [C0,Bool.and_eq_true,Y5,decide_eq_true_eq] at hF'
 obtain ⟨⟨hbf,hs0,hs1⟩,hnf⟩:=hF'
 have h60:l.notes.length<=60:=by omega
 refine ⟨l.sure+1,D47 (by omega) (by omega),?_⟩
 refine g ?_
 repeat' refine Am (g ?_)
 refine ⟨.int .i64 (at0 % (l.sure+1)),fun w=>D29 (.tmp 42) (.tmp 45) _ _ a0 (by omega) (by omega) w,?_⟩
 obtain ⟨k,hk⟩ : ∃ k:Nat,at0 % (l.sure+1)=k:=⟨(at0 % (l.sure+1)).toNat,(Int.toNat_of_nonneg (Int.emod_nonneg _ (by omega))).symm⟩
 have hks:(k:Int)<=l.sure:=by have:=Int.emod_lt_of_pos at0 (show 0 < l.sure+1 by omega);omega
 rw [hk]
 obtain ⟨w1,w2,w3,w4,w5⟩:=C86 hF h60 hks it
 have hbc:=Ur l k it 100 iS (I64.of (by omega) (by omega)) rfl
 unfold Sg at hbc
 rw [w2] at hbc
 obtain ⟨O,hO⟩ : ∃ O,(N0 l k it 100).1=O:=⟨_,rfl⟩
 rw [hO] at w3 w4 w5 hbc
 simp only at hbc
 have hrm:∀ (x:Br) (m:List Aq) (i:Nat),I64 x.room->I64 (at_ x m i).room:=fun x m i h=>Zk _ _ h
 refine g ?_
 repeat' (first | refine st_ rfl (g ?_) | refine Am (g ?_) | refine Ab (N9 l.base) rfl (g ?_))
 refine AW.subB (cs':=[.iv (stI l.base),.iv (znI []),.iv (wrI []),.iv (boI []),.val (.int .i64 0)]) 900 rfl rfl (fun p hp=>?_) ?_
 ·simp only [List.zip_cons_cons,List.zip_nil_right,List.mem_cons,List.not_mem_nil,or_false] at hp
  rcases hp with rfl | rfl | rfl | rfl | rfl
  ·exact D1.rfl_ _
  ·exact Cs _
  ·exact Cs _
  ·exact Cs _
  ·exact D1.rfl_ _
 refine AW.loop (fun i:{i:Nat // i<=k}=>⟨[(2,.iv (spI it)),(3,.ip [stI l.base,.sl 4 (l.notes.map enN),.val (.int .i64 l.sure)]),(7,.val (.int .i64 (k:Nat))),(8,.bp 900 0),(9,.val (.int .i64 (i.1:Nat)))],[.box 900 [.iv (stI (at_ (De l) l.notes i.1).known),.iv (znI (at_ (De l) l.notes i.1).zones),.iv (wrI (at_ (De l) l.notes i.1).held),.iv (boI (at_ (De l) l.notes i.1).bodies),.val (.int .i64 (at_ (De l) l.notes i.1).room)]]⟩) (fun i=>k - i.1) ⟨0,Nat.zero_le _⟩ id ⟨⟨rfl,rfl,rfl,rfl,rfl,trivial⟩,⟨rfl,trivial⟩,by simp [Au,BA.id]⟩ fun ⟨i,hi⟩=>?_
 simp only
 repeat (refine AW.seq ?_)
 refine AW.reg rfl fun KK hKK=>?_
 refine g ?_
 repeat' (refine hKK _ (g ?_);clear hKK KK)
 repeat (refine AW.seq ?_)
 refine st_ rfl ?_
 refine g ?_
 refine Bq (fun h=>?_) (fun h=>?_)
 ·have hlt:i < l.notes.length:=by omega
  have htk:=Ty (at_ (De l) l.notes i) l.notes[i] (hrm _ _ _ rfl)
  rw [Ah3 w1 hlt] at htk
  simp only at htk
  have hgn:l.notes[i]? = some l.notes[i]:=List.getElem?_eq_getElem hlt
  obtain ⟨n,hn⟩ : ∃ n,l.notes[i]=n:=⟨_,rfl⟩
  rw [hn] at htk hgn
  refine st_ rfl (g ?_)
  refine AW.seq ?_
  refine AW.block ?_
  repeat (refine AW.seq ?_)
  refine AW.drawn (ds:=[57,58,59,60,61,62,63,56,64,65,10,11]) (fin:=[0,2]) (bs:=[1,1,1,1,1,1,1,1,1,1,1,2,3]) [⟨[],[],[0],[],0⟩,⟨[],[],[],[],0⟩,⟨[(58,1)],[],[0],[],0⟩,⟨[],[],[],[],0⟩,⟨[(59,2),(60,3)],[],[0],[],0⟩,⟨[(61,4)],[],[0],[],0⟩,⟨[(57,0),(62,5)],[],[0],[],0⟩,⟨[(63,6)],[],[],[],0⟩,⟨[(56,7)],[],[],[],0⟩,⟨[(56,7)],[],[],[],0⟩,⟨[],[],[],[],1⟩,⟨[(10,10),(64,8)],[],[],[1],1⟩,⟨[(65,9)],[],[],[],0⟩] (by kernel_rfl) rfl (by kernel_rfl) rfl rfl rfl fun KD hKD=>?_
  refine g ?_
  repeat' refine ix_ (by omega) (g ?_)
  rw [hn]
  refine g ?_
  repeat' (first | refine st_ rfl (g ?_) | (refine hKD _ _ ⟨rfl,g ?_⟩;clear hKD KD) | refine Ab (htk) rfl (g ?_))
  exact ⟨⟨i+1,by omega⟩,id,⟨⟨rfl,rfl,rfl,rfl,rfl,trivial⟩,⟨rfl,trivial⟩,by simp [Au,BA.id]⟩,by show k - (i+1) < k - i;omega⟩
 have hik:i=k:=by omega
 rw [hik]
 refine AW.exit ?_
 simp only [reduceIte]
 have hra:=hrm (De l) l.notes k rfl
 refine g ?_
 repeat' (first | refine st_ rfl (g ?_) | refine Ab (Ae2 _ hra) rfl (g ?_))
 refine AW.loop (fun i:{i:Nat // k<=i/\(i:Int)<=l.sure}=>⟨[(2,.iv (spI it)),(3,.ip [stI l.base,.sl 4 (l.notes.map enN),.val (.int .i64 l.sure)]),(7,.val (.int .i64 (k:Nat))),(8,.bp 900 0),(12,.bp 1300 0),(13,.val (.int .i64 (i.1:Nat)))],[.box 1300 [.iv (stI (at_ (De l) l.notes k).known),.iv (znI (at_ (De l) l.notes k).zones),.iv (wrI (at_ (De l) l.notes k).held),.iv (boI (at_ (De l) l.notes k).bodies),.val (.int .i64 (at_ (De l) l.notes k).room)],.box 900 [.iv (stI (at_ (De l) l.notes i.1).known),.iv (znI (at_ (De l) l.notes i.1).zones),.iv (wrI (at_ (De l) l.notes i.1).held),.iv (boI (at_ (De l) l.notes i.1).bodies),.val (.int .i64 (at_ (De l) l.notes i.1).room)]]⟩) (fun i=>l.sure.toNat - i.1) ⟨k,Nat.le_refl _,hks⟩ id ⟨⟨rfl,rfl,rfl,rfl,rfl,rfl,trivial⟩,⟨rfl,rfl,trivial⟩,by simp [Au,BA.id]⟩ fun ⟨i,hi0,hi⟩=>?_
 simp only
 repeat (refine AW.seq ?_)
 refine AW.reg rfl fun KK hKK=>?_
 refine g ?_
 repeat' (refine hKK _ (g ?_);clear hKK KK)
 repeat (refine AW.seq ?_)
 refine st_ rfl ?_
 refine g ?_
 refine Bq (fun h=>?_) (fun h=>?_)
 ·have hlt:i < l.notes.length:=by omega
  have htk:=Ty (at_ (De l) l.notes i) l.notes[i] (hrm _ _ _ rfl)
  rw [Ah3 w1 hlt] at htk
  simp only at htk
  have hgn:l.notes[i]? = some l.notes[i]:=List.getElem?_eq_getElem hlt
  obtain ⟨n,hn⟩ : ∃ n,l.notes[i]=n:=⟨_,rfl⟩
  rw [hn] at htk hgn
  refine st_ rfl (g ?_)
  refine AW.seq ?_
  refine AW.block ?_
  repeat (refine AW.seq ?_)
  refine AW.drawn (ds:=[79,80,81,82,83,84,85,78,86,87,14,15]) (fin:=[0,1,3]) (bs:=[2,2,2,2,2,2,2,2,2,2,2,3,4]) [⟨[],[],[0,1],[],0⟩,⟨[],[],[],[],0⟩,⟨[(80,1)],[],[0,1],[],0⟩,⟨[],[],[],[],0⟩,⟨[(81,2),(82,3)],[],[0,1],[],0⟩,⟨[(83,4)],[],[0,1],[],0⟩,⟨[(79,0),(84,5)],[],[0,1],[],0⟩,⟨[(85,6)],[],[],[],0⟩,⟨[(78,7)],[],[],[],0⟩,⟨[(78,7)],[],[],[],0⟩,⟨[],[],[],[],1⟩,⟨[(14,10),(86,8)],[],[],[2],1⟩,⟨[(87,9)],[],[],[],0⟩] (by kernel_rfl) rfl (by kernel_rfl) rfl rfl rfl fun KD hKD=>?_
  refine g ?_
  repeat' refine ix_ (by omega) (g ?_)
  rw [hn]
  refine g ?_
  repeat' (first | refine st_ rfl (g ?_) | (refine hKD _ _ ⟨rfl,g ?_⟩;clear hKD KD) | refine Ab (htk) rfl (g ?_))
  exact ⟨⟨i+1,by omega,by omega⟩,id,⟨⟨rfl,rfl,rfl,rfl,rfl,rfl,trivial⟩,⟨rfl,rfl,trivial⟩,by simp [Au,BA.id]⟩,by show l.sure.toNat - (i+1) < l.sure.toNat - i;omega⟩
 have hik:i=l.sure.toNat:=by omega
 rw [hik]
 refine AW.exit ?_
 simp only [reduceIte]
 refine g ?_
 repeat' (first | refine st_ rfl (g ?_) | refine Ab (hbc) rfl (g ?_))
 have hrb:∀ j:Nat,I64 (at_ (at_ (De l) l.notes k) O j).room:=fun j=>hrm _ _ _ hra
 refine AW.loop (fun j:{j:Nat // j<=O.length}=>⟨[(2,.iv (spI it)),(8,.bp 900 0),(12,.bp 1300 0),(16,.iv (noI O)),(19,.val (.int .i64 (j.1:Nat)))],[.box 1300 [.iv (stI (at_ (at_ (De l) l.notes k) O j.1).known),.iv (znI (at_ (at_ (De l) l.notes k) O j.1).zones),.iv (wrI (at_ (at_ (De l) l.notes k) O j.1).held),.iv (boI (at_ (at_ (De l) l.notes k) O j.1).bodies),.val (.int .i64 (at_ (at_ (De l) l.notes k) O j.1).room)],.box 900 [.iv (stI (at_ (De l) l.notes l.sure.toNat).known),.iv (znI (at_ (De l) l.notes l.sure.toNat).zones),.iv (wrI (at_ (De l) l.notes l.sure.toNat).held),.iv (boI (at_ (De l) l.notes l.sure.toNat).bodies),.val (.int .i64 (at_ (De l) l.notes l.sure.toNat).room)]]⟩) (fun j=>O.length - j.1) ⟨0,Nat.zero_le _⟩ id ⟨⟨rfl,rfl,rfl,rfl,rfl,trivial⟩,⟨rfl,rfl,trivial⟩,by simp [Au,BA.id]⟩ fun ⟨j,hj⟩=>?_
 simp only
 repeat (refine AW.seq ?_)
 refine AW.reg rfl fun KK hKK=>?_
 refine g ?_
 repeat' (refine hKK _ (g ?_);clear hKK KK)
 repeat (refine AW.seq ?_)
 refine st_ rfl ?_
 refine g ?_
 refine Bq (fun h=>?_) (fun h=>?_)
 ·have hlt:j < O.length:=by omega
  have htk:=Ty (at_ (at_ (De l) l.notes k) O j) O[j] (hrb j)
  rw [Ah3 w4 hlt] at htk
  simp only at htk
  obtain ⟨n,hn⟩ : ∃ n,O[j]=n:=⟨_,rfl⟩
  have hgn:O[j]? = some n:=by rw [List.getElem?_eq_getElem hlt,hn]
  rw [hn] at htk
  refine st_ rfl (g ?_)
  refine AW.seq ?_
  refine AW.block ?_
  repeat (refine AW.seq ?_)
  refine AW.drawn (ds:=[114,115,116,117,118,119,113,120,121,20,21]) (fin:=[0,1,3]) (bs:=[2,2,2,2,2,2,2,2,2,2,3,4]) [⟨[],[],[0,1],[],0⟩,⟨[],[],[],[],0⟩,⟨[],[],[],[],0⟩,⟨[(115,1),(116,2)],[],[0,1],[],0⟩,⟨[(117,3)],[],[0,1],[],0⟩,⟨[(114,0),(118,4)],[],[0,1],[],0⟩,⟨[(119,5)],[],[],[],0⟩,⟨[(113,6)],[],[],[],0⟩,⟨[(113,6)],[],[],[],0⟩,⟨[],[],[],[],1⟩,⟨[(20,9),(120,7)],[],[],[2],1⟩,⟨[(121,8)],[],[],[],0⟩] (by kernel_rfl) rfl (by kernel_rfl) rfl rfl rfl fun KD hKD=>?_
  refine g ?_
  repeat' refine ix_ (by omega) (g ?_)
  rw [hn]
  refine g ?_
  repeat' (first | refine st_ rfl (g ?_) | (refine hKD _ _ ⟨rfl,g ?_⟩;clear hKD KD) | refine Ab (htk) rfl (g ?_))
  exact ⟨⟨j+1,hlt⟩,id,⟨⟨rfl,rfl,rfl,rfl,rfl,trivial⟩,⟨rfl,rfl,trivial⟩,by simp [Au,BA.id]⟩,by show O.length - (j+1) < O.length - j;omega⟩
 have hjl:j=O.length:=by omega
 rw [hjl]
 refine AW.exit ?_
 simp only [reduceIte]
 have hbe:at_ (at_ (De l) l.notes k) O O.length=(Bt (at_ (De l) l.notes k) O).1:=by
  unfold at_
  rw [List.take_length]
 rw [hbe]
 have hrb':=hrb O.length
 rw [hbe] at hrb'
 have hra':=hrm (De l) l.notes l.sure.toNat rfl
 generalize (Bt (at_ (De l) l.notes k) O).1=b at w5 hrb' ⊢
 generalize at_ (De l) l.notes l.sure.toNat=a at w5 hra' ⊢
 have hkn:=w5.known
 have hvs:=N8 a.known b.known
 rw [decide_eq_true hkn] at hvs
 refine g ?_
 repeat' (first | refine st_ rfl (g ?_) | refine Ab (hvs) rfl (g ?_) | refine Ab (Hf it) rfl (g ?_))
 refine ⟨Bj _,Cj _,V6 _,Vr _,by simp [rep],?_⟩
 rw [Wz (by rw [Bj];simp [rep])]
 refine g ?_
 repeat' (first | refine st_ rfl (g ?_) | refine Am (g ?_))
 refine AW.freeze 900 _ rfl ⟨trivial,trivial,trivial,trivial,hra',trivial⟩ ?_
 simp only [go_sem,reduceIte,Nat.reduceEqDiff]
 refine AW.freeze 1300 _ rfl ⟨trivial,trivial,trivial,trivial,hrb',trivial⟩ ?_
 simp only [go_sem,reduceIte,Nat.reduceEqDiff]
 refine AW.freeze 2300 _ rfl trivial ?_
 simp only [go_sem,reduceIte,Nat.reduceEqDiff]
 refine AW.loop (fun m:{m:Nat // m<=256}=>⟨[(8,.ip [stI a.known,znI a.zones,wrI a.held,boI a.bodies,.val (.int .i64 a.room)]),(12,.ip [stI b.known,znI b.zones,wrI b.held,boI b.bodies,.val (.int .i64 b.room)]),(22,.ip (Cj fun o=>Ae it o)),(23,.val (.int .i64 (m.1:Nat)))],[]⟩) (fun m=>256 - m.1) ⟨0,Nat.zero_le _⟩ id ⟨⟨rfl,rfl,rfl,rfl,trivial⟩,trivial,by simp [Au]⟩ fun ⟨m,hm⟩=>?_
 simp only
 repeat (refine AW.seq ?_)
 refine AW.reg rfl fun KK hKK=>?_
 refine g ?_
 repeat' (refine hKK _ (g ?_);clear hKK KK)
 repeat (refine AW.seq ?_)
 refine st_ rfl ?_
 refine g ?_
 refine Bq (fun h=>?_) (fun h=>?_)
 ·have hm':m < 256:=by omega
  have im:I64 (m:Nat):=I64.of (by omega) (by omega)
  refine st_ rfl (g ?_)
  refine g ?_
  repeat' refine st_ rfl (g ?_)
  refine ⟨by omega,by omega,?_⟩
  rw [Nat.mul_one,Int.toNat_natCast]
  refine g ?_
  repeat' refine Am (g ?_)
  refine F2 (Cv hm') ?_
  have hra2:=Zc a (m:Nat) hra' im
  have hrb2:=Zc b (m:Nat) hrb' im
  cases hb:Ae it m
  ·refine g ?_
   repeat' refine st_ rfl (g ?_)
   exact ⟨⟨m+1,hm'⟩,id,⟨⟨rfl,rfl,rfl,rfl,trivial⟩,trivial,by simp [Au]⟩,by show 256 - (m+1) < 256 - m;omega⟩
  ·rw [<-w5.reads hm' hb] at hrb2
   generalize Tp a (m:Nat)=Q at hra2 hrb2
   obtain ⟨y,w,e⟩:=Q
   obtain ⟨⟨wc,wn⟩,wo,wg⟩:=w
   simp only at hra2 hrb2
   refine g ?_
   repeat' (first | refine st_ rfl (g ?_) | refine Ab (hra2) rfl (g ?_) | refine Ab (hrb2) rfl (g ?_))
   refine ⟨_,fun z=>Be1 _ _ _ _ _ _ z,?_⟩
   refine g ?_
   repeat' (first | refine st_ rfl (g ?_) | refine Am (g ?_))
   exact ⟨⟨m+1,hm'⟩,id,⟨⟨rfl,rfl,rfl,rfl,trivial⟩,trivial,by simp [Au]⟩,by show 256 - (m+1) < 256 - m;omega⟩
 ·refine AW.exit ?_
  simp only [reduceIte]
  refine g ?_
  repeat' (first | refine st_ rfl (g ?_) | exact trivial)
end Go.Proofs.YthlgnjlpakimaaaGreatDoor
namespace Go.Proofs.YthlgnjlpakimaaaGreatDoor
open Go.ChangeShapes Go.WideShapes Go.ChangeAt Go.RowKit
namespace cStreamWants
set_option maxRecDepth 100000 in
theorem contract (H : Type) (enc : TypeId × Value -> H) (W : World) (base : Nat) (args : Array Value) (ds gs : List (DataW H)) (before : List MemPlace)
    (hval : ∀ (j : Nat) t v, Tryz.f9.params[j]? = some t -> args[j]? = some v -> Value.okWide Tryz.prog W .any base t v)
    (hW : DataW.Whole enc Tryz.prog Tryz.f9.params.toList Rows.streamWantsSpec.vars false W args.toList ds gs before) (hk : Rows.uptoSmall H (ds ++ gs) = true) (hL : laidMetH Tryz.prog Rows.streamWantsRow.laid W) :
    Calls Tryz.prog 9 args W fun e W' => ∃ v, e = .returned v /\ Rows.streamWantsSpec.post enc Tryz.prog Tryz.f9 false true false false W args v W' := by
  have hW' := hW
  obtain ⟨p, q, hA0, hV, rfl, hfz, hnd⟩ := hW
  have hA : DataW.TrodAll enc Tryz.prog W 0 (fun _ => true) true Tryz.f9.params.toList args.toList ds p := hA0
  rw [Tryz.params9] at hA hval
  obtain ⟨v0, vs0, d0, ds0, p0, q0, hargs, rfl, rfl, h0, r0⟩ := trodAll_cons hA
  obtain ⟨v1, vs1, d1, ds1, p1, q1, rfl, rfl, rfl, h1, r1⟩ := trodAll_cons r0
  obtain ⟨v2, vs2, d2, ds2, p2, q2, rfl, rfl, rfl, h2, r2⟩ := trodAll_cons r1
  obtain ⟨rfl, rfl, rfl⟩ := trodAll_nil r2
  obtain rfl : args = #[v0, v1, v2] := by cases args; simp_all
  obtain ⟨rfl, rfl⟩ := trodVars_none hV
  have hpart := Zu hk
  obtain ⟨cs0, rfl, hs0⟩ := okWide_struct Tryz.underlying62 (hval 0 _ v0 rfl rfl)
  obtain ⟨n0, hn0⟩ := h0
  obtain ⟨_, x0, ua, ub, e0, hLB, hLN, iS⟩ := Aa4 (w := W) H enc n0 _ _ ⟨hn0, hpart d0 (by simp)⟩
  obtain rfl : cs0 = #[ua, ub, .int .i64 x0.sure] := Array.toList_inj.1 (by simpa only [Value.cells] using e0)
  obtain ⟨a1, rfl, rfl, rfl, w1⟩ := open_int Tryz.underlying5 (hval 1 _ v1 rfl rfl) h1
  obtain ⟨_, _, _, rfl⟩ := okWide_slice Tryz.underlying35 (hval 2 _ v2 rfl rfl)
  obtain ⟨n2, hn2⟩ := h2
  obtain ⟨_, l2, u2, hv2, hl2⟩ := Yg (w := W) H enc n2 _ _ ⟨hn2, hpart d2 (by simp)⟩
  simp only [Value.cells, List.cons.injEq, and_true] at hv2
  subst hv2
  have hT : A9 W := Zg (by kernel_rfl) hL
  clear hA0
  refine ((Bk0 x0 a1 l2 iS (by simp [Lit.wf, IntKind.max, IntKind.min, IntKind.signed, IntKind.bits] at w1; omega) (by simp [Lit.wf, IntKind.max, IntKind.min, IntKind.signed, IntKind.bits] at w1; omega)).law hT (As.cons (B41 hLB hLN) (As.cons .val (As.cons (.iv (A79 hl2 (Nat.le_refl _))) As.nil)))).mono fun e W' ⟨he, hb⟩ => ?_
  subst he
  exact ⟨_, rfl, Ao7 B43 (by kernel_rfl) (by kernel_rfl) Tryz.underlying4 rfl rfl rfl rfl hW' hb⟩
theorem laid_met (os:Os):laidMet Tryz.prog Rows.streamWantsRow.laid ((Sm os).forCall (fun _ _=>0) ⟨#[],#[.agg #[.slice none 0 0,.slice none 0 0,.int .i64 0],.int .u8 0,.slice none 0 0],[]⟩).memory :=
  laidMet_of_run' 8 (by kernel_rfl) (by kernel_rfl)
theorem reads (os:Os) {H:Type} (enc:TypeId×Value->H):∃ places,DataW.whole enc Tryz.prog ((Sm os).forCall (fun _ _=>0) ⟨#[],#[.agg #[.slice none 0 0,.slice none 0 0,.int .i64 0],.int .u8 0,.slice none 0 0],[]⟩).memory Tryz.f9.params.toList Rows.streamWantsSpec.vars false (#[.agg #[.slice none 0 0,.slice none 0 0,.int .i64 0],.int .u8 0,.slice none 0 0]:Array Value).toList 8=some ([.agg [.nil,.nil,.lit (.int .i64 0)],.lit (.int .u8 0),.nil],[],places) :=
  ⟨[],by kernel_rfl⟩
set_option maxRecDepth 100000 in
theorem lifted (os : Os) (started : os.Started) (H : Type) (enc : TypeId × Value -> H) (F : Stop.Interp) :
    ReturnsInHanded {} Tryz.checked os 9 .any ((Rows.OpenSpec.upto Rows.streamWantsSpec).preRow enc Tryz.prog Tryz.f9 Rows.streamWantsUptoRow.domain false Rows.streamWantsUptoRow.laid) (((Rows.OpenSpec.upto Rows.streamWantsSpec).at F).post enc Tryz.prog Tryz.f9 false true false false) := by
  obtain ⟨places, hx⟩ := reads os enc
  refine returnsInHanded_of_row (C := Tryz.checked) (s := Rows.OpenSpec.upto Rows.streamWantsSpec) own started (by kernel_rfl) Tryz.func9
    (witness_row_at (enc := enc) (C := Tryz.checked) false (Sm os) #[.agg #[.slice none 0 0, .slice none 0 0, .int .i64 0], .int .u8 0, .slice none 0 0] rfl (by kernel_rfl) (by kernel_rfl) (by kernel_rfl)
      (OpenSpec.preRow_of_cond 8 hx (by kernel_rfl) (fun k hk => by cases hk; kernel_rfl) (by kernel_rfl) (laid_met os))) ?_
  intro W base args ds gs before hval hW _ hcond _ hL _ _
  exact contract H enc W base args ds gs before hval hW (hcond _ rfl) hL
theorem c1:laidOutB Tryz.pinned.checked.prog=true:=by kernel_rfl
theorem c2:mapsRowed Tryz.pinned.checked.prog=true:=by kernel_rfl
theorem c3:(Rows.streamWantsUptoRow.inPlace==Tryz.pinned.checked.prog.inPlace 9)=true:=by kernel_rfl
theorem c4:(Rows.streamWantsUptoRow.unfollowed==Tryz.pinned.checked.prog.unfollowed 9)=true:=by kernel_rfl
theorem c5:(Rows.streamWantsUptoRow.recurses==Tryz.pinned.checked.prog.recurses 9)=true:=by kernel_rfl
theorem c6:(Rows.streamWantsUptoRow.named==Tryz.pinned.checked.prog.varsNamed 9)=true:=by kernel_rfl
theorem closed:joinedFacts Tryz.pinned.checked.prog 9 Tryz.f9 (Rows.OpenSpec.upto Rows.streamWantsSpec).bare Rows.streamWantsUptoRow=true:=by
  unfold joinedFacts
  rw [c1,c2,c3,c4,c5,c6]
  kernel_rfl
theorem said:Rows.StreamWantsUptoSaid :=
  OpenClaim.holds_of_cond 9 Tryz.f9 rfl rfl rfl rfl rfl rfl rfl ⟨rfl,rfl,rfl,rfl,rfl⟩ rfl rfl rfl rfl rfl (by kernel_rfl) Tryz.func9 closed
    (of_decide_eq_true (by kernel_rfl)) (by unfold Func.isWrapper;first | (rw [if_pos (by decide +kernel)];kernel_rfl) | (rw [if_neg (by decide +kernel)];exact ⟨rfl,rfl⟩))
    (fun os started H enc _ F=>by rw [OpenClaim.pre_eq_preRow];exact lifted os started H enc F)
theorem plain (f : FuncId) (fn : Func) (hf : Tryz.pinned.checked.prog.funcNamed "telltale/telltalelaw16.StreamWants" = some f) (hfn : Tryz.pinned.checked.prog.funcs[f]? = some fn) :
    false = Tryz.pinned.checked.prog.looks [] /\ ∀ (j : Nat) t, fn.params[j]? = some t -> Tryz.pinned.checked.prog.wantsStandIn t = false := by
  obtain rfl : f = 9 := Option.some.inj ((show Tryz.prog.funcNamed "telltale/telltalelaw16.StreamWants" = some 9 by kernel_rfl).symm.trans hf) |>.symm
  obtain rfl : fn = Tryz.f9 := (Option.some.inj (Tryz.func9.symm.trans hfn)).symm
  refine ⟨by kernel_rfl, fun j t ht => ?_⟩
  rw [Tryz.params9] at ht
  have hm := Array.mem_of_getElem? ht
  simp at hm
  rcases hm with rfl | rfl | rfl
  · exact (show Tryz.prog.wantsStandIn 62 = false by kernel_rfl)
  · exact (show Tryz.prog.wantsStandIn 5 = false by kernel_rfl)
  · exact (show Tryz.prog.wantsStandIn 35 = false by kernel_rfl)
theorem card:Rows.StreamWantsUptoCardSaid :=
  Claim7.holds_tied_plain_at .later [] _ _ _ _ said (fun _ h=>by cases h) (by as_aux_lemma=>kernel_rfl) (fun _ h=>by cases h) streamWantsUpto_row_tie rfl ⟨rfl,rfl⟩ (by as_aux_lemma=>kernel_rfl) rfl plain (by as_aux_lemma=>kernel_rfl)
#print axioms card
end cStreamWants
end Go.Proofs.YthlgnjlpakimaaaGreatDoor
