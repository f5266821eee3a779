/- The sum of a view: its notes, that they are formed, and what they make of a view that takes them. Plain. -/
import Derived.Test.YthlgnjlpakimaaaGreatDoorQViewLaw3
set_option linter.all false
set_option linter.unnecessarySimpa false
set_option linter.unusedSimpArgs false
set_option linter.unusedVariables false
namespace Go.Proofs.YthlgnjlpakimaaaGreatDoor
theorem Bc6 (v:List Ab) (n:At):He (He v n) n=He v n:=by
 refine Fq fun k hk=>?_
 have h:=L7 v n hk
 rw [Ec,h]
 unfold Ec
 (repeat' split)<;>omega
theorem Av4 (v:List Ab) (n:At) (o:Int):G1 (G1 v n o) n o=G1 v n o:=by
 unfold G1
 cases D5 n.writes o with
 | none=>exact Bc6 v n
 | some w =>
  simp only
  by_cases h:Dr (He v n) w.stamp=true
  ·rw [if_pos h,Bc6,if_pos h]
  ·rw [if_neg h,if_neg h]
theorem A99 {f g:Nat->Option (List Ab)} : ∀ {k:Nat},(∀ o,o < k->f o=g o)->Nv f k=Nv g k
 | 0,_=>rfl
 | k+1,h=>by rw [Nv,Nv,A99 (k:=k) fun o ho=>h o (by omega),h k (by omega)]
theorem Am0 {f g:Nat->Option (List Ab)} (h:∀ o,o < 256->f o=g o):Et f=Et g:=by rw [Et,Et,A99 h]
theorem Ap8 {l m:List Ai} (hl:Shelf l) (hm:Shelf m) (h:∀ o,D5 l o=D5 m o):l=m :=
 Ta hl hm fun w=>by
  constructor
  ·intro hw
   exact ((Cq hm).1 ((h w.object) ▸ (Cq hl).2 ⟨hw,rfl⟩)).1
  ·intro hw
   exact ((Cq hl).1 ((h w.object).symm ▸ (Cq hm).2 ⟨hw,rfl⟩)).1
theorem J5 (w:Ai):Gm w w=false:=by
 unfold Gm A06 orI Ty
 simp
theorem By1 (u:Option Ai) (w:Ai):Th (some (Th u w)) w=Th u w:=by
 unfold Th
 cases u with
 | none=>simp [J5]
 | some u =>
  simp only
  by_cases h:Gm u w=true
  ·rw [if_pos h,J5];simp
  ·rw [if_neg h,if_neg h]
theorem S9:∀ {list l:List Ai},Shelf l->(∀ w∈list,Do w=true)->list.Pairwise (fun a b=>a.object < b.object)->∀ w∈list,D5 (Kr l list) w.object=some (Th (D5 l w.object) w)
 | [],_,_,_,_,_,hw=>by cases hw
 | u :: list,l,h,hr,hp,w,hw=>by
  obtain ⟨p1,p2⟩:=List.pairwise_cons.1 hp
  have h1:=(S8 h (hr u (by simp))).1
  have hr2:∀ x∈list,Do x=true:=fun x hx=>hr x (by simp [hx])
  show D5 (Kr (Lb l u) list) w.object=_
  rcases List.mem_cons.1 hw with rfl | hw
  ·rw [F8 h1 hr2 fun x hx e=>by have:=p1 x hx;omega,Ax6 h (hr w (by simp)),if_pos rfl]
  ·rw [S9 h1 hr2 p2 w hw,Ax6 h (hr u (by simp)),if_neg fun e=>by have:=p1 w hw;omega]
theorem A27 {z:List Av} {k:List Ab} {n:At} (h:Ae n=true):(Gh z k n).Pairwise (fun a b=>a.object < b.object) :=
 ((Fz.1 (Cs.1 h).2.2.2.2).2).sublist List.filter_sublist
theorem By3 {list l:List Ai} (h:Shelf l) (hr:∀ w∈list,Do w=true) (hp:list.Pairwise (fun a b=>a.object < b.object)):Kr (Kr l list) list=Kr l list:=by
 have h1:=Ll (list:=list) h hr
 refine Ap8 (Ll h1 hr) h1 fun o=>?_
 by_cases ho:∃ w∈list,w.object=o
 ·obtain ⟨w,hw,rfl⟩:=ho
  rw [S9 h1 hr hp w hw,S9 h hr hp w hw,By1]
 ·exact F8 h1 hr fun w hw e=>ho ⟨w,hw,e⟩
theorem Aj1 (known:List Ab) (n:At):Bi (Bi known n) n=Bi known n:=by
 refine Fq fun k hk=>?_
 rw [Gf,Gf,Qq hk]
 omega
theorem Bk6 {v:B8} (h:VF v) (n:At) {o:Nat} (ho:o < 256):Cp (F7 v n) (Bi v.known n) n o=Cp v.zones v.known n o:=by
 have h1:=Fs h n ho
 unfold Cp at h1 ⊢
 split
 ·rename_i hb
  rw [h1,if_pos hb]
 ·rename_i hb
  rw [if_neg hb] at h1
  rw [h1,Av4]
theorem Ad9 (v:B8) (n:At):F7 v n=Et (Ex v.zones v.known n):=rfl
attribute [local irreducible] Et F7 in
theorem Q9 {v:B8} {n:At} (hv:VF v) (hn:Ae n=true) (hc:Ay v.known n.start=true):(Bd v n).2=0 /\
  (Bd v n).1=⟨Bi v.known n,F7 v n,Kr v.held (Gh (F7 v n) (Bi v.known n) n),v.bodies.filter (fun x=>Dm (Kr v.held (Gh (F7 v n) (Bi v.known n) n)) x),v.room⟩:=by
 have e:Kl v.zones v.known n=(F7 v n,Bi v.known n,0):=by rw [Kl,if_pos (by simp [T5,hv.zones,hv.known,hn]),if_pos hc,Ad9]
 rw [Bd,if_pos (Ja.2 hv),e,if_pos rfl]
 exact ⟨rfl,rfl⟩
attribute [local irreducible] Et F7 in
theorem Bh4 {v:B8} {n:At} (h:(Bd v n).2=0):Bd (Bd v n).1 n=((Bd v n).1,0):=by
 obtain ⟨hv,hn,hc,e⟩:=M3 h
 have hy:=Jd h
 have h0:=Q9 hy hn (by rw [e];exact Tv (A52 _ n) hc)
 refine Prod.ext_iff.2 ⟨?_,h0.1⟩
 rw [h0.2]
 have hz:F7 (Bd v n).1 n=F7 v n:=by
  rw [e]
  refine (Ad9 _ n).trans ((Am0 fun o ho=>?_).trans (Ad9 v n).symm)
  show Ex (F7 v n) (Bi v.known n) n o=Ex v.zones v.known n o
  unfold Ex
  rw [Bk6 hv n ho,Aj1]
 have hk:Bi (Bd v n).1.known n=Bi v.known n:=by rw [e];exact Aj1 _ n
 rw [hz,hk,e]
 simp only
 rw [By3 hv.held Hw (A27 hn),List.filter_filter]
 simp
theorem Ab4 {v:B8} (h:VF v) {o:Int} {u:List Ab} : InZ v.zones o u↔∃ k:Nat,k < 256/\o=k/\Bb v.zones v.known k=u/\Ay u v.known=false:=by
 constructor
 ·rintro ⟨x,hx,h1,h2,rfl⟩
  have hp:=(Ew h.zones).2 x hx
  have hok:=F3 h.zones x hx
  simp only [Cu,Bool.and_eq_true,decide_eq_true_eq] at hok
  simp only [Bu] at hp
  obtain ⟨i,hi,rfl⟩:=List.mem_iff_getElem.1 hx
  refine ⟨o.toNat,by omega,by omega,?_,(h.below _ hx).1⟩
  exact Uy h.zones v.known hi (by omega)
 ·rintro ⟨k,hk,rfl,e,hc⟩
  unfold Bb at e
  split at e
  ·rename_i x hx
   have hh:=List.find?_some hx
   simp only [Av.has,Bool.and_eq_true,decide_eq_true_eq] at hh
   exact ⟨x,List.mem_of_find?_eq_some hx,hh.1,hh.2,e⟩
  ·rw [<-e,Ka] at hc
   cases hc
theorem Ac8 {a b:B8} (ha:VF a) (hb:VF b) (hk:a.known=b.known) (h:∀ o:Nat,o < 256->Bb a.zones a.known o=Bb b.zones b.known o):a.zones=b.zones :=
 Ss ha.zones hb.zones fun o u=>by
  rw [Ab4 ha,Ab4 hb,hk]
  rw [hk] at h
  exact ⟨fun ⟨k,h1,h2,h3,h4⟩=>⟨k,h1,h2,(h k h1) ▸ h3,h4⟩,fun ⟨k,h1,h2,h3,h4⟩=>⟨k,h1,h2,(h k h1).symm ▸ h3,h4⟩⟩
theorem Bf5 {v:B8} (h:VF v) {o:Nat} (ho:o < 256):Al (E5 v.zones) o=!Ay (Bb v.zones v.known o) v.known:=by
 unfold E5
 rw [if_pos h.zones,show Br (v.zones.map (·.span))=Ch fun o=>Al (v.zones.map (·.span)) o from rfl,Cc _ ho,Bool.eq_iff_iff,Mf]
 constructor
 ·rintro ⟨s,hs,h1,h2⟩
  obtain ⟨x,hx,rfl⟩:=List.mem_map.1 hs
  obtain ⟨k,hk,e,h3,h4⟩:=(Ab4 h).1 ⟨x,hx,h1,h2,rfl⟩
  obtain rfl:o=k:=by omega
  rw [h3,h4]
  rfl
 ·intro hc
  obtain ⟨x,hx,h1,h2,_⟩:=(Ab4 h).2 ⟨o,ho,rfl,rfl,by simpa using hc⟩
  exact ⟨x.span,List.mem_map_of_mem hx,h1,h2⟩
end Go.Proofs.YthlgnjlpakimaaaGreatDoor
namespace Go.Proofs.YthlgnjlpakimaaaGreatDoor
def Dg (v:B8) (r:List Ab) (f:Nat->Bool):At:=⟨[],r,Ch fun o=>!f o,Fi v.held (Ch f)⟩
theorem Ar9 (v:B8) (r:List Ab) (f:Nat->Bool):(Dg v r f).blur=Ch fun o=>!f o:=rfl
theorem Bs0 (v:B8) (r:List Ab) {f:Nat->Bool} {o:Nat} (ho:o < 256):Al (Dg v r f).blur o=!f o:=by rw [Ar9,Cc _ ho]
def Mq (v:B8) (it:List Ad) (o:Nat):Bool:=Al it o&&Al (E5 v.zones) o
def Gb (v:B8) (it:List Ad) (o:Nat):Bool:=Al it o&&!Al (E5 v.zones) o
def Cr (v:B8) (it:List Ad):Nat->List (List Ab)
 | 0=>[]
 | m+1=>Cr v it m++if Mq v it m=true/\Bb v.zones v.known m∉Cr v it m then [Bb v.zones v.known m] else []
def Ga (v:B8) (it:List Ad) (r:List Ab) (o:Nat):Bool:=Mq v it o&&decide (Bb v.zones v.known o=r)
def Z5 (v:B8) (it:List Ad):List At:=Dg v v.known (Gb v it) :: (Cr v it 256).map fun r=>Dg v r (Ga v it r)
def Ae3 (v:B8) (it:List Ad):List At×Int:=if Af v=true then (Z5 v it,0) else ([],1)
theorem Np {v:B8} {it:List Ad} {r:List Ab} : ∀ {m:Nat},r∈Cr v it m↔∃ o,o < m/\Mq v it o=true/\Bb v.zones v.known o=r
 | 0=>by simp [Cr]
 | m+1=>by
  rw [Cr,List.mem_append,Np]
  constructor
  ·rintro (⟨o,h1,h2⟩ | h)
   ·exact ⟨o,by omega,h2⟩
   ·split at h
    ·rename_i hb
     exact ⟨m,by omega,hb.1,(List.mem_singleton.1 h).symm⟩
    ·cases h
  ·rintro ⟨o,h1,h2,h3⟩
   rcases Nat.lt_or_ge o m with h | h
   ·exact .inl ⟨o,h,h2,h3⟩
   ·obtain rfl:o=m:=by omega
    by_cases hi:Bb v.zones v.known o∈Cr v it o
    ·exact .inl (h3 ▸ Np.1 hi)
    ·right
     rw [if_pos ⟨h2,hi⟩,h3]
     simp
theorem Nq (v:B8) (it:List Ad):∀ m,(Cr v it m).length<=m
 | 0=>Nat.le_refl _
 | m+1=>by
  have:=Nq v it m
  rw [Cr,List.length_append]
  split<;>simp<;>omega
theorem Xm {l:List Ai} {f:Nat->Bool} {w:Ai} (h:Shelf l):w∈Fi l (Ch f)↔w∈l/\∃ k:Nat,k < 256/\w.object=k/\f k=true:=by
 unfold Fi
 rw [List.mem_filter]
 constructor
 ·rintro ⟨h1,h2⟩
  unfold By at h2
  rw [Bool.and_eq_true] at h2
  exact ⟨h1,J6 h2.2⟩
 ·rintro ⟨h1,k,h2,h3,h4⟩
  refine ⟨h1,?_⟩
  unfold By
  rw [h3,Bool.and_eq_true,decide_eq_true_eq,Cc _ h2]
  exact ⟨by omega,h4⟩
structure U5 (v:B8) (r:List Ab) (f:Nat->Bool):Prop where
 formed:Ak r=true
 below:Ay v.known r=true
 told:∀ o:Nat,o < 256->f o=true->Bb v.zones v.known o=r
theorem N5 (r:List Ab):Ay r []=true:=Ca.2 fun n _=>Di r n
theorem U5.has {v:B8} (hv:VF v) {r:List Ab} {f:Nat->Bool} (h:U5 v r f) {w:Ai} (hw:w∈(Dg v r f).writes):w∈v.held/\(∃ k:Nat,k < 256/\w.object=k/\f k=true)/\Dr r w.stamp=true:=by
 obtain ⟨h1,k,h2,h3,h4⟩:=(Xm hv.held).1 hw
 refine ⟨h1,⟨k,h2,h3,h4⟩,?_⟩
 have:=hv.reached w h1
 rwa [h3,h.told k h2 h4] at this
theorem V2 {v:B8} (hv:VF v) {r:List Ab} {f:Nat->Bool} (h:U5 v r f):Ae (Dg v r f)=true:=by
 refine Cs.2 ⟨rfl,h.formed,N5 r,by rw [Ar9];exact Bt _,Fz.2 ⟨fun w hw=>?_,hv.held.1.sublist List.filter_sublist⟩⟩
 obtain ⟨h1,⟨k,h2,h3,h4⟩,h5⟩:=h.has hv hw
 refine ⟨by omega,by omega,by omega,?_,h5⟩
 rw [h3]
 unfold By
 rw [Bs0 v r h2,h4]
 simp
theorem Ax7 {v:B8} (hv:VF v) (it:List Ad):U5 v v.known (Gb v it):=⟨hv.known,Ka _,fun o ho h=>by
 unfold Gb at h
 rw [Bool.and_eq_true,Bf5 hv ho,Bool.not_not] at h
 exact M0 (Uz hv.zones hv.known _) hv.known h.2 (hv.reach_le o)⟩
theorem Aw7 {v:B8} (hv:VF v) (it:List Ad) {r:List Ab} (hr:r∈Cr v it 256):U5 v r (Ga v it r):=by
 obtain ⟨o,ho,_,rfl⟩:=Np.1 hr
 exact ⟨Uz hv.zones hv.known _,hv.reach_le _,fun p hp h=>by
  unfold Ga at h
  rw [Bool.and_eq_true,decide_eq_true_eq] at h
  exact h.2⟩
theorem B41 {v:B8} (hv:VF v) (it:List Ad):∀ n∈Z5 v it,Ae n=true:=fun n hn=>by
 rcases List.mem_cons.1 hn with rfl | hn
 ·exact V2 hv (Ax7 hv it)
 ·obtain ⟨r,hr,rfl⟩:=List.mem_map.1 hn
  exact V2 hv (Aw7 hv it hr)
theorem C20 {v:B8} (hv:VF v) {r:List Ab} {f:Nat->Bool} {o:Nat} (ho:o < 256):D5 (Dg v r f).writes o=if f o=true then D5 v.held o else none:=by
 have hs:Shelf (Dg v r f).writes:=⟨hv.held.1.sublist List.filter_sublist,fun w hw=>hv.held.2 w (List.mem_filter.1 hw).1⟩
 split
 ·rename_i hf
  cases hg:D5 v.held o with
  | none =>
   cases hg2:D5 (Dg v r f).writes o with
   | none=>rfl
   | some w =>
    obtain ⟨a,b⟩:=(Cq hs).1 hg2
    have:=(Cq hv.held).2 ⟨(List.mem_filter.1 a).1,b⟩
    rw [hg] at this;cases this
  | some w =>
   obtain ⟨a,b⟩:=(Cq hv.held).1 hg
   exact (Cq hs).2 ⟨(Xm hv.held).2 ⟨a,o,ho,b,hf⟩,b⟩
 ·rename_i hf
  cases hg2:D5 (Dg v r f).writes o with
  | none=>rfl
  | some w =>
   obtain ⟨a,b⟩:=(Cq hs).1 hg2
   obtain ⟨_,k,_,h3,h4⟩:=(Xm hv.held).1 a
   obtain rfl:o=k:=by omega
   exact absurd h4 hf
theorem A29 {v x:B8} (hv:VF v) (hx:VF x) {r:List Ab} {f:Nat->Bool} (h:U5 v r f) (hk:∀ o:Nat,o < 256->f o=true->Ay r (Bb x.zones x.known o)=true) :
  (Bd x (Dg v r f)).2=0/\(Bd x (Dg v r f)).1.known=E4 [x.known,r]/\(∀ o:Nat,o < 256->Bb (Bd x (Dg v r f)).1.zones (Bd x (Dg v r f)).1.known o=if f o=true then r else Bb x.zones x.known o) /\
  (Bd x (Dg v r f)).1.held=Kr x.held (Dg v r f).writes/\(Bd x (Dg v r f)).1.bodies=x.bodies.filter (fun y=>Dm (Kr x.held (Dg v r f).writes) y)/\(Bd x (Dg v r f)).1.room=x.room:=by
 have hn:=V2 hv h
 obtain ⟨h0,e⟩:=Q9 hx hn (N5 _)
 have hreach:∀ o:Nat,o < 256->Cp x.zones x.known (Dg v r f) o=if f o=true then r else Bb x.zones x.known o:=fun o ho=>by
  unfold Cp
  rw [Bs0 v r ho]
  cases hf:f o with
  | false=>rfl
  | true =>
   have hfar:He (Bb x.zones x.known o) (Dg v r f)=r:=by
    refine M0 (E7 _) h.formed (Ca.2 fun k hk2=>?_) (Ca.2 fun k hk2=>?_)
    all_goals
     have h1:=Ca.1 (hk o ho hf) k hk2
     have h2:=Di (Bb x.zones x.known o) k
     rw [L7 _ _ hk2,Ec,if_pos (by exact h2)]
     show _<=_
     simp only [Dg]
     omega
   simp only [Bool.not_true,Bool.false_eq_true,if_false,if_true]
   unfold G1
   rw [hfar]
   split
   ·rename_i w hw
    rw [if_pos]
    exact (h.has hv (List.mem_of_find?_eq_some hw)).2.2
   ·rfl
 have hall:Gh (F7 x (Dg v r f)) (Bi x.known (Dg v r f)) (Dg v r f)=(Dg v r f).writes:=by
  refine List.filter_eq_self.2 fun w hw=>?_
  obtain ⟨h1,⟨k,h2,h3,h4⟩,h5⟩:=h.has hv hw
  refine (Ns (k:=Bi x.known (Dg v r f)) (Uj hx _) (E7 _)).2 ⟨by omega,?_⟩
  rw [h3,Fs hx _ h2,hreach k h2,if_pos h4]
  exact h5
 rw [e,hall]
 refine ⟨h0,rfl,fun o ho=>?_,rfl,rfl,rfl⟩
 simp only
 rw [Fs hx _ ho,hreach o ho]
theorem Ya {a r:List Ab} (ha:Ak a=true) (h:Ay a r=true):E4 [a,r]=a :=
 M0 (E7 _) ha (Ca.2 fun k hk=>by rw [Gq _ hk,Gf];omega) (Ca.2 fun k hk=>by
  have:=Ca.1 h k hk
  rw [Gq _ hk,Gf];omega)
theorem A46 {v:B8} (hv:VF v) {l:List Ai} (hl:Shelf l) {r:List Ab} {f:Nat->Bool} (h:U5 v r f) {o:Nat} (ho:o < 256):D5 (Kr l (Dg v r f).writes) o=if f o=true then (match D5 v.held o with | some w=>some (Th (D5 l o) w) | none=>D5 l o) else D5 l o:=by
 have hr:∀ w∈(Dg v r f).writes,Do w=true:=fun w hw=>hv.held.2 w (h.has hv hw).1
 have hp:(Dg v r f).writes.Pairwise fun a b=>a.object < b.object:=hv.held.1.sublist List.filter_sublist
 have hg:=C20 hv (r:=r) (f:=f) ho
 cases hw:D5 (Dg v r f).writes o with
 | some w =>
  have h1:=List.mem_of_find?_eq_some hw
  have h2:w.object=o:=by simpa using List.find?_some hw
  have h3:=S9 hl hr hp w h1
  rw [h2] at h3
  rw [hw] at hg
  rw [h3]
  split
  ·rename_i hf
   rw [if_pos hf] at hg
   rw [<-hg]
  ·rename_i hf
   rw [if_neg hf] at hg
   cases hg
 | none =>
  rw [F8 hl hr fun w hw2 e=>by
   have:=List.find?_eq_none.1 hw w hw2
   simp [e] at this]
  rw [hw] at hg
  split
  ·rename_i hf
   rw [if_pos hf] at hg
   rw [<-hg]
  ·rfl
theorem B38 {v:B8} (hv:VF v) {r:List Ab} {f:Nat->Bool} (h:U5 v r f):Bd v (Dg v r f)=(v,0):=by
 obtain ⟨h0,h1,h2,h3,h4,h5⟩:=A29 hv hv h fun o ho hf=>by rw [h.told o ho hf];exact Ka r
 have hx:=Jd h0
 refine Prod.ext_iff.2 ⟨?_,h0⟩
 obtain ⟨X,hX⟩ : ∃ X,(Bd v (Dg v r f)).1=X:=⟨_,rfl⟩
 rw [hX] at h1 h2 h3 h4 h5 hx ⊢
 rw [Ya hv.known h.below] at h1
 have hheld:Kr v.held (Dg v r f).writes=v.held:=by
  refine Ap8 (h3 ▸ hx.held) hv.held fun o=>?_
  by_cases ho:0<=o/\o<=255
  ·obtain ⟨k,rfl⟩ : ∃ k:Nat,o=k:=⟨o.toNat,by omega⟩
   rw [A46 hv hv.held h (by omega)]
   split
   ·split
    ·rename_i w hw
     rw [hw]
     simp [Th]
    ·rfl
   ·rfl
  ·have hn:∀ {l:List Ai},Shelf l->D5 l o=none:=fun {l} hl=>by
    cases hg:D5 l o with
    | none=>rfl
    | some w =>
     obtain ⟨a,b⟩:=(Cq hl).1 hg
     have:=Mz (hl.2 w a)
     omega
   rw [hn (h3 ▸ hx.held),hn hv.held]
 rw [hheld] at h3 h4
 have hb:X.bodies=v.bodies:=by rw [h4];exact List.filter_eq_self.2 hv.wanted
 have hz:X.zones=v.zones:=Ac8 hx hv h1 fun o ho=>by
  rw [h2 o ho]
  split
  ·rename_i hf
   exact (h.told o ho hf).symm
  ·rfl
 obtain ⟨k,z,hh,bb,rr⟩:=X
 obtain ⟨k',z',hh',bb',rr'⟩:=v
 simp only at h1 hz h3 hb h5
 subst h1 hz h3 hb h5
 rfl
theorem Bv4 {v:B8} (hv:VF v) (it:List Ad):∀ n∈Z5 v it,Bd v n=(v,0):=fun n hn=>by
 rcases List.mem_cons.1 hn with rfl | hn
 ·exact B38 hv (Ax7 hv it)
 ·obtain ⟨r,hr,rfl⟩:=List.mem_map.1 hn
  exact B38 hv (Aw7 hv it hr)
def Bs:B8->List At->B8×Bool
 | v,[]=>(v,true)
 | v,n :: l=>if (Bd v n).2=0 then Bs (Bd v n).1 l else (v,false)
def Kg (x v:B8) (it:List Ad):B8×Bool:=if Af v=true then Bs x (Z5 v it) else (x,false)
theorem Ae2 {v:B8} : ∀ {l:List At},(∀ n∈l,Bd v n=(v,0))->Bs v l=(v,true)
 | [],_=>rfl
 | n :: l,h=>by
  rw [Bs,h n (by simp),if_pos rfl]
  exact Ae2 fun m hm=>h m (by simp [hm])
theorem Bh6 {v:B8} (h:Af v=true) (it:List Ad):Kg v v it=(v,true):=by
 rw [Kg,if_pos h,Ae2 (Bv4 (Ja.1 h) it)]
end Go.Proofs.YthlgnjlpakimaaaGreatDoor
