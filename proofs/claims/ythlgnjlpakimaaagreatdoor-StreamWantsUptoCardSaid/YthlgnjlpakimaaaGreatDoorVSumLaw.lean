/- The sum of a view: its notes, that they are formed, and what they make of a view that takes them. Plain. -/
import Derived.Test.YthlgnjlpakimaaaGreatDoorVViewLaw
set_option linter.all false
set_option linter.unnecessarySimpa false
set_option linter.unusedSimpArgs false
set_option linter.unusedVariables false
namespace Go.Proofs.YthlgnjlpakimaaaGreatDoor
theorem Cf7 {l:List Ct} {x:Ct} (h:Hm l=true) (hx:Do x=true):Hm (Kk l x.object++[x])=true:=by
 simp only [Hm,Bool.and_eq_true,decide_eq_true_eq,List.all_eq_true] at h ⊢
 refine ⟨fun y hy=>?_,?_⟩
 ·rcases List.mem_append.1 hy with hy | hy
  ·exact h.1 y (List.mem_filter.1 hy).1
  ·rw [List.mem_singleton.1 hy];exact hx
 ·rw [List.map_append,List.nodup_append]
  refine ⟨h.2.sublist (List.filter_sublist.map _),by simp,fun a ha b hb e=>?_⟩
  obtain ⟨y,hy,rfl⟩:=List.mem_map.1 ha
  have h1:=(List.mem_filter.1 hy).2
  simp only [List.map_cons,List.map_nil,List.mem_singleton] at hb
  simp [e,hb] at h1
theorem Bi7 {l m:List Ct} (h:Hm l=true) (hs:List.Sublist m l):Hm m=true:=by
 simp only [Hm,Bool.and_eq_true,decide_eq_true_eq,List.all_eq_true] at h ⊢
 exact ⟨fun y hy=>h.1 y (hs.subset hy),h.2.sublist (hs.map _)⟩
theorem A42 {a b:List Aa} : Xp a b=1↔At a b=false/\At b a=true:=by
 unfold Xp
 cases At a b<;>cases At b a<;>simp
theorem Nm (a:List Aa):At a a=true:=Cx.2 fun _ _=>Int.le_refl _
theorem W5 {a b c:List Aa} (h1:At a b=true) (h2:At b c=true):At a c=true:=Cx.2 fun n hn=>Int.le_trans (Cx.1 h2 n hn) (Cx.1 h1 n hn)
theorem A60 {f:Nat->Option (List Aa)} (hf:∀ o v,f o=some v->Ak v=true) (known:List Aa) {o:Nat} (ho:o < 256):Bd (Ft f) known o=(f o).getD known:=by
 obtain ⟨h1,h2⟩:=Q4 hf
 unfold Bd
 cases hz:Tw (Ft f) o with
 | none =>
  cases hfo:f o with
  | none=>rfl
  | some v =>
   obtain ⟨x,hx,a,b,_⟩:=(h2 o v).2 ⟨o,ho,rfl,hfo⟩
   have:=List.find?_eq_none.1 hz x hx
   simp [Ao.has,a,b] at this
 | some x =>
  have hx:=List.mem_of_find?_eq_some hz
  have hh:=List.find?_some hz
  simp only [Ao.has,Bool.and_eq_true,decide_eq_true_eq] at hh
  obtain ⟨k,hk,e,hfk⟩:=(h2 o x.vec).1 ⟨x,hx,hh.1,hh.2,rfl⟩
  obtain rfl:o=k:=by omega
  rw [hfk]
  rfl
theorem Ah9 {f:Nat->Option (List Aa)} (hf:∀ o v,f o=some v->Ak v=true) {x:Ao} (hx:x∈Ft f):∃ k:Nat,k < 256/\f k=some x.vec:=by
 obtain ⟨h1,h2⟩:=Q4 hf
 have hok:=Eu h1 x hx
 simp only [Ch,Bool.and_eq_true,decide_eq_true_eq] at hok
 obtain ⟨k,hk,_,e⟩:=(h2 x.span.lo x.vec).1 ⟨x,hx,Int.le_refl _,hok.1.1,rfl⟩
 exact ⟨k,hk,e⟩
theorem Ny (v:List Aa) (n:Aq) {k:Nat} (hk:k < 64):A8 (Hc v n) k=Eh v n k:=by
 refine L9 _ hk ?_
 have:=Ek v k
 unfold Eh
 split<;>omega
theorem Bl3 (v:List Aa) (n:Aq):At (Hc v n) v=true:=Cx.2 fun k hk=>by
 rw [Ny v n hk,Eh]
 split<;>omega
theorem Au4 (v:List Aa) (n:Aq) (o:Int):At (J4 v n o) v=true:=by
 unfold J4
 split
 ·split
  ·exact Bl3 v n
  ·exact Nm v
 ·exact Bl3 v n
theorem Ae5 (z:List Ao) (known:List Aa) (n:Aq) (o:Nat):At (Cw z known n o) (Bd z known o)=true:=by
 unfold Cw
 split
 ·exact Nm _
 ·exact Au4 _ n o
theorem Qv {known:List Aa} {n:Aq} {k:Nat} (hk:k < 64):A8 (Bv known n) k=max (A8 known k) (A8 n.end_ k):=by
 unfold Bv
 rw [La _ hk,Kz]
theorem Aa5 (known:List Aa) (n:Aq):At (Bv known n) known=true:=Cx.2 fun k hk=>by rw [Qv hk];omega
theorem Bl2 {v known:List Aa} {n:Aq} (h:At known v=true):At (Bv known n) (Hc v n)=true:=Cx.2 fun k hk=>by
 have:=Cx.1 h k hk
 rw [Qv hk,Ny v n hk,Eh]
 split<;>omega
theorem Vo {z:List Ao} {known:List Aa} {n:Aq} {o:Nat} (h:At known (Bd z known o)=true):At (Bv known n) (Cw z known n o)=true:=by
 unfold Cw
 split
 ·exact W5 (Aa5 known n) h
 ·unfold J4
  split
  ·split
   ·exact Bl2 h
   ·exact W5 (Aa5 known n) h
  ·exact Bl2 h
theorem Bk6 {a b:List Aa} {s:Aa} (h:At a b=true) (hs:Dv b s=true):Dv a s=true:=by
 simp only [Dv,Bool.and_eq_true,decide_eq_true_eq] at hs ⊢
 refine ⟨hs.1,?_⟩
 have h1:=hs.1
 simp only [Bu,decide_eq_true_eq] at h1
 have:=Cx.1 h s.node.toNat (by omega)
 rw [show ((s.node.toNat:Nat):Int)=s.node by omega] at this
 omega
structure VF (v:Br):Prop where
 known:Ak v.known=true
 zones:Ay v.zones=true
 held:Shelf v.held
 cache:Cy v.bodies v.room=true
 below:∀ x∈v.zones,At x.vec v.known=false/\At v.known x.vec=true
 reached:∀ w∈v.held,Dv (Bd v.zones v.known w.object) w.stamp=true
 wanted:∀ x∈v.bodies,Df v.held x=true
theorem Na {z:List Ao} {k:List Aa} (hz:Ay z=true) (hk:Ak k=true) {w:Ai} : Ej z k w=true↔(0<=w.object/\w.object<=255)/\Dv (Bd z k w.object) w.stamp=true:=by
 unfold Ej Lj
 by_cases h:0<=w.object/\w.object<=255
 ·rw [if_pos ⟨hz,hk,h⟩]
  exact ⟨fun hh=>⟨h,hh⟩,fun hh=>hh.2⟩
 ·rw [if_neg fun hh=>h hh.2.2]
  refine ⟨fun hh=>?_,fun hh=>absurd hh.1 h⟩
  exfalso
  simp only [Dv,Bool.and_eq_true,decide_eq_true_eq] at hh
  have h1:=hh.1
  have h2:=hh.2
  simp only [A8,Bu,decide_eq_true_eq] at h1 h2
  omega
theorem Pa {v:Br} : Al v=true↔VF v:=by
 simp only [Al,F9,Bool.and_eq_true,List.all_eq_true,decide_eq_true_eq]
 constructor
 ·rintro ⟨⟨⟨⟨⟨⟨h1,h2⟩,h3⟩,h4⟩,h5⟩,h6⟩,h7⟩
  exact ⟨h1,h2,Fd.1 h3,h4,fun x hx=>A42.1 (h5 x hx),fun w hw=>((Na h2 h1).1 (h6 w hw)).2,h7⟩
 ·rintro ⟨h1,h2,h3,h4,h5,h6,h7⟩
  exact ⟨⟨⟨⟨⟨⟨h1,h2⟩,Fd.2 h3⟩,h4⟩,fun x hx=>A42.2 (h5 x hx)⟩,fun w hw=>(Na h2 h1).2 ⟨M7 (h3.2 w hw),h6 w hw⟩⟩,h7⟩
theorem VF.reach_le {v:Br} (h:VF v) (o:Int):At v.known (Bd v.zones v.known o)=true:=by
 unfold Bd
 split
 ·rename_i x hx
  exact (h.below x (List.mem_of_find?_eq_some hx)).2
 ·exact Nm _
def Gq (v:Br) (n:Aq):List Ao:=Ft (Fc v.zones v.known n)
theorem Pg {v:Br} {n:Aq} (h:(Cu v n).2=0):VF v/\Ag n=true/\At v.known n.start=true /\
  (Cu v n).1=⟨Bv v.known n,Gq v n,Mo v.held (Gg (Gq v n) (Bv v.known n) n),v.bodies.filter (fun x=>Df (Mo v.held (Gg (Gq v n) (Bv v.known n) n)) x),v.room⟩:=by
 by_cases hv:Al v=true
 ·have hvf:=Pa.1 hv
  by_cases hn:Ag n=true
  ·have ht:Qd v.zones v.known n=true:=by simp [Qd,hvf.zones,hvf.known,hn]
   by_cases hc:At v.known n.start=true
   ·have e:Hj v.zones v.known n=(Gq v n,Bv v.known n,0):=by rw [Hj,if_pos ht,if_pos hc];rfl
    refine ⟨hvf,hn,hc,?_⟩
    rw [Cu,if_pos hv,e,if_pos rfl]
   ·have e:Hj v.zones v.known n=([],[],3):=by rw [Hj,if_pos ht,if_neg hc]
    rw [Cu,if_pos hv,e] at h
    simp at h
  ·have e:Hj v.zones v.known n=([],[],1):=by rw [Hj,if_neg];simp [Qd,hn]
   rw [Cu,if_pos hv,e] at h
   simp at h
 ·rw [Cu,if_neg hv] at h
  simp at h
theorem Y4 {v:Br} (h:VF v) (n:Aq):Ay (Gq v n)=true:=(Q4 (He h.zones h.known n)).1
theorem Au2 {v:Br} (h:VF v) (n:Aq) {o:Nat} (ho:o < 256):Bd (Gq v n) (Bv v.known n) o=(if At (Cw v.zones v.known n o) (Bv v.known n)=true then Bv v.known n else Cw v.zones v.known n o):=by
 rw [Gq,A60 (He h.zones h.known n) _ ho,Fc]
 split<;>rfl
theorem Ar3 {a b:List Aa} (ha:Ak a=true) (hb:Ak b=true) (h1:At a b=true) (h2:At b a=true):a=b :=
 U1 (e:=-1) (by omega) ha hb fun n hn=>by
  have:=Cx.1 h1 n hn
  have:=Cx.1 h2 n hn
  omega
theorem Gu {v:Br} (h:VF v) (n:Aq) {o:Nat} (ho:o < 256):Bd (Gq v n) (Bv v.known n) o=Cw v.zones v.known n o:=by
 rw [Au2 h n ho]
 split
 ·rename_i hc
  exact Ar3 (Ff _) (Po h.zones h.known n o) (Vo (h.reach_le o)) hc
 ·rfl
theorem Am2:∀ {list l:List Ai},Shelf l->(∀ w∈list,Di w=true)->∀ w∈Mo l list,w∈l\/w∈list
 | [],_,_,_,_,hw=>.inl hw
 | u :: list,l,h,hr,w,hw=>by
  obtain ⟨h1,h2⟩:=Pp h (hr u (by simp))
  rcases Am2 (l:=Jg l u) h1 (fun x hx=>hr x (by simp [hx])) w hw with h3 | h3
  ·rcases (h2 w).1 h3 with h4 | h4
   ·exact .inl h4.1
   ·unfold Am1 at h4
    split at h4
    ·exact .inr (by simp [h4])
    ·rename_i y hy
     split at h4
     ·exact .inr (by simp [h4])
     ·subst h4;exact .inl ((Fy h).1 hy).1
  ·exact .inr (by simp [h3])
theorem Bf1 {l m:List Ct} (h:List.Sublist m l):Mg m<=Mg l:=by
 induction h with
 | slnil=>exact Nat.le_refl _
 | cons a _ ih=>simp only [Mg,List.map_cons,List.sum_cons] at ih ⊢;omega
 | cons_cons a _ ih=>simp only [Mg,List.map_cons,List.sum_cons] at ih ⊢;omega
theorem Bd2 {l m:List Ct} {room:Int} (h:Cy l room=true) (hs:List.Sublist m l):Cy m room=true:=by
 simp only [Cy,Bool.and_eq_true,decide_eq_true_eq] at h ⊢
 have:=hs.length_le
 have:=Bf1 hs
 exact ⟨⟨⟨h.1.1.1,by omega⟩,Bi7 h.1.2 hs⟩,by omega⟩
attribute [local irreducible] Ft Gq in
theorem Pf {v:Br} {n:Aq} (h:(Cu v n).2=0):VF (Cu v n).1:=by
 obtain ⟨hv,hn,hc,e⟩:=Pg h
 rw [e]
 have hz:=Y4 hv n
 have hk:Ak (Bv v.known n)=true:=Ff _
 have hS:=Qp (list:=Gg (Gq v n) (Bv v.known n) n) hv.held Ks
 refine ⟨hk,hz,hS,Bd2 hv.cache List.filter_sublist,fun x hx=>?_,fun w hw=>?_,fun x hx=>(List.mem_filter.1 hx).2⟩
 ·obtain ⟨k,hk,e⟩:=Ah9 (f:=Fc v.zones v.known n) (He hv.zones hv.known n) (x:=x) (by have h9:x∈Gq v n:=hx;unfold Gq at h9;exact h9)
  unfold Fc at e
  split at e
  ·cases e
  ·rename_i hcc
   rw [<-Option.some.inj e]
   exact ⟨by simpa using hcc,Vo (hv.reach_le k)⟩
 ·rcases Am2 hv.held Ks w hw with h1 | h1
  ·have hr:=M7 (hv.held.2 w h1)
   have h2:=hv.reached w h1
   obtain ⟨k,hk⟩ : ∃ k:Nat,w.object=k:=⟨w.object.toNat,by omega⟩
   simp only
   rw [hk] at h2 ⊢
   rw [Gu hv n (by omega)]
   exact Bk6 (Ae5 _ _ n k) h2
  ·exact ((Na hz hk).1 (List.mem_filter.1 h1).2).2
end Go.Proofs.YthlgnjlpakimaaaGreatDoor
namespace Go.Proofs.YthlgnjlpakimaaaGreatDoor
theorem Am3:∀ {list l:List Ai},Shelf l->(∀ w∈list,Di w=true)->list.Pairwise (fun a b=>a.object < b.object)->∀ w∈list,E6 (Mo l list) w.object=some (Am1 (E6 l w.object) w)
 | [],_,_,_,_,_,hw=>by cases hw
 | u :: list,l,h,hr,hp,w,hw=>by
  obtain ⟨p1,p2⟩:=List.pairwise_cons.1 hp
  have h1:=(Pp h (hr u (by simp))).1
  have hr2:∀ x∈list,Di x=true:=fun x hx=>hr x (by simp [hx])
  show E6 (Mo (Jg l u) list) w.object=_
  rcases List.mem_cons.1 hw with rfl | hw
  ·rw [H5 h1 hr2 fun x hx e=>by have:=p1 x hx;omega,Ae9 h (hr w (by simp)),if_pos rfl]
  ·rw [Am3 h1 hr2 p2 w hw,Ae9 h (hr u (by simp)),if_neg fun e=>by have:=p1 w hw;omega]
theorem B71 {z:List Ao} {k:List Aa} {n:Aq} (h:Ag n=true):(Gg z k n).Pairwise (fun a b=>a.object < b.object) :=
 ((Fv.1 (Cl.1 h).2.2.2.2).2).sublist List.filter_sublist
theorem Bf7 (v:Br) (n:Aq):Gq v n=Ft (Fc v.zones v.known n):=rfl
attribute [local irreducible] Ft Gq in
theorem Rj {v:Br} {n:Aq} (hv:VF v) (hn:Ag n=true) (hc:At v.known n.start=true):(Cu v n).2=0 /\
  (Cu v n).1=⟨Bv v.known n,Gq v n,Mo v.held (Gg (Gq v n) (Bv v.known n) n),v.bodies.filter (fun x=>Df (Mo v.held (Gg (Gq v n) (Bv v.known n) n)) x),v.room⟩:=by
 have e:Hj v.zones v.known n=(Gq v n,Bv v.known n,0):=by rw [Hj,if_pos (by simp [Qd,hv.zones,hv.known,hn]),if_pos hc,Bf7]
 rw [Cu,if_pos (Pa.2 hv),e,if_pos rfl]
 exact ⟨rfl,rfl⟩
theorem B18 {v:Br} (h:VF v) {o:Int} {u:List Aa} : InZ v.zones o u↔∃ k:Nat,k < 256/\o=k/\Bd v.zones v.known k=u/\At u v.known=false:=by
 constructor
 ·rintro ⟨x,hx,h1,h2,rfl⟩
  have hp:=(E7 h.zones).2 x hx
  have hok:=Eu h.zones x hx
  simp only [Ch,Bool.and_eq_true,decide_eq_true_eq] at hok
  simp only [Bb] at hp
  obtain ⟨i,hi,rfl⟩:=List.mem_iff_getElem.1 hx
  refine ⟨o.toNat,by omega,by omega,?_,(h.below _ hx).1⟩
  exact Rw h.zones v.known hi (by omega)
 ·rintro ⟨k,hk,rfl,e,hc⟩
  unfold Bd at e
  split at e
  ·rename_i x hx
   have hh:=List.find?_some hx
   simp only [Ao.has,Bool.and_eq_true,decide_eq_true_eq] at hh
   exact ⟨x,List.mem_of_find?_eq_some hx,hh.1,hh.2,e⟩
  ·rw [<-e,Nm] at hc
   cases hc
theorem Bn0 {v:Br} (h:VF v) {o:Nat} (ho:o < 256):Ae (Dr v.zones) o=!At (Bd v.zones v.known o) v.known:=by
 unfold Dr
 rw [if_pos h.zones,show Ba (v.zones.map (·.span))=C8 fun o=>Ae (v.zones.map (·.span)) o from rfl,C3 _ ho,Bool.eq_iff_iff,Kf]
 constructor
 ·rintro ⟨s,hs,h1,h2⟩
  obtain ⟨x,hx,rfl⟩:=List.mem_map.1 hs
  obtain ⟨k,hk,e,h3,h4⟩:=(B18 h).1 ⟨x,hx,h1,h2,rfl⟩
  obtain rfl:o=k:=by omega
  rw [h3,h4]
  rfl
 ·intro hc
  obtain ⟨x,hx,h1,h2,_⟩:=(B18 h).2 ⟨o,ho,rfl,rfl,by simpa using hc⟩
  exact ⟨x.span,List.mem_map_of_mem hx,h1,h2⟩
end Go.Proofs.YthlgnjlpakimaaaGreatDoor
namespace Go.Proofs.YthlgnjlpakimaaaGreatDoor
def Vp (v:Br) (r:List Aa) (f:Nat->Bool):Aq:=⟨[],r,C8 fun o=>!f o,Fe v.held (C8 f)⟩
def My (v:Br) (it:List Ad) (o:Nat):Bool:=Ae it o&&Ae (Dr v.zones) o
def Jh (v:Br) (it:List Ad) (o:Nat):Bool:=Ae it o&&!Ae (Dr v.zones) o
def Cr (v:Br) (it:List Ad):Nat->List (List Aa)
 | 0=>[]
 | m+1=>Cr v it m++if My v it m=true/\Bd v.zones v.known m∉Cr v it m then [Bd v.zones v.known m] else []
def K6 (v:Br) (it:List Ad) (r:List Aa) (o:Nat):Bool:=My v it o&&decide (Bd v.zones v.known o=r)
def Bf9 (v:Br) (it:List Ad):List Aq:=Vp v v.known (Jh v it) :: (Cr v it 256).map fun r=>Vp v r (K6 v it r)
def A50 (v:Br) (it:List Ad):List Aq×Int:=if Al v=true then (Bf9 v it,0) else ([],1)
theorem Rl {v:Br} {it:List Ad} {r:List Aa} : ∀ {m:Nat},r∈Cr v it m↔∃ o,o < m/\My v it o=true/\Bd v.zones v.known o=r
 | 0=>by simp [Cr]
 | m+1=>by
  rw [Cr,List.mem_append,Rl]
  constructor
  ·rintro (⟨o,h1,h2⟩ | h)
   ·exact ⟨o,by omega,h2⟩
   ·split at h
    ·rename_i hb
     exact ⟨m,by omega,hb.1,(List.mem_singleton.1 h).symm⟩
    ·cases h
  ·rintro ⟨o,h1,h2,h3⟩
   rcases Nat.lt_or_ge o m with h | h
   ·exact .inl ⟨o,h,h2,h3⟩
   ·obtain rfl:o=m:=by omega
    by_cases hi:Bd v.zones v.known o∈Cr v it o
    ·exact .inl (h3 ▸ Rl.1 hi)
    ·right
     rw [if_pos ⟨h2,hi⟩,h3]
     simp
theorem Rm (v:Br) (it:List Ad):∀ m,(Cr v it m).length<=m
 | 0=>Nat.le_refl _
 | m+1=>by
  have:=Rm v it m
  rw [Cr,List.length_append]
  split<;>simp<;>omega
structure D67 (v:Br) (r:List Aa) (f:Nat->Bool):Prop where
 formed:Ak r=true
 below:At v.known r=true
 told:∀ o:Nat,o < 256->f o=true->Bd v.zones v.known o=r
def Bt:Br->List Aq->Br×Bool
 | v,[]=>(v,true)
 | v,n :: l=>if (Cu v n).2=0 then Bt (Cu v n).1 l else (v,false)
def Cq8 (x v:Br) (it:List Ad):Br×Bool:=if Al v=true then Bt x (Bf9 v it) else (x,false)
end Go.Proofs.YthlgnjlpakimaaaGreatDoor
