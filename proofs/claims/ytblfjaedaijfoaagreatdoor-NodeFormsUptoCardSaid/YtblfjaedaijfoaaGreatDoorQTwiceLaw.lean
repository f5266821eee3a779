/- A note that is taken twice is taken once. Plain. -/
import Derived.Test.YtblfjaedaijfoaaGreatDoorQNodeSpec
set_option linter.all false
set_option linter.unnecessarySimpa false
set_option linter.unusedSimpArgs false
set_option linter.unusedVariables false
namespace Go.Proofs.YtblfjaedaijfoaaGreatDoor
theorem Ac4:∀ (n:Nat) (l:List Nat),l.Nodup->(∀ x∈l,x < n)->l.length<=n
 | 0,l,_,h=>by
  cases l with
  | nil=>simp
  | cons a l=>exact absurd (h a (by simp)) (by omega)
 | n+1,l,hd,h=>by
  have h1:=Ac4 n (l.erase n) (hd.erase n) fun x hx=>by
   have h2:=h x (List.mem_of_mem_erase hx)
   have h3:x≠n:=fun e=>by subst e;exact hd.not_mem_erase hx
   omega
  rw [List.length_erase] at h1
  split at h1<;>omega
theorem By9 {l:List C1} (h:Gp l=true):l.length<=256:=by
 have hr:=Pz h
 simp only [Gp,Bool.and_eq_true,decide_eq_true_eq] at h
 have h2:=List.pairwise_map.1 h.2
 have h3:(l.map (fun x=>x.object.toNat)).Nodup:=List.pairwise_map.2 (h2.imp_of_mem fun {a b} ha hb hne e=>by
  have h4:=Fj (hr a ha)
  have h5:=Fj (hr b hb)
  exact hne (by omega))
 have:=Ac4 256 _ h3 fun x hx=>by
  obtain ⟨y,hy,rfl⟩:=List.mem_map.1 hx
  have:=Fj (hr y hy)
  omega
 simpa using this
theorem Rh {room:Int} : ∀ (l:List C1),Nj room l <:+ l
 | []=>List.suffix_refl _
 | x :: l=>by
  rw [Nj]
  split
  ·exact List.suffix_refl _
  ·exact (Rh l).trans (List.suffix_cons x l)
theorem Ae7 {room:Int} (h:0<=room):∀ (l:List C1),(Gl (Nj room l):Int)<=room
 | []=>h
 | x :: l=>by
  rw [Nj]
  split
  ·assumption
  ·exact Ae7 h l
theorem Bx8 {l:List C1} {x:C1} (h:Gp l=true) (hx:Cc x=true):Gp (Fk l x.object++[x])=true:=by
 simp only [Gp,Bool.and_eq_true,decide_eq_true_eq,List.all_eq_true] at h ⊢
 refine ⟨fun y hy=>?_,?_⟩
 ·rcases List.mem_append.1 hy with hy | hy
  ·exact h.1 y (List.mem_filter.1 hy).1
  ·rw [List.mem_singleton.1 hy];exact hx
 ·rw [List.map_append,List.nodup_append]
  refine ⟨h.2.sublist (List.filter_sublist.map _),by simp,fun a ha b hb e=>?_⟩
  obtain ⟨y,hy,rfl⟩:=List.mem_map.1 ha
  have h1:=(List.mem_filter.1 hy).2
  simp only [List.map_cons,List.map_nil,List.mem_singleton] at hb
  simp [e,hb] at h1
theorem Au5 {l m:List C1} (h:Gp l=true) (hs:List.Sublist m l):Gp m=true:=by
 simp only [Gp,Bool.and_eq_true,decide_eq_true_eq,List.all_eq_true] at h ⊢
 exact ⟨fun y hy=>h.1 y (hs.subset hy),h.2.sublist (hs.map _)⟩
theorem Bc1 {l:List C1} {room:Int} {x:C1} (h:Bw l room=true) (hx:Cc x=true):Bw (Nj room (Fk l x.object++[x])) room=true:=by
 simp only [Bw,Bool.and_eq_true,decide_eq_true_eq] at h ⊢
 have h1:=Au5 (Bx8 h.1.2 hx) (Rh (room:=room) (Fk l x.object++[x])).sublist
 refine ⟨⟨⟨h.1.1.1,By9 h1⟩,h1⟩,Ae7 ?_ _⟩
 have:=h.1.1.1
 simp only [Ke,Bool.and_eq_true,decide_eq_true_eq] at this
 exact this.1
theorem An1 {v:Cr} {x:C1} (h:(Hw v x).2=0):Am (Hw v x).1=true:=by
 unfold Hw at h ⊢
 split at h
 ·rename_i hc
  rw [if_pos hc]
  split at h
  ·rename_i hw
   rw [if_pos hw]
   obtain ⟨hv,hx⟩:=hc
   simp only [Am,Fq,Bool.and_eq_true,List.all_eq_true] at hv ⊢
   obtain ⟨⟨⟨⟨⟨⟨a1,a2⟩,a3⟩,a4⟩,a5⟩,a6⟩,a7⟩:=hv
   refine ⟨⟨⟨⟨⟨⟨a1,a2⟩,a3⟩,Bc1 a4 hx⟩,a5⟩,a6⟩,fun y hy=>?_⟩
   have hy2:=(Rh _).subset hy
   rcases List.mem_append.1 hy2 with hy2 | hy2
   ·exact a7 y (List.mem_filter.1 hy2).1
   ·rw [List.mem_singleton.1 hy2];exact hw
  ·simp at h
 ·simp at h
theorem A59 {a b:List Ab} : Xc a b=1↔Aw a b=false/\Aw b a=true:=by
 unfold Xc
 cases Aw a b<;>cases Aw b a<;>simp
theorem Ro (a:List Ab):Aw a a=true:=Ec.2 fun _ _=>Int.le_refl _
theorem Vq {a b c:List Ab} (h1:Aw a b=true) (h2:Aw b c=true):Aw a c=true:=Ec.2 fun n hn=>Int.le_trans (Ec.1 h2 n hn) (Ec.1 h1 n hn)
theorem A79 {f:Nat->Option (List Ab)} (hf:∀ o v,f o=some v->Ak v=true) (known:List Ab) {o:Nat} (ho:o < 256):Cw (Gx f) known o=(f o).getD known:=by
 obtain ⟨h1,h2⟩:=Pg hf
 unfold Cw
 cases hz:Ti (Gx f) o with
 | none =>
  cases hfo:f o with
  | none=>rfl
  | some v =>
   obtain ⟨x,hx,a,b,_⟩:=(h2 o v).2 ⟨o,ho,rfl,hfo⟩
   have:=List.find?_eq_none.1 hz x hx
   simp [At.has,a,b] at this
 | some x =>
  have hx:=List.mem_of_find?_eq_some hz
  have hh:=List.find?_some hz
  simp only [At.has,Bool.and_eq_true,decide_eq_true_eq] at hh
  obtain ⟨k,hk,e,hfk⟩:=(h2 o x.vec).1 ⟨x,hx,hh.1,hh.2,rfl⟩
  obtain rfl:o=k:=by omega
  rw [hfk]
  rfl
theorem Ao3 {f:Nat->Option (List Ab)} (hf:∀ o v,f o=some v->Ak v=true) {x:At} (hx:x∈Gx f):∃ k:Nat,k < 256/\f k=some x.vec:=by
 obtain ⟨h1,h2⟩:=Pg hf
 have hok:=Gr h1 x hx
 simp only [Cj,Bool.and_eq_true,decide_eq_true_eq] at hok
 obtain ⟨k,hk,_,e⟩:=(h2 x.span.lo x.vec).1 ⟨x,hx,Int.le_refl _,hok.1.1,rfl⟩
 exact ⟨k,hk,e⟩
theorem Te (v:List Ab) (n:Bc) {k:Nat} (hk:k < 64):Aa (Jj v n) k=F1 v n k:=by
 refine La _ hk ?_
 have:=Ed v k
 unfold F1
 split<;>omega
theorem C28 (v:List Ab) (n:Bc):Aw (Jj v n) v=true:=Ec.2 fun k hk=>by
 rw [Te v n hk,F1]
 split<;>omega
theorem B41 (v:List Ab) (n:Bc) (o:Int):Aw (Ld v n o) v=true:=by
 unfold Ld
 split
 ·split
  ·exact C28 v n
  ·exact Ro v
 ·exact C28 v n
theorem Aj1 (z:List At) (known:List Ab) (n:Bc) (o:Nat):Aw (Ex z known n o) (Cw z known o)=true:=by
 unfold Ex
 split
 ·exact Ro _
 ·exact B41 _ n o
theorem A33 {known:List Ab} {n:Bc} {k:Nat} (hk:k < 64):Aa (Ct known n) k=max (Aa known k) (Aa n.end_ k):=by
 unfold Ct
 rw [A87 _ hk,Ad4]
theorem Ac1 (known:List Ab) (n:Bc):Aw (Ct known n) known=true:=Ec.2 fun k hk=>by rw [A33 hk];omega
theorem C27 {v known:List Ab} {n:Bc} (h:Aw known v=true):Aw (Ct known n) (Jj v n)=true:=Ec.2 fun k hk=>by
 have:=Ec.1 h k hk
 rw [A33 hk,Te v n hk,F1]
 split<;>omega
theorem V7 {z:List At} {known:List Ab} {n:Bc} {o:Nat} (h:Aw known (Cw z known o)=true):Aw (Ct known n) (Ex z known n o)=true:=by
 unfold Ex
 split
 ·exact Vq (Ac1 known n) h
 ·unfold Ld
  split
  ·split
   ·exact C27 h
   ·exact Vq (Ac1 known n) h
  ·exact C27 h
theorem C21 {a b:List Ab} {s:Ab} (h:Aw a b=true) (hs:E4 b s=true):E4 a s=true:=by
 simp only [E4,Bool.and_eq_true,decide_eq_true_eq] at hs ⊢
 refine ⟨hs.1,?_⟩
 have h1:=hs.1
 simp only [Bl,decide_eq_true_eq] at h1
 have:=Ec.1 h s.node.toNat (by omega)
 rw [show ((s.node.toNat:Nat):Int)=s.node by omega] at this
 omega
structure VF (v:Cr):Prop where
 known:Ak v.known=true
 zones:Az v.zones=true
 held:Shelf v.held
 cache:Bw v.bodies v.room=true
 below:∀ x∈v.zones,Aw x.vec v.known=false/\Aw v.known x.vec=true
 reached:∀ w∈v.held,E4 (Cw v.zones v.known w.object) w.stamp=true
 wanted:∀ x∈v.bodies,Fw v.held x=true
theorem Qx {z:List At} {k:List Ab} (hz:Az z=true) (hk:Ak k=true) {w:Ap} : Dx z k w=true↔(0<=w.object/\w.object<=255)/\E4 (Cw z k w.object) w.stamp=true:=by
 unfold Dx Ng
 by_cases h:0<=w.object/\w.object<=255
 ·rw [if_pos ⟨hz,hk,h⟩]
  exact ⟨fun hh=>⟨h,hh⟩,fun hh=>hh.2⟩
 ·rw [if_neg fun hh=>h hh.2.2]
  refine ⟨fun hh=>?_,fun hh=>absurd hh.1 h⟩
  exfalso
  simp only [E4,Bool.and_eq_true,decide_eq_true_eq] at hh
  have h1:=hh.1
  have h2:=hh.2
  simp only [Aa,Bl,decide_eq_true_eq] at h1 h2
  omega
theorem Ap0 {v:Cr} : Am v=true↔VF v:=by
 simp only [Am,Fq,Bool.and_eq_true,List.all_eq_true,decide_eq_true_eq]
 constructor
 ·rintro ⟨⟨⟨⟨⟨⟨h1,h2⟩,h3⟩,h4⟩,h5⟩,h6⟩,h7⟩
  exact ⟨h1,h2,Wp.1 h3,h4,fun x hx=>A59.1 (h5 x hx),fun w hw=>((Qx h2 h1).1 (h6 w hw)).2,h7⟩
 ·rintro ⟨h1,h2,h3,h4,h5,h6,h7⟩
  exact ⟨⟨⟨⟨⟨⟨h1,h2⟩,Wp.2 h3⟩,h4⟩,fun x hx=>A59.2 (h5 x hx)⟩,fun w hw=>(Qx h2 h1).2 ⟨Wt (h3.2 w hw),h6 w hw⟩⟩,h7⟩
theorem VF.reach_le {v:Cr} (h:VF v) (o:Int):Aw v.known (Cw v.zones v.known o)=true:=by
 unfold Cw
 split
 ·rename_i x hx
  exact (h.below x (List.mem_of_find?_eq_some hx)).2
 ·exact Ro _
def Mx (v:Cr) (n:Bc):List At:=Gx (Fy v.zones v.known n)
theorem Aq0 {v:Cr} {n:Bc} (h:(Et v n).2=0):VF v/\Ax n=true/\Aw v.known n.start=true /\
  (Et v n).1=⟨Ct v.known n,Mx v n,B72 v.held (A98 (Mx v n) (Ct v.known n) n),v.bodies.filter (fun x=>Fw (B72 v.held (A98 (Mx v n) (Ct v.known n) n)) x),v.room⟩:=by
 by_cases hv:Am v=true
 ·have hvf:=Ap0.1 hv
  by_cases hn:Ax n=true
  ·have ht:Qn v.zones v.known n=true:=by simp [Qn,hvf.zones,hvf.known,hn]
   by_cases hc:Aw v.known n.start=true
   ·have e:Jv v.zones v.known n=(Mx v n,Ct v.known n,0):=by rw [Jv,if_pos ht,if_pos hc];rfl
    refine ⟨hvf,hn,hc,?_⟩
    rw [Et,if_pos hv,e,if_pos rfl]
   ·have e:Jv v.zones v.known n=([],[],3):=by rw [Jv,if_pos ht,if_neg hc]
    rw [Et,if_pos hv,e] at h
    simp at h
  ·have e:Jv v.zones v.known n=([],[],1):=by rw [Jv,if_neg];simp [Qn,hn]
   rw [Et,if_pos hv,e] at h
   simp at h
 ·rw [Et,if_neg hv] at h
  simp at h
theorem Ap5 {v:Cr} (h:VF v) (n:Bc):Az (Mx v n)=true:=(Pg (Hz h.zones h.known n)).1
theorem B36 {v:Cr} (h:VF v) (n:Bc) {o:Nat} (ho:o < 256):Cw (Mx v n) (Ct v.known n) o=(if Aw (Ex v.zones v.known n o) (Ct v.known n)=true then Ct v.known n else Ex v.zones v.known n o):=by
 rw [Mx,A79 (Hz h.zones h.known n) _ ho,Fy]
 split<;>rfl
theorem Az5 {a b:List Ab} (ha:Ak a=true) (hb:Ak b=true) (h1:Aw a b=true) (h2:Aw b a=true):a=b :=
 To (e:=-1) (by omega) ha hb fun n hn=>by
  have:=Ec.1 h1 n hn
  have:=Ec.1 h2 n hn
  omega
theorem Ap4 {v:Cr} (h:VF v) (n:Bc) {o:Nat} (ho:o < 256):Cw (Mx v n) (Ct v.known n) o=Ex v.zones v.known n o:=by
 rw [B36 h n ho]
 split
 ·rename_i hc
  exact Az5 (J0 _) (Nz h.zones h.known n o) (V7 (h.reach_le o)) hc
 ·rfl
theorem At2:∀ {list l:List Ap},Shelf l->(∀ w∈list,Fp w=true)->∀ w∈B72 l list,w∈l\/w∈list
 | [],_,_,_,_,hw=>.inl hw
 | u :: list,l,h,hr,w,hw=>by
  obtain ⟨h1,h2⟩:=Ab5 h (hr u (by simp))
  rcases At2 (l:=S4 l u) h1 (fun x hx=>hr x (by simp [hx])) w hw with h3 | h3
  ·rcases (h2 w).1 h3 with h4 | h4
   ·exact .inl h4.1
   ·unfold Ci6 at h4
    split at h4
    ·exact .inr (by simp [h4])
    ·rename_i y hy
     split at h4
     ·exact .inr (by simp [h4])
     ·subst h4;exact .inl ((Vo h).1 hy).1
  ·exact .inr (by simp [h3])
theorem Bu3 {l m:List C1} (h:List.Sublist m l):Gl m<=Gl l:=by
 induction h with
 | slnil=>exact Nat.le_refl _
 | cons a _ ih=>simp only [Gl,List.map_cons,List.sum_cons] at ih ⊢;omega
 | cons_cons a _ ih=>simp only [Gl,List.map_cons,List.sum_cons] at ih ⊢;omega
theorem Bs6 {l m:List C1} {room:Int} (h:Bw l room=true) (hs:List.Sublist m l):Bw m room=true:=by
 simp only [Bw,Bool.and_eq_true,decide_eq_true_eq] at h ⊢
 have:=hs.length_le
 have:=Bu3 hs
 exact ⟨⟨⟨h.1.1.1,by omega⟩,Au5 h.1.2 hs⟩,by omega⟩
attribute [local irreducible] Gx Mx in
theorem Bu9 {v:Cr} {n:Bc} (h:(Et v n).2=0):VF (Et v n).1:=by
 obtain ⟨hv,hn,hc,e⟩:=Aq0 h
 rw [e]
 have hz:=Ap5 hv n
 have hk:Ak (Ct v.known n)=true:=J0 _
 have hS:=A11 (list:=A98 (Mx v n) (Ct v.known n) n) hv.held Zj
 refine ⟨hk,hz,hS,Bs6 hv.cache List.filter_sublist,fun x hx=>?_,fun w hw=>?_,fun x hx=>(List.mem_filter.1 hx).2⟩
 ·obtain ⟨k,hk,e⟩:=Ao3 (f:=Fy v.zones v.known n) (Hz hv.zones hv.known n) (x:=x) (by have h9:x∈Mx v n:=hx;unfold Mx at h9;exact h9)
  unfold Fy at e
  split at e
  ·cases e
  ·rename_i hcc
   rw [<-Option.some.inj e]
   exact ⟨by simpa using hcc,V7 (hv.reach_le k)⟩
 ·rcases At2 hv.held Zj w hw with h1 | h1
  ·have hr:=Wt (hv.held.2 w h1)
   have h2:=hv.reached w h1
   obtain ⟨k,hk⟩ : ∃ k:Nat,w.object=k:=⟨w.object.toNat,by omega⟩
   simp only
   rw [hk] at h2 ⊢
   rw [Ap4 hv n (by omega)]
   exact C21 (Aj1 _ _ n k) h2
  ·exact ((Qx hz hk).1 (List.mem_filter.1 h1).2).2
theorem Ah1 {v:Cr} {n:Bc} (h:(Et v n).2=0):Am (Et v n).1=true:=Ap0.2 (Bu9 h)
end Go.Proofs.YtblfjaedaijfoaaGreatDoor
namespace Go.Proofs.YtblfjaedaijfoaaGreatDoor
end Go.Proofs.YtblfjaedaijfoaaGreatDoor
