/- What comes of a note is a formed view, in which each object's reach has grown. Plain. -/
import Derived.Test.YthlgnjlpakimaaaGreatDoorQPutLaw
import Derived.Test.YthlgnjlpakimaaaGreatDoorQTakeLaw
set_option linter.all false
set_option linter.unnecessarySimpa false
set_option linter.unusedSimpArgs false
set_option linter.unusedVariables false
namespace Go.Proofs.YthlgnjlpakimaaaGreatDoor
-- shelves
def Fi (l:List Ai) (set:List Ad):List Ai:=l.filter fun w=>By set w.object
def N9 (l:List Ai) (set:List Ad):List Ai×Int:=if Bv l=true then (Fi l set,0) else ([],1)
-- caches
def isB (o:Int) (s:Ab) (x:Cg):Bool:=decide (x.object=o)&&decide (x.stamp=s)
def Wo (l:List Cg) (o:Int) (s:Ab):List Nat×Int:=match l.find? (isB o s) with
 | some x=>(x.value,0)
 | none=>([],10)
def G7 (l:List Cg) (o:Int):List Cg:=l.filter fun x=>!decide (x.object=o)
def Rr (room:Int):List Cg->List Cg
 | []=>[]
 | x :: l=>if (Jb (x :: l):Int)<=room then x :: l else Rr room l
def C96 (l:List Cg) (room:Int) (x:Cg):List Cg×Int:=if Cb l room=true/\Dd x=true then (Rr room (G7 l x.object++[x]),0) else ([],1)
-- views
def Bm3 (room:Int):B8×Int:=if S2 room=true then (⟨[],[],[],[],room⟩,0) else (Ql,1)
def Ji (v:B8) (x:Cg):B8×Int :=
 if Af v=true/\Dd x=true then
  (if Dm v.held x=true then (⟨v.known,v.zones,v.held,Rr v.room (G7 v.bodies x.object++[x]),v.room⟩,0) else (Ql,13))
 else (Ql,1)
def De (v:B8) (o:Int):List Nat×Ai×Int :=
 if Af v=true/\E9 o=true then
  (if By (E5 v.zones) o=true then ([],noW,9) else
   match D5 v.held o with
   | none=>([],noW,8)
   | some w=>if w.gone=true then ([],w,0) else ((Wo v.bodies o w.stamp).1,w,(Wo v.bodies o w.stamp).2))
 else ([],noW,1)
def Ay2:Cg:=⟨0,⟨0,0⟩,[]⟩
def Dz7 (v:B8) (o:Int):Cg×Int :=
 if Af v=true/\E9 o=true then
  (match D5 v.held o with
   | none=>(Ay2,8)
   | some w=>if w.gone=true then (Ay2,13) else (if (Wo v.bodies o w.stamp).2=0 then (⟨o,w.stamp,(Wo v.bodies o w.stamp).1⟩,0) else (Ay2,(Wo v.bodies o w.stamp).2)))
 else (Ay2,1)
def Gt (c n s:Int):Ab×Int :=
 if c < 0\/n < 0\/64<=n\/s < 0 then (⟨0,0⟩,1)
 else if 9223372036854775807 - c<=s then (⟨0,0⟩,2)
 else (⟨c+s+1,n⟩,0)
def G3 (l:List Ab):Int:=(Cy (D9 l) 64).foldl (fun m k=>max m (Aa l (k:Nat))) 0
def ofN (known:List Ab) (w:Ai):At×Int :=
 if Ak known=true/\C7 w.stamp.count w.stamp.node=true/\E9 w.object=true/\Dr known w.stamp=false then (⟨known,E4 [known,[w.stamp]],[],[w]⟩,0) else (Ay1,1)
structure Cg7 where
 view:B8
 note:At
 err:Int
def V9 (e:Int):Cg7:=⟨Ql,Ay1,e⟩
def Q4 (v : B8) (me object skip : Int) (value : List Nat) (gone : Bool) : Cg7 :=
  if Af v = true /\ E9 object = true /\ value.length <= 256 /\ (gone && decide (0 < value.length)) = false then
    (if (Gt (G3 v.known) me skip).2 = 0 then
      (if (ofN v.known ⟨(Gt (G3 v.known) me skip).1, object, gone⟩).2 = 0 then
        (if (Bd v (ofN v.known ⟨(Gt (G3 v.known) me skip).1, object, gone⟩).1).2 = 0 then
          (if gone = true then ⟨(Bd v (ofN v.known ⟨(Gt (G3 v.known) me skip).1, object, gone⟩).1).1, (ofN v.known ⟨(Gt (G3 v.known) me skip).1, object, gone⟩).1, 0⟩
           else (if (Ji (Bd v (ofN v.known ⟨(Gt (G3 v.known) me skip).1, object, gone⟩).1).1 ⟨object, (Gt (G3 v.known) me skip).1, value⟩).2 = 0 then
              ⟨(Ji (Bd v (ofN v.known ⟨(Gt (G3 v.known) me skip).1, object, gone⟩).1).1 ⟨object, (Gt (G3 v.known) me skip).1, value⟩).1, (ofN v.known ⟨(Gt (G3 v.known) me skip).1, object, gone⟩).1, 0⟩
            else V9 (Ji (Bd v (ofN v.known ⟨(Gt (G3 v.known) me skip).1, object, gone⟩).1).1 ⟨object, (Gt (G3 v.known) me skip).1, value⟩).2))
         else V9 (Bd v (ofN v.known ⟨(Gt (G3 v.known) me skip).1, object, gone⟩).1).2)
       else V9 (ofN v.known ⟨(Gt (G3 v.known) me skip).1, object, gone⟩).2)
     else V9 (Gt (G3 v.known) me skip).2)
  else V9 1
theorem Hw {z:List Av} {k:List Ab} {n:At} : ∀ w∈Gh z k n,Do w=true:=fun w hw=>by
 have h:=(List.mem_filter.1 hw).2
 simp only [Df,Dr,Bool.and_eq_true,decide_eq_true_eq] at h
 have ho:0<=w.object/\w.object<=255:=by
  have h2:=h.2
  have h1:=h.1
  unfold Kq at h2
  by_cases hc:B7 z=true/\Ak k=true/\0<=w.object/\w.object<=255
  ·exact hc.2.2
  ·rw [if_neg hc] at h2
   simp only [Aa,C7,decide_eq_true_eq] at h1 h2
   omega
 simp only [Do,E9,Bool.and_eq_true,decide_eq_true_eq]
 exact ⟨ho,h.1⟩
theorem F8:∀ {list l:List Ai} {o:Int},Shelf l->(∀ w∈list,Do w=true)->(∀ w∈list,¬ w.object=o)->D5 (Kr l list) o=D5 l o
 | [],_,_,_,_,_=>rfl
 | w :: list,l,o,h,hr,hn=>by
  have h1:=Ax6 h (hr w (by simp)) o
  rw [if_neg fun e=>hn w (by simp) e.symm] at h1
  rw [<-h1]
  exact F8 (l:=Lb l w) (S8 h (hr w (by simp))).1 (fun x hx=>hr x (by simp [hx])) fun x hx=>hn x (by simp [hx])
def Z7 (H:List Ai) (t:List Ai) (l:List Cg):List Cg:=l.filter fun x=>Dm H x || !t.any fun w=>decide (x.object=w.object)
theorem Bv8 (H:List Ai) (l:List Cg):Z7 H [] l=l:=List.filter_eq_self.2 fun x _=>by simp
theorem Bi0 (H t:List Ai) (w:Ai) (l:List Cg):Z7 H (t++[w]) l=(Z7 H t l).filter fun x=>Dm H x || !decide (x.object=w.object):=by
 unfold Z7
 rw [List.filter_filter]
 congr 1
 funext x
 simp only [List.any_append,List.any_cons,List.any_nil,Bool.or_false,Bool.not_or]
 cases Dm H x<;>simp [Bool.and_comm]
theorem Bi1 {H t:List Ai} {l:List Cg} (h:(l.map (·.object)).Nodup):((Z7 H t l).map (·.object)).Nodup:=h.sublist (List.filter_sublist.map _)
theorem C11 {q:Cg->Bool} {o:Int} {l:List Cg} (h:l.any (fun x=>decide (x.object=o))=false):(l.filter fun x=>q x || !decide (x.object=o))=l :=
 List.filter_eq_self.2 fun x hx=>by
  have:=List.any_eq_false.1 h x hx
  simp only [decide_eq_true_eq] at this
  simp [this]
theorem Cc4 {q:Cg->Bool} {o:Int} {l:List Cg} {i:Nat} (hn:(l.map (·.object)).Nodup) (hi:i < l.length) (ho:l[i].object=o):(l.filter fun x=>q x || !decide (x.object=o))=if q l[i]=true then l else l.take i++l.drop (i+1):=by
 have hne:∀ (j:Nat) (hj:j < l.length),j≠i->¬ l[j].object=o:=fun j hj hji e=>by
  have:=(List.getElem_inj (xs:=l.map (·.object)) (i:=j) (j:=i) (h₀:=by simpa using hj) (h₁:=by simpa using hi) hn).1 (by simp [e,ho])
  exact hji this
 by_cases hq:q l[i]=true
 ·rw [if_pos hq,List.filter_eq_self]
  intro x hx
  obtain ⟨j,hj,rfl⟩:=List.mem_iff_getElem.1 hx
  by_cases e:j=i
  ·subst e
   rw [hq,Bool.true_or]
  ·simp [hne j hj e]
 ·rw [if_neg hq]
  conv=>lhs;rw [<-List.take_append_drop i l,List.drop_eq_getElem_cons hi]
  rw [List.filter_append,List.filter_cons,if_neg (by simp [ho,hq]),List.filter_eq_self.2,List.filter_eq_self.2]
  ·intro x hx
   obtain ⟨j,hj,rfl⟩:=List.mem_drop_iff_getElem.1 hx
   simp [hne _ _ (by omega:i+1+j≠i)]
  ·intro x hx
   obtain ⟨j,hj,rfl⟩:=List.mem_take_iff_getElem.1 hx
   simp [hne j (by omega) (by omega)]
theorem Bv9 {v:B8} {z:List Av} {k:List Ab} {n:At} (h:Af v=true):Z7 (Kr v.held (Gh z k n)) (Gh z k n) v.bodies=v.bodies.filter fun x=>Dm (Kr v.held (Gh z k n)) x:=by
 simp only [Af,F9,Bool.and_eq_true,List.all_eq_true] at h
 refine List.filter_congr fun x hx=>?_
 cases ht:(Gh z k n).any fun w=>decide (x.object=w.object) with
 | true=>simp
 | false =>
  have hw:Dm (Kr v.held (Gh z k n)) x=true:=by
   unfold Dm
   rw [F8 (Ge.1 h.1.1.1.1.2) Hw fun w hw e=>by
    have:=List.any_eq_false.1 ht w hw
    simp [e] at this]
   exact h.2 x hx
  rw [hw]
  rfl
theorem B30 {v:B8} (h:Af v=true):G7 v.bodies (-1)=v.bodies:=by
 simp only [Af,F9,Cb,Bool.and_eq_true] at h
 refine List.filter_eq_self.2 fun x hx=>?_
 have:=Fk (Qk h.1.1.1.2.1.2 x hx)
 simp
 omega
theorem C57 {v:B8} (h:Af v=true):v.bodies.length<=256:=by
 simp only [Af,F9,Cb,Bool.and_eq_true,decide_eq_true_eq] at h
 exact h.1.1.1.2.1.1.2
theorem Ad4 {v:B8} (h:Af v=true):v.zones.length<=256:=by
 simp only [Af,F9,Bool.and_eq_true] at h
 have:(v.zones.length:Int)<=255 - -1:=A21 h.1.1.1.1.1.2 (by decide)
 omega
theorem Bv0 {v:B8} (h:Af v=true):(v.bodies.map (·.object)).Nodup:=by
 simp only [Af,F9,Cb,Hm,Bool.and_eq_true,decide_eq_true_eq] at h
 exact h.1.1.1.2.1.2.2
theorem As3:∀ (n:Nat) (l:List Nat),l.Nodup->(∀ x∈l,x < n)->l.length<=n
 | 0,l,_,h=>by
  cases l with
  | nil=>simp
  | cons a l=>exact absurd (h a (by simp)) (by omega)
 | n+1,l,hd,h=>by
  have h1:=As3 n (l.erase n) (hd.erase n) fun x hx=>by
   have h2:=h x (List.mem_of_mem_erase hx)
   have h3:x≠n:=fun e=>by subst e;exact hd.not_mem_erase hx
   omega
  rw [List.length_erase] at h1
  split at h1<;>omega
theorem Ca4 {l:List Cg} (h:Hm l=true):l.length<=256:=by
 have hr:=Qk h
 simp only [Hm,Bool.and_eq_true,decide_eq_true_eq] at h
 have h2:=List.pairwise_map.1 h.2
 have h3:(l.map (fun x=>x.object.toNat)).Nodup:=List.pairwise_map.2 (h2.imp_of_mem fun {a b} ha hb hne e=>by
  have h4:=Fk (hr a ha)
  have h5:=Fk (hr b hb)
  exact hne (by omega))
 have:=As3 256 _ h3 fun x hx=>by
  obtain ⟨y,hy,rfl⟩:=List.mem_map.1 hx
  have:=Fk (hr y hy)
  omega
 simpa using this
theorem Rf {room:Int} : ∀ (l:List Cg),Rr room l <:+ l
 | []=>List.suffix_refl _
 | x :: l=>by
  rw [Rr]
  split
  ·exact List.suffix_refl _
  ·exact (Rf l).trans (List.suffix_cons x l)
theorem Au0 {room:Int} (h:0<=room):∀ (l:List Cg),(Jb (Rr room l):Int)<=room
 | []=>h
 | x :: l=>by
  rw [Rr]
  split
  ·assumption
  ·exact Au0 h l
theorem C93 {l:List Cg} {x:Cg} (h:Hm l=true) (hx:Dd x=true):Hm (G7 l x.object++[x])=true:=by
 simp only [Hm,Bool.and_eq_true,decide_eq_true_eq,List.all_eq_true] at h ⊢
 refine ⟨fun y hy=>?_,?_⟩
 ·rcases List.mem_append.1 hy with hy | hy
  ·exact h.1 y (List.mem_filter.1 hy).1
  ·rw [List.mem_singleton.1 hy];exact hx
 ·rw [List.map_append,List.nodup_append]
  refine ⟨h.2.sublist (List.filter_sublist.map _),by simp,fun a ha b hb e=>?_⟩
  obtain ⟨y,hy,rfl⟩:=List.mem_map.1 ha
  have h1:=(List.mem_filter.1 hy).2
  simp only [List.map_cons,List.map_nil,List.mem_singleton] at hb
  simp [e,hb] at h1
theorem B94 {l m:List Cg} (h:Hm l=true) (hs:List.Sublist m l):Hm m=true:=by
 simp only [Hm,Bool.and_eq_true,decide_eq_true_eq,List.all_eq_true] at h ⊢
 exact ⟨fun y hy=>h.1 y (hs.subset hy),h.2.sublist (hs.map _)⟩
theorem Bo8 {l:List Cg} {room:Int} {x:Cg} (h:Cb l room=true) (hx:Dd x=true):Cb (Rr room (G7 l x.object++[x])) room=true:=by
 simp only [Cb,Bool.and_eq_true,decide_eq_true_eq] at h ⊢
 have h1:=B94 (C93 h.1.2 hx) (Rf (room:=room) (G7 l x.object++[x])).sublist
 refine ⟨⟨⟨h.1.1.1,Ca4 h1⟩,h1⟩,Au0 ?_ _⟩
 have:=h.1.1.1
 simp only [S2,Bool.and_eq_true,decide_eq_true_eq] at this
 exact this.1
theorem B09 {v:B8} {x:Cg} (h:(Ji v x).2=0):Af (Ji v x).1=true:=by
 unfold Ji at h ⊢
 split at h
 ·rename_i hc
  rw [if_pos hc]
  split at h
  ·rename_i hw
   rw [if_pos hw]
   obtain ⟨hv,hx⟩:=hc
   simp only [Af,F9,Bool.and_eq_true,List.all_eq_true] at hv ⊢
   obtain ⟨⟨⟨⟨⟨⟨a1,a2⟩,a3⟩,a4⟩,a5⟩,a6⟩,a7⟩:=hv
   refine ⟨⟨⟨⟨⟨⟨a1,a2⟩,a3⟩,Bo8 a4 hx⟩,a5⟩,a6⟩,fun y hy=>?_⟩
   have hy2:=(Rf _).subset hy
   rcases List.mem_append.1 hy2 with hy2 | hy2
   ·exact a7 y (List.mem_filter.1 hy2).1
   ·rw [List.mem_singleton.1 hy2];exact hw
  ·simp at h
 ·simp at h
theorem Uz {z:List Av} {known:List Ab} (hz:B7 z=true) (hk:Ak known=true) (o:Int):Ak (Bb z known o)=true:=by
 unfold Bb
 split
 ·rename_i x hx
  have:=F3 hz x (List.mem_of_find?_eq_some hx)
  simp only [Cu,Bool.and_eq_true] at this
  exact this.2
 ·exact hk
theorem Al1 {a b:List Ab} : A64 a b=1↔Ay a b=false/\Ay b a=true:=by
 unfold A64
 cases Ay a b<;>cases Ay b a<;>simp
theorem Ka (a:List Ab):Ay a a=true:=Ca.2 fun _ _=>Int.le_refl _
theorem Tv {a b c:List Ab} (h1:Ay a b=true) (h2:Ay b c=true):Ay a c=true:=Ca.2 fun n hn=>Int.le_trans (Ca.1 h2 n hn) (Ca.1 h1 n hn)
theorem An4 {f:Nat->Option (List Ab)} (hf:∀ o v,f o=some v->Ak v=true) (known:List Ab) {o:Nat} (ho:o < 256):Bb (Et f) known o=(f o).getD known:=by
 obtain ⟨h1,h2⟩:=Su hf
 unfold Bb
 cases hz:Xj (Et f) o with
 | none =>
  cases hfo:f o with
  | none=>rfl
  | some v =>
   obtain ⟨x,hx,a,b,_⟩:=(h2 o v).2 ⟨o,ho,rfl,hfo⟩
   have:=List.find?_eq_none.1 hz x hx
   simp [Av.has,a,b] at this
 | some x =>
  have hx:=List.mem_of_find?_eq_some hz
  have hh:=List.find?_some hz
  simp only [Av.has,Bool.and_eq_true,decide_eq_true_eq] at hh
  obtain ⟨k,hk,e,hfk⟩:=(h2 o x.vec).1 ⟨x,hx,hh.1,hh.2,rfl⟩
  obtain rfl:o=k:=by omega
  rw [hfk]
  rfl
theorem B21 {f:Nat->Option (List Ab)} (hf:∀ o v,f o=some v->Ak v=true) {x:Av} (hx:x∈Et f):∃ k:Nat,k < 256/\f k=some x.vec:=by
 obtain ⟨h1,h2⟩:=Su hf
 have hok:=F3 h1 x hx
 simp only [Cu,Bool.and_eq_true,decide_eq_true_eq] at hok
 obtain ⟨k,hk,_,e⟩:=(h2 x.span.lo x.vec).1 ⟨x,hx,Int.le_refl _,hok.1.1,rfl⟩
 exact ⟨k,hk,e⟩
theorem L7 (v:List Ab) (n:At) {k:Nat} (hk:k < 64):Aa (He v n) k=Ec v n k:=by
 refine Nj _ hk ?_
 have:=Di v k
 unfold Ec
 split<;>omega
theorem Cd9 (v:List Ab) (n:At):Ay (He v n) v=true:=Ca.2 fun k hk=>by
 rw [L7 v n hk,Ec]
 split<;>omega
theorem Bh7 (v:List Ab) (n:At) (o:Int):Ay (G1 v n o) v=true:=by
 unfold G1
 split
 ·split
  ·exact Cd9 v n
  ·exact Ka v
 ·exact Cd9 v n
theorem Ax0 (z:List Av) (known:List Ab) (n:At) (o:Nat):Ay (Cp z known n o) (Bb z known o)=true:=by
 unfold Cp
 split
 ·exact Ka _
 ·exact Bh7 _ n o
theorem Qq {known:List Ab} {n:At} {k:Nat} (hk:k < 64):Aa (Bi known n) k=max (Aa known k) (Aa n.end_ k):=by
 unfold Bi
 rw [Gq _ hk,Gf]
theorem A52 (known:List Ab) (n:At):Ay (Bi known n) known=true:=Ca.2 fun k hk=>by rw [Qq hk];omega
theorem Cd8 {v known:List Ab} {n:At} (h:Ay known v=true):Ay (Bi known n) (He v n)=true:=Ca.2 fun k hk=>by
 have:=Ca.1 h k hk
 rw [Qq hk,L7 v n hk,Ec]
 split<;>omega
theorem Zn {z:List Av} {known:List Ab} {n:At} {o:Nat} (h:Ay known (Bb z known o)=true):Ay (Bi known n) (Cp z known n o)=true:=by
 unfold Cp
 split
 ·exact Tv (A52 known n) h
 ·unfold G1
  split
  ·split
   ·exact Cd8 h
   ·exact Tv (A52 known n) h
  ·exact Cd8 h
theorem Cd0 {a b:List Ab} {s:Ab} (h:Ay a b=true) (hs:Dr b s=true):Dr a s=true:=by
 simp only [Dr,Bool.and_eq_true,decide_eq_true_eq] at hs ⊢
 refine ⟨hs.1,?_⟩
 have h1:=hs.1
 simp only [C7,decide_eq_true_eq] at h1
 have:=Ca.1 h s.node.toNat (by omega)
 rw [show ((s.node.toNat:Nat):Int)=s.node by omega] at this
 omega
structure VF (v:B8):Prop where
 known:Ak v.known=true
 zones:B7 v.zones=true
 held:Shelf v.held
 cache:Cb v.bodies v.room=true
 below:∀ x∈v.zones,Ay x.vec v.known=false/\Ay v.known x.vec=true
 reached:∀ w∈v.held,Dr (Bb v.zones v.known w.object) w.stamp=true
 wanted:∀ x∈v.bodies,Dm v.held x=true
theorem Ns {z:List Av} {k:List Ab} (hz:B7 z=true) (hk:Ak k=true) {w:Ai} : Df z k w=true↔(0<=w.object/\w.object<=255)/\Dr (Bb z k w.object) w.stamp=true:=by
 unfold Df Kq
 by_cases h:0<=w.object/\w.object<=255
 ·rw [if_pos ⟨hz,hk,h⟩]
  exact ⟨fun hh=>⟨h,hh⟩,fun hh=>hh.2⟩
 ·rw [if_neg fun hh=>h hh.2.2]
  refine ⟨fun hh=>?_,fun hh=>absurd hh.1 h⟩
  exfalso
  simp only [Dr,Bool.and_eq_true,decide_eq_true_eq] at hh
  have h1:=hh.1
  have h2:=hh.2
  simp only [Aa,C7,decide_eq_true_eq] at h1 h2
  omega
theorem Ja {v:B8} : Af v=true↔VF v:=by
 simp only [Af,F9,Bool.and_eq_true,List.all_eq_true,decide_eq_true_eq]
 constructor
 ·rintro ⟨⟨⟨⟨⟨⟨h1,h2⟩,h3⟩,h4⟩,h5⟩,h6⟩,h7⟩
  exact ⟨h1,h2,Ge.1 h3,h4,fun x hx=>Al1.1 (h5 x hx),fun w hw=>((Ns h2 h1).1 (h6 w hw)).2,h7⟩
 ·rintro ⟨h1,h2,h3,h4,h5,h6,h7⟩
  exact ⟨⟨⟨⟨⟨⟨h1,h2⟩,Ge.2 h3⟩,h4⟩,fun x hx=>Al1.2 (h5 x hx)⟩,fun w hw=>(Ns h2 h1).2 ⟨Mz (h3.2 w hw),h6 w hw⟩⟩,h7⟩
theorem VF.reach_le {v:B8} (h:VF v) (o:Int):Ay v.known (Bb v.zones v.known o)=true:=by
 unfold Bb
 split
 ·rename_i x hx
  exact (h.below x (List.mem_of_find?_eq_some hx)).2
 ·exact Ka _
def F7 (v:B8) (n:At):List Av:=Et (Ex v.zones v.known n)
theorem M3 {v:B8} {n:At} (h:(Bd v n).2=0):VF v/\Ae n=true/\Ay v.known n.start=true /\
  (Bd v n).1=⟨Bi v.known n,F7 v n,Kr v.held (Gh (F7 v n) (Bi v.known n) n),v.bodies.filter (fun x=>Dm (Kr v.held (Gh (F7 v n) (Bi v.known n) n)) x),v.room⟩:=by
 by_cases hv:Af v=true
 ·have hvf:=Ja.1 hv
  by_cases hn:Ae n=true
  ·have ht:T5 v.zones v.known n=true:=by simp [T5,hvf.zones,hvf.known,hn]
   by_cases hc:Ay v.known n.start=true
   ·have e:Kl v.zones v.known n=(F7 v n,Bi v.known n,0):=by rw [Kl,if_pos ht,if_pos hc];rfl
    refine ⟨hvf,hn,hc,?_⟩
    rw [Bd,if_pos hv,e,if_pos rfl]
   ·have e:Kl v.zones v.known n=([],[],3):=by rw [Kl,if_pos ht,if_neg hc]
    rw [Bd,if_pos hv,e] at h
    simp at h
  ·have e:Kl v.zones v.known n=([],[],1):=by rw [Kl,if_neg];simp [T5,hn]
   rw [Bd,if_pos hv,e] at h
   simp at h
 ·rw [Bd,if_neg hv] at h
  simp at h
theorem Uj {v:B8} (h:VF v) (n:At):B7 (F7 v n)=true:=(Su (Kd h.zones h.known n)).1
theorem Bh2 {v:B8} (h:VF v) (n:At) {o:Nat} (ho:o < 256):Bb (F7 v n) (Bi v.known n) o=(if Ay (Cp v.zones v.known n o) (Bi v.known n)=true then Bi v.known n else Cp v.zones v.known n o):=by
 rw [F7,An4 (Kd h.zones h.known n) _ ho,Ex]
 split<;>rfl
theorem M0 {a b:List Ab} (ha:Ak a=true) (hb:Ak b=true) (h1:Ay a b=true) (h2:Ay b a=true):a=b :=
 Xq (e:=-1) (by omega) ha hb fun n hn=>by
  have:=Ca.1 h1 n hn
  have:=Ca.1 h2 n hn
  omega
theorem Fs {v:B8} (h:VF v) (n:At) {o:Nat} (ho:o < 256):Bb (F7 v n) (Bi v.known n) o=Cp v.zones v.known n o:=by
 rw [Bh2 h n ho]
 split
 ·rename_i hc
  exact M0 (E7 _) (S7 h.zones h.known n o) (Zn (h.reach_le o)) hc
 ·rfl
theorem Ah0:∀ {list l:List Ai},Shelf l->(∀ w∈list,Do w=true)->∀ w∈Kr l list,w∈l\/w∈list
 | [],_,_,_,_,hw=>.inl hw
 | u :: list,l,h,hr,w,hw=>by
  obtain ⟨h1,h2⟩:=S8 h (hr u (by simp))
  rcases Ah0 (l:=Lb l u) h1 (fun x hx=>hr x (by simp [hx])) w hw with h3 | h3
  ·rcases (h2 w).1 h3 with h4 | h4
   ·exact .inl h4.1
   ·unfold Th at h4
    split at h4
    ·exact .inr (by simp [h4])
    ·rename_i y hy
     split at h4
     ·exact .inr (by simp [h4])
     ·subst h4;exact .inl ((Cq h).1 hy).1
  ·exact .inr (by simp [h3])
theorem C60 {l m:List Cg} (h:List.Sublist m l):Jb m<=Jb l:=by
 induction h with
 | slnil=>exact Nat.le_refl _
 | cons a _ ih=>simp only [Jb,List.map_cons,List.sum_cons] at ih ⊢;omega
 | cons_cons a _ ih=>simp only [Jb,List.map_cons,List.sum_cons] at ih ⊢;omega
theorem C42 {l m:List Cg} {room:Int} (h:Cb l room=true) (hs:List.Sublist m l):Cb m room=true:=by
 simp only [Cb,Bool.and_eq_true,decide_eq_true_eq] at h ⊢
 have:=hs.length_le
 have:=C60 hs
 exact ⟨⟨⟨h.1.1.1,by omega⟩,B94 h.1.2 hs⟩,by omega⟩
attribute [local irreducible] Et F7 in
theorem Jd {v:B8} {n:At} (h:(Bd v n).2=0):VF (Bd v n).1:=by
 obtain ⟨hv,hn,hc,e⟩:=M3 h
 rw [e]
 have hz:=Uj hv n
 have hk:Ak (Bi v.known n)=true:=E7 _
 have hS:=Ll (list:=Gh (F7 v n) (Bi v.known n) n) hv.held Hw
 refine ⟨hk,hz,hS,C42 hv.cache List.filter_sublist,fun x hx=>?_,fun w hw=>?_,fun x hx=>(List.mem_filter.1 hx).2⟩
 ·obtain ⟨k,hk,e⟩:=B21 (f:=Ex v.zones v.known n) (Kd hv.zones hv.known n) (x:=x) (by have h9:x∈F7 v n:=hx;unfold F7 at h9;exact h9)
  unfold Ex at e
  split at e
  ·cases e
  ·rename_i hcc
   rw [<-Option.some.inj e]
   exact ⟨by simpa using hcc,Zn (hv.reach_le k)⟩
 ·rcases Ah0 hv.held Hw w hw with h1 | h1
  ·have hr:=Mz (hv.held.2 w h1)
   have h2:=hv.reached w h1
   obtain ⟨k,hk⟩ : ∃ k:Nat,w.object=k:=⟨w.object.toNat,by omega⟩
   simp only
   rw [hk] at h2 ⊢
   rw [Fs hv n (by omega)]
   exact Cd0 (Ax0 _ _ n k) h2
  ·exact ((Ns hz hk).1 (List.mem_filter.1 h1).2).2
end Go.Proofs.YthlgnjlpakimaaaGreatDoor
