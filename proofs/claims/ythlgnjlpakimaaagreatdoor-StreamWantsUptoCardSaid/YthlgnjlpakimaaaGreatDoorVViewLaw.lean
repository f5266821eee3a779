/- A view that takes: which bodies stay, one told write at a time. Plain. -/
import Derived.Test.YthlgnjlpakimaaaGreatDoorVPutLaw
import Derived.Test.YthlgnjlpakimaaaGreatDoorVTakeLaw
set_option linter.all false
set_option linter.unnecessarySimpa false
set_option linter.unusedSimpArgs false
set_option linter.unusedVariables false
namespace Go.Proofs.YthlgnjlpakimaaaGreatDoor
-- shelves
def Fe (l:List Ai) (set:List Ad):List Ai:=l.filter fun w=>By set w.object
def L2 (l:List Ai) (set:List Ad):List Ai×Int:=if Bk l=true then (Fe l set,0) else ([],1)
-- caches
def isB (o:Int) (s:Aa) (x:Ct):Bool:=decide (x.object=o)&&decide (x.stamp=s)
def Yv (l:List Ct) (o:Int) (s:Aa):List Nat×Int:=match l.find? (isB o s) with
 | some x=>(x.value,0)
 | none=>([],10)
def Kk (l:List Ct) (o:Int):List Ct:=l.filter fun x=>!decide (x.object=o)
def By8 (room:Int):List Ct->List Ct
 | []=>[]
 | x :: l=>if (Mg (x :: l):Int)<=room then x :: l else By8 room l
def Da3 (l:List Ct) (room:Int) (x:Ct):List Ct×Int:=if Cy l room=true/\Do x=true then (By8 room (Kk l x.object++[x]),0) else ([],1)
-- views
def Da4 (room:Int):Br×Int:=if B31 room=true then (⟨[],[],[],[],room⟩,0) else (Uf,1)
def Bm9 (v:Br) (x:Ct):Br×Int :=
 if Al v=true/\Do x=true then
  (if Df v.held x=true then (⟨v.known,v.zones,v.held,By8 v.room (Kk v.bodies x.object++[x]),v.room⟩,0) else (Uf,13))
 else (Uf,1)
def Tp (v:Br) (o:Int):List Nat×Ai×Int :=
 if Al v=true/\Fo o=true then
  (if By (Dr v.zones) o=true then ([],noW,9) else
   match E6 v.held o with
   | none=>([],noW,8)
   | some w=>if w.gone=true then ([],w,0) else ((Yv v.bodies o w.stamp).1,w,(Yv v.bodies o w.stamp).2))
 else ([],noW,1)
def Af2:Ct:=⟨0,⟨0,0⟩,[]⟩
def D23 (v:Br) (o:Int):Ct×Int :=
 if Al v=true/\Fo o=true then
  (match E6 v.held o with
   | none=>(Af2,8)
   | some w=>if w.gone=true then (Af2,13) else (if (Yv v.bodies o w.stamp).2=0 then (⟨o,w.stamp,(Yv v.bodies o w.stamp).1⟩,0) else (Af2,(Yv v.bodies o w.stamp).2)))
 else (Af2,1)
theorem Ks {z:List Ao} {k:List Aa} {n:Aq} : ∀ w∈Gg z k n,Di w=true:=fun w hw=>by
 have h:=(List.mem_filter.1 hw).2
 simp only [Ej,Dv,Bool.and_eq_true,decide_eq_true_eq] at h
 have ho:0<=w.object/\w.object<=255:=by
  have h2:=h.2
  have h1:=h.1
  unfold Lj at h2
  by_cases hc:Ay z=true/\Ak k=true/\0<=w.object/\w.object<=255
  ·exact hc.2.2
  ·rw [if_neg hc] at h2
   simp only [A8,Bu,decide_eq_true_eq] at h1 h2
   omega
 simp only [Di,Fo,Bool.and_eq_true,decide_eq_true_eq]
 exact ⟨ho,h.1⟩
theorem H5:∀ {list l:List Ai} {o:Int},Shelf l->(∀ w∈list,Di w=true)->(∀ w∈list,¬ w.object=o)->E6 (Mo l list) o=E6 l o
 | [],_,_,_,_,_=>rfl
 | w :: list,l,o,h,hr,hn=>by
  have h1:=Ae9 h (hr w (by simp)) o
  rw [if_neg fun e=>hn w (by simp) e.symm] at h1
  rw [<-h1]
  exact H5 (l:=Jg l w) (Pp h (hr w (by simp))).1 (fun x hx=>hr x (by simp [hx])) fun x hx=>hn x (by simp [hx])
def V8 (H:List Ai) (t:List Ai) (l:List Ct):List Ct:=l.filter fun x=>Df H x || !t.any fun w=>decide (x.object=w.object)
theorem B75 (H:List Ai) (l:List Ct):V8 H [] l=l:=List.filter_eq_self.2 fun x _=>by simp
theorem Au7 (H t:List Ai) (w:Ai) (l:List Ct):V8 H (t++[w]) l=(V8 H t l).filter fun x=>Df H x || !decide (x.object=w.object):=by
 unfold V8
 rw [List.filter_filter]
 congr 1
 funext x
 simp only [List.any_append,List.any_cons,List.any_nil,Bool.or_false,Bool.not_or]
 cases Df H x<;>simp [Bool.and_comm]
theorem Au8 {H t:List Ai} {l:List Ct} (h:(l.map (·.object)).Nodup):((V8 H t l).map (·.object)).Nodup:=h.sublist (List.filter_sublist.map _)
theorem Ba8 {q:Ct->Bool} {o:Int} {l:List Ct} (h:l.any (fun x=>decide (x.object=o))=false):(l.filter fun x=>q x || !decide (x.object=o))=l :=
 List.filter_eq_self.2 fun x hx=>by
  have:=List.any_eq_false.1 h x hx
  simp only [decide_eq_true_eq] at this
  simp [this]
theorem Bk1 {q:Ct->Bool} {o:Int} {l:List Ct} {i:Nat} (hn:(l.map (·.object)).Nodup) (hi:i < l.length) (ho:l[i].object=o):(l.filter fun x=>q x || !decide (x.object=o))=if q l[i]=true then l else l.take i++l.drop (i+1):=by
 have hne:∀ (j:Nat) (hj:j < l.length),j≠i->¬ l[j].object=o:=fun j hj hji e=>by
  have:=(List.getElem_inj (xs:=l.map (·.object)) (i:=j) (j:=i) (h₀:=by simpa using hj) (h₁:=by simpa using hi) hn).1 (by simp [e,ho])
  exact hji this
 by_cases hq:q l[i]=true
 ·rw [if_pos hq,List.filter_eq_self]
  intro x hx
  obtain ⟨j,hj,rfl⟩:=List.mem_iff_getElem.1 hx
  by_cases e:j=i
  ·subst e
   rw [hq,Bool.true_or]
  ·simp [hne j hj e]
 ·rw [if_neg hq]
  conv=>lhs;rw [<-List.take_append_drop i l,List.drop_eq_getElem_cons hi]
  rw [List.filter_append,List.filter_cons,if_neg (by simp [ho,hq]),List.filter_eq_self.2,List.filter_eq_self.2]
  ·intro x hx
   obtain ⟨j,hj,rfl⟩:=List.mem_drop_iff_getElem.1 hx
   simp [hne _ _ (by omega:i+1+j≠i)]
  ·intro x hx
   obtain ⟨j,hj,rfl⟩:=List.mem_take_iff_getElem.1 hx
   simp [hne j (by omega) (by omega)]
theorem B76 {v:Br} {z:List Ao} {k:List Aa} {n:Aq} (h:Al v=true):V8 (Mo v.held (Gg z k n)) (Gg z k n) v.bodies=v.bodies.filter fun x=>Df (Mo v.held (Gg z k n)) x:=by
 simp only [Al,F9,Bool.and_eq_true,List.all_eq_true] at h
 refine List.filter_congr fun x hx=>?_
 cases ht:(Gg z k n).any fun w=>decide (x.object=w.object) with
 | true=>simp
 | false =>
  have hw:Df (Mo v.held (Gg z k n)) x=true:=by
   unfold Df
   rw [H5 (Fd.1 h.1.1.1.1.2) Ks fun w hw e=>by
    have:=List.any_eq_false.1 ht w hw
    simp [e] at this]
   exact h.2 x hx
  rw [hw]
  rfl
theorem Ai3 {v:Br} (h:Al v=true):Kk v.bodies (-1)=v.bodies:=by
 simp only [Al,F9,Cy,Bool.and_eq_true] at h
 refine List.filter_eq_self.2 fun x hx=>?_
 have:=Lw (Ud h.1.1.1.2.1.2 x hx)
 simp
 omega
theorem Be8 {v:Br} (h:Al v=true):v.bodies.length<=256:=by
 simp only [Al,F9,Cy,Bool.and_eq_true,decide_eq_true_eq] at h
 exact h.1.1.1.2.1.1.2
theorem At8 {v:Br} (h:Al v=true):v.zones.length<=256:=by
 simp only [Al,F9,Bool.and_eq_true] at h
 have:(v.zones.length:Int)<=255 - -1:=Wl h.1.1.1.1.1.2 (by decide)
 omega
theorem B66 {v:Br} (h:Al v=true):(v.bodies.map (·.object)).Nodup:=by
 simp only [Al,F9,Cy,Hm,Bool.and_eq_true,decide_eq_true_eq] at h
 exact h.1.1.1.2.1.2.2
end Go.Proofs.YthlgnjlpakimaaaGreatDoor
