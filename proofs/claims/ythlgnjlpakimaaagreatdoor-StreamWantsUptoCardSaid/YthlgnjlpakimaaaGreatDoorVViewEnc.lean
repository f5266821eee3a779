/- Zones, bodies, views as trees. -/
import Derived.Test.YthlgnjlpakimaaaGreatDoorVStreamSpec
import Derived.Test.YthlgnjlpakimaaaGreatDoorVClone
import Derived.Test.YthlgnjlpakimaaaGreatDoorVRefLog
import Derived.Test.YthlgnjlpakimaaaGreatDoorVBridge2
set_option linter.all false
set_option linter.unnecessarySimpa false
set_option linter.unusedSimpArgs false
set_option linter.unusedVariables false
namespace Go.Proofs.YthlgnjlpakimaaaGreatDoor
-- zones
structure Ao where
 span:Ad
 vec:List Aa
 deriving DecidableEq
def Ao.has (x:Ao) (o:Int):Bool:=decide (x.span.lo<=o)&&decide (o<=x.span.hi)
def Bb (p:Option Ao):Int:=match p with
 | none=>-1
 | some q=>q.span.hi
def Ex (p:Option Ao) (x:Ao):Bool:=match p with
 | none=>false
 | some q=>decide (q.span.hi+1=x.span.lo)&&decide (q.vec=x.vec)
def Dc (p:Option Ao) (x:Ao):Bool:=decide (Bb p < x.span.lo)&&!Ex p x
def Ch (x:Ao):Bool:=decide (x.span.lo<=x.span.hi)&&decide (x.span.hi<=255)&&Ak x.vec
def B6:Option Ao->List Ao->Bool
 | _,[]=>true
 | p,x :: l=>(Dc p x&&Ch x)&&B6 (some x) l
def Ay (l:List Ao):Bool:=B6 none l
theorem B42 {α:Type} (x:α) (l:List α) (p:Option α):(x :: l).getLast?.or p=l.getLast?.or (some x):=by
 cases l with
 | nil=>rfl
 | cons y l =>
  rw [List.getLast?_cons_cons]
  cases h:(y :: l).getLast? with
  | none=>simp at h
  | some z=>rfl
theorem Ew:∀ (l m:List Ao) (p:Option Ao),B6 p (l++m)=(B6 p l&&B6 (l.getLast?.or p) m)
 | [],m,p=>by simp [B6]
 | x :: l,m,p=>by rw [List.cons_append,B6,B6,Ew l m,B42];simp only [Bool.and_assoc]
theorem Gt {l:List Ao} {m:Nat} (h:m < l.length) (ht:B6 none (l.take m)=true):Ay l=((Dc (l.take m).getLast? l[m]&&Ch l[m])&&B6 (some l[m]) (l.drop (m+1))):=by
 unfold Ay
 conv=>lhs;rw [<-List.take_append_drop m l,List.drop_eq_getElem_cons h]
 rw [Ew,ht,Bool.true_and,B6]
 simp
theorem Ko {l:List Ao} {m:Nat} (h:m < l.length) (ht:B6 none (l.take m)=true) (h1:Dc (l.take m).getLast? l[m]=true) (h2:Ch l[m]=true):B6 none (l.take (m+1))=true:=by
 rw [List.take_succ_eq_append_getElem h,Ew,ht,Bool.true_and,B6,B6]
 simp [h1,h2]
theorem Jq {α:Type} {l:List α} {m:Nat} (h:m < l.length):(l.take (m+1)).getLast? = some l[m]:=by
 rw [List.take_succ_eq_append_getElem h,List.getLast?_concat]
theorem Q6:∀ {l:List Ao} {p:Option Ao},B6 p l=true->-1<=Bb p/\Bb p<=255->-1<=Bb (l.getLast?.or p)/\Bb (l.getLast?.or p)<=255
 | [],p,_,h=>h
 | x :: l,p,h,hp=>by
  rw [B42]
  simp only [B6,Dc,Ch,Bool.and_eq_true,decide_eq_true_eq] at h
  obtain ⟨⟨⟨h1,_⟩,⟨h2,h3⟩,_⟩,h4⟩:=h
  exact Q6 h4 ⟨show -1<=x.span.hi by omega,show x.span.hi<=255 by omega⟩
theorem Kr {l:List Ao} {m:Nat} (h:B6 none (l.take m)=true):-1<=Bb (l.take m).getLast? /\ Bb (l.take m).getLast? <= 255:=by
 have:=Q6 h ⟨Int.le_refl _,by decide⟩
 rwa [Option.or_none] at this
def Dr (l:List Ao):List Ad:=if Ay l=true then Ba (l.map (·.span)) else []
def Tw (l:List Ao) (o:Int):Option Ao:=l.find? fun x=>x.has o
def Bd (l:List Ao) (known:List Aa) (o:Int):List Aa:=match Tw l o with
 | some x=>x.vec
 | none=>known
def Lj (l:List Ao) (known:List Aa) (o:Int):List Aa:=if Ay l=true/\Ak known=true/\0<=o/\o<=255 then Bd l known o else []
theorem Re {l:List Ao} {m:Nat} {o:Int} (ht:∀ x∈l.take m,x.has o=false) (h:m < l.length) (hx:l[m].has o=true):Tw l o=some l[m]:=by
 unfold Tw
 conv=>lhs;rw [<-List.take_append_drop m l,List.drop_eq_getElem_cons h]
 rw [List.find?_append,List.find?_eq_none.2 fun x hx=>by rw [ht x hx];simp,Option.none_or]
 simp only [List.find?_cons,hx]
theorem Xu {l:List Ao} {o:Int} (ht:∀ x∈l,x.has o=false):Tw l o=none:=List.find?_eq_none.2 fun x hx=>by rw [ht x hx];simp
def Kq (l:List Ao) (o:Int):Int:=if l.findIdx (fun x=>x.has o) < l.length then ((l.findIdx fun x=>x.has o:Nat):Int) else -1
theorem B58 {l:List Ao} {m:Nat} {o:Int} (h:m < l.length) (ht:∀ x∈l.take m,x.has o=false) (hx:l[m].has o=true):Kq l o=(m:Nat):=by
 have e:l.findIdx (fun x=>x.has o)=m:=(List.findIdx_eq h).2 ⟨hx,fun j hj=>by
  have:=ht l[j] (List.mem_take_iff_getElem.2 ⟨j,by omega,rfl⟩)
  simp [this]⟩
 unfold Kq
 rw [e,if_pos h]
theorem Ai0 {l:List Ao} {o:Int} (ht:∀ x∈l,x.has o=false):Kq l o=-1:=by
 unfold Kq
 rw [if_neg]
 rw [List.findIdx_lt_length]
 rintro ⟨x,hx,h⟩
 rw [ht x hx] at h
 cases h
theorem B60 {l:List Ao} {o:Int} (h:0<=Kq l o):∃ hl:(Kq l o).toNat < l.length,Tw l o=some l[(Kq l o).toNat]:=by
 unfold Kq at h ⊢
 by_cases hl:l.findIdx (fun x=>x.has o) < l.length
 ·simp only [if_pos hl,Int.toNat_natCast]
  exact ⟨hl,Re (fun x hx=>by
   obtain ⟨j,hj,rfl⟩:=List.mem_take_iff_getElem.1 hx
   have:=List.not_of_lt_findIdx (p:=fun x:Ao=>x.has o) (xs:=l) (i:=j) (by omega)
   simpa using this) hl (List.findIdx_getElem (w:=hl))⟩
 ·rw [if_neg hl] at h;omega
theorem B59 {l:List Ao} {o:Int} (h:¬ 0<=Kq l o):Tw l o=none:=by
 unfold Kq at h
 by_cases hl:l.findIdx (fun x=>x.has o) < l.length
 ·rw [if_pos hl] at h;omega
 ·rw [List.findIdx_lt_length] at hl
  exact List.find?_eq_none.2 fun x hx hh=>hl ⟨x,hx,hh⟩
theorem Eu:∀ {l:List Ao} {p:Option Ao},B6 p l=true->∀ x∈l,Ch x=true
 | [],_,_,x,hx=>by cases hx
 | y :: l,p,h,x,hx=>by
  simp only [B6,Bool.and_eq_true] at h
  rcases List.mem_cons.1 hx with rfl | hx
  ·exact h.1.2
  ·exact Eu h.2 x hx
-- shelves
def Fo (o:Int):Bool:=decide (0<=o)&&decide (o<=255)
def Di (w:Ai):Bool:=Fo w.object&&Bu w.stamp.count w.stamp.node
def Cp:Int->List Ai->Bool
 | _,[]=>true
 | e,w :: l=>(Di w&&decide (e < w.object))&&Cp w.object l
def Bk (l:List Ai):Bool:=Cp (-1) l
def Gh (e:Int) (l:List Ai):Int:=(l.getLast?.map (·.object)).getD e
theorem A54 (x:Ai) (l:List Ai) (e:Int):Gh e (x :: l)=Gh x.object l:=by
 unfold Gh
 cases l with
 | nil=>rfl
 | cons y l =>
  rw [List.getLast?_cons_cons]
  cases h:(y :: l).getLast? with
  | none=>simp at h
  | some z=>rfl
theorem Kw:∀ (l m:List Ai) (e:Int),Cp e (l++m)=(Cp e l&&Cp (Gh e l) m)
 | [],m,p=>by simp [Cp,Gh]
 | x :: l,m,p=>by rw [List.cons_append,Cp,Cp,Kw l m,A54];simp only [Bool.and_assoc]
theorem Vg {l:List Ai} {m:Nat} (h:m < l.length) (ht:Cp (-1) (l.take m)=true):Bk l=((Di l[m]&&decide (Gh (-1) (l.take m) < l[m].object))&&Cp l[m].object (l.drop (m+1))):=by
 unfold Bk
 conv=>lhs;rw [<-List.take_append_drop m l,List.drop_eq_getElem_cons h]
 rw [Kw,ht,Bool.true_and,Cp]
theorem U6 {l:List Ai} {m:Nat} (h:m < l.length) (ht:Cp (-1) (l.take m)=true) (h1:Di l[m]=true) (h2:Gh (-1) (l.take m) < l[m].object):Cp (-1) (l.take (m+1))=true/\Gh (-1) (l.take (m+1))=l[m].object:=by
 constructor
 ·rw [List.take_succ_eq_append_getElem h,Kw,ht,Bool.true_and,Cp,Cp]
  simp [h1,h2]
 ·unfold Gh;rw [Jq h];rfl
theorem Y9 {l:List Ai} {m:Nat} (h0:0 < m) (h:m < l.length):Gh (-1) (l.take m)=l[m - 1].object:=by
 obtain ⟨k,rfl⟩ : ∃ k,m=k+1:=⟨m - 1,by omega⟩
 unfold Gh
 rw [Jq (show k < l.length by omega)]
 rfl
def E6 (l:List Ai) (o:Int):Option Ai:=l.find? fun w=>decide (w.object=o)
theorem Ab9 {l:List Ai} {m:Nat} {o:Int} (ht:∀ w∈l.take m,¬ w.object=o) (h:m < l.length) (hx:l[m].object=o):E6 l o=some l[m]:=by
 unfold E6
 conv=>lhs;rw [<-List.take_append_drop m l,List.drop_eq_getElem_cons h]
 rw [List.find?_append,List.find?_eq_none.2 fun x hx=>by simpa using ht x hx,Option.none_or]
 simp only [List.find?_cons,hx,decide_true]
theorem Xj {l:List Ai} {o:Int} (ht:∀ w∈l,¬ w.object=o):E6 l o=none:=List.find?_eq_none.2 fun x hx=>by simpa using ht x hx
theorem Bb6 {l:List Ai} {m:Nat} {o:Int} (h:m < l.length) (ht:∀ w∈l.take m,¬ w.object=o) (hx:¬ l[m].object=o):∀ w∈l.take (m+1),¬ w.object=o:=fun w hw=>by
 rw [List.take_succ_eq_append_getElem h] at hw
 rcases List.mem_append.1 hw with h1 | h1
 ·exact ht w h1
 ·rw [List.mem_singleton.1 h1];exact hx
def noW:Ai:=⟨⟨0,0⟩,0,false⟩
def A66 (l:List Ai) (o:Int):Ai×Int:=if Bk l=true then (match E6 l o with | some w=>(w,0) | none=>(noW,8)) else (noW,1)
-- caches
def Do (x:Ct):Bool:=Fo x.object&&Bu x.stamp.count x.stamp.node&&decide (x.value.length<=256)
def Mg (l:List Ct):Nat:=(l.map (·.value.length)).sum
theorem Ad0:∀ (l:List Ct),(∀ x∈l,x.value.length<=256)->Mg l<=256*l.length
 | [],_=>Nat.le_refl _
 | x :: l,h=>by
  have h1:=h x (by simp)
  have h2:=Ad0 l fun y hy=>h y (List.mem_cons_of_mem _ hy)
  simp only [Mg,List.map_cons,List.sum_cons,List.length_cons] at *
  omega
theorem A73 {l:List Ct} {m:Nat} (h:m < l.length):Mg (l.take (m+1))=Mg (l.take m)+l[m].value.length:=by
 unfold Mg
 rw [List.take_succ_eq_append_getElem h,List.map_append,List.sum_append]
 simp
def B31 (room:Int):Bool:=decide (0<=room)&&decide (room<=16777216)
def Hm (l:List Ct):Bool:=l.all Do&&decide ((l.map (·.object)).Nodup)
theorem B99 {l:List Ct} (k:Nat) (h:Hm l=true):Hm (l.take k)=true:=by
 simp only [Hm,Bool.and_eq_true,decide_eq_true_eq,List.all_eq_true] at h ⊢
 exact ⟨fun x hx=>h.1 x (List.mem_of_mem_take hx),h.2.sublist ((List.take_sublist k l).map _)⟩
def A65 (l:List Ct) (o:Int):Bool:=l.any fun x=>decide (x.object=o)
theorem Xd {l:List Ct} {m:Nat} (h:m < l.length) (ht:Hm (l.take m)=true):Hm (l.take (m+1))=(Do l[m]&&!A65 (l.take m) l[m].object):=by
 simp only [Hm,Bool.and_eq_true,decide_eq_true_eq,List.all_eq_true] at ht
 rw [Bool.eq_iff_iff]
 simp only [Hm,Bool.and_eq_true,decide_eq_true_eq,List.all_eq_true,List.take_succ_eq_append_getElem h,List.map_append,List.map_cons,List.map_nil,List.nodup_append,Bool.not_eq_true',A65,List.any_eq_false,List.mem_append,List.mem_singleton]
 constructor
 ·rintro ⟨h1,h2,_,h3⟩
  refine ⟨h1 _ (.inr rfl),fun x hx e=>h3 x.object (List.mem_map_of_mem hx) _ rfl (by simpa using e)⟩
 ·rintro ⟨h1,h2⟩
  refine ⟨fun x hx=>hx.elim (ht.1 x) fun e=>e ▸ h1,ht.2,by simp,fun a ha b hb e=>?_⟩
  obtain ⟨x,hx,rfl⟩:=List.mem_map.1 ha
  exact h2 x hx (by simp [e,hb])
theorem Z5 {l:List Ct} {m:Nat} (h:m < l.length) (ht:Hm (l.take m)=true) (hx:Do l[m]=false\/A65 (l.take m) l[m].object=true):Hm l=false:=by
 cases hl:Hm l with
 | false=>rfl
 | true =>
  have:=B99 (m+1) hl
  rw [Xd h ht] at this
  rcases hx with hx | hx<;>rw [hx] at this<;>simp at this
theorem Lw {x:Ct} (h:Do x=true):0<=x.object/\x.object < 256/\x.value.length<=256:=by
 simp only [Do,Fo,Bool.and_eq_true,decide_eq_true_eq] at h
 omega
theorem Ud {l:List Ct} (h:Hm l=true):∀ x∈l,Do x=true:=by
 simp only [Hm,Bool.and_eq_true,List.all_eq_true] at h
 exact h.1
theorem Ab6 {l:List Ct} {m:Nat} (h:m < l.length) (o:Int):A65 (l.take (m+1)) o=(A65 (l.take m) o || decide (l[m].object=o)):=by
 unfold A65
 rw [List.take_succ_eq_append_getElem h,List.any_append]
 simp
def Cy (l:List Ct) (room:Int):Bool:=B31 room&&decide (l.length<=256)&&Hm l&&decide ((Mg l:Int)<=room)
-- views
structure Br where
 known:List Aa
 zones:List Ao
 held:List Ai
 bodies:List Ct
 room:Int
def Xp (a b:List Aa):Int:=if At a b=true then (if At b a=true then 0 else 2) else (if At b a=true then 1 else 3)
def Ej (l:List Ao) (known:List Aa) (w:Ai):Bool:=Dv (Lj l known w.object) w.stamp
def Ac9 (w:Option Ai) (x:Ct):Bool:=match w with
 | some w=>decide (w.stamp=x.stamp)&&!w.gone
 | none=>false
def Df (held:List Ai) (x:Ct):Bool:=Ac9 (E6 held x.object) x
def F9 (v:Br):Bool:=Ak v.known&&Ay v.zones&&Bk v.held&&Cy v.bodies v.room
def Al (v:Br):Bool:=F9 v&&v.zones.all (fun x=>decide (Xp x.vec v.known=1))&&v.held.all (fun w=>Ej v.zones v.known w)&&v.bodies.all (fun x=>Df v.held x)
end Go.Proofs.YthlgnjlpakimaaaGreatDoor
namespace Go.Proofs.YthlgnjlpakimaaaGreatDoor
open Go.ChangeShapes Go.WideShapes Go.ChangeAt Go.RowKit
section
variable {P : Program} {G : World -> Prop} {ops rest : List Oper} {KK : Ah -> Prop} {σ : Ah} {d : Option Tmp} {op : Op} {ty : TypeId} {pos : String} {after : Array Edge} {j : Nat} {g : Bool} {A B X p : Prop} [Decidable p]
variable {ds : List Nat} {fr0 : List (Nat × AV)} {toks : List BA} {rs : List AV} {KD : List BA -> List AV -> Prop} {hs : List G4}
theorem Bq (h1:p->A) (h2:¬ p->B):Nn (.val (.bool (decide p))) A B:=C9 (fun h=>h1 (of_decide_eq_true h)) (fun h=>h2 (of_decide_eq_false h))
theorem Ef (_:X=Cf P G ops (⟨d,op,ty,pos,after,some (j,g)⟩ :: rest) σ KK) (_:Hp ops σ.fr j=.val (.bool (decide p))) (h1:p->decide p=true->X) (h2:¬ p->decide p=false->X):X:=by
 by_cases h:p
 ·exact h1 h (decide_eq_true h)
 ·exact h2 h (decide_eq_false h)
theorem Pb (_:X=Bh P G ds fr0 (⟨d,op,ty,pos,after,some (j,g)⟩ :: rest) hs toks rs KD) (_:nrm (rs.getD j .any)=.val (.bool (decide p))) (h1:p->decide p=true->X) (h2:¬ p->decide p=false->X):X:=by
 by_cases h:p
 ·exact h1 h (decide_eq_true h)
 ·exact h2 h (decide_eq_false h)
theorem ix_ {α:Type} {l:List α} {f:α->List IV} {i:Nat} {K:List IV->Prop} (h:i < l.length) (hk:K (f l[i])):0<=(i:Int)/\∃ cs,(l.map f)[i]? = some cs/\Fb (K cs):=⟨by omega,_,Cb (List.getElem?_eq_getElem h),Am hk⟩
end
attribute [go_sem] true_or exists_const List.nodup_nil AV.val.injEq Value.bool.injEq Value.int.injEq and_self
def enZ (x:Ao):List IV:=[.val (.int .i64 x.span.lo),.val (.int .i64 x.span.hi),stI x.vec]
def byI (l:List Nat):IV:=.sl 1 (l.map fun (b:Nat)=>[.val (.int .u8 b)])
def enB (x:Ct):List IV:=[.val (.int .i64 x.object),.val (.int .i64 x.stamp.count),.val (.int .i64 x.stamp.node),byI x.value]
def znI (l:List Ao):IV:=.sl 3 (l.map enZ)
def boI (l:List Ct):IV:=.sl 4 (l.map enB)
def wA (w:Ai):AV:=.agg [.val (.int .i64 w.stamp.count),.val (.int .i64 w.stamp.node),.val (.int .i64 w.object),.val (.bool w.gone)]
def boA (x:Ct):AV:=.agg [.val (.int .i64 x.object),.val (.int .i64 x.stamp.count),.val (.int .i64 x.stamp.node),.iv (byI x.value)]
def vwA (v:Br):AV:=.agg [.iv (stI v.known),.iv (znI v.zones),.iv (wrI v.held),.iv (boI v.bodies),.val (.int .i64 v.room)]
theorem Gd (x:Ao):enZ x=[.val (.int .i64 x.span.lo),.val (.int .i64 x.span.hi),stI x.vec]:=rfl
theorem Jl (x:Ct):enB x=[.val (.int .i64 x.object),.val (.int .i64 x.stamp.count),.val (.int .i64 x.stamp.node),byI x.value]:=rfl
theorem Mx (l:List Nat):byI l=.sl 1 (l.map fun (b:Nat)=>[.val (.int .u8 b)]):=rfl
theorem Gn (l:List Ao):znI l=.sl 3 (l.map enZ):=rfl
theorem Jo (l:List Ct):boI l=.sl 4 (l.map enB):=rfl
theorem Jp (w:Ai):wA w=.agg [.val (.int .i64 w.stamp.count),.val (.int .i64 w.stamp.node),.val (.int .i64 w.object),.val (.bool w.gone)]:=rfl
theorem Hw (x:Ct):boA x=.agg [.val (.int .i64 x.object),.val (.int .i64 x.stamp.count),.val (.int .i64 x.stamp.node),.iv (byI x.value)]:=rfl
theorem Fl (v:Br):vwA v=.agg [.iv (stI v.known),.iv (znI v.zones),.iv (wrI v.held),.iv (boI v.bodies),.val (.int .i64 v.room)]:=rfl
end Go.Proofs.YthlgnjlpakimaaaGreatDoor
