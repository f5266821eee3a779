/- Zones, bodies, views as trees. -/
import Derived.Test.YthlgnjlpakimaaaGreatDoorQStreamSpec
import Derived.Test.YthlgnjlpakimaaaGreatDoorQNoteWalk
import Derived.Test.YthlgnjlpakimaaaGreatDoorQRefThr
import Derived.Test.YthlgnjlpakimaaaGreatDoorQBridge2
set_option linter.all false
set_option linter.unnecessarySimpa false
set_option linter.unusedSimpArgs false
set_option linter.unusedVariables false
namespace Go.Proofs.YthlgnjlpakimaaaGreatDoor
-- zones
structure Av where
 span:Ad
 vec:List Ab
 deriving DecidableEq
def Av.has (x:Av) (o:Int):Bool:=decide (x.span.lo<=o)&&decide (o<=x.span.hi)
def Bu (p:Option Av):Int:=match p with
 | none=>-1
 | some q=>q.span.hi
def Fv (p:Option Av) (x:Av):Bool:=match p with
 | none=>false
 | some q=>decide (q.span.hi+1=x.span.lo)&&decide (q.vec=x.vec)
def Dy (p:Option Av) (x:Av):Bool:=decide (Bu p < x.span.lo)&&!Fv p x
def Cu (x:Av):Bool:=decide (x.span.lo<=x.span.hi)&&decide (x.span.hi<=255)&&Ak x.vec
def Bc:Option Av->List Av->Bool
 | _,[]=>true
 | p,x :: l=>(Dy p x&&Cu x)&&Bc (some x) l
def B7 (l:List Av):Bool:=Bc none l
theorem Bs4 {α:Type} (x:α) (l:List α) (p:Option α):(x :: l).getLast?.or p=l.getLast?.or (some x):=by
 cases l with
 | nil=>rfl
 | cons y l =>
  rw [List.getLast?_cons_cons]
  cases h:(y :: l).getLast? with
  | none=>simp at h
  | some z=>rfl
theorem Fu:∀ (l m:List Av) (p:Option Av),Bc p (l++m)=(Bc p l&&Bc (l.getLast?.or p) m)
 | [],m,p=>by simp [Bc]
 | x :: l,m,p=>by rw [List.cons_append,Bc,Bc,Fu l m,Bs4];simp only [Bool.and_assoc]
theorem Ju {l:List Av} {m:Nat} (h:m < l.length) (ht:Bc none (l.take m)=true):B7 l=((Dy (l.take m).getLast? l[m]&&Cu l[m])&&Bc (some l[m]) (l.drop (m+1))):=by
 unfold B7
 conv=>lhs;rw [<-List.take_append_drop m l,List.drop_eq_getElem_cons h]
 rw [Fu,ht,Bool.true_and,Bc]
 simp
theorem Mr {l:List Av} {m:Nat} (h:m < l.length) (ht:Bc none (l.take m)=true) (h1:Dy (l.take m).getLast? l[m]=true) (h2:Cu l[m]=true):Bc none (l.take (m+1))=true:=by
 rw [List.take_succ_eq_append_getElem h,Fu,ht,Bool.true_and,Bc,Bc]
 simp [h1,h2]
theorem Lq {α:Type} {l:List α} {m:Nat} (h:m < l.length):(l.take (m+1)).getLast? = some l[m]:=by
 rw [List.take_succ_eq_append_getElem h,List.getLast?_concat]
theorem Sw:∀ {l:List Av} {p:Option Av},Bc p l=true->-1<=Bu p/\Bu p<=255->-1<=Bu (l.getLast?.or p)/\Bu (l.getLast?.or p)<=255
 | [],p,_,h=>h
 | x :: l,p,h,hp=>by
  rw [Bs4]
  simp only [Bc,Dy,Cu,Bool.and_eq_true,decide_eq_true_eq] at h
  obtain ⟨⟨⟨h1,_⟩,⟨h2,h3⟩,_⟩,h4⟩:=h
  exact Sw h4 ⟨show -1<=x.span.hi by omega,show x.span.hi<=255 by omega⟩
theorem Mt {l:List Av} {m:Nat} (h:Bc none (l.take m)=true):-1<=Bu (l.take m).getLast? /\ Bu (l.take m).getLast? <= 255:=by
 have:=Sw h ⟨Int.le_refl _,by decide⟩
 rwa [Option.or_none] at this
def E5 (l:List Av):List Ad:=if B7 l=true then Br (l.map (·.span)) else []
def Xj (l:List Av) (o:Int):Option Av:=l.find? fun x=>x.has o
def Bb (l:List Av) (known:List Ab) (o:Int):List Ab:=match Xj l o with
 | some x=>x.vec
 | none=>known
def Kq (l:List Av) (known:List Ab) (o:Int):List Ab:=if B7 l=true/\Ak known=true/\0<=o/\o<=255 then Bb l known o else []
theorem Ue {l:List Av} {m:Nat} {o:Int} (ht:∀ x∈l.take m,x.has o=false) (h:m < l.length) (hx:l[m].has o=true):Xj l o=some l[m]:=by
 unfold Xj
 conv=>lhs;rw [<-List.take_append_drop m l,List.drop_eq_getElem_cons h]
 rw [List.find?_append,List.find?_eq_none.2 fun x hx=>by rw [ht x hx];simp,Option.none_or]
 simp only [List.find?_cons,hx]
theorem A68 {l:List Av} {o:Int} (ht:∀ x∈l,x.has o=false):Xj l o=none:=List.find?_eq_none.2 fun x hx=>by rw [ht x hx];simp
def Ms (l:List Av) (o:Int):Int:=if l.findIdx (fun x=>x.has o) < l.length then ((l.findIdx fun x=>x.has o:Nat):Int) else -1
theorem Bu1 {l:List Av} {m:Nat} {o:Int} (h:m < l.length) (ht:∀ x∈l.take m,x.has o=false) (hx:l[m].has o=true):Ms l o=(m:Nat):=by
 have e:l.findIdx (fun x=>x.has o)=m:=(List.findIdx_eq h).2 ⟨hx,fun j hj=>by
  have:=ht l[j] (List.mem_take_iff_getElem.2 ⟨j,by omega,rfl⟩)
  simp [this]⟩
 unfold Ms
 rw [e,if_pos h]
theorem B22 {l:List Av} {o:Int} (ht:∀ x∈l,x.has o=false):Ms l o=-1:=by
 unfold Ms
 rw [if_neg]
 rw [List.findIdx_lt_length]
 rintro ⟨x,hx,h⟩
 rw [ht x hx] at h
 cases h
theorem Bu3 {l:List Av} {o:Int} (h:0<=Ms l o):∃ hl:(Ms l o).toNat < l.length,Xj l o=some l[(Ms l o).toNat]:=by
 unfold Ms at h ⊢
 by_cases hl:l.findIdx (fun x=>x.has o) < l.length
 ·simp only [if_pos hl,Int.toNat_natCast]
  exact ⟨hl,Ue (fun x hx=>by
   obtain ⟨j,hj,rfl⟩:=List.mem_take_iff_getElem.1 hx
   have:=List.not_of_lt_findIdx (p:=fun x:Av=>x.has o) (xs:=l) (i:=j) (by omega)
   simpa using this) hl (List.findIdx_getElem (w:=hl))⟩
 ·rw [if_neg hl] at h;omega
theorem Bu2 {l:List Av} {o:Int} (h:¬ 0<=Ms l o):Xj l o=none:=by
 unfold Ms at h
 by_cases hl:l.findIdx (fun x=>x.has o) < l.length
 ·rw [if_pos hl] at h;omega
 ·rw [List.findIdx_lt_length] at hl
  exact List.find?_eq_none.2 fun x hx hh=>hl ⟨x,hx,hh⟩
theorem F3:∀ {l:List Av} {p:Option Av},Bc p l=true->∀ x∈l,Cu x=true
 | [],_,_,x,hx=>by cases hx
 | y :: l,p,h,x,hx=>by
  simp only [Bc,Bool.and_eq_true] at h
  rcases List.mem_cons.1 hx with rfl | hx
  ·exact h.1.2
  ·exact F3 h.2 x hx
-- shelves
def E9 (o:Int):Bool:=decide (0<=o)&&decide (o<=255)
def Do (w:Ai):Bool:=E9 w.object&&C7 w.stamp.count w.stamp.node
def D1:Int->List Ai->Bool
 | _,[]=>true
 | e,w :: l=>(Do w&&decide (e < w.object))&&D1 w.object l
def Bv (l:List Ai):Bool:=D1 (-1) l
def Jf (e:Int) (l:List Ai):Int:=(l.getLast?.map (·.object)).getD e
theorem Am8 (x:Ai) (l:List Ai) (e:Int):Jf e (x :: l)=Jf x.object l:=by
 unfold Jf
 cases l with
 | nil=>rfl
 | cons y l =>
  rw [List.getLast?_cons_cons]
  cases h:(y :: l).getLast? with
  | none=>simp at h
  | some z=>rfl
theorem My:∀ (l m:List Ai) (e:Int),D1 e (l++m)=(D1 e l&&D1 (Jf e l) m)
 | [],m,p=>by simp [D1,Jf]
 | x :: l,m,p=>by rw [List.cons_append,D1,D1,My l m,Am8];simp only [Bool.and_assoc]
theorem Zd {l:List Ai} {m:Nat} (h:m < l.length) (ht:D1 (-1) (l.take m)=true):Bv l=((Do l[m]&&decide (Jf (-1) (l.take m) < l[m].object))&&D1 l[m].object (l.drop (m+1))):=by
 unfold Bv
 conv=>lhs;rw [<-List.take_append_drop m l,List.drop_eq_getElem_cons h]
 rw [My,ht,Bool.true_and,D1]
theorem Xx {l:List Ai} {m:Nat} (h:m < l.length) (ht:D1 (-1) (l.take m)=true) (h1:Do l[m]=true) (h2:Jf (-1) (l.take m) < l[m].object):D1 (-1) (l.take (m+1))=true/\Jf (-1) (l.take (m+1))=l[m].object:=by
 constructor
 ·rw [List.take_succ_eq_append_getElem h,My,ht,Bool.true_and,D1,D1]
  simp [h1,h2]
 ·unfold Jf;rw [Lq h];rfl
theorem A79 {l:List Ai} {m:Nat} (h0:0 < m) (h:m < l.length):Jf (-1) (l.take m)=l[m - 1].object:=by
 obtain ⟨k,rfl⟩ : ∃ k,m=k+1:=⟨m - 1,by omega⟩
 unfold Jf
 rw [Lq (show k < l.length by omega)]
 rfl
def D5 (l:List Ai) (o:Int):Option Ai:=l.find? fun w=>decide (w.object=o)
theorem At8 {l:List Ai} {m:Nat} {o:Int} (ht:∀ w∈l.take m,¬ w.object=o) (h:m < l.length) (hx:l[m].object=o):D5 l o=some l[m]:=by
 unfold D5
 conv=>lhs;rw [<-List.take_append_drop m l,List.drop_eq_getElem_cons h]
 rw [List.find?_append,List.find?_eq_none.2 fun x hx=>by simpa using ht x hx,Option.none_or]
 simp only [List.find?_cons,hx,decide_true]
theorem A59 {l:List Ai} {o:Int} (ht:∀ w∈l,¬ w.object=o):D5 l o=none:=List.find?_eq_none.2 fun x hx=>by simpa using ht x hx
theorem C21 {l:List Ai} {m:Nat} {o:Int} (h:m < l.length) (ht:∀ w∈l.take m,¬ w.object=o) (hx:¬ l[m].object=o):∀ w∈l.take (m+1),¬ w.object=o:=fun w hw=>by
 rw [List.take_succ_eq_append_getElem h] at hw
 rcases List.mem_append.1 hw with h1 | h1
 ·exact ht w h1
 ·rw [List.mem_singleton.1 h1];exact hx
def noW:Ai:=⟨⟨0,0⟩,0,false⟩
def Ao0 (l:List Ai) (o:Int):Ai×Int:=if Bv l=true then (match D5 l o with | some w=>(w,0) | none=>(noW,8)) else (noW,1)
-- caches
def Dd (x:Cg):Bool:=E9 x.object&&C7 x.stamp.count x.stamp.node&&decide (x.value.length<=256)
def Jb (l:List Cg):Nat:=(l.map (·.value.length)).sum
theorem Ab6:∀ (l:List Cg),(∀ x∈l,x.value.length<=256)->Jb l<=256*l.length
 | [],_=>Nat.le_refl _
 | x :: l,h=>by
  have h1:=h x (by simp)
  have h2:=Ab6 l fun y hy=>h y (List.mem_cons_of_mem _ hy)
  simp only [Jb,List.map_cons,List.sum_cons,List.length_cons] at *
  omega
theorem Ao8 {l:List Cg} {m:Nat} (h:m < l.length):Jb (l.take (m+1))=Jb (l.take m)+l[m].value.length:=by
 unfold Jb
 rw [List.take_succ_eq_append_getElem h,List.map_append,List.sum_append]
 simp
def S2 (room:Int):Bool:=decide (0<=room)&&decide (room<=16777216)
def Hm (l:List Cg):Bool:=l.all Dd&&decide ((l.map (·.object)).Nodup)
theorem Bz3 {l:List Cg} (k:Nat) (h:Hm l=true):Hm (l.take k)=true:=by
 simp only [Hm,Bool.and_eq_true,decide_eq_true_eq,List.all_eq_true] at h ⊢
 exact ⟨fun x hx=>h.1 x (List.mem_of_mem_take hx),h.2.sublist ((List.take_sublist k l).map _)⟩
def An9 (l:List Cg) (o:Int):Bool:=l.any fun x=>decide (x.object=o)
theorem A51 {l:List Cg} {m:Nat} (h:m < l.length) (ht:Hm (l.take m)=true):Hm (l.take (m+1))=(Dd l[m]&&!An9 (l.take m) l[m].object):=by
 simp only [Hm,Bool.and_eq_true,decide_eq_true_eq,List.all_eq_true] at ht
 rw [Bool.eq_iff_iff]
 simp only [Hm,Bool.and_eq_true,decide_eq_true_eq,List.all_eq_true,List.take_succ_eq_append_getElem h,List.map_append,List.map_cons,List.map_nil,List.nodup_append,Bool.not_eq_true',An9,List.any_eq_false,List.mem_append,List.mem_singleton]
 constructor
 ·rintro ⟨h1,h2,_,h3⟩
  refine ⟨h1 _ (.inr rfl),fun x hx e=>h3 x.object (List.mem_map_of_mem hx) _ rfl (by simpa using e)⟩
 ·rintro ⟨h1,h2⟩
  refine ⟨fun x hx=>hx.elim (ht.1 x) fun e=>e ▸ h1,ht.2,by simp,fun a ha b hb e=>?_⟩
  obtain ⟨x,hx,rfl⟩:=List.mem_map.1 ha
  exact h2 x hx (by simp [e,hb])
theorem Ac2 {l:List Cg} {m:Nat} (h:m < l.length) (ht:Hm (l.take m)=true) (hx:Dd l[m]=false\/An9 (l.take m) l[m].object=true):Hm l=false:=by
 cases hl:Hm l with
 | false=>rfl
 | true =>
  have:=Bz3 (m+1) hl
  rw [A51 h ht] at this
  rcases hx with hx | hx<;>rw [hx] at this<;>simp at this
theorem Fk {x:Cg} (h:Dd x=true):0<=x.object/\x.object < 256/\x.value.length<=256:=by
 simp only [Dd,E9,Bool.and_eq_true,decide_eq_true_eq] at h
 omega
theorem Qk {l:List Cg} (h:Hm l=true):∀ x∈l,Dd x=true:=by
 simp only [Hm,Bool.and_eq_true,List.all_eq_true] at h
 exact h.1
theorem At6 {l:List Cg} {m:Nat} (h:m < l.length) (o:Int):An9 (l.take (m+1)) o=(An9 (l.take m) o || decide (l[m].object=o)):=by
 unfold An9
 rw [List.take_succ_eq_append_getElem h,List.any_append]
 simp
def Cb (l:List Cg) (room:Int):Bool:=S2 room&&decide (l.length<=256)&&Hm l&&decide ((Jb l:Int)<=room)
-- views
structure B8 where
 known:List Ab
 zones:List Av
 held:List Ai
 bodies:List Cg
 room:Int
def A64 (a b:List Ab):Int:=if Ay a b=true then (if Ay b a=true then 0 else 2) else (if Ay b a=true then 1 else 3)
def Df (l:List Av) (known:List Ab) (w:Ai):Bool:=Dr (Kq l known w.object) w.stamp
def Au9 (w:Option Ai) (x:Cg):Bool:=match w with
 | some w=>decide (w.stamp=x.stamp)&&!w.gone
 | none=>false
def Dm (held:List Ai) (x:Cg):Bool:=Au9 (D5 held x.object) x
def F9 (v:B8):Bool:=Ak v.known&&B7 v.zones&&Bv v.held&&Cb v.bodies v.room
def Af (v:B8):Bool:=F9 v&&v.zones.all (fun x=>decide (A64 x.vec v.known=1))&&v.held.all (fun w=>Df v.zones v.known w)&&v.bodies.all (fun x=>Dm v.held x)
end Go.Proofs.YthlgnjlpakimaaaGreatDoor
namespace Go.Proofs.YthlgnjlpakimaaaGreatDoor
open Go.ChangeShapes Go.WideShapes Go.ChangeAt Go.RowKit
section
variable {P : Program} {G : World -> Prop} {ops rest : List Oper} {KK : Am -> Prop} {σ : Am} {d : Option Tmp} {op : Op} {ty : TypeId} {pos : String} {after : Array Edge} {j : Nat} {g : Bool} {A B X p : Prop} [Decidable p]
variable {ds : List Nat} {fr0 : List (Nat × AV)} {toks : List BA} {rs : List AV} {KD : List BA -> List AV -> Prop} {hs : List Hc}
theorem Az (h1:p->A) (h2:¬ p->B):Rg (.val (.bool (decide p))) A B:=C3 (fun h=>h1 (of_decide_eq_true h)) (fun h=>h2 (of_decide_eq_false h))
theorem Ci (_:X=Cd P G ops (⟨d,op,ty,pos,after,some (j,g)⟩ :: rest) σ KK) (_:Km ops σ.fr j=.val (.bool (decide p))) (h1:p->decide p=true->X) (h2:¬ p->decide p=false->X):X:=by
 by_cases h:p
 ·exact h1 h (decide_eq_true h)
 ·exact h2 h (decide_eq_false h)
theorem Kf (_:X=Bl P G ds fr0 (⟨d,op,ty,pos,after,some (j,g)⟩ :: rest) hs toks rs KD) (_:nrm (rs.getD j .any)=.val (.bool (decide p))) (h1:p->decide p=true->X) (h2:¬ p->decide p=false->X):X:=by
 by_cases h:p
 ·exact h1 h (decide_eq_true h)
 ·exact h2 h (decide_eq_false h)
theorem ix_ {α:Type} {l:List α} {f:α->List IV} {i:Nat} {K:List IV->Prop} (h:i < l.length) (hk:K (f l[i])):0<=(i:Int)/\∃ cs,(l.map f)[i]? = some cs/\Gd (K cs):=⟨by omega,_,C0 (List.getElem?_eq_getElem h),Ag hk⟩
end
attribute [go_sem] true_or exists_const List.nodup_nil AV.val.injEq Value.bool.injEq Value.int.injEq and_self
def enZ (x:Av):List IV:=[.val (.int .i64 x.span.lo),.val (.int .i64 x.span.hi),stI x.vec]
def byI (l:List Nat):IV:=.sl 1 (l.map fun (b:Nat)=>[.val (.int .u8 b)])
def enB (x:Cg):List IV:=[.val (.int .i64 x.object),.val (.int .i64 x.stamp.count),.val (.int .i64 x.stamp.node),byI x.value]
def znI (l:List Av):IV:=.sl 3 (l.map enZ)
def boI (l:List Cg):IV:=.sl 4 (l.map enB)
def wA (w:Ai):AV:=.agg [.val (.int .i64 w.stamp.count),.val (.int .i64 w.stamp.node),.val (.int .i64 w.object),.val (.bool w.gone)]
def boA (x:Cg):AV:=.agg [.val (.int .i64 x.object),.val (.int .i64 x.stamp.count),.val (.int .i64 x.stamp.node),.iv (byI x.value)]
def vwA (v:B8):AV:=.agg [.iv (stI v.known),.iv (znI v.zones),.iv (wrI v.held),.iv (boI v.bodies),.val (.int .i64 v.room)]
theorem Gp (x:Av):enZ x=[.val (.int .i64 x.span.lo),.val (.int .i64 x.span.hi),stI x.vec]:=rfl
theorem K9 (x:Cg):enB x=[.val (.int .i64 x.object),.val (.int .i64 x.stamp.count),.val (.int .i64 x.stamp.node),byI x.value]:=rfl
theorem J8 (l:List Nat):byI l=.sl 1 (l.map fun (b:Nat)=>[.val (.int .u8 b)]):=rfl
theorem Gv (l:List Av):znI l=.sl 3 (l.map enZ):=rfl
theorem Kc (l:List Cg):boI l=.sl 4 (l.map enB):=rfl
theorem Jn (w:Ai):wA w=.agg [.val (.int .i64 w.stamp.count),.val (.int .i64 w.stamp.node),.val (.int .i64 w.object),.val (.bool w.gone)]:=rfl
theorem H8 (x:Cg):boA x=.agg [.val (.int .i64 x.object),.val (.int .i64 x.stamp.count),.val (.int .i64 x.stamp.node),.iv (byI x.value)]:=rfl
theorem Ei (v:B8):vwA v=.agg [.iv (stI v.known),.iv (znI v.zones),.iv (wrI v.held),.iv (boI v.bodies),.val (.int .i64 v.room)]:=rfl
end Go.Proofs.YthlgnjlpakimaaaGreatDoor
