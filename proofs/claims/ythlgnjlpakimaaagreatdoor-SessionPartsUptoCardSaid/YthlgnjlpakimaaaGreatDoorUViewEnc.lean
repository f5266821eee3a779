/- Zones, bodies, views as trees. -/
import Derived.Test.YthlgnjlpakimaaaGreatDoorUStreamSpec
import Derived.Test.YthlgnjlpakimaaaGreatDoorUMsg
import Derived.Test.YthlgnjlpakimaaaGreatDoorURefThr
import Derived.Test.YthlgnjlpakimaaaGreatDoorUBridge2
set_option linter.all false
set_option linter.unnecessarySimpa false
set_option linter.unusedSimpArgs false
set_option linter.unusedVariables false
namespace Go.Proofs.YthlgnjlpakimaaaGreatDoor
-- zones
structure B8 where
 span:Ad
 vec:List Ab
 deriving DecidableEq
def B8.has (x:B8) (o:Int):Bool:=decide (x.span.lo<=o)&&decide (o<=x.span.hi)
def Ca (p:Option B8):Int:=match p with
 | none=>-1
 | some q=>q.span.hi
def Fp (p:Option B8) (x:B8):Bool:=match p with
 | none=>false
 | some q=>decide (q.span.hi+1=x.span.lo)&&decide (q.vec=x.vec)
def Do (p:Option B8) (x:B8):Bool:=decide (Ca p < x.span.lo)&&!Fp p x
def E8 (x:B8):Bool:=decide (x.span.lo<=x.span.hi)&&decide (x.span.hi<=255)&&Av x.vec
def Bt:Option B8->List B8->Bool
 | _,[]=>true
 | p,x :: l=>(Do p x&&E8 x)&&Bt (some x) l
def Br (l:List B8):Bool:=Bt none l
theorem Aw4 {α:Type} (x:α) (l:List α) (p:Option α):(x :: l).getLast?.or p=l.getLast?.or (some x):=by
 cases l with
 | nil=>rfl
 | cons y l =>
  rw [List.getLast?_cons_cons]
  cases h:(y :: l).getLast? with
  | none=>simp at h
  | some z=>rfl
theorem Ga:∀ (l m:List B8) (p:Option B8),Bt p (l++m)=(Bt p l&&Bt (l.getLast?.or p) m)
 | [],m,p=>by simp [Bt]
 | x :: l,m,p=>by rw [List.cons_append,Bt,Bt,Ga l m,Aw4];simp only [Bool.and_assoc]
theorem Fz {l:List B8} {m:Nat} (h:m < l.length) (ht:Bt none (l.take m)=true):Br l=((Do (l.take m).getLast? l[m]&&E8 l[m])&&Bt (some l[m]) (l.drop (m+1))):=by
 unfold Br
 conv=>lhs;rw [<-List.take_append_drop m l,List.drop_eq_getElem_cons h]
 rw [Ga,ht,Bool.true_and,Bt]
 simp
theorem Jq {l:List B8} {m:Nat} (h:m < l.length) (ht:Bt none (l.take m)=true) (h1:Do (l.take m).getLast? l[m]=true) (h2:E8 l[m]=true):Bt none (l.take (m+1))=true:=by
 rw [List.take_succ_eq_append_getElem h,Ga,ht,Bool.true_and,Bt,Bt]
 simp [h1,h2]
theorem L9 {α:Type} {l:List α} {m:Nat} (h:m < l.length):(l.take (m+1)).getLast? = some l[m]:=by
 rw [List.take_succ_eq_append_getElem h,List.getLast?_concat]
theorem X4:∀ {l:List B8} {p:Option B8},Bt p l=true->-1<=Ca p/\Ca p<=255->-1<=Ca (l.getLast?.or p)/\Ca (l.getLast?.or p)<=255
 | [],p,_,h=>h
 | x :: l,p,h,hp=>by
  rw [Aw4]
  simp only [Bt,Do,E8,Bool.and_eq_true,decide_eq_true_eq] at h
  obtain ⟨⟨⟨h1,_⟩,⟨h2,h3⟩,_⟩,h4⟩:=h
  exact X4 h4 ⟨show -1<=x.span.hi by omega,show x.span.hi<=255 by omega⟩
theorem Np {l:List B8} {m:Nat} (h:Bt none (l.take m)=true):-1<=Ca (l.take m).getLast? /\ Ca (l.take m).getLast? <= 255:=by
 have:=X4 h ⟨Int.le_refl _,by decide⟩
 rwa [Option.or_none] at this
def D7 (l:List B8):List Ad:=if Br l=true then B9 (l.map (·.span)) else []
def U3 (l:List B8) (o:Int):Option B8:=l.find? fun x=>x.has o
def C4 (l:List B8) (known:List Ab) (o:Int):List Ab:=match U3 l o with
 | some x=>x.vec
 | none=>known
def Lq (l:List B8) (known:List Ab) (o:Int):List Ab:=if Br l=true/\Av known=true/\0<=o/\o<=255 then C4 l known o else []
theorem Pq {l:List B8} {m:Nat} {o:Int} (ht:∀ x∈l.take m,x.has o=false) (h:m < l.length) (hx:l[m].has o=true):U3 l o=some l[m]:=by
 unfold U3
 conv=>lhs;rw [<-List.take_append_drop m l,List.drop_eq_getElem_cons h]
 rw [List.find?_append,List.find?_eq_none.2 fun x hx=>by rw [ht x hx];simp,Option.none_or]
 simp only [List.find?_cons,hx]
theorem Ab4 {l:List B8} {o:Int} (ht:∀ x∈l,x.has o=false):U3 l o=none:=List.find?_eq_none.2 fun x hx=>by rw [ht x hx];simp
def Jr (l:List B8) (o:Int):Int:=if l.findIdx (fun x=>x.has o) < l.length then ((l.findIdx fun x=>x.has o:Nat):Int) else -1
theorem Ax7 {l:List B8} {m:Nat} {o:Int} (h:m < l.length) (ht:∀ x∈l.take m,x.has o=false) (hx:l[m].has o=true):Jr l o=(m:Nat):=by
 have e:l.findIdx (fun x=>x.has o)=m:=(List.findIdx_eq h).2 ⟨hx,fun j hj=>by
  have:=ht l[j] (List.mem_take_iff_getElem.2 ⟨j,by omega,rfl⟩)
  simp [this]⟩
 unfold Jr
 rw [e,if_pos h]
theorem Ab3 {l:List B8} {o:Int} (ht:∀ x∈l,x.has o=false):Jr l o=-1:=by
 unfold Jr
 rw [if_neg]
 rw [List.findIdx_lt_length]
 rintro ⟨x,hx,h⟩
 rw [ht x hx] at h
 cases h
theorem Ax9 {l:List B8} {o:Int} (h:0<=Jr l o):∃ hl:(Jr l o).toNat < l.length,U3 l o=some l[(Jr l o).toNat]:=by
 unfold Jr at h ⊢
 by_cases hl:l.findIdx (fun x=>x.has o) < l.length
 ·simp only [if_pos hl,Int.toNat_natCast]
  exact ⟨hl,Pq (fun x hx=>by
   obtain ⟨j,hj,rfl⟩:=List.mem_take_iff_getElem.1 hx
   have:=List.not_of_lt_findIdx (p:=fun x:B8=>x.has o) (xs:=l) (i:=j) (by omega)
   simpa using this) hl (List.findIdx_getElem (w:=hl))⟩
 ·rw [if_neg hl] at h;omega
theorem Ax8 {l:List B8} {o:Int} (h:¬ 0<=Jr l o):U3 l o=none:=by
 unfold Jr at h
 by_cases hl:l.findIdx (fun x=>x.has o) < l.length
 ·rw [if_pos hl] at h;omega
 ·rw [List.findIdx_lt_length] at hl
  exact List.find?_eq_none.2 fun x hx hh=>hl ⟨x,hx,hh⟩
theorem K4:∀ {l:List B8} {p:Option B8},Bt p l=true->∀ x∈l,E8 x=true
 | [],_,_,x,hx=>by cases hx
 | y :: l,p,h,x,hx=>by
  simp only [Bt,Bool.and_eq_true] at h
  rcases List.mem_cons.1 hx with rfl | hx
  ·exact h.1.2
  ·exact K4 h.2 x hx
-- shelves
def Jv (o:Int):Bool:=decide (0<=o)&&decide (o<=255)
def Gi (w:Aq):Bool:=Jv w.object&&Bm w.stamp.count w.stamp.node
def C9:Int->List Aq->Bool
 | _,[]=>true
 | e,w :: l=>(Gi w&&decide (e < w.object))&&C9 w.object l
def Bp (l:List Aq):Bool:=C9 (-1) l
def Fi (e:Int) (l:List Aq):Int:=(l.getLast?.map (·.object)).getD e
theorem Za (x:Aq) (l:List Aq) (e:Int):Fi e (x :: l)=Fi x.object l:=by
 unfold Fi
 cases l with
 | nil=>rfl
 | cons y l =>
  rw [List.getLast?_cons_cons]
  cases h:(y :: l).getLast? with
  | none=>simp at h
  | some z=>rfl
theorem Ju:∀ (l m:List Aq) (e:Int),C9 e (l++m)=(C9 e l&&C9 (Fi e l) m)
 | [],m,p=>by simp [C9,Fi]
 | x :: l,m,p=>by rw [List.cons_append,C9,C9,Ju l m,Za];simp only [Bool.and_assoc]
theorem T5 {l:List Aq} {m:Nat} (h:m < l.length) (ht:C9 (-1) (l.take m)=true):Bp l=((Gi l[m]&&decide (Fi (-1) (l.take m) < l[m].object))&&C9 l[m].object (l.drop (m+1))):=by
 unfold Bp
 conv=>lhs;rw [<-List.take_append_drop m l,List.drop_eq_getElem_cons h]
 rw [Ju,ht,Bool.true_and,C9]
theorem S0 {l:List Aq} {m:Nat} (h:m < l.length) (ht:C9 (-1) (l.take m)=true) (h1:Gi l[m]=true) (h2:Fi (-1) (l.take m) < l[m].object):C9 (-1) (l.take (m+1))=true/\Fi (-1) (l.take (m+1))=l[m].object:=by
 constructor
 ·rw [List.take_succ_eq_append_getElem h,Ju,ht,Bool.true_and,C9,C9]
  simp [h1,h2]
 ·unfold Fi;rw [L9 h];rfl
theorem Vk {l:List Aq} {m:Nat} (h0:0 < m) (h:m < l.length):Fi (-1) (l.take m)=l[m - 1].object:=by
 obtain ⟨k,rfl⟩ : ∃ k,m=k+1:=⟨m - 1,by omega⟩
 unfold Fi
 rw [L9 (show k < l.length by omega)]
 rfl
def M3 (l:List Aq) (o:Int):Option Aq:=l.find? fun w=>decide (w.object=o)
theorem A37 {l:List Aq} {m:Nat} {o:Int} (ht:∀ w∈l.take m,¬ w.object=o) (h:m < l.length) (hx:l[m].object=o):M3 l o=some l[m]:=by
 unfold M3
 conv=>lhs;rw [<-List.take_append_drop m l,List.drop_eq_getElem_cons h]
 rw [List.find?_append,List.find?_eq_none.2 fun x hx=>by simpa using ht x hx,Option.none_or]
 simp only [List.find?_cons,hx,decide_true]
theorem Uw {l:List Aq} {o:Int} (ht:∀ w∈l,¬ w.object=o):M3 l o=none:=List.find?_eq_none.2 fun x hx=>by simpa using ht x hx
theorem B43 {l:List Aq} {m:Nat} {o:Int} (h:m < l.length) (ht:∀ w∈l.take m,¬ w.object=o) (hx:¬ l[m].object=o):∀ w∈l.take (m+1),¬ w.object=o:=fun w hw=>by
 rw [List.take_succ_eq_append_getElem h] at hw
 rcases List.mem_append.1 hw with h1 | h1
 ·exact ht w h1
 ·rw [List.mem_singleton.1 h1];exact hx
def noW:Aq:=⟨⟨0,0⟩,0,false⟩
def A87 (l:List Aq) (o:Int):Aq×Int:=if Bp l=true then (match M3 l o with | some w=>(w,0) | none=>(noW,8)) else (noW,1)
-- caches
def Da (x:Dc):Bool:=Jv x.object&&Bm x.stamp.count x.stamp.node&&decide (x.value.length<=256)
def Pt (l:List Dc):Nat:=(l.map (·.value.length)).sum
theorem A49:∀ (l:List Dc),(∀ x∈l,x.value.length<=256)->Pt l<=256*l.length
 | [],_=>Nat.le_refl _
 | x :: l,h=>by
  have h1:=h x (by simp)
  have h2:=A49 l fun y hy=>h y (List.mem_cons_of_mem _ hy)
  simp only [Pt,List.map_cons,List.sum_cons,List.length_cons] at *
  omega
theorem Zt {l:List Dc} {m:Nat} (h:m < l.length):Pt (l.take (m+1))=Pt (l.take m)+l[m].value.length:=by
 unfold Pt
 rw [List.take_succ_eq_append_getElem h,List.map_append,List.sum_append]
 simp
def Av4 (room:Int):Bool:=decide (0<=room)&&decide (room<=16777216)
def Lt (l:List Dc):Bool:=l.all Da&&decide ((l.map (·.object)).Nodup)
theorem B19 {l:List Dc} (k:Nat) (h:Lt l=true):Lt (l.take k)=true:=by
 simp only [Lt,Bool.and_eq_true,decide_eq_true_eq,List.all_eq_true] at h ⊢
 exact ⟨fun x hx=>h.1 x (List.mem_of_mem_take hx),h.2.sublist ((List.take_sublist k l).map _)⟩
def Zk (l:List Dc) (o:Int):Bool:=l.any fun x=>decide (x.object=o)
theorem Un {l:List Dc} {m:Nat} (h:m < l.length) (ht:Lt (l.take m)=true):Lt (l.take (m+1))=(Da l[m]&&!Zk (l.take m) l[m].object):=by
 simp only [Lt,Bool.and_eq_true,decide_eq_true_eq,List.all_eq_true] at ht
 rw [Bool.eq_iff_iff]
 simp only [Lt,Bool.and_eq_true,decide_eq_true_eq,List.all_eq_true,List.take_succ_eq_append_getElem h,List.map_append,List.map_cons,List.map_nil,List.nodup_append,Bool.not_eq_true',Zk,List.any_eq_false,List.mem_append,List.mem_singleton]
 constructor
 ·rintro ⟨h1,h2,_,h3⟩
  refine ⟨h1 _ (.inr rfl),fun x hx e=>h3 x.object (List.mem_map_of_mem hx) _ rfl (by simpa using e)⟩
 ·rintro ⟨h1,h2⟩
  refine ⟨fun x hx=>hx.elim (ht.1 x) fun e=>e ▸ h1,ht.2,by simp,fun a ha b hb e=>?_⟩
  obtain ⟨x,hx,rfl⟩:=List.mem_map.1 ha
  exact h2 x hx (by simp [e,hb])
theorem Wt {l:List Dc} {m:Nat} (h:m < l.length) (ht:Lt (l.take m)=true) (hx:Da l[m]=false\/Zk (l.take m) l[m].object=true):Lt l=false:=by
 cases hl:Lt l with
 | false=>rfl
 | true =>
  have:=B19 (m+1) hl
  rw [Un h ht] at this
  rcases hx with hx | hx<;>rw [hx] at this<;>simp at this
theorem Nz {x:Dc} (h:Da x=true):0<=x.object/\x.object < 256/\x.value.length<=256:=by
 simp only [Da,Jv,Bool.and_eq_true,decide_eq_true_eq] at h
 omega
theorem Y0 {l:List Dc} (h:Lt l=true):∀ x∈l,Da x=true:=by
 simp only [Lt,Bool.and_eq_true,List.all_eq_true] at h
 exact h.1
theorem A35 {l:List Dc} {m:Nat} (h:m < l.length) (o:Int):Zk (l.take (m+1)) o=(Zk (l.take m) o || decide (l[m].object=o)):=by
 unfold Zk
 rw [List.take_succ_eq_append_getElem h,List.any_append]
 simp
def E5 (l:List Dc) (room:Int):Bool:=Av4 room&&decide (l.length<=256)&&Lt l&&decide ((Pt l:Int)<=room)
-- views
structure Bz where
 known:List Ab
 zones:List B8
 held:List Aq
 bodies:List Dc
 room:Int
def V0 (a b:List Ab):Int:=if Ba a b=true then (if Ba b a=true then 0 else 2) else (if Ba b a=true then 1 else 3)
def Fj (l:List B8) (known:List Ab) (w:Aq):Bool:=Fs (Lq l known w.object) w.stamp
def A48 (w:Option Aq) (x:Dc):Bool:=match w with
 | some w=>decide (w.stamp=x.stamp)&&!w.gone
 | none=>false
def F9 (held:List Aq) (x:Dc):Bool:=A48 (M3 held x.object) x
def Gj (v:Bz):Bool:=Av v.known&&Br v.zones&&Bp v.held&&E5 v.bodies v.room
def Ao (v:Bz):Bool:=Gj v&&v.zones.all (fun x=>decide (V0 x.vec v.known=1))&&v.held.all (fun w=>Fj v.zones v.known w)&&v.bodies.all (fun x=>F9 v.held x)
end Go.Proofs.YthlgnjlpakimaaaGreatDoor
namespace Go.Proofs.YthlgnjlpakimaaaGreatDoor
open Go.ChangeShapes Go.WideShapes Go.ChangeAt Go.RowKit
section
variable {P : Program} {G : World -> Prop} {ops rest : List Oper} {KK : Ah -> Prop} {σ : Ah} {d : Option Tmp} {op : Op} {ty : TypeId} {pos : String} {after : Array Edge} {j : Nat} {g : Bool} {A B X p : Prop} [Decidable p]
variable {ds : List Nat} {fr0 : List (Nat × AV)} {toks : List BA} {rs : List AV} {KD : List BA -> List AV -> Prop} {hs : List F5}
theorem Bk (h1:p->A) (h2:¬ p->B):Mk (.val (.bool (decide p))) A B:=Cl (fun h=>h1 (of_decide_eq_true h)) (fun h=>h2 (of_decide_eq_false h))
theorem Cz (_:X=Bw P G ops (⟨d,op,ty,pos,after,some (j,g)⟩ :: rest) σ KK) (_:Mn ops σ.fr j=.val (.bool (decide p))) (h1:p->decide p=true->X) (h2:¬ p->decide p=false->X):X:=by
 by_cases h:p
 ·exact h1 h (decide_eq_true h)
 ·exact h2 h (decide_eq_false h)
theorem L8 (_:X=Az P G ds fr0 (⟨d,op,ty,pos,after,some (j,g)⟩ :: rest) hs toks rs KD) (_:nrm (rs.getD j .any)=.val (.bool (decide p))) (h1:p->decide p=true->X) (h2:¬ p->decide p=false->X):X:=by
 by_cases h:p
 ·exact h1 h (decide_eq_true h)
 ·exact h2 h (decide_eq_false h)
theorem ix_ {α:Type} {l:List α} {f:α->List IV} {i:Nat} {K:List IV->Prop} (h:i < l.length) (hk:K (f l[i])):0<=(i:Int)/\∃ cs,(l.map f)[i]? = some cs/\Ej (K cs):=⟨by omega,_,Cg (List.getElem?_eq_getElem h),Aj hk⟩
end
attribute [go_sem] true_or exists_const List.nodup_nil AV.val.injEq Value.bool.injEq Value.int.injEq and_self
def enZ (x:B8):List IV:=[.val (.int .i64 x.span.lo),.val (.int .i64 x.span.hi),stI x.vec]
def byI (l:List Nat):IV:=.sl 1 (l.map fun (b:Nat)=>[.val (.int .u8 b)])
def enB (x:Dc):List IV:=[.val (.int .i64 x.object),.val (.int .i64 x.stamp.count),.val (.int .i64 x.stamp.node),byI x.value]
def znI (l:List B8):IV:=.sl 3 (l.map enZ)
def boI (l:List Dc):IV:=.sl 4 (l.map enB)
def wA (w:Aq):AV:=.agg [.val (.int .i64 w.stamp.count),.val (.int .i64 w.stamp.node),.val (.int .i64 w.object),.val (.bool w.gone)]
def boA (x:Dc):AV:=.agg [.val (.int .i64 x.object),.val (.int .i64 x.stamp.count),.val (.int .i64 x.stamp.node),.iv (byI x.value)]
def vwA (v:Bz):AV:=.agg [.iv (stI v.known),.iv (znI v.zones),.iv (wrI v.held),.iv (boI v.bodies),.val (.int .i64 v.room)]
theorem Fe (x:B8):enZ x=[.val (.int .i64 x.span.lo),.val (.int .i64 x.span.hi),stI x.vec]:=rfl
theorem Ha (x:Dc):enB x=[.val (.int .i64 x.object),.val (.int .i64 x.stamp.count),.val (.int .i64 x.stamp.node),byI x.value]:=rfl
theorem Gl (l:List Nat):byI l=.sl 1 (l.map fun (b:Nat)=>[.val (.int .u8 b)]):=rfl
theorem Fq (l:List B8):znI l=.sl 3 (l.map enZ):=rfl
theorem Hf (l:List Dc):boI l=.sl 4 (l.map enB):=rfl
theorem J9 (w:Aq):wA w=.agg [.val (.int .i64 w.stamp.count),.val (.int .i64 w.stamp.node),.val (.int .i64 w.object),.val (.bool w.gone)]:=rfl
theorem Ff (x:Dc):boA x=.agg [.val (.int .i64 x.object),.val (.int .i64 x.stamp.count),.val (.int .i64 x.stamp.node),.iv (byI x.value)]:=rfl
theorem Eh (v:Bz):vwA v=.agg [.iv (stI v.known),.iv (znI v.zones),.iv (wrI v.held),.iv (boI v.bodies),.val (.int .i64 v.room)]:=rfl
end Go.Proofs.YthlgnjlpakimaaaGreatDoor
