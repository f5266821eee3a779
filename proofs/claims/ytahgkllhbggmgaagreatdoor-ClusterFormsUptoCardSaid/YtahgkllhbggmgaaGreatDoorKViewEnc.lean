/- Zones, bodies, views as trees. -/
import Derived.Test.YtahgkllhbggmgaaGreatDoorKStreamArgs
import Derived.Test.YtahgkllhbggmgaaGreatDoorKClone
import Derived.Test.YtahgkllhbggmgaaGreatDoorKNoteMerge
import Derived.Test.YtahgkllhbggmgaaGreatDoorKRefLog
set_option linter.all false
set_option linter.unnecessarySimpa false
set_option linter.unusedSimpArgs false
set_option linter.unusedVariables false
namespace Go.Proofs.YtahgkllhbggmgaaGreatDoor
-- zones
structure Bi where
 span:Ar
 vec:List Ad
 deriving DecidableEq
def Bi.has (x:Bi) (o:Int):Bool:=decide (x.span.lo<=o)&&decide (o<=x.span.hi)
def E8 (p:Option Bi):Int:=match p with
 | none=>-1
 | some q=>q.span.hi
def F3 (p:Option Bi) (x:Bi):Bool:=match p with
 | none=>false
 | some q=>decide (q.span.hi+1=x.span.lo)&&decide (q.vec=x.vec)
def Dq (p:Option Bi) (x:Bi):Bool:=decide (E8 p < x.span.lo)&&!F3 p x
def Fe (x:Bi):Bool:=decide (x.span.lo<=x.span.hi)&&decide (x.span.hi<=255)&&B6 x.vec
def By:Option Bi->List Bi->Bool
 | _,[]=>true
 | p,x :: l=>(Dq p x&&Fe x)&&By (some x) l
def D0 (l:List Bi):Bool:=By none l
theorem At2 {α:Type} (x:α) (l:List α) (p:Option α):(x :: l).getLast?.or p=l.getLast?.or (some x):=by
 cases l with
 | nil=>rfl
 | cons y l =>
  rw [List.getLast?_cons_cons]
  cases h:(y :: l).getLast? with
  | none=>simp at h
  | some z=>rfl
theorem Gw:∀ (l m:List Bi) (p:Option Bi),By p (l++m)=(By p l&&By (l.getLast?.or p) m)
 | [],m,p=>by simp [By]
 | x :: l,m,p=>by rw [List.cons_append,By,By,Gw l m,At2];simp only [Bool.and_assoc]
theorem Fd {l:List Bi} {m:Nat} (h:m < l.length) (ht:By none (l.take m)=true):D0 l=((Dq (l.take m).getLast? l[m]&&Fe l[m])&&By (some l[m]) (l.drop (m+1))):=by
 unfold D0
 conv=>lhs;rw [<-List.take_append_drop m l,List.drop_eq_getElem_cons h]
 rw [Gw,ht,Bool.true_and,By]
 simp
theorem Gv {l:List Bi} {m:Nat} (h:m < l.length) (ht:By none (l.take m)=true) (h1:Dq (l.take m).getLast? l[m]=true) (h2:Fe l[m]=true):By none (l.take (m+1))=true:=by
 rw [List.take_succ_eq_append_getElem h,Gw,ht,Bool.true_and,By,By]
 simp [h1,h2]
theorem Jo {α:Type} {l:List α} {m:Nat} (h:m < l.length):(l.take (m+1)).getLast? = some l[m]:=by
 rw [List.take_succ_eq_append_getElem h,List.getLast?_concat]
theorem Ul:∀ {l:List Bi} {p:Option Bi},By p l=true->-1<=E8 p/\E8 p<=255->-1<=E8 (l.getLast?.or p)/\E8 (l.getLast?.or p)<=255
 | [],p,_,h=>h
 | x :: l,p,h,hp=>by
  rw [At2]
  simp only [By,Dq,Fe,Bool.and_eq_true,decide_eq_true_eq] at h
  obtain ⟨⟨⟨h1,_⟩,⟨h2,h3⟩,_⟩,h4⟩:=h
  exact Ul h4 ⟨show -1<=x.span.hi by omega,show x.span.hi<=255 by omega⟩
theorem Um {l:List Bi} {m:Nat} (h:By none (l.take m)=true):-1<=E8 (l.take m).getLast? /\ E8 (l.take m).getLast? <= 255:=by
 have:=Ul h ⟨Int.le_refl _,by decide⟩
 rwa [Option.or_none] at this
def Ag3 (l:List Bi):List Ar:=if D0 l=true then Y4 (l.map (·.span)) else []
def Rx (l:List Bi) (o:Int):Option Bi:=l.find? fun x=>x.has o
def Ra (l:List Bi) (known:List Ad) (o:Int):List Ad:=match Rx l o with
 | some x=>x.vec
 | none=>known
def N3 (l:List Bi) (known:List Ad) (o:Int):List Ad:=if D0 l=true/\B6 known=true/\0<=o/\o<=255 then Ra l known o else []
theorem T3 {l:List Bi} {m:Nat} {o:Int} (ht:∀ x∈l.take m,x.has o=false) (h:m < l.length) (hx:l[m].has o=true):Rx l o=some l[m]:=by
 unfold Rx
 conv=>lhs;rw [<-List.take_append_drop m l,List.drop_eq_getElem_cons h]
 rw [List.find?_append,List.find?_eq_none.2 fun x hx=>by rw [ht x hx];simp,Option.none_or]
 simp only [List.find?_cons,hx]
theorem A58 {l:List Bi} {o:Int} (ht:∀ x∈l,x.has o=false):Rx l o=none:=List.find?_eq_none.2 fun x hx=>by rw [ht x hx];simp
def Jq (l:List Bi) (o:Int):Int:=if l.findIdx (fun x=>x.has o) < l.length then ((l.findIdx fun x=>x.has o:Nat):Int) else -1
theorem Av8 {l:List Bi} {m:Nat} {o:Int} (h:m < l.length) (ht:∀ x∈l.take m,x.has o=false) (hx:l[m].has o=true):Jq l o=(m:Nat):=by
 have e:l.findIdx (fun x=>x.has o)=m:=(List.findIdx_eq h).2 ⟨hx,fun j hj=>by
  have:=ht l[j] (List.mem_take_iff_getElem.2 ⟨j,by omega,rfl⟩)
  simp [this]⟩
 unfold Jq
 rw [e,if_pos h]
theorem A57 {l:List Bi} {o:Int} (ht:∀ x∈l,x.has o=false):Jq l o=-1:=by
 unfold Jq
 rw [if_neg]
 rw [List.findIdx_lt_length]
 rintro ⟨x,hx,h⟩
 rw [ht x hx] at h
 cases h
theorem Aw0 {l:List Bi} {o:Int} (h:0<=Jq l o):∃ hl:(Jq l o).toNat < l.length,Rx l o=some l[(Jq l o).toNat]:=by
 unfold Jq at h ⊢
 by_cases hl:l.findIdx (fun x=>x.has o) < l.length
 ·simp only [if_pos hl,Int.toNat_natCast]
  exact ⟨hl,T3 (fun x hx=>by
   obtain ⟨j,hj,rfl⟩:=List.mem_take_iff_getElem.1 hx
   have:=List.not_of_lt_findIdx (p:=fun x:Bi=>x.has o) (xs:=l) (i:=j) (by omega)
   simpa using this) hl (List.findIdx_getElem (w:=hl))⟩
 ·rw [if_neg hl] at h;omega
theorem Av9 {l:List Bi} {o:Int} (h:¬ 0<=Jq l o):Rx l o=none:=by
 unfold Jq at h
 by_cases hl:l.findIdx (fun x=>x.has o) < l.length
 ·rw [if_pos hl] at h;omega
 ·rw [List.findIdx_lt_length] at hl
  exact List.find?_eq_none.2 fun x hx hh=>hl ⟨x,hx,hh⟩
-- shelves
def J6 (o:Int):Bool:=decide (0<=o)&&decide (o<=255)
def H9 (w:Aq):Bool:=J6 w.object&&Be w.stamp.count w.stamp.node
def Cb:Int->List Aq->Bool
 | _,[]=>true
 | e,w :: l=>(H9 w&&decide (e < w.object))&&Cb w.object l
def C7 (l:List Aq):Bool:=Cb (-1) l
def Ey (e:Int) (l:List Aq):Int:=(l.getLast?.map (·.object)).getD e
theorem Xi (x:Aq) (l:List Aq) (e:Int):Ey e (x :: l)=Ey x.object l:=by
 unfold Ey
 cases l with
 | nil=>rfl
 | cons y l =>
  rw [List.getLast?_cons_cons]
  cases h:(y :: l).getLast? with
  | none=>simp at h
  | some z=>rfl
theorem H6:∀ (l m:List Aq) (e:Int),Cb e (l++m)=(Cb e l&&Cb (Ey e l) m)
 | [],m,p=>by simp [Cb,Ey]
 | x :: l,m,p=>by rw [List.cons_append,Cb,Cb,H6 l m,Xi];simp only [Bool.and_assoc]
theorem R2 {l:List Aq} {m:Nat} (h:m < l.length) (ht:Cb (-1) (l.take m)=true):C7 l=((H9 l[m]&&decide (Ey (-1) (l.take m) < l[m].object))&&Cb l[m].object (l.drop (m+1))):=by
 unfold C7
 conv=>lhs;rw [<-List.take_append_drop m l,List.drop_eq_getElem_cons h]
 rw [H6,ht,Bool.true_and,Cb]
theorem Q8 {l:List Aq} {m:Nat} (h:m < l.length) (ht:Cb (-1) (l.take m)=true) (h1:H9 l[m]=true) (h2:Ey (-1) (l.take m) < l[m].object):Cb (-1) (l.take (m+1))=true/\Ey (-1) (l.take (m+1))=l[m].object:=by
 constructor
 ·rw [List.take_succ_eq_append_getElem h,H6,ht,Bool.true_and,Cb,Cb]
  simp [h1,h2]
 ·unfold Ey;rw [Jo h];rfl
theorem T9 {l:List Aq} {m:Nat} (h0:0 < m) (h:m < l.length):Ey (-1) (l.take m)=l[m - 1].object:=by
 obtain ⟨k,rfl⟩ : ∃ k,m=k+1:=⟨m - 1,by omega⟩
 unfold Ey
 rw [Jo (show k < l.length by omega)]
 rfl
def Mh (l:List Aq) (o:Int):Option Aq:=l.find? fun w=>decide (w.object=o)
theorem Yz {l:List Aq} {m:Nat} {o:Int} (ht:∀ w∈l.take m,¬ w.object=o) (h:m < l.length) (hx:l[m].object=o):Mh l o=some l[m]:=by
 unfold Mh
 conv=>lhs;rw [<-List.take_append_drop m l,List.drop_eq_getElem_cons h]
 rw [List.find?_append,List.find?_eq_none.2 fun x hx=>by simpa using ht x hx,Option.none_or]
 simp only [List.find?_cons,hx,decide_true]
theorem So {l:List Aq} {o:Int} (ht:∀ w∈l,¬ w.object=o):Mh l o=none:=List.find?_eq_none.2 fun x hx=>by simpa using ht x hx
theorem B11 {l:List Aq} {m:Nat} {o:Int} (h:m < l.length) (ht:∀ w∈l.take m,¬ w.object=o) (hx:¬ l[m].object=o):∀ w∈l.take (m+1),¬ w.object=o:=fun w hw=>by
 rw [List.take_succ_eq_append_getElem h] at hw
 rcases List.mem_append.1 hw with h1 | h1
 ·exact ht w h1
 ·rw [List.mem_singleton.1 h1];exact hx
def noW:Aq:=⟨⟨0,0⟩,0,false⟩
def A32 (l:List Aq) (o:Int):Aq×Int:=if C7 l=true then (match Mh l o with | some w=>(w,0) | none=>(noW,8)) else (noW,1)
-- caches
def Cz (x:Ci):Bool:=J6 x.object&&Be x.stamp.count x.stamp.node&&decide (x.value.length<=256)
def Lb (l:List Ci):Nat:=(l.map (·.value.length)).sum
theorem Zi:∀ (l:List Ci),(∀ x∈l,x.value.length<=256)->Lb l<=256*l.length
 | [],_=>Nat.le_refl _
 | x :: l,h=>by
  have h1:=h x (by simp)
  have h2:=Zi l fun y hy=>h y (List.mem_cons_of_mem _ hy)
  simp only [Lb,List.map_cons,List.sum_cons,List.length_cons] at *
  omega
theorem Y3 {l:List Ci} {m:Nat} (h:m < l.length):Lb (l.take (m+1))=Lb (l.take m)+l[m].value.length:=by
 unfold Lb
 rw [List.take_succ_eq_append_getElem h,List.map_append,List.sum_append]
 simp
def Jg (room:Int):Bool:=decide (0<=room)&&decide (room<=16777216)
def J0 (l:List Ci):Bool:=l.all Cz&&decide ((l.map (·.object)).Nodup)
theorem Az6 {l:List Ci} (k:Nat) (h:J0 l=true):J0 (l.take k)=true:=by
 simp only [J0,Bool.and_eq_true,decide_eq_true_eq,List.all_eq_true] at h ⊢
 exact ⟨fun x hx=>h.1 x (List.mem_of_mem_take hx),h.2.sublist ((List.take_sublist k l).map _)⟩
def Xt (l:List Ci) (o:Int):Bool:=l.any fun x=>decide (x.object=o)
theorem Sa {l:List Ci} {m:Nat} (h:m < l.length) (ht:J0 (l.take m)=true):J0 (l.take (m+1))=(Cz l[m]&&!Xt (l.take m) l[m].object):=by
 simp only [J0,Bool.and_eq_true,decide_eq_true_eq,List.all_eq_true] at ht
 rw [Bool.eq_iff_iff]
 simp only [J0,Bool.and_eq_true,decide_eq_true_eq,List.all_eq_true,List.take_succ_eq_append_getElem h,List.map_append,List.map_cons,List.map_nil,List.nodup_append,Bool.not_eq_true',Xt,List.any_eq_false,List.mem_append,List.mem_singleton]
 constructor
 ·rintro ⟨h1,h2,_,h3⟩
  refine ⟨h1 _ (.inr rfl),fun x hx e=>h3 x.object (List.mem_map_of_mem hx) _ rfl (by simpa using e)⟩
 ·rintro ⟨h1,h2⟩
  refine ⟨fun x hx=>hx.elim (ht.1 x) fun e=>e ▸ h1,ht.2,by simp,fun a ha b hb e=>?_⟩
  obtain ⟨x,hx,rfl⟩:=List.mem_map.1 ha
  exact h2 x hx (by simp [e,hb])
theorem U9 {l:List Ci} {m:Nat} (h:m < l.length) (ht:J0 (l.take m)=true) (hx:Cz l[m]=false\/Xt (l.take m) l[m].object=true):J0 l=false:=by
 cases hl:J0 l with
 | false=>rfl
 | true =>
  have:=Az6 (m+1) hl
  rw [Sa h ht] at this
  rcases hx with hx | hx<;>rw [hx] at this<;>simp at this
theorem M4 {x:Ci} (h:Cz x=true):0<=x.object/\x.object < 256/\x.value.length<=256:=by
 simp only [Cz,J6,Bool.and_eq_true,decide_eq_true_eq] at h
 omega
theorem Vs {l:List Ci} (h:J0 l=true):∀ x∈l,Cz x=true:=by
 simp only [J0,Bool.and_eq_true,List.all_eq_true] at h
 exact h.1
theorem Yy {l:List Ci} {m:Nat} (h:m < l.length) (o:Int):Xt (l.take (m+1)) o=(Xt (l.take m) o || decide (l[m].object=o)):=by
 unfold Xt
 rw [List.take_succ_eq_append_getElem h,List.any_append]
 simp
def Cq (l:List Ci) (room:Int):Bool:=Jg room&&decide (l.length<=256)&&J0 l&&decide ((Lb l:Int)<=room)
-- views
structure Gb where
 known:List Ad
 zones:List Bi
 held:List Aq
 bodies:List Ci
 room:Int
def Wy (a b:List Ad):Int:=if Bo a b=true then (if Bo b a=true then 0 else 2) else (if Bo b a=true then 1 else 3)
def G4 (l:List Bi) (known:List Ad) (w:Aq):Bool:=Gi (N3 l known w.object) w.stamp
def Ze (w:Option Aq) (x:Ci):Bool:=match w with
 | some w=>decide (w.stamp=x.stamp)&&!w.gone
 | none=>false
def Fb (held:List Aq) (x:Ci):Bool:=Ze (Mh held x.object) x
def Gl (v:Gb):Bool:=B6 v.known&&D0 v.zones&&C7 v.held&&Cq v.bodies v.room
def Au (v:Gb):Bool:=Gl v&&v.zones.all (fun x=>decide (Wy x.vec v.known=1))&&v.held.all (fun w=>G4 v.zones v.known w)&&v.bodies.all (fun x=>Fb v.held x)
end Go.Proofs.YtahgkllhbggmgaaGreatDoor
namespace Go.Proofs.YtahgkllhbggmgaaGreatDoor
open Go.ChangeShapes Go.WideShapes Go.ChangeAt Go.RowKit
def enZ (x:Bi):List IV:=[.val (.int .i64 x.span.lo),.val (.int .i64 x.span.hi),stI x.vec]
def byI (l:List Nat):IV:=.sl 1 (l.map fun (b:Nat)=>[.val (.int .u8 b)])
def enB (x:Ci):List IV:=[.val (.int .i64 x.object),.val (.int .i64 x.stamp.count),.val (.int .i64 x.stamp.node),byI x.value]
def znI (l:List Bi):IV:=.sl 3 (l.map enZ)
def boI (l:List Ci):IV:=.sl 4 (l.map enB)
def wA (w:Aq):AV:=.agg [.val (.int .i64 w.stamp.count),.val (.int .i64 w.stamp.node),.val (.int .i64 w.object),.val (.bool w.gone)]
def boA (x:Ci):AV:=.agg [.val (.int .i64 x.object),.val (.int .i64 x.stamp.count),.val (.int .i64 x.stamp.node),.iv (byI x.value)]
def vwA (v:Gb):AV:=.agg [.iv (stI v.known),.iv (znI v.zones),.iv (wrI v.held),.iv (boI v.bodies),.val (.int .i64 v.room)]
theorem Fz (x:Bi):enZ x=[.val (.int .i64 x.span.lo),.val (.int .i64 x.span.hi),stI x.vec]:=rfl
theorem He (x:Ci):enB x=[.val (.int .i64 x.object),.val (.int .i64 x.stamp.count),.val (.int .i64 x.stamp.node),byI x.value]:=rfl
theorem Dg (l:List Nat):byI l=.sl 1 (l.map fun (b:Nat)=>[.val (.int .u8 b)]):=rfl
theorem Dx (l:List Bi):znI l=.sl 3 (l.map enZ):=rfl
theorem Ek (l:List Ci):boI l=.sl 4 (l.map enB):=rfl
theorem Je (w:Aq):wA w=.agg [.val (.int .i64 w.stamp.count),.val (.int .i64 w.stamp.node),.val (.int .i64 w.object),.val (.bool w.gone)]:=rfl
theorem F8 (x:Ci):boA x=.agg [.val (.int .i64 x.object),.val (.int .i64 x.stamp.count),.val (.int .i64 x.stamp.node),.iv (byI x.value)]:=rfl
theorem Es (v:Gb):vwA v=.agg [.iv (stI v.known),.iv (znI v.zones),.iv (wrI v.held),.iv (boI v.bodies),.val (.int .i64 v.room)]:=rfl
end Go.Proofs.YtahgkllhbggmgaaGreatDoor
