/- Zones, bodies, views as trees. -/
import Derived.Test.YtahgkllhbggmgaaGreatDoorLStreamArgs
import Derived.Test.YtahgkllhbggmgaaGreatDoorLClone
import Derived.Test.YtahgkllhbggmgaaGreatDoorLRefThr
set_option linter.all false
set_option linter.unnecessarySimpa false
set_option linter.unusedSimpArgs false
set_option linter.unusedVariables false
namespace Go.Proofs.YtahgkllhbggmgaaGreatDoor
-- zones
structure Bp where
 span:Ah
 vec:List Ad
 deriving DecidableEq
def Bp.has (x:Bp) (o:Int):Bool:=decide (x.span.lo<=o)&&decide (o<=x.span.hi)
def El (p:Option Bp):Int:=match p with
 | none=>-1
 | some q=>q.span.hi
def Fk (p:Option Bp) (x:Bp):Bool:=match p with
 | none=>false
 | some q=>decide (q.span.hi+1=x.span.lo)&&decide (q.vec=x.vec)
def E5 (p:Option Bp) (x:Bp):Bool:=decide (El p < x.span.lo)&&!Fk p x
def Fy (x:Bp):Bool:=decide (x.span.lo<=x.span.hi)&&decide (x.span.hi<=255)&&B7 x.vec
def C4:Option Bp->List Bp->Bool
 | _,[]=>true
 | p,x :: l=>(E5 p x&&Fy x)&&C4 (some x) l
def Cw (l:List Bp):Bool:=C4 none l
theorem B33 {α:Type} (x:α) (l:List α) (p:Option α):(x :: l).getLast?.or p=l.getLast?.or (some x):=by
 cases l with
 | nil=>rfl
 | cons y l =>
  rw [List.getLast?_cons_cons]
  cases h:(y :: l).getLast? with
  | none=>simp at h
  | some z=>rfl
theorem Hw:∀ (l m:List Bp) (p:Option Bp),C4 p (l++m)=(C4 p l&&C4 (l.getLast?.or p) m)
 | [],m,p=>by simp [C4]
 | x :: l,m,p=>by rw [List.cons_append,C4,C4,Hw l m,B33];simp only [Bool.and_assoc]
theorem Fx {l:List Bp} {m:Nat} (h:m < l.length) (ht:C4 none (l.take m)=true):Cw l=((E5 (l.take m).getLast? l[m]&&Fy l[m])&&C4 (some l[m]) (l.drop (m+1))):=by
 unfold Cw
 conv=>lhs;rw [<-List.take_append_drop m l,List.drop_eq_getElem_cons h]
 rw [Hw,ht,Bool.true_and,C4]
 simp
theorem Hv {l:List Bp} {m:Nat} (h:m < l.length) (ht:C4 none (l.take m)=true) (h1:E5 (l.take m).getLast? l[m]=true) (h2:Fy l[m]=true):C4 none (l.take (m+1))=true:=by
 rw [List.take_succ_eq_append_getElem h,Hw,ht,Bool.true_and,C4,C4]
 simp [h1,h2]
theorem Kc {α:Type} {l:List α} {m:Nat} (h:m < l.length):(l.take (m+1)).getLast? = some l[m]:=by
 rw [List.take_succ_eq_append_getElem h,List.getLast?_concat]
theorem Wi:∀ {l:List Bp} {p:Option Bp},C4 p l=true->-1<=El p/\El p<=255->-1<=El (l.getLast?.or p)/\El (l.getLast?.or p)<=255
 | [],p,_,h=>h
 | x :: l,p,h,hp=>by
  rw [B33]
  simp only [C4,E5,Fy,Bool.and_eq_true,decide_eq_true_eq] at h
  obtain ⟨⟨⟨h1,_⟩,⟨h2,h3⟩,_⟩,h4⟩:=h
  exact Wi h4 ⟨show -1<=x.span.hi by omega,show x.span.hi<=255 by omega⟩
theorem Wj {l:List Bp} {m:Nat} (h:C4 none (l.take m)=true):-1<=El (l.take m).getLast? /\ El (l.take m).getLast? <= 255:=by
 have:=Wi h ⟨Int.le_refl _,by decide⟩
 rwa [Option.or_none] at this
def T9 (l:List Bp):List Ah:=if Cw l=true then Cb (l.map (·.span)) else []
def Tg (l:List Bp) (o:Int):Option Bp:=l.find? fun x=>x.has o
def Jf (l:List Bp) (known:List Ad) (o:Int):List Ad:=match Tg l o with
 | some x=>x.vec
 | none=>known
def P3 (l:List Bp) (known:List Ad) (o:Int):List Ad:=if Cw l=true/\B7 known=true/\0<=o/\o<=255 then Jf l known o else []
theorem Uq {l:List Bp} {m:Nat} {o:Int} (ht:∀ x∈l.take m,x.has o=false) (h:m < l.length) (hx:l[m].has o=true):Tg l o=some l[m]:=by
 unfold Tg
 conv=>lhs;rw [<-List.take_append_drop m l,List.drop_eq_getElem_cons h]
 rw [List.find?_append,List.find?_eq_none.2 fun x hx=>by rw [ht x hx];simp,Option.none_or]
 simp only [List.find?_cons,hx]
theorem Ac5 {l:List Bp} {o:Int} (ht:∀ x∈l,x.has o=false):Tg l o=none:=List.find?_eq_none.2 fun x hx=>by rw [ht x hx];simp
def Kg (l:List Bp) (o:Int):Int:=if l.findIdx (fun x=>x.has o) < l.length then ((l.findIdx fun x=>x.has o:Nat):Int) else -1
theorem B57 {l:List Bp} {m:Nat} {o:Int} (h:m < l.length) (ht:∀ x∈l.take m,x.has o=false) (hx:l[m].has o=true):Kg l o=(m:Nat):=by
 have e:l.findIdx (fun x=>x.has o)=m:=(List.findIdx_eq h).2 ⟨hx,fun j hj=>by
  have:=ht l[j] (List.mem_take_iff_getElem.2 ⟨j,by omega,rfl⟩)
  simp [this]⟩
 unfold Kg
 rw [e,if_pos h]
theorem Ac4 {l:List Bp} {o:Int} (ht:∀ x∈l,x.has o=false):Kg l o=-1:=by
 unfold Kg
 rw [if_neg]
 rw [List.findIdx_lt_length]
 rintro ⟨x,hx,h⟩
 rw [ht x hx] at h
 cases h
theorem B59 {l:List Bp} {o:Int} (h:0<=Kg l o):∃ hl:(Kg l o).toNat < l.length,Tg l o=some l[(Kg l o).toNat]:=by
 unfold Kg at h ⊢
 by_cases hl:l.findIdx (fun x=>x.has o) < l.length
 ·simp only [if_pos hl,Int.toNat_natCast]
  exact ⟨hl,Uq (fun x hx=>by
   obtain ⟨j,hj,rfl⟩:=List.mem_take_iff_getElem.1 hx
   have:=List.not_of_lt_findIdx (p:=fun x:Bp=>x.has o) (xs:=l) (i:=j) (by omega)
   simpa using this) hl (List.findIdx_getElem (w:=hl))⟩
 ·rw [if_neg hl] at h;omega
theorem B58 {l:List Bp} {o:Int} (h:¬ 0<=Kg l o):Tg l o=none:=by
 unfold Kg at h
 by_cases hl:l.findIdx (fun x=>x.has o) < l.length
 ·rw [if_pos hl] at h;omega
 ·rw [List.findIdx_lt_length] at hl
  exact List.find?_eq_none.2 fun x hx hh=>hl ⟨x,hx,hh⟩
-- shelves
def Jt (o:Int):Bool:=decide (0<=o)&&decide (o<=255)
def J7 (w:Ar):Bool:=Jt w.object&&Bj w.stamp.count w.stamp.node
def Ci:Int->List Ar->Bool
 | _,[]=>true
 | e,w :: l=>(J7 w&&decide (e < w.object))&&Ci w.object l
def Cd (l:List Ar):Bool:=Ci (-1) l
def Fg (e:Int) (l:List Ar):Int:=(l.getLast?.map (·.object)).getD e
theorem Z6 (x:Ar) (l:List Ar) (e:Int):Fg e (x :: l)=Fg x.object l:=by
 unfold Fg
 cases l with
 | nil=>rfl
 | cons y l =>
  rw [List.getLast?_cons_cons]
  cases h:(y :: l).getLast? with
  | none=>simp at h
  | some z=>rfl
theorem J4:∀ (l m:List Ar) (e:Int),Ci e (l++m)=(Ci e l&&Ci (Fg e l) m)
 | [],m,p=>by simp [Ci,Fg]
 | x :: l,m,p=>by rw [List.cons_append,Ci,Ci,J4 l m,Z6];simp only [Bool.and_assoc]
theorem Sb {l:List Ar} {m:Nat} (h:m < l.length) (ht:Ci (-1) (l.take m)=true):Cd l=((J7 l[m]&&decide (Fg (-1) (l.take m) < l[m].object))&&Ci l[m].object (l.drop (m+1))):=by
 unfold Cd
 conv=>lhs;rw [<-List.take_append_drop m l,List.drop_eq_getElem_cons h]
 rw [J4,ht,Bool.true_and,Ci]
theorem Re {l:List Ar} {m:Nat} (h:m < l.length) (ht:Ci (-1) (l.take m)=true) (h1:J7 l[m]=true) (h2:Fg (-1) (l.take m) < l[m].object):Ci (-1) (l.take (m+1))=true/\Fg (-1) (l.take (m+1))=l[m].object:=by
 constructor
 ·rw [List.take_succ_eq_append_getElem h,J4,ht,Bool.true_and,Ci,Ci]
  simp [h1,h2]
 ·unfold Fg;rw [Kc h];rfl
theorem V0 {l:List Ar} {m:Nat} (h0:0 < m) (h:m < l.length):Fg (-1) (l.take m)=l[m - 1].object:=by
 obtain ⟨k,rfl⟩ : ∃ k,m=k+1:=⟨m - 1,by omega⟩
 unfold Fg
 rw [Kc (show k < l.length by omega)]
 rfl
def N8 (l:List Ar) (o:Int):Option Ar:=l.find? fun w=>decide (w.object=o)
theorem A25 {l:List Ar} {m:Nat} {o:Int} (ht:∀ w∈l.take m,¬ w.object=o) (h:m < l.length) (hx:l[m].object=o):N8 l o=some l[m]:=by
 unfold N8
 conv=>lhs;rw [<-List.take_append_drop m l,List.drop_eq_getElem_cons h]
 rw [List.find?_append,List.find?_eq_none.2 fun x hx=>by simpa using ht x hx,Option.none_or]
 simp only [List.find?_cons,hx,decide_true]
theorem Uc {l:List Ar} {o:Int} (ht:∀ w∈l,¬ w.object=o):N8 l o=none:=List.find?_eq_none.2 fun x hx=>by simpa using ht x hx
theorem Bc1 {l:List Ar} {m:Nat} {o:Int} (h:m < l.length) (ht:∀ w∈l.take m,¬ w.object=o) (hx:¬ l[m].object=o):∀ w∈l.take (m+1),¬ w.object=o:=fun w hw=>by
 rw [List.take_succ_eq_append_getElem h] at hw
 rcases List.mem_append.1 hw with h1 | h1
 ·exact ht w h1
 ·rw [List.mem_singleton.1 h1];exact hx
def noW:Ar:=⟨⟨0,0⟩,0,false⟩
def A97 (l:List Ar) (o:Int):Ar×Int:=if Cd l=true then (match N8 l o with | some w=>(w,0) | none=>(noW,8)) else (noW,1)
-- caches
def Da (x:Cr):Bool:=Jt x.object&&Bj x.stamp.count x.stamp.node&&decide (x.value.length<=256)
def Ni (l:List Cr):Nat:=(l.map (·.value.length)).sum
theorem A44:∀ (l:List Cr),(∀ x∈l,x.value.length<=256)->Ni l<=256*l.length
 | [],_=>Nat.le_refl _
 | x :: l,h=>by
  have h1:=h x (by simp)
  have h2:=A44 l fun y hy=>h y (List.mem_cons_of_mem _ hy)
  simp only [Ni,List.map_cons,List.sum_cons,List.length_cons] at *
  omega
theorem Zq {l:List Cr} {m:Nat} (h:m < l.length):Ni (l.take (m+1))=Ni (l.take m)+l[m].value.length:=by
 unfold Ni
 rw [List.take_succ_eq_append_getElem h,List.map_append,List.sum_append]
 simp
def P0 (room:Int):Bool:=decide (0<=room)&&decide (room<=16777216)
def K1 (l:List Cr):Bool:=l.all Da&&decide ((l.map (·.object)).Nodup)
theorem Ba1 {l:List Cr} (k:Nat) (h:K1 l=true):K1 (l.take k)=true:=by
 simp only [K1,Bool.and_eq_true,decide_eq_true_eq,List.all_eq_true] at h ⊢
 exact ⟨fun x hx=>h.1 x (List.mem_of_mem_take hx),h.2.sublist ((List.take_sublist k l).map _)⟩
def Zi (l:List Cr) (o:Int):Bool:=l.any fun x=>decide (x.object=o)
theorem Tw {l:List Cr} {m:Nat} (h:m < l.length) (ht:K1 (l.take m)=true):K1 (l.take (m+1))=(Da l[m]&&!Zi (l.take m) l[m].object):=by
 simp only [K1,Bool.and_eq_true,decide_eq_true_eq,List.all_eq_true] at ht
 rw [Bool.eq_iff_iff]
 simp only [K1,Bool.and_eq_true,decide_eq_true_eq,List.all_eq_true,List.take_succ_eq_append_getElem h,List.map_append,List.map_cons,List.map_nil,List.nodup_append,Bool.not_eq_true',Zi,List.any_eq_false,List.mem_append,List.mem_singleton]
 constructor
 ·rintro ⟨h1,h2,_,h3⟩
  refine ⟨h1 _ (.inr rfl),fun x hx e=>h3 x.object (List.mem_map_of_mem hx) _ rfl (by simpa using e)⟩
 ·rintro ⟨h1,h2⟩
  refine ⟨fun x hx=>hx.elim (ht.1 x) fun e=>e ▸ h1,ht.2,by simp,fun a ha b hb e=>?_⟩
  obtain ⟨x,hx,rfl⟩:=List.mem_map.1 ha
  exact h2 x hx (by simp [e,hb])
theorem Vz {l:List Cr} {m:Nat} (h:m < l.length) (ht:K1 (l.take m)=true) (hx:Da l[m]=false\/Zi (l.take m) l[m].object=true):K1 l=false:=by
 cases hl:K1 l with
 | false=>rfl
 | true =>
  have:=Ba1 (m+1) hl
  rw [Tw h ht] at this
  rcases hx with hx | hx<;>rw [hx] at this<;>simp at this
theorem Mx {x:Cr} (h:Da x=true):0<=x.object/\x.object < 256/\x.value.length<=256:=by
 simp only [Da,Jt,Bool.and_eq_true,decide_eq_true_eq] at h
 omega
theorem Xp {l:List Cr} (h:K1 l=true):∀ x∈l,Da x=true:=by
 simp only [K1,Bool.and_eq_true,List.all_eq_true] at h
 exact h.1
theorem A24 {l:List Cr} {m:Nat} (h:m < l.length) (o:Int):Zi (l.take (m+1)) o=(Zi (l.take m) o || decide (l[m].object=o)):=by
 unfold Zi
 rw [List.take_succ_eq_append_getElem h,List.any_append]
 simp
def Dc (l:List Cr) (room:Int):Bool:=P0 room&&decide (l.length<=256)&&K1 l&&decide ((Ni l:Int)<=room)
-- views
structure E8 where
 known:List Ad
 zones:List Bp
 held:List Ar
 bodies:List Cr
 room:Int
def Yo (a b:List Ad):Int:=if Bi a b=true then (if Bi b a=true then 0 else 2) else (if Bi b a=true then 1 else 3)
def Gj (l:List Bp) (known:List Ad) (w:Ar):Bool:=H5 (P3 l known w.object) w.stamp
def A41 (w:Option Ar) (x:Cr):Bool:=match w with
 | some w=>decide (w.stamp=x.stamp)&&!w.gone
 | none=>false
def Fb (held:List Ar) (x:Cr):Bool:=A41 (N8 held x.object) x
def H8 (v:E8):Bool:=B7 v.known&&Cw v.zones&&Cd v.held&&Dc v.bodies v.room
def At (v:E8):Bool:=H8 v&&v.zones.all (fun x=>decide (Yo x.vec v.known=1))&&v.held.all (fun w=>Gj v.zones v.known w)&&v.bodies.all (fun x=>Fb v.held x)
end Go.Proofs.YtahgkllhbggmgaaGreatDoor
namespace Go.Proofs.YtahgkllhbggmgaaGreatDoor
open Go.ChangeShapes Go.WideShapes Go.ChangeAt Go.RowKit
def enZ (x:Bp):List IV:=[.val (.int .i64 x.span.lo),.val (.int .i64 x.span.hi),stI x.vec]
def byI (l:List Nat):IV:=.sl 1 (l.map fun (b:Nat)=>[.val (.int .u8 b)])
def enB (x:Cr):List IV:=[.val (.int .i64 x.object),.val (.int .i64 x.stamp.count),.val (.int .i64 x.stamp.node),byI x.value]
def znI (l:List Bp):IV:=.sl 3 (l.map enZ)
def boI (l:List Cr):IV:=.sl 4 (l.map enB)
def wA (w:Ar):AV:=.agg [.val (.int .i64 w.stamp.count),.val (.int .i64 w.stamp.node),.val (.int .i64 w.object),.val (.bool w.gone)]
def boA (x:Cr):AV:=.agg [.val (.int .i64 x.object),.val (.int .i64 x.stamp.count),.val (.int .i64 x.stamp.node),.iv (byI x.value)]
def vwA (v:E8):AV:=.agg [.iv (stI v.known),.iv (znI v.zones),.iv (wrI v.held),.iv (boI v.bodies),.val (.int .i64 v.room)]
theorem Fp (x:Bp):enZ x=[.val (.int .i64 x.span.lo),.val (.int .i64 x.span.hi),stI x.vec]:=rfl
theorem Gr (x:Cr):enB x=[.val (.int .i64 x.object),.val (.int .i64 x.stamp.count),.val (.int .i64 x.stamp.node),byI x.value]:=rfl
theorem Dp (l:List Nat):byI l=.sl 1 (l.map fun (b:Nat)=>[.val (.int .u8 b)]):=rfl
theorem Dx (l:List Bp):znI l=.sl 3 (l.map enZ):=rfl
theorem Eg (l:List Cr):boI l=.sl 4 (l.map enB):=rfl
theorem Gu (w:Ar):wA w=.agg [.val (.int .i64 w.stamp.count),.val (.int .i64 w.stamp.node),.val (.int .i64 w.object),.val (.bool w.gone)]:=rfl
theorem Ez (x:Cr):boA x=.agg [.val (.int .i64 x.object),.val (.int .i64 x.stamp.count),.val (.int .i64 x.stamp.node),.iv (byI x.value)]:=rfl
theorem E6 (v:E8):vwA v=.agg [.iv (stI v.known),.iv (znI v.zones),.iv (wrI v.held),.iv (boI v.bodies),.val (.int .i64 v.room)]:=rfl
end Go.Proofs.YtahgkllhbggmgaaGreatDoor
