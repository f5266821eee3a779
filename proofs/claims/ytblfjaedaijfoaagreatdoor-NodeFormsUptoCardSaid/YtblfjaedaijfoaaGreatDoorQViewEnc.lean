/- A formed note, as one sees it who has an interest (the reference's). -/
import Derived.Test.YtblfjaedaijfoaaGreatDoorQLogWalk
import Derived.Test.YtblfjaedaijfoaaGreatDoorQClone
import Derived.Test.YtblfjaedaijfoaaGreatDoorQAbsApp
import Derived.Test.YtblfjaedaijfoaaGreatDoorQBridge2
set_option linter.all false
set_option linter.unnecessarySimpa false
set_option linter.unusedSimpArgs false
set_option linter.unusedVariables false
namespace Go.Proofs.YtblfjaedaijfoaaGreatDoor
-- zones
structure At where
 span:Ao
 vec:List Ab
 deriving DecidableEq
def At.has (x:At) (o:Int):Bool:=decide (x.span.lo<=o)&&decide (o<=x.span.hi)
def Bq (p:Option At):Int:=match p with
 | none=>-1
 | some q=>q.span.hi
def Ew (p:Option At) (x:At):Bool:=match p with
 | none=>false
 | some q=>decide (q.span.hi+1=x.span.lo)&&decide (q.vec=x.vec)
def D9 (p:Option At) (x:At):Bool:=decide (Bq p < x.span.lo)&&!Ew p x
def Cj (x:At):Bool:=decide (x.span.lo<=x.span.hi)&&decide (x.span.hi<=255)&&Ak x.vec
def Ba:Option At->List At->Bool
 | _,[]=>true
 | p,x :: l=>(D9 p x&&Cj x)&&Ba (some x) l
def Az (l:List At):Bool:=Ba none l
theorem Bg9 {α:Type} (x:α) (l:List α) (p:Option α):(x :: l).getLast?.or p=l.getLast?.or (some x):=by
 cases l with
 | nil=>rfl
 | cons y l =>
  rw [List.getLast?_cons_cons]
  cases h:(y :: l).getLast? with
  | none=>simp at h
  | some z=>rfl
theorem Fz:∀ (l m:List At) (p:Option At),Ba p (l++m)=(Ba p l&&Ba (l.getLast?.or p) m)
 | [],m,p=>by simp [Ba]
 | x :: l,m,p=>by rw [List.cons_append,Ba,Ba,Fz l m,Bg9];simp only [Bool.and_assoc]
theorem H8 {l:List At} {m:Nat} (h:m < l.length) (ht:Ba none (l.take m)=true):Az l=((D9 (l.take m).getLast? l[m]&&Cj l[m])&&Ba (some l[m]) (l.drop (m+1))):=by
 unfold Az
 conv=>lhs;rw [<-List.take_append_drop m l,List.drop_eq_getElem_cons h]
 rw [Fz,ht,Bool.true_and,Ba]
 simp
theorem Ku {l:List At} {m:Nat} (h:m < l.length) (ht:Ba none (l.take m)=true) (h1:D9 (l.take m).getLast? l[m]=true) (h2:Cj l[m]=true):Ba none (l.take (m+1))=true:=by
 rw [List.take_succ_eq_append_getElem h,Fz,ht,Bool.true_and,Ba,Ba]
 simp [h1,h2]
theorem Ju {α:Type} {l:List α} {m:Nat} (h:m < l.length):(l.take (m+1)).getLast? = some l[m]:=by
 rw [List.take_succ_eq_append_getElem h,List.getLast?_concat]
theorem Ph:∀ {l:List At} {p:Option At},Ba p l=true->-1<=Bq p/\Bq p<=255->-1<=Bq (l.getLast?.or p)/\Bq (l.getLast?.or p)<=255
 | [],p,_,h=>h
 | x :: l,p,h,hp=>by
  rw [Bg9]
  simp only [Ba,D9,Cj,Bool.and_eq_true,decide_eq_true_eq] at h
  obtain ⟨⟨⟨h1,_⟩,⟨h2,h3⟩,_⟩,h4⟩:=h
  exact Ph h4 ⟨show -1<=x.span.hi by omega,show x.span.hi<=255 by omega⟩
theorem Pi {l:List At} {m:Nat} (h:Ba none (l.take m)=true):-1<=Bq (l.take m).getLast? /\ Bq (l.take m).getLast? <= 255:=by
 have:=Ph h ⟨Int.le_refl _,by decide⟩
 rwa [Option.or_none] at this
def Mt (l:List At):List Ao:=if Az l=true then En (l.map (·.span)) else []
def Ti (l:List At) (o:Int):Option At:=l.find? fun x=>x.has o
def Cw (l:List At) (known:List Ab) (o:Int):List Ab:=match Ti l o with
 | some x=>x.vec
 | none=>known
def Ng (l:List At) (known:List Ab) (o:Int):List Ab:=if Az l=true/\Ak known=true/\0<=o/\o<=255 then Cw l known o else []
theorem Qh {l:List At} {m:Nat} {o:Int} (ht:∀ x∈l.take m,x.has o=false) (h:m < l.length) (hx:l[m].has o=true):Ti l o=some l[m]:=by
 unfold Ti
 conv=>lhs;rw [<-List.take_append_drop m l,List.drop_eq_getElem_cons h]
 rw [List.find?_append,List.find?_eq_none.2 fun x hx=>by rw [ht x hx];simp,Option.none_or]
 simp only [List.find?_cons,hx]
theorem Xk {l:List At} {o:Int} (ht:∀ x∈l,x.has o=false):Ti l o=none:=List.find?_eq_none.2 fun x hx=>by rw [ht x hx];simp
def Ma (l:List At) (o:Int):Int:=if l.findIdx (fun x=>x.has o) < l.length then ((l.findIdx fun x=>x.has o:Nat):Int) else -1
theorem Bj4 {l:List At} {m:Nat} {o:Int} (h:m < l.length) (ht:∀ x∈l.take m,x.has o=false) (hx:l[m].has o=true):Ma l o=(m:Nat):=by
 have e:l.findIdx (fun x=>x.has o)=m:=(List.findIdx_eq h).2 ⟨hx,fun j hj=>by
  have:=ht l[j] (List.mem_take_iff_getElem.2 ⟨j,by omega,rfl⟩)
  simp [this]⟩
 unfold Ma
 rw [e,if_pos h]
theorem Ao4 {l:List At} {o:Int} (ht:∀ x∈l,x.has o=false):Ma l o=-1:=by
 unfold Ma
 rw [if_neg]
 rw [List.findIdx_lt_length]
 rintro ⟨x,hx,h⟩
 rw [ht x hx] at h
 cases h
theorem Bj6 {l:List At} {o:Int} (h:0<=Ma l o):∃ hl:(Ma l o).toNat < l.length,Ti l o=some l[(Ma l o).toNat]:=by
 unfold Ma at h ⊢
 by_cases hl:l.findIdx (fun x=>x.has o) < l.length
 ·simp only [if_pos hl,Int.toNat_natCast]
  exact ⟨hl,Qh (fun x hx=>by
   obtain ⟨j,hj,rfl⟩:=List.mem_take_iff_getElem.1 hx
   have:=List.not_of_lt_findIdx (p:=fun x:At=>x.has o) (xs:=l) (i:=j) (by omega)
   simpa using this) hl (List.findIdx_getElem (w:=hl))⟩
 ·rw [if_neg hl] at h;omega
theorem Bj5 {l:List At} {o:Int} (h:¬ 0<=Ma l o):Ti l o=none:=by
 unfold Ma at h
 by_cases hl:l.findIdx (fun x=>x.has o) < l.length
 ·rw [if_pos hl] at h;omega
 ·rw [List.findIdx_lt_length] at hl
  exact List.find?_eq_none.2 fun x hx hh=>hl ⟨x,hx,hh⟩
theorem Gr:∀ {l:List At} {p:Option At},Ba p l=true->∀ x∈l,Cj x=true
 | [],_,_,x,hx=>by cases hx
 | y :: l,p,h,x,hx=>by
  simp only [Ba,Bool.and_eq_true] at h
  rcases List.mem_cons.1 hx with rfl | hx
  ·exact h.1.2
  ·exact Gr h.2 x hx
-- shelves
def Dm (o:Int):Bool:=decide (0<=o)&&decide (o<=255)
def Fp (w:Ap):Bool:=Dm w.object&&Bl w.stamp.count w.stamp.node
def Ck:Int->List Ap->Bool
 | _,[]=>true
 | e,w :: l=>(Fp w&&decide (e < w.object))&&Ck w.object l
def C6 (l:List Ap):Bool:=Ck (-1) l
def Gn (e:Int) (l:List Ap):Int:=(l.getLast?.map (·.object)).getD e
theorem A73 (x:Ap) (l:List Ap) (e:Int):Gn e (x :: l)=Gn x.object l:=by
 unfold Gn
 cases l with
 | nil=>rfl
 | cons y l =>
  rw [List.getLast?_cons_cons]
  cases h:(y :: l).getLast? with
  | none=>simp at h
  | some z=>rfl
theorem Kz:∀ (l m:List Ap) (e:Int),Ck e (l++m)=(Ck e l&&Ck (Gn e l) m)
 | [],m,p=>by simp [Ck,Gn]
 | x :: l,m,p=>by rw [List.cons_append,Ck,Ck,Kz l m,A73];simp only [Bool.and_assoc]
theorem Uv {l:List Ap} {m:Nat} (h:m < l.length) (ht:Ck (-1) (l.take m)=true):C6 l=((Fp l[m]&&decide (Gn (-1) (l.take m) < l[m].object))&&Ck l[m].object (l.drop (m+1))):=by
 unfold C6
 conv=>lhs;rw [<-List.take_append_drop m l,List.drop_eq_getElem_cons h]
 rw [Kz,ht,Bool.true_and,Ck]
theorem Tu {l:List Ap} {m:Nat} (h:m < l.length) (ht:Ck (-1) (l.take m)=true) (h1:Fp l[m]=true) (h2:Gn (-1) (l.take m) < l[m].object):Ck (-1) (l.take (m+1))=true/\Gn (-1) (l.take (m+1))=l[m].object:=by
 constructor
 ·rw [List.take_succ_eq_append_getElem h,Kz,ht,Bool.true_and,Ck,Ck]
  simp [h1,h2]
 ·unfold Gn;rw [Ju h];rfl
theorem Xr {l:List Ap} {m:Nat} (h0:0 < m) (h:m < l.length):Gn (-1) (l.take m)=l[m - 1].object:=by
 obtain ⟨k,rfl⟩ : ∃ k,m=k+1:=⟨m - 1,by omega⟩
 unfold Gn
 rw [Ju (show k < l.length by omega)]
 rfl
def Jr (l:List Ap) (o:Int):Option Ap:=l.find? fun w=>decide (w.object=o)
theorem Ae3 {l:List Ap} {m:Nat} {o:Int} (ht:∀ w∈l.take m,¬ w.object=o) (h:m < l.length) (hx:l[m].object=o):Jr l o=some l[m]:=by
 unfold Jr
 conv=>lhs;rw [<-List.take_append_drop m l,List.drop_eq_getElem_cons h]
 rw [List.find?_append,List.find?_eq_none.2 fun x hx=>by simpa using ht x hx,Option.none_or]
 simp only [List.find?_cons,hx,decide_true]
theorem X6 {l:List Ap} {o:Int} (ht:∀ w∈l,¬ w.object=o):Jr l o=none:=List.find?_eq_none.2 fun x hx=>by simpa using ht x hx
theorem Bq8 {l:List Ap} {m:Nat} {o:Int} (h:m < l.length) (ht:∀ w∈l.take m,¬ w.object=o) (hx:¬ l[m].object=o):∀ w∈l.take (m+1),¬ w.object=o:=fun w hw=>by
 rw [List.take_succ_eq_append_getElem h] at hw
 rcases List.mem_append.1 hw with h1 | h1
 ·exact ht w h1
 ·rw [List.mem_singleton.1 h1];exact hx
def noW:Ap:=⟨⟨0,0⟩,0,false⟩
def A85 (l:List Ap) (o:Int):Ap×Int:=if C6 l=true then (match Jr l o with | some w=>(w,0) | none=>(noW,8)) else (noW,1)
-- caches
def Cc (x:C1):Bool:=Dm x.object&&Bl x.stamp.count x.stamp.node&&decide (x.value.length<=256)
def Gl (l:List C1):Nat:=(l.map (·.value.length)).sum
theorem Yx:∀ (l:List C1),(∀ x∈l,x.value.length<=256)->Gl l<=256*l.length
 | [],_=>Nat.le_refl _
 | x :: l,h=>by
  have h1:=h x (by simp)
  have h2:=Yx l fun y hy=>h y (List.mem_cons_of_mem _ hy)
  simp only [Gl,List.map_cons,List.sum_cons,List.length_cons] at *
  omega
theorem A93 {l:List C1} {m:Nat} (h:m < l.length):Gl (l.take (m+1))=Gl (l.take m)+l[m].value.length:=by
 unfold Gl
 rw [List.take_succ_eq_append_getElem h,List.map_append,List.sum_append]
 simp
def Ke (room:Int):Bool:=decide (0<=room)&&decide (room<=16777216)
def Gp (l:List C1):Bool:=l.all Cc&&decide ((l.map (·.object)).Nodup)
theorem Bo0 {l:List C1} (k:Nat) (h:Gp l=true):Gp (l.take k)=true:=by
 simp only [Gp,Bool.and_eq_true,decide_eq_true_eq,List.all_eq_true] at h ⊢
 exact ⟨fun x hx=>h.1 x (List.mem_of_mem_take hx),h.2.sublist ((List.take_sublist k l).map _)⟩
def A84 (l:List C1) (o:Int):Bool:=l.any fun x=>decide (x.object=o)
theorem Wx {l:List C1} {m:Nat} (h:m < l.length) (ht:Gp (l.take m)=true):Gp (l.take (m+1))=(Cc l[m]&&!A84 (l.take m) l[m].object):=by
 simp only [Gp,Bool.and_eq_true,decide_eq_true_eq,List.all_eq_true] at ht
 rw [Bool.eq_iff_iff]
 simp only [Gp,Bool.and_eq_true,decide_eq_true_eq,List.all_eq_true,List.take_succ_eq_append_getElem h,List.map_append,List.map_cons,List.map_nil,List.nodup_append,Bool.not_eq_true',A84,List.any_eq_false,List.mem_append,List.mem_singleton]
 constructor
 ·rintro ⟨h1,h2,_,h3⟩
  refine ⟨h1 _ (.inr rfl),fun x hx e=>h3 x.object (List.mem_map_of_mem hx) _ rfl (by simpa using e)⟩
 ·rintro ⟨h1,h2⟩
  refine ⟨fun x hx=>hx.elim (ht.1 x) fun e=>e ▸ h1,ht.2,by simp,fun a ha b hb e=>?_⟩
  obtain ⟨x,hx,rfl⟩:=List.mem_map.1 ha
  exact h2 x hx (by simp [e,hb])
theorem Z2 {l:List C1} {m:Nat} (h:m < l.length) (ht:Gp (l.take m)=true) (hx:Cc l[m]=false\/A84 (l.take m) l[m].object=true):Gp l=false:=by
 cases hl:Gp l with
 | false=>rfl
 | true =>
  have:=Bo0 (m+1) hl
  rw [Wx h ht] at this
  rcases hx with hx | hx<;>rw [hx] at this<;>simp at this
theorem Fj {x:C1} (h:Cc x=true):0<=x.object/\x.object < 256/\x.value.length<=256:=by
 simp only [Cc,Dm,Bool.and_eq_true,decide_eq_true_eq] at h
 omega
theorem Pz {l:List C1} (h:Gp l=true):∀ x∈l,Cc x=true:=by
 simp only [Gp,Bool.and_eq_true,List.all_eq_true] at h
 exact h.1
theorem Ae1 {l:List C1} {m:Nat} (h:m < l.length) (o:Int):A84 (l.take (m+1)) o=(A84 (l.take m) o || decide (l[m].object=o)):=by
 unfold A84
 rw [List.take_succ_eq_append_getElem h,List.any_append]
 simp
def Bw (l:List C1) (room:Int):Bool:=Ke room&&decide (l.length<=256)&&Gp l&&decide ((Gl l:Int)<=room)
-- views
structure Cr where
 known:List Ab
 zones:List At
 held:List Ap
 bodies:List C1
 room:Int
def Xc (a b:List Ab):Int:=if Aw a b=true then (if Aw b a=true then 0 else 2) else (if Aw b a=true then 1 else 3)
def Dx (l:List At) (known:List Ab) (w:Ap):Bool:=E4 (Ng l known w.object) w.stamp
def Ag9 (w:Option Ap) (x:C1):Bool:=match w with
 | some w=>decide (w.stamp=x.stamp)&&!w.gone
 | none=>false
def Fw (held:List Ap) (x:C1):Bool:=Ag9 (Jr held x.object) x
def Fq (v:Cr):Bool:=Ak v.known&&Az v.zones&&C6 v.held&&Bw v.bodies v.room
def Am (v:Cr):Bool:=Fq v&&v.zones.all (fun x=>decide (Xc x.vec v.known=1))&&v.held.all (fun w=>Dx v.zones v.known w)&&v.bodies.all (fun x=>Fw v.held x)
end Go.Proofs.YtblfjaedaijfoaaGreatDoor
namespace Go.Proofs.YtblfjaedaijfoaaGreatDoor
open Go.ChangeShapes Go.WideShapes Go.ChangeAt Go.RowKit
section
variable {P : Program} {t : TypeId} {b p : Nat} {bk : List BA} {K : List BA -> Prop}
theorem Zp {cs:List AV} : Aq P t (.bp b p) (.agg cs) bk K=(match tyK P t with
  | some (_,s)=>okC (.agg cs)=true/\cs.length=s/\match Ci b bk with
   | some (.box _ ds)=>p+s<=ds.length/\K (Cu b [.box b (F2 ds p cs)] bk)
   | some (.arr _ ds)=>∃ is,toIs cs=some is/\J2 cs/\p+s<=ds.length/\Dv (K (Cu b [.arr b (F2 ds p is)] bk))
   | _=>False
  | none=>False):=Ae
theorem Po {v:Value} : Aq P t (.bp b p) (.val v) bk K=(match tyK P t with
  | some (_,s)=>okC (.val v)=true/\[AV.val v].length=s/\match Ci b bk with
   | some (.box _ ds)=>p+s<=ds.length/\K (Cu b [.box b (F2 ds p [.val v])] bk)
   | some (.arr _ ds)=>∃ is,toIs [.val v]=some is/\J2 [.val v]/\p+s<=ds.length/\Dv (K (Cu b [.arr b (F2 ds p is)] bk))
   | _=>False
  | none=>False):=Ae
theorem Rw {i:IV} : Aq P t (.bp b p) (.iv i) bk K=(match tyK P t with
  | some (_,s)=>okC (.iv i)=true/\[AV.iv i].length=s/\match Ci b bk with
   | some (.box _ ds)=>p+s<=ds.length/\K (Cu b [.box b (F2 ds p [.iv i])] bk)
   | some (.arr _ ds)=>∃ is,toIs [.iv i]=some is/\J2 [.iv i]/\p+s<=ds.length/\Dv (K (Cu b [.arr b (F2 ds p is)] bk))
   | _=>False
  | none=>False):=Ae
theorem Pp {r:Nat} : Aq P t (.bp b p) (.own r) bk K=(match tyK P t with
  | some (_,s)=>okC (.own r)=true/\[AV.own r].length=s/\match Ci b bk with
   | some (.box _ ds)=>p+s<=ds.length/\K (Cu b [.box b (F2 ds p [.own r])] bk)
   | some (.arr _ ds)=>∃ is,toIs [.own r]=some is/\J2 [.own r]/\p+s<=ds.length/\Dv (K (Cu b [.arr b (F2 ds p is)] bk))
   | _=>False
  | none=>False):=Ae
end
section
variable {P : Program} {G : World -> Prop} {ro : Option Nat} {V w0 : World} {n : Nd} {σ : Ag} {K : Exit -> Ag -> Prop}
theorem AW.adoptC {c:Code} (b j r e k:Nat) {cs:List AV} (hb:Ci b σ.bk=some (.box b cs)) (hj:cs[j]? = some (.val (.slice none 0 0))) (hf:(Lg r (r+1) σ.fr&&Jq r (r+1) σ.bk)=true) (h:AW P G ro V w0 n c ⟨σ.fr,.row r e k [] :: Cu b [.box b (cs.set j (.own r))] σ.bk⟩ K):AW P G ro V w0 n c σ K:=fun hG m0 E a w hn hs=>by
 rw [Bool.and_eq_true] at hf
 have hE:Env.same r (r+1) E ⟨E.blk,fun x=>if x=r then .slice none 0 0 else E.row x⟩:=fun x hx=>by
  have:¬ x=r:=by omega
  simp [this]
 have ho:Ac ⟨E.blk,fun x=>if x=r then .slice none 0 0 else E.row x⟩ [.row r e k []]=[]:=by simp [Ac,BA.owned,Value.ownBlock]
 have hs2:=hs.add (E':=⟨E.blk,fun x=>if x=r then .slice none 0 0 else E.row x⟩) (nb:=[.row r e k []]) (Below.refl _ w) hE hf.1 hf.2 (by rw [ho];exact List.nodup_nil) (fun g hg=>by rw [ho] at hg;cases hg) (fun x hx=>by
  simp only [List.mem_singleton] at hx
  subst hx
  refine ⟨?_,fun g hg=>by simp [Value.ownBlock] at hg⟩
  simp only [if_true]
  exact Ah.nil_ _ _ _)
 obtain ⟨pre,post,e1,e2,e3⟩:=D8 hb
 obtain ⟨fr,bk⟩:=σ
 simp only at e1 e3 hs2 h
 have e4:=e3 [.box b (cs.set j (.own r))]
 subst e1
 rw [e4] at h
 have hs3:St V w0 m0 ⟨E.blk,fun x=>if x=r then .slice none 0 0 else E.row x⟩ ⟨fr,(.row r e k [] :: pre)++.box b cs :: post⟩ a w:=by simpa using hs2
 have hs4:=hs3.rebox (cs':=cs.set j (.own r)) fun vs hv=>⟨by rw [hv.1,List.length_set],fun i v d h1 h2=>by
  rw [List.getElem?_set] at h2
  split at h2
  ·rename_i eij
   subst eij
   split at h2
   ·obtain rfl:=Option.some.inj h2
    have:=hv.2 j v _ h1 hj
    cases this
    exact .own (by simp)
   ·cases h2
  ·exact hv.2 i v d h1 h2⟩
 refine h hG m0 _ a w hn (by simpa using hs4)
end
section
variable {P : Program} {G : World -> Prop} {ops rest : List Oper} {KK : Ag -> Prop} {σ : Ag} {d : Option Tmp} {op : Op} {ty : TypeId} {pos : String} {after : Array Edge} {j : Nat} {g : Bool} {A B X p : Prop} [Decidable p]
variable {ds : List Nat} {fr0 : List (Nat × AV)} {toks : List BA} {rs : List AV} {KD : List BA -> List AV -> Prop} {hs : List G8}
theorem Al (h1:p->A) (h2:¬ p->B):N8 (.val (.bool (decide p))) A B:=Cy (fun h=>h1 (of_decide_eq_true h)) (fun h=>h2 (of_decide_eq_false h))
theorem B8 (_:X=Bo P G ops (⟨d,op,ty,pos,after,some (j,g)⟩ :: rest) σ KK) (_:J7 ops σ.fr j=.val (.bool (decide p))) (h1:p->decide p=true->X) (h2:¬ p->decide p=false->X):X:=by
 by_cases h:p
 ·exact h1 h (decide_eq_true h)
 ·exact h2 h (decide_eq_false h)
theorem M3 (_:X=B7 P G ds fr0 (⟨d,op,ty,pos,after,some (j,g)⟩ :: rest) hs toks rs KD) (_:nrm (rs.getD j .any)=.val (.bool (decide p))) (h1:p->decide p=true->X) (h2:¬ p->decide p=false->X):X:=by
 by_cases h:p
 ·exact h1 h (decide_eq_true h)
 ·exact h2 h (decide_eq_false h)
theorem ix_ {α:Type} {l:List α} {f:α->List IV} {i:Nat} {K:List IV->Prop} (h:i < l.length) (hk:K (f l[i])):0<=(i:Int)/\∃ cs,(l.map f)[i]? = some cs/\Dv (K cs):=⟨by omega,_,Cx (List.getElem?_eq_getElem h),Bi hk⟩
end
attribute [go_sem] true_or exists_const List.nodup_nil AV.val.injEq Value.bool.injEq Value.int.injEq and_self
def enZ (x:At):List IV:=[.val (.int .i64 x.span.lo),.val (.int .i64 x.span.hi),stI x.vec]
def byI (l:List Nat):IV:=.sl 1 (l.map fun (b:Nat)=>[.val (.int .u8 b)])
def enB (x:C1):List IV:=[.val (.int .i64 x.object),.val (.int .i64 x.stamp.count),.val (.int .i64 x.stamp.node),byI x.value]
def znI (l:List At):IV:=.sl 3 (l.map enZ)
def boI (l:List C1):IV:=.sl 4 (l.map enB)
def wA (w:Ap):AV:=.agg [.val (.int .i64 w.stamp.count),.val (.int .i64 w.stamp.node),.val (.int .i64 w.object),.val (.bool w.gone)]
def boA (x:C1):AV:=.agg [.val (.int .i64 x.object),.val (.int .i64 x.stamp.count),.val (.int .i64 x.stamp.node),.iv (byI x.value)]
def vwA (v:Cr):AV:=.agg [.iv (stI v.known),.iv (znI v.zones),.iv (wrI v.held),.iv (boI v.bodies),.val (.int .i64 v.room)]
theorem Hr (x:At):enZ x=[.val (.int .i64 x.span.lo),.val (.int .i64 x.span.hi),stI x.vec]:=rfl
theorem Hv (x:C1):enB x=[.val (.int .i64 x.object),.val (.int .i64 x.stamp.count),.val (.int .i64 x.stamp.node),byI x.value]:=rfl
theorem Cv (l:List Nat):byI l=.sl 1 (l.map fun (b:Nat)=>[.val (.int .u8 b)]):=rfl
theorem Db (l:List At):znI l=.sl 3 (l.map enZ):=rfl
theorem Dq (l:List C1):boI l=.sl 4 (l.map enB):=rfl
theorem Jc (w:Ap):wA w=.agg [.val (.int .i64 w.stamp.count),.val (.int .i64 w.stamp.node),.val (.int .i64 w.object),.val (.bool w.gone)]:=rfl
theorem G6 (x:C1):boA x=.agg [.val (.int .i64 x.object),.val (.int .i64 x.stamp.count),.val (.int .i64 x.stamp.node),.iv (byI x.value)]:=rfl
theorem Dk (v:Cr):vwA v=.agg [.iv (stI v.known),.iv (znI v.zones),.iv (wrI v.held),.iv (boI v.bodies),.val (.int .i64 v.room)]:=rfl
attribute [local irreducible] AW AWY Bo B4 vop Bj B7 Bf qop Bu C4 Aq Aj Bh A7 B9
attribute [local go_sem] G2 Ms C9 Ae Af
theorem Ai2 (l:List Ab):A7 Tryz.prog A8 126 [.iv (stI l)] (.iv (stI l)) []:=(Ar5 l).frz trivial
theorem C77 (l:List Ao):A7 Tryz.prog A8 141 [.iv (spI l)] (.iv (spI l)) []:=(Ar6 l).frz trivial
theorem Ar8 (x:Bc):A7 Tryz.prog A8 210 [Ft x,Ft x] (.val (.bool true)) [] :=
 Bt Tryz.func210 rfl (by kernel_rfl) fun V w E vs hV hG hr=>by
  obtain ⟨v0,v1,rfl,h0,h1⟩:=Kr hr
  obtain ⟨n0,n1,n2,n3,rfl,H0⟩:=Nw hV h0
  obtain ⟨m0,m1,m2,m3,rfl,H1⟩:=Nw hV h1
  exact Ai8 x _ _ _ _ _ _ _ _ w H0 H1
theorem Wv (l:List Bc):A7 Tryz.prog A8 134 [.iv (noI l),.iv (noI l)] (.val (.bool true)) []:=by
 refine A7.of (n:=27) (rs:=[.tmp 4]) Tryz.func134 rfl (by kernel_rfl) Tryz.ntmps134 (by kernel_rfl) (by simp) (fun _ _=>A8.later) ?_
 intro hok V w0
 have hlen:l.length<=1073741824:=by simpa using hok.1.1
 refine g ?_
 refine g ?_
 repeat' refine st_ rfl (g ?_)
 refine AW.loop (fun m:{m:Nat // m<=l.length}=>⟨[(0,.iv (noI l)),(1,.iv (noI l)),(5,.val (.int .i64 (m.1:Nat)))],[]⟩) (fun m=>l.length - m.1) ⟨0,Nat.zero_le _⟩ id ⟨⟨rfl,rfl,rfl,trivial⟩,trivial,List.nodup_nil⟩ fun ⟨m,hm⟩=>?_
 refine g ?_
 repeat' (first | refine st_ rfl (g ?_) | refine Cy (fun h=>g ?_) (fun h=>g ?_))
 ·have hlt:m < l.length:=by simpa using h
  refine AW.drawn (ds:=[17,18,19,20,21,22,23,24,25,26]) (fin:=[]) (bs:=[0,0,0,0,0,0,0,0,0,0]) [⟨[],[],[],[],0⟩,⟨[],[],[],[],0⟩,⟨[(17,0),(18,1)],[],[],[],0⟩,⟨[(19,2)],[],[],[],0⟩,⟨[],[],[],[],0⟩,⟨[],[],[],[],0⟩,⟨[(21,4),(22,5)],[],[],[],0⟩,⟨[(23,6)],[],[],[],0⟩,⟨[(20,3),(24,7)],[],[],[],0⟩,⟨[(25,8)],[],[],[],0⟩] (by kernel_rfl) rfl (by kernel_rfl) rfl rfl rfl fun KD hKD=>?_
  refine g ?_
  refine ⟨by omega,_,Cx (List.getElem?_eq_getElem hlt),?_⟩
  refine g ?_
  repeat' refine Bi (g ?_)
  refine ⟨by omega,_,Cx (List.getElem?_eq_getElem hlt),?_⟩
  refine g ?_
  repeat' refine Bi (g ?_)
  refine A9 (Ar8 l[m]) rfl ?_
  refine g ?_
  repeat' (refine hKD _ _ ⟨rfl,g ?_⟩;clear hKD KD)
  refine g ?_
  repeat' refine st_ rfl (g ?_)
  exact ⟨⟨m+1,hlt⟩,id,⟨⟨rfl,rfl,rfl,trivial⟩,trivial,List.nodup_nil⟩,by show l.length - (m+1) < l.length - m;omega⟩
 ·first | exact trivial | exact ⟨.inl trivial,id,List.nodup_nil⟩ | rfl
end Go.Proofs.YtblfjaedaijfoaaGreatDoor
namespace Go.Proofs.YtblfjaedaijfoaaGreatDoor
open Go.ChangeShapes Go.WideShapes Go.ChangeAt Go.RowKit
section
attribute [local irreducible] Jf
theorem Mh (f:Nat->Bool):(Ge f).length=256:=by unfold Ge;rw [List.length_map,Array.length_toList,Mz]
theorem Pw {f:Nat->Bool} {o:Nat} (h:o < 256):(Ge f)[o]? = some (.val (.bool (f o))):=by
 unfold Ge setRow
 rw [List.getElem?_map,Array.getElem?_toList,F3 h];rfl
end
attribute [local irreducible] Ge Bd5
theorem Zz {f g:Nat->Bool} (h:∀ o,o < 256->f o=g o):Ge f=Ge g:=List.ext_getElem? fun o=>by
 by_cases ho:o < 256
 ·rw [Pw ho,Pw ho,h o ho]
 ·rw [List.getElem?_eq_none (by rw [Mh];omega),List.getElem?_eq_none (by rw [Mh];omega)]
attribute [local irreducible] AW AWY Bo B4 vop Bj B7 Bf qop Bu C4 Aq Aj Bh A7 B9
attribute [local go_sem] Cm Eb C9 Zp Po Rw Pp
def E03 (x:Bc) (it:List Ao) (m:Nat) (o:Nat):Bool:=Bm x.blur o || (Be5 it (x.writes.take m)).any fun p=>decide (p=(o:Int))
end Go.Proofs.YtblfjaedaijfoaaGreatDoor
