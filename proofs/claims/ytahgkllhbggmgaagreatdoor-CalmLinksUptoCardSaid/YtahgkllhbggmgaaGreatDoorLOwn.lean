/- Memory of the call's own: rows that it appends to; a row of cells cut into elements ('Chunks'); appends of whole slices. No program is known here. -/
import Derived.Test.YtahgkllhbggmgaaGreatDoorLRep
import Derived.Maps.AppendAt
import Derived.Deep.AppendLies
import Derived.OwnWalk
set_option linter.all false
set_option linter.unnecessarySimpa false
set_option linter.unusedSimpArgs false
set_option linter.unusedVariables false
namespace Go.Proofs.YtahgkllhbggmgaaGreatDoor
open Go.ChangeShapes Go.WideShapes Go.ChangeAt Go.RowKit
def Bh {α:Type} (R:List Value->α->Prop) (k:Nat):List Value->List α->Prop
 | xs,[]=>xs=[]
 | xs,x :: l=>∃ cs rest,xs=cs++rest/\cs.length=k/\R cs x/\Bh R k rest l
section
variable {α : Type} {R R' : List Value -> α -> Prop} {k : Nat}
theorem Bh.length:∀ {xs:List Value} {l:List α},Bh R k xs l->xs.length=l.length*k
 | _,[],h=>by cases h;simp
 | _,x :: l,⟨cs,rest,e,hk,_,h⟩=>by subst e;rw [List.length_append,hk,h.length,List.length_cons,Nat.add_mul];omega
theorem Bh.append:∀ {xs ys:List Value} {l m:List α},Bh R k xs l->Bh R k ys m->Bh R k (xs++ys) (l++m)
 | _,_,[],_,h,h'=>by cases h;exact h'
 | _,_,x :: l,_,⟨cs,rest,e,hk,hR,h⟩,h'=>by subst e;exact ⟨cs,_,List.append_assoc _ _ _,hk,hR,h.append h'⟩
theorem Bh.one {cs:List Value} {x:α} (hk:cs.length=k) (h:R cs x):Bh R k cs [x]:=⟨cs,[],(List.append_nil _).symm,hk,h,rfl⟩
theorem Bh.mono (hR:∀ cs x,R cs x->R' cs x):∀ {xs:List Value} {l:List α},Bh R k xs l->Bh R' k xs l
 | _,[],h=>h
 | _,_ :: _,⟨cs,rest,e,hk,h1,h⟩=>⟨cs,rest,e,hk,hR _ _ h1,h.mono hR⟩
theorem Bh.rel {β:Type} {S:List Value->β->Prop} : ∀ {xs:List Value} {l:List α} {l':List β},Bh R k xs l->l.length=l'.length->(∀ (i:Nat) x x' cs,l[i]? = some x->l'[i]? = some x'->R cs x->S cs x')->Bh S k xs l'
 | _,[],[],h,_,_=>h
 | _,x :: l,x' :: l',⟨cs,rest,e,hk,h1,h⟩,hl,hR=>⟨cs,rest,e,hk,hR 0 x x' cs rfl rfl h1,h.rel (by simpa using hl) fun i y y' cs h2 h3=>hR (i+1) y y' cs (by simpa using h2) (by simpa using h3)⟩
 | _,[],_ :: _,_,hl,_=>by simp at hl
 | _,_ :: _,[],_,hl,_=>by simp at hl
theorem Bh.at_:∀ {xs:List Value} {l:List α},Bh R k xs l->∀ {i:Nat} {x:α},l[i]? = some x->∃ cs,R cs x/\cs.length=k/\∀ j u,cs[j]? = some u->xs[i*k+j]? = some u
 | _,[],_,i,x,hx=>by simp at hx
 | _,y :: l,⟨cs,rest,e,hk,hR,h⟩,0,x,hx=>by
  simp at hx
  subst hx e
  refine ⟨cs,hR,hk,fun j u hu=>?_⟩
  have hj:=(List.getElem?_eq_some_iff.1 hu).1
  rw [Nat.zero_mul,Nat.zero_add,List.getElem?_append_left hj,hu]
 | _,y :: l,⟨cs,rest,e,hk,hR,h⟩,i+1,x,hx=>by
  simp at hx
  subst e
  obtain ⟨cs',h1,h2,h3⟩:=h.at_ hx
  refine ⟨cs',h1,h2,fun j u hu=>?_⟩
  rw [List.getElem?_append_right (by rw [hk,Nat.add_mul];omega),<-h3 j u hu]
  congr 1
  rw [hk,Nat.add_mul];omega
theorem Bh.one_cell (hR:∀ cs x,R cs x->∀ u∈cs,u.oneCell'=true):∀ {xs:List Value} {l:List α},Bh R k xs l->∀ u∈xs,u.oneCell'=true
 | _,[],h,u,hu=>by cases h;simp at hu
 | _,_ :: _,⟨cs,rest,e,_,h1,h⟩,u,hu=>by
  subst e
  rcases List.mem_append.1 hu with hu | hu
  ·exact hR _ _ h1 u hu
  ·exact h.one_cell hR u hu
theorem Sl.cells {w:World} {B:Nat} {v:Value} {l:List α} (h:Sl R k w B v l):∃ A c xs,v=.slice A l.length c/\Bh R k xs l/\(l≠[]->∃ b off,A=some ⟨b,off,none⟩/\b < B/\∀ j u,xs[j]? = some u->w.cell? ⟨b,off+j,none⟩=some u):=by
 obtain ⟨A,c,rfl,_,_,h3⟩:=h
 by_cases hl:l=[]
 ·subst hl
  exact ⟨A,c,[],rfl,rfl,fun h=>absurd rfl h⟩
 ·obtain ⟨b,off,hA,hb,h4⟩:=h3 hl
  have key:∀ (l:List α) (i0:Nat),(∀ i x,l[i]? = some x->∃ cs,R cs x/\cs.length=k/\∀ j u,cs[j]? = some u->w.cell? ⟨b,off+(i0+i)*k+j,none⟩=some u) ->
    ∃ xs,Bh R k xs l/\∀ j u,xs[j]? = some u->w.cell? ⟨b,off+i0*k+j,none⟩=some u:=by
   intro l
   induction l with
   | nil=>exact fun _ _=>⟨[],rfl,fun j u h=>by simp at h⟩
   | cons x l ih =>
    intro i0 hall
    obtain ⟨cs,c1,c2,c3⟩:=hall 0 x rfl
    obtain ⟨xs,d1,d2⟩:=ih (i0+1) (fun i y hy=>by
     have:=hall (i+1) y (by simpa using hy)
     rwa [show i0+(i+1)=i0+1+i by omega] at this)
    refine ⟨cs++xs,⟨cs,xs,rfl,c2,c1,d1⟩,fun j u hu=>?_⟩
    by_cases hj:j < cs.length
    ·rw [List.getElem?_append_left hj] at hu
     exact c3 j u hu
    ·rw [List.getElem?_append_right (by omega)] at hu
     have:=d2 _ u hu
     rw [c2] at this
     rw [show off+i0*k+j=off+(i0+1)*k+(j - k) by rw [Nat.add_mul];omega]
     exact this
  obtain ⟨xs,x1,x2⟩:=key l 0 (fun i x hx=>by simpa using h4 i x hx)
  exact ⟨A,c,xs,rfl,x1,fun _=>⟨b,off,hA,hb,by simpa using x2⟩⟩
def Ai (R:List Value->α->Prop) (k:Nat) (w:World) (base:Nat) (e:TypeId) (v:Value) (l:List α):Prop :=
 ∃ xs,w.ownsRow base e k v l.length xs/\Bh R k xs l/\l.length<=1073741824
theorem Ai.nil_ (w:World) (base:Nat) (e:TypeId):Ai R k w base e (.slice none 0 0) []:=⟨[],World.ownsRow_nil _ _ _ _,rfl,Nat.zero_le _⟩
theorem Ai.sl {w:World} {base:Nat} {e:TypeId} {v:Value} {l:List α} (h:Ai R k w base e v l):Sl R k w w.heap.size v l:=by
 obtain ⟨xs,hown,hch,hbig⟩:=h
 rcases hown.2 with ⟨rfl,hn⟩ | ⟨g,cap,cur,rfl,hb,hg,hnc,hcm,hcs,ht⟩
 ·have:l=[]:=List.eq_nil_of_length_eq_zero hn
  subst this
  exact Sl.nil_ (by unfold maxLen;omega) _
 ·refine ⟨some ⟨g,0,none⟩,cap,rfl,⟨hnc,hbig⟩,hcm,fun _=>⟨g,0,rfl,(Array.getElem?_eq_some_iff.1 hg).1,fun i x hx=>?_⟩⟩
  obtain ⟨cs,h1,h2,h3⟩:=hch.at_ hx
  refine ⟨cs,h1,h2,fun j u hu=>?_⟩
  have:=hown.cells (g:=g) rfl _ u (h3 j u hu)
  rw [Dq] at this
  simpa [Nat.add_assoc] using this
theorem Ai.of_blk {w:World} {g:Nat} {e:TypeId} {cs:Array Value} {l:List α} (hB:Blk w g e cs) (hch:Bh R k cs.toList l) (hle:l.length<=1073741824):Ai R k w g e (.slice (some ⟨g,0,none⟩) l.length l.length) l:=by
 have hl:=hch.length
 refine ⟨cs.toList,⟨hl,.inr ⟨g,l.length,cs,rfl,Nat.le_refl _,hB,Nat.le_refl _,by unfold maxLen;omega,by simpa using hl,?_⟩⟩,hch,hle⟩
 rw [List.take_of_length_le (by omega)]
theorem Ai.lt {w:World} {base:Nat} {e:TypeId} {v:Value} {l:List α} (h:Ai R k w base e v l):∀ g,v.ownBlock=some g->base<=g/\g < w.heap.size:=by
 obtain ⟨xs,hown,_⟩:=h
 exact hown.lt
theorem Ai.kept {w w':World} {base:Nat} {e:TypeId} {v:Value} {l:List α} {row:Option Nat} (h:Ai R k w base e v l) (hg:w.grownBy w' row) (hne:v.ownBlock=none\/v.ownBlock≠row):Ai R k w' base e v l:=by
 obtain ⟨xs,hown,hch⟩:=h
 exact ⟨xs,hown.kept hg hne,hch⟩
theorem Y5 {a w:World} (h:Below a.heap.size a w) (row:Option Nat):a.grownBy w row:=⟨h.os,h.tape,h.output,h.size,fun i hi _=>h.block i hi⟩
theorem Ai.next {w w':World} {base:Nat} {e:TypeId} {v:Value} {l:List α} (h:Ai R k w base e v l) (hb:Below w.heap.size w w'):Ai R k w' base e v l :=
 h.kept (Y5 hb none) (by cases hv:v.ownBlock<;>simp)
theorem Ai.mono {w:World} {base:Nat} {e:TypeId} {v:Value} {l:List α} (h:Ai R k w base e v l) (hR:∀ cs x,R cs x->R' cs x):Ai R' k w base e v l:=by
 obtain ⟨xs,hown,hch⟩:=h
 exact ⟨xs,hown,hch.1.mono hR,hch.2⟩
theorem Ai.rel {β:Type} {S:List Value->β->Prop} {w:World} {base:Nat} {e:TypeId} {v:Value} {l:List α} {l':List β} (h:Ai R k w base e v l) (hl:l.length=l'.length) (hR:∀ (i:Nat) x x' cs,l[i]? = some x->l'[i]? = some x'->R cs x->S cs x'):Ai S k w base e v l':=by
 obtain ⟨xs,h1,h2,h3⟩:=h
 exact ⟨xs,hl ▸ h1,h2.rel hl hR,hl ▸ h3⟩
theorem Ai.form {w:World} {base:Nat} {e:TypeId} {v:Value} {l:List α} (h:Ai R k w base e v l):∃ A c,v=.slice A l.length c:=by
 obtain ⟨xs,hown,_⟩:=h
 rcases hown.2 with ⟨rfl,hn⟩ | ⟨g,cap,cur,rfl,_⟩
 ·exact ⟨_,_,by rw [hn]⟩
 ·exact ⟨_,_,rfl⟩
theorem Bh.set_ {j:Nat} {u:Value} {x x':α} (hj:j < k) (hR:∀ cs,R cs x->cs.length=k->R (cs.set j u) x'):∀ {xs:List Value} {l:List α},Bh R k xs l->∀ {i:Nat},l[i]? = some x->Bh R k (xs.set (i*k+j) u) (l.set i x')
 | _,[],_,i,hx=>by simp at hx
 | _,y :: l,⟨cs,rest,e,hk,h1,h⟩,0,hx=>by
  simp at hx
  subst hx e
  rw [Nat.zero_mul,Nat.zero_add,List.set_cons_zero,List.set_append_left _ _ (by omega)]
  exact ⟨_,rest,rfl,by rw [List.length_set];exact hk,hR _ h1 hk,h⟩
 | _,y :: l,⟨cs,rest,e,hk,h1,h⟩,i+1,hx=>by
  simp at hx
  subst e
  rw [List.set_cons_succ,List.set_append_right _ _ (by rw [hk,Nat.add_mul];omega),show (i+1)*k+j - cs.length=i*k+j by rw [hk,Nat.add_mul];omega]
  exact ⟨cs,_,rfl,hk,h1,h.set_ hj hR hx⟩
theorem Ai.set_ {w:World} {base:Nat} {e:TypeId} {g c:Nat} {l:List α} {i j:Nat} {u:Value} {x x':α} (h:Ai R k w base e (.slice (some ⟨g,0,none⟩) l.length c) l) (hi:l[i]? = some x) (hj:j < k)
  (hR:∀ cs,R cs x->cs.length=k->R (cs.set j u) x'):Ai R k (w.setCell ⟨g,i*k+j,none⟩ u) base e (.slice (some ⟨g,0,none⟩) l.length c) (l.set i x'):=by
 obtain ⟨xs,hown,hch⟩:=h
 exact ⟨_,by rw [List.length_set];exact (hown.stored (i*k+j) u).1,hch.1.set_ hj hR hi,by rw [List.length_set];exact hch.2⟩
theorem Ai.frozen {w:World} {base:Nat} {e:TypeId} {g c:Nat} {l:List α} (h:Ai R k w base e (.slice (some ⟨g,0,none⟩) l.length c) l) (j:Nat):w.frozen? ⟨g,j,none⟩=false:=by
 obtain ⟨xs,hown,_⟩:=h
 exact hown.frozenAt j
theorem Ai.at_ {w:World} {base:Nat} {e:TypeId} {g c:Nat} {l:List α} {i:Nat} {x:α} (h:Ai R k w base e (.slice (some ⟨g,0,none⟩) l.length c) l) (hi:l[i]? = some x) :
  ∃ cs,R cs x/\cs.length=k/\∀ j u,cs[j]? = some u->w.cell? ⟨g,i*k+j,none⟩=some u:=by
 obtain ⟨xs,hown,hch⟩:=h
 obtain ⟨cs,h1,h2,h3⟩:=hch.1.at_ hi
 refine ⟨cs,h1,h2,fun j u hu=>?_⟩
 have hj:=(List.getElem?_eq_some_iff.1 hu).1
 have hil:=(List.getElem?_eq_some_iff.1 hi).1
 rw [hown.cellAt _ (by
  have:(i+1)*k<=l.length*k:=Nat.mul_le_mul_right k hil
  rw [Nat.add_mul] at this
  omega)]
 exact h3 j u hu
theorem Ai.base {w:World} {base base':Nat} {e:TypeId} {v:Value} {l:List α} (h:Ai R k w base e v l) (hb:base'<=base):Ai R k w base' e v l:=by
 obtain ⟨xs,⟨h1,h2⟩,hch⟩:=h
 refine ⟨xs,⟨h1,h2.imp id ?_⟩,hch⟩
 rintro ⟨g,cap,cur,e1,e2,r⟩
 exact ⟨g,cap,cur,e1,by omega,r⟩
theorem Ai.forms {w:World} {base:Nat} {e:TypeId} {v:Value} {l:List α} (h:Ai R k w base e v l):(v=.slice none 0 0/\l=[])\/∃ g c,v=.slice (some ⟨g,0,none⟩) l.length c/\base<=g/\g < w.heap.size:=by
 obtain ⟨xs,hown,_⟩:=h
 rcases hown.2 with ⟨rfl,hn⟩ | ⟨g,cap,cur,rfl,hb,hg,_⟩
 ·exact Or.inl ⟨rfl,List.eq_nil_of_length_eq_zero hn⟩
 ·exact Or.inr ⟨g,cap,rfl,hb,(Array.getElem?_eq_some_iff.1 hg).1⟩
end
section
variable {P : Program} (w : World)
theorem H7 (base:Nat) (t ty e:TypeId) (i:TypeInfo) (size:Nat) (ht:P.underlying t=some (.slice e)) (hi:P.info? e=some i)
  (v:Value) (n:Nat) (xs:List Value) (hown:w.ownsRow base e size v n xs) (A:Option Addr) (c:Nat) (hA:A=none):(Builtin.append_ #[t,t] ty #[v,.slice A 0 c]).run P w=.ok v w:=by
 subst hA
 rcases hown.2 with ⟨rfl,rfl⟩ | ⟨g,cap,cur,rfl,_,_,hnc,_⟩
 ·simp [Builtin.append_,run_underlying ht,sizeOf,typeInfo,hi,Builtin.lenOf,Builtin.firstCells]
 ·simp [Builtin.append_,run_underlying ht,sizeOf,typeInfo,hi,Builtin.lenOf,Builtin.firstCells,hnc,storeCells]
theorem G5 {α:Type} {R:List Value->α->Prop} {size:Nat} (h1:∀ cs x,R cs x->∀ u∈cs,u.oneCell'=true) {ops:Array Oper} {rest:List Oper} {o:Oper} {a:Act} {Q:Exit->Act->World->Prop} (hgd:o.guard=none) (s x:Operand) (t:TypeId)
  (ho:o.op=.call { callee:=.builtin .append,args:=#[s,x],argTypes:=#[t,t] })
  (base:Nat) (e:TypeId) (i:TypeInfo) (z:Value) (bytes:Nat) (ht:P.underlying t=some (.slice e)) (hi:P.info? e=some i) (hz:i.zero=some z)
  (hsize:i.size=size) (hby:i.bytes=bytes) (hzs:z.cells.size=size) (hsz:0 < size)
  (v:Value) (l:List α) (hs:a.eval s=v) (hown:Ai R size w base e v l)
  (B:Nat) (v2:Value) (m:List α) (hx:a.eval x=v2) (hr:Sl R size w B v2 m)
  (hbig:l.length+m.length<=1073741824) (hbb:bytes<=131072) (hbase:base<=w.heap.size)
  (h:∀ v' w',Ai R size w' base e v' (l++m)->w.grownBy w' v.ownBlock->(v'.ownBlock=v.ownBlock\/v'.ownBlock=some w.heap.size)->wpList P ops Q rest (a.put o.dst v') w'):wpList P ops Q (o :: rest) a w:=by
 have h63:l.length+m.length<=maxLen:=by unfold maxLen;omega
 have hbytes:(l.length+m.length)*bytes<=140737488355328:=by
  have:=Nat.mul_le_mul hbig hbb
  omega
 obtain ⟨xs,hown1,hch,_⟩:=hown
 obtain ⟨A,c,ys,rfl,hch2,hcell⟩:=hr.cells
 have hrun:∃ v' w',(Builtin.append_ #[t,t] o.type #[v,.slice A m.length c]).run P w=.ok v' w'/\Ai R size w' base e v' (l++m)/\w.grownBy w' v.ownBlock/\(v'.ownBlock=v.ownBlock\/v'.ownBlock=some w.heap.size):=by
  rcases hA:A with _ | ad
  ·have hm:m=[]:=by
    rcases m with _ | ⟨y,m⟩
    ·rfl
    ·obtain ⟨b,off,h,_⟩:=hcell (by simp)
     rw [hA] at h
     cases h
   subst hm
   exact ⟨v,w,H7 w base t o.type e i size ht hi v _ xs hown1 _ c rfl,⟨xs,by simpa using hown1,by simpa using hch,by simpa using hbig⟩,World.grownBy.refl w _,.inl rfl⟩
  ·have hcells:∀ j u,ys[j]? = some u->w.cell? (ad.add j)=some u:=by
    intro j u hu
    rcases m with _ | ⟨y,m⟩
    ·cases hch2
     simp at hu
    ·obtain ⟨b,off,h,_,hc⟩:=hcell (by simp)
     rw [hA] at h
     injection h with h
     subst h
     rw [Dq]
     exact hc j u hu
   obtain ⟨v',w',hrun,h2,h3,_,h5⟩:=run_append_own_at (P:=P) w base t o.type e i z size bytes ht hi hz hsize hby hzs hsz v _ xs hown1 ad _ c ys hch2.length hcells (hch2.one_cell h1) h63 hbytes hbase
   exact ⟨v',w',hrun,⟨_,by simpa using h2,hch.append hch2,by simpa using hbig⟩,h3,h5⟩
 obtain ⟨v',w',hrun,h2,h3,h4⟩:=hrun
 refine wpList_plain hgd fun _ hK=>?_
 unfold Oper.wp execOp
 simp only [ho,resolve,invoke,builtin,Sem.run_bind,Sem.run_pure,Result.andThen_ok,List.map_toArray,List.map_cons,List.map_nil,hs,hx,hrun]
 exact hK _ _ (h v' w' h2 h3 h4)
end
end Go.Proofs.YtahgkllhbggmgaaGreatDoor
