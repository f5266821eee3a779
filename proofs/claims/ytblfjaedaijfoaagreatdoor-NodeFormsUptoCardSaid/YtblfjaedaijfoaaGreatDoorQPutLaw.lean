/- Writes are put into a shelf; what a view is behind a note. Plain definitions and laws. No program is known here. -/
import Derived.Test.YtblfjaedaijfoaaGreatDoorQRep
import Derived.Test.YtblfjaedaijfoaaGreatDoorQVec
import Derived.Test.YtblfjaedaijfoaaGreatDoorQTakeLaw
import Derived.Test.YtblfjaedaijfoaaGreatDoorQPlace
set_option linter.all false
set_option linter.unnecessarySimpa false
set_option linter.unusedSimpArgs false
set_option linter.unusedVariables false
namespace Go.Proofs.YtblfjaedaijfoaaGreatDoor
open Go.ChangeShapes Go.WideShapes Go.ChangeAt Go.RowKit
def orI (a b:Int):Int:=if a=0 then b else a
def E01 (a b c d:Int):Int:=orI (Xd a c) (Xd b d)
def nxV (c n s:Int):Value :=
 if c < 0\/n < 0\/64<=n\/s < 0 then .tuple #[.agg #[.int .i64 0,.int .i64 0],.int .i64 1]
 else if 9223372036854775807 - c<=s then .tuple #[.agg #[.int .i64 0,.int .i64 0],.int .i64 2]
 else .tuple #[.agg #[.int .i64 (c+s+1),.int .i64 n],.int .i64 0]
end Go.Proofs.YtblfjaedaijfoaaGreatDoor
namespace Go.Proofs.YtblfjaedaijfoaaGreatDoor
def Ak2 (u w:Ap):Bool:=decide (E01 u.stamp.count u.stamp.node w.stamp.count w.stamp.node < 0)
def Ci6 (u:Option Ap) (w:Ap):Ap:=match u with
 | none=>w
 | some u=>if Ak2 u w=true then w else u
def S4 (l:List Ap) (w:Ap):List Ap:=match Jr l w.object with
 | none=>l.take (F4 l w.object)++w :: l.drop (F4 l w.object)
 | some u=>if Ak2 u w=true then l.set (F4 l w.object) w else l
def B72 (l list:List Ap):List Ap:=list.foldl S4 l
def E51 (l list:List Ap):List Ap×Int:=if C6 l=true/\list.all Fp=true then (B72 l list,0) else ([],1)
-- shelves as sorted lists
def Shelf (l:List Ap):Prop:=l.Pairwise (fun a b=>a.object < b.object)/\∀ w∈l,Fp w=true
theorem Wt {w:Ap} (h:Fp w=true):0<=w.object/\w.object<=255:=by
 simp only [Fp,Dm,Bool.and_eq_true,decide_eq_true_eq] at h
 exact h.1
theorem Sy:∀ {l:List Ap} {e:Int},Ck e l=true↔Shelf l/\∀ w∈l,e < w.object
 | [],e=>by simp [Ck,Shelf]
 | w :: l,e=>by
  rw [Ck,Bool.and_eq_true,Bool.and_eq_true,decide_eq_true_eq,Sy]
  unfold Shelf
  rw [List.pairwise_cons]
  simp only [List.mem_cons,forall_eq_or_imp]
  constructor
  ·rintro ⟨⟨h1,h2⟩,⟨h3,h4⟩,h5⟩
   exact ⟨⟨⟨h5,h3⟩,h1,h4⟩,h2,fun a ha=>by have:=h5 a ha;omega⟩
  ·rintro ⟨⟨⟨h5,h3⟩,h1,h4⟩,h2,_⟩
   exact ⟨⟨h1,h2⟩,⟨h3,h4⟩,h5⟩
theorem Wp {l:List Ap} : C6 l=true↔Shelf l:=by
 unfold C6
 rw [Sy]
 exact ⟨fun h=>h.1,fun h=>⟨h,fun w hw=>by have:=Wt (h.2 w hw);omega⟩⟩
theorem Vo {l:List Ap} (h:Shelf l) {o:Int} {w:Ap} : Jr l o=some w↔w∈l/\w.object=o:=by
 unfold Jr
 constructor
 ·intro hh
  exact ⟨List.mem_of_find?_eq_some hh,by simpa using List.find?_some hh⟩
 ·rintro ⟨h1,h2⟩
  cases hf:l.find? (fun w=>decide (w.object=o)) with
  | none=>have:=List.find?_eq_none.1 hf w h1;simp [h2] at this
  | some u =>
   have h3:=List.mem_of_find?_eq_some hf
   have h4:u.object=o:=by simpa using List.find?_some hf
   by_cases e:u=w
   ·rw [e]
   ·obtain ⟨i,hi,rfl⟩:=List.mem_iff_getElem.1 h1
    obtain ⟨j,hj,rfl⟩:=List.mem_iff_getElem.1 h3
    rcases Nat.lt_trichotomy i j with h5 | h5 | h5
    ·have:=List.pairwise_iff_getElem.1 h.1 i j hi hj h5;omega
    ·subst h5;exact absurd rfl e
    ·have:=List.pairwise_iff_getElem.1 h.1 j i hj hi h5;omega
theorem By3 {l:List Ap} {o:Int} (h:Shelf l):(∀ w∈l.take (F4 l o),w.object < o)/\∀ w∈l.drop (F4 l o),o<=w.object:=by
 constructor
 ·intro w hw
  obtain ⟨j,hj,rfl⟩:=List.mem_take_iff_getElem.1 hw
  have h9:=List.not_of_lt_findIdx (p:=fun w:Ap=>decide (o<=w.object)) (xs:=l) (i:=j) (show j < F4 l o by omega)
  have:¬ o<=l[j].object:=by simpa using h9
  omega
 ·intro w hw
  obtain ⟨j,hj,rfl⟩:=List.mem_drop_iff_getElem.1 hw
  have hlt:F4 l o < l.length:=by omega
  have hp:o<=l[F4 l o].object:=by
   exact of_decide_eq_true (List.findIdx_getElem (p:=fun w:Ap=>decide (o<=w.object)) (xs:=l) (w:=hlt))
  rcases Nat.eq_zero_or_pos j with rfl | h0
  ·exact hp
  ·have:=List.pairwise_iff_getElem.1 h.1 (F4 l o) (F4 l o+j) hlt (by omega) (by omega)
   omega
theorem By4 {l:List Ap} {o:Int} (h:Shelf l) {u:Ap} (hg:Jr l o=some u):∃ hl:F4 l o < l.length,l[F4 l o]=u:=Ab6 (Qr (Wp.2 h)).1 hg
theorem Ab5 {l:List Ap} {w:Ap} (h:Shelf l) (hw:Fp w=true):Shelf (S4 l w)/\∀ x,x∈S4 l w↔(x∈l/\x.object≠w.object)\/x=Ci6 (Jr l w.object) w:=by
 unfold S4 Ci6
 cases hg:Jr l w.object with
 | none =>
  simp only
  obtain ⟨p1,p2⟩:=By3 (o:=w.object) h
  have hne:∀ x∈l,x.object≠w.object:=fun x hx e=>by
   have:=(Vo h).2 ⟨hx,e⟩
   rw [hg] at this;cases this
  have hmem:∀ x,x∈l.take (F4 l w.object)++w :: l.drop (F4 l w.object)↔x∈l\/x=w:=fun x=>by
   rw [List.mem_append,List.mem_cons]
   conv=>rhs;rw [<-List.take_append_drop (F4 l w.object) l,List.mem_append]
   constructor
   ·rintro (h | h | h)
    ·exact .inl (.inl h)
    ·exact .inr h
    ·exact .inl (.inr h)
   ·rintro ((h | h) | h)
    ·exact .inl h
    ·exact .inr (.inr h)
    ·exact .inr (.inl h)
  refine ⟨⟨?_,fun x hx=>?_⟩,fun x=>?_⟩
  ·refine List.pairwise_append.2 ⟨h.1.sublist (List.take_sublist _ _),List.pairwise_cons.2 ⟨fun y hy=>?_,h.1.sublist (List.drop_sublist _ _)⟩,fun x hx y hy=>?_⟩
   ·have:=p2 y hy
    have:=hne y (List.mem_of_mem_drop hy)
    omega
   ·rcases List.mem_cons.1 hy with rfl | hy
    ·exact p1 x hx
    ·have:=p1 x hx
     have:=p2 y hy
     omega
  ·rcases (hmem x).1 hx with hx | rfl
   ·exact h.2 x hx
   ·exact hw
  ·rw [hmem]
   exact or_congr ⟨fun hx=>⟨hx,hne x hx⟩,fun hx=>hx.1⟩ Iff.rfl
 | some u =>
  simp only
  obtain ⟨hl,hu⟩:=By4 h hg
  obtain ⟨hu1,hu2⟩:=(Vo h).1 hg
  cases hn:Ak2 u w with
  | false =>
   simp only [Bool.false_eq_true,if_false]
   refine ⟨h,fun x=>⟨fun hx=>?_,fun hx=>?_⟩⟩
   ·by_cases e:x.object=w.object
    ·have:=(Vo h).2 ⟨hx,e⟩
     rw [hg] at this
     exact .inr (Option.some.inj this).symm
    ·exact .inl ⟨hx,e⟩
   ·rcases hx with hx | rfl
    ·exact hx.1
    ·exact hu1
  | true =>
   simp only [if_true]
   have hob:∀ j (hj:j < l.length),((l.set (F4 l w.object) w)[j]'(by simpa using hj)).object=l[j].object:=fun j hj=>by
    rw [List.getElem_set]
    split
    ·rename_i e
     subst e
     rw [hu,hu2]
    ·rfl
   refine ⟨⟨?_,fun x hx=>?_⟩,fun x=>⟨fun hx=>?_,fun hx=>?_⟩⟩
   ·rw [List.pairwise_iff_getElem]
    intro i j hi hj hij
    simp only [List.length_set] at hi hj
    rw [hob i hi,hob j hj]
    exact List.pairwise_iff_getElem.1 h.1 i j hi hj hij
   ·rcases List.mem_or_eq_of_mem_set hx with hx | rfl
    ·exact h.2 x hx
    ·exact hw
   ·obtain ⟨j,hj,rfl⟩:=List.mem_iff_getElem.1 hx
    have hj':j < l.length:=by simpa using hj
    rw [List.getElem_set]
    split
    ·exact .inr rfl
    ·rename_i e
     refine .inl ⟨List.getElem_mem hj',fun e2=>e ?_⟩
     rcases Nat.lt_trichotomy (F4 l w.object) j with h5 | h5 | h5
     ·have:=List.pairwise_iff_getElem.1 h.1 _ j hl hj' h5
      rw [hu] at this;omega
     ·exact h5
     ·have:=List.pairwise_iff_getElem.1 h.1 j _ hj' hl h5
      rw [hu] at this;omega
   ·rcases hx with ⟨hx,hne⟩ | rfl
    ·obtain ⟨j,hj,rfl⟩:=List.mem_iff_getElem.1 hx
     refine List.mem_iff_getElem.2 ⟨j,by simpa using hj,?_⟩
     rw [List.getElem_set,if_neg]
     rintro rfl
     rw [hu] at hne
     exact hne hu2
    ·exact List.mem_set (by simpa using hl) _
theorem A11:∀ {list l:List Ap},Shelf l->(∀ w∈list,Fp w=true)->Shelf (B72 l list)
 | [],_,h,_=>h
 | w :: list,l,h,hw=>A11 (l:=S4 l w) (Ab5 h (hw w (by simp))).1 fun x hx=>hw x (by simp [hx])
def C75 (f:Nat->Option Ap):Nat->List Ap
 | 0=>[]
 | n+1=>C75 f n++(f n).toList
-- views that take
def Ln:Cr:=⟨[],[],[],[],0⟩
def A98 (z:List At) (k:List Ab) (n:Bc):List Ap:=n.writes.filter fun w=>Dx z k w
def Et (v:Cr) (n:Bc):Cr×Int :=
  if Am v=true then
    (if (Jv v.zones v.known n).2.2=0 then
      (⟨(Jv v.zones v.known n).2.1,(Jv v.zones v.known n).1,B72 v.held (A98 (Jv v.zones v.known n).1 (Jv v.zones v.known n).2.1 n),v.bodies.filter (fun x=>Fw (B72 v.held (A98 (Jv v.zones v.known n).1 (Jv v.zones v.known n).2.1 n)) x),v.room⟩,0)
     else (Ln,(Jv v.zones v.known n).2.2))
  else (Ln,1)
end Go.Proofs.YtblfjaedaijfoaaGreatDoor
