/- Writes are put into a shelf; what a view is behind a note. Plain definitions and laws. No program is known here. -/
import Derived.Test.YthlgnjlpakimaaaGreatDoorQRep
import Derived.Test.YthlgnjlpakimaaaGreatDoorQVec
import Derived.Test.YthlgnjlpakimaaaGreatDoorQTakeLaw
import Derived.Test.YthlgnjlpakimaaaGreatDoorQPlace
set_option linter.all false
set_option linter.unnecessarySimpa false
set_option linter.unusedSimpArgs false
set_option linter.unusedVariables false
namespace Go.Proofs.YthlgnjlpakimaaaGreatDoor
open Go.ChangeShapes Go.WideShapes Go.ChangeAt Go.RowKit
def orI (a b:Int):Int:=if a=0 then b else a
theorem Dh4 (a b:Int) (g:Nat) (w:World) (h0:w.cell? ⟨g,0,none⟩=some (.int .i64 a)) (h1:w.cell? ⟨g,1,none⟩=some (.int .i64 b)) :
  Calls Tryz.prog 180 #[.slice (some ⟨g,0,none⟩) 2 2] w fun e w'=>e=.returned (.int .i64 (orI a b))/\w=w':=by
 go_enter Tryz.func180,Tryz.ntmps180
 go_wp2_with fail
 go_loop [5,8] (fun _ i=>∃ k:Nat,k<=2/\i=.int .i64 k/\(0 < k->a=0)/\(1 < k->b=0)) (fun _ i=>2 - (intOf i).toNat)
 case atStart=>exact ⟨0,by omega,rfl,by omega,by omega⟩
 case round =>
  obtain ⟨k,hk,rfl,ha,hb⟩:=hrel
  have hc:k=0\/k=1\/k=2:=by omega
  rcases hc with rfl | rfl | rfl
  ·clear ha hb
   go_wp2
   ·go_ret;exact ⟨by unfold orI;simp_all,rfl⟩
   ·go_round
    case rel=>exact ⟨1,by omega,rfl,by simp_all,by omega⟩
    case measure=>simp [intOf]
  ·have ha':a=0:=ha (by omega)
   subst ha'
   clear ha hb
   go_wp2
   ·go_ret;exact ⟨by unfold orI;simp_all,rfl⟩
   ·go_round
    case rel=>exact ⟨2,by omega,rfl,by simp_all,by simp_all⟩
    case measure=>simp [intOf]
  ·have ha':a=0:=ha (by omega)
   have hb':b=0:=hb (by omega)
   subst ha' hb'
   clear ha hb
   go_wp2
   go_ret;exact ⟨by unfold orI;simp,rfl⟩
def A06 (a b c d:Int):Int:=orI (Ty a c) (Ty b d)
set_option maxHeartbeats 400000 in
theorem Av6 (a b c d:Int) (w:World) :
  Calls Tryz.prog 135 #[.agg #[.int .i64 a,.int .i64 b],.agg #[.int .i64 c,.int .i64 d]] w fun e w'=>e=.returned (.int .i64 (A06 a b c d))/\Below w.heap.size w w':=by
 go_enter Tryz.func135,Tryz.ntmps135
 go_wp2
 go_region_held3 (fun w'=>w'.cell? ⟨w.heap.size,0,none⟩=some (.int .i64 a)/\w'.cell? ⟨w.heap.size,1,none⟩=some (.int .i64 b)/\w'.cell? ⟨w.heap.size+1,0,none⟩=some (.int .i64 c)/\w'.cell? ⟨w.heap.size+1,1,none⟩=some (.int .i64 d)) (go_keep)
  (first | (go_at_call 181;refine (Yh _ _ _).mono ?_;rintro e w' ⟨rfl,rfl⟩) | (go_at_call 180;refine (Dh4 (Ty a c) (Ty b d) _ _ ?_ ?_).mono ?_;go_simp;go_simp;rintro e w' ⟨rfl,rfl⟩))
 go_wp2
 go_ret
 exact ⟨rfl,(((Below.refl _ _).alloc (Nat.le_refl _) _).alloc (by simp) _).alloc (by simp;omega) _ |>.drew⟩
theorem Bk5 (a b c d:Int) (w:World) :
  Calls Tryz.prog 18 #[.agg #[.int .i64 a,.int .i64 b],.agg #[.int .i64 c,.int .i64 d]] w fun e w'=>e=.returned (.int .i64 (A06 a b c d))/\Below w.heap.size w w':=by
 go_enter Tryz.func18,Tryz.ntmps18
 go_wp2
 all_goals
  go_ret
  refine ⟨?_,((Below.refl _ _).alloc (Nat.le_refl _) _).alloc (by simp) _⟩
  refine Po ?_
  unfold A06 orI Ty
  (repeat' split)<;>omega
def nxV (c n s:Int):Value :=
 if c < 0\/n < 0\/64<=n\/s < 0 then .tuple #[.agg #[.int .i64 0,.int .i64 0],.int .i64 1]
 else if 9223372036854775807 - c<=s then .tuple #[.agg #[.int .i64 0,.int .i64 0],.int .i64 2]
 else .tuple #[.agg #[.int .i64 (c+s+1),.int .i64 n],.int .i64 0]
theorem Cf1 (a b c d:Int):A06 c d a b=- A06 a b c d:=by
 unfold A06 orI Ty;(repeat' split)<;>omega
end Go.Proofs.YthlgnjlpakimaaaGreatDoor
namespace Go.Proofs.YthlgnjlpakimaaaGreatDoor
def Gm (u w:Ai):Bool:=decide (A06 u.stamp.count u.stamp.node w.stamp.count w.stamp.node < 0)
def Th (u:Option Ai) (w:Ai):Ai:=match u with
 | none=>w
 | some u=>if Gm u w=true then w else u
def Lb (l:List Ai) (w:Ai):List Ai:=match D5 l w.object with
 | none=>l.take (Fb l w.object)++w :: l.drop (Fb l w.object)
 | some u=>if Gm u w=true then l.set (Fb l w.object) w else l
def Kr (l list:List Ai):List Ai:=list.foldl Lb l
def C95 (l list:List Ai):List Ai×Int:=if Bv l=true/\list.all Do=true then (Kr l list,0) else ([],1)
theorem By2 (l list:List Ai) (w:Ai):Kr l (list++[w])=Lb (Kr l list) w:=by simp [Kr]
-- shelves as sorted lists
def Shelf (l:List Ai):Prop:=l.Pairwise (fun a b=>a.object < b.object)/\∀ w∈l,Do w=true
theorem Mz {w:Ai} (h:Do w=true):0<=w.object/\w.object<=255:=by
 simp only [Do,E9,Bool.and_eq_true,decide_eq_true_eq] at h
 exact h.1
theorem X4:∀ {l:List Ai} {e:Int},D1 e l=true↔Shelf l/\∀ w∈l,e < w.object
 | [],e=>by simp [D1,Shelf]
 | w :: l,e=>by
  rw [D1,Bool.and_eq_true,Bool.and_eq_true,decide_eq_true_eq,X4]
  unfold Shelf
  rw [List.pairwise_cons]
  simp only [List.mem_cons,forall_eq_or_imp]
  constructor
  ·rintro ⟨⟨h1,h2⟩,⟨h3,h4⟩,h5⟩
   exact ⟨⟨⟨h5,h3⟩,h1,h4⟩,h2,fun a ha=>by have:=h5 a ha;omega⟩
  ·rintro ⟨⟨⟨h5,h3⟩,h1,h4⟩,h2,_⟩
   exact ⟨⟨h1,h2⟩,⟨h3,h4⟩,h5⟩
theorem Ge {l:List Ai} : Bv l=true↔Shelf l:=by
 unfold Bv
 rw [X4]
 exact ⟨fun h=>h.1,fun h=>⟨h,fun w hw=>by have:=Mz (h.2 w hw);omega⟩⟩
theorem Cq {l:List Ai} (h:Shelf l) {o:Int} {w:Ai} : D5 l o=some w↔w∈l/\w.object=o:=by
 unfold D5
 constructor
 ·intro hh
  exact ⟨List.mem_of_find?_eq_some hh,by simpa using List.find?_some hh⟩
 ·rintro ⟨h1,h2⟩
  cases hf:l.find? (fun w=>decide (w.object=o)) with
  | none=>have:=List.find?_eq_none.1 hf w h1;simp [h2] at this
  | some u =>
   have h3:=List.mem_of_find?_eq_some hf
   have h4:u.object=o:=by simpa using List.find?_some hf
   by_cases e:u=w
   ·rw [e]
   ·obtain ⟨i,hi,rfl⟩:=List.mem_iff_getElem.1 h1
    obtain ⟨j,hj,rfl⟩:=List.mem_iff_getElem.1 h3
    rcases Nat.lt_trichotomy i j with h5 | h5 | h5
    ·have:=List.pairwise_iff_getElem.1 h.1 i j hi hj h5;omega
    ·subst h5;exact absurd rfl e
    ·have:=List.pairwise_iff_getElem.1 h.1 j i hj hi h5;omega
theorem Ta:∀ {l m:List Ai},Shelf l->Shelf m->(∀ w,w∈l↔w∈m)->l=m
 | [],[],_,_,_=>rfl
 | [],y :: m,_,_,h=>by have:=(h y).2 (by simp);cases this
 | x :: l,[],_,_,h=>by have:=(h x).1 (by simp);cases this
 | x :: l,y :: m,h1,h2,h=>by
  obtain ⟨a1,a2⟩:=List.pairwise_cons.1 h1.1
  obtain ⟨b1,b2⟩:=List.pairwise_cons.1 h2.1
  have e:x=y:=by
   rcases List.mem_cons.1 ((h x).1 (by simp)) with e | hx
   ·exact e
   ·rcases List.mem_cons.1 ((h y).2 (by simp)) with e | hy
    ·exact e.symm
    ·have:=a1 y hy;have:=b1 x hx;omega
  subst e
  congr 1
  refine Ta ⟨a2,fun w hw=>h1.2 w (by simp [hw])⟩ ⟨b2,fun w hw=>h2.2 w (by simp [hw])⟩ fun w=>⟨fun hw=>?_,fun hw=>?_⟩
  ·rcases List.mem_cons.1 ((h w).1 (by simp [hw])) with e | h3
   ·have:=a1 w hw;rw [e] at this;omega
   ·exact h3
  ·rcases List.mem_cons.1 ((h w).2 (by simp [hw])) with e | h3
   ·have:=b1 w hw;rw [e] at this;omega
   ·exact h3
theorem C98 {l:List Ai} {o:Int} (h:Shelf l):(∀ w∈l.take (Fb l o),w.object < o)/\∀ w∈l.drop (Fb l o),o<=w.object:=by
 constructor
 ·intro w hw
  obtain ⟨j,hj,rfl⟩:=List.mem_take_iff_getElem.1 hw
  have h9:=List.not_of_lt_findIdx (p:=fun w:Ai=>decide (o<=w.object)) (xs:=l) (i:=j) (show j < Fb l o by omega)
  have:¬ o<=l[j].object:=by simpa using h9
  omega
 ·intro w hw
  obtain ⟨j,hj,rfl⟩:=List.mem_drop_iff_getElem.1 hw
  have hlt:Fb l o < l.length:=by omega
  have hp:o<=l[Fb l o].object:=by
   exact of_decide_eq_true (List.findIdx_getElem (p:=fun w:Ai=>decide (o<=w.object)) (xs:=l) (w:=hlt))
  rcases Nat.eq_zero_or_pos j with rfl | h0
  ·exact hp
  ·have:=List.pairwise_iff_getElem.1 h.1 (Fb l o) (Fb l o+j) hlt (by omega) (by omega)
   omega
theorem B84 {l:List Ai} {o:Int} (h:Shelf l) {u:Ai} (hg:D5 l o=some u):∃ hl:Fb l o < l.length,l[Fb l o]=u:=Ar5 (R3 (Ge.2 h)).1 hg
theorem S8 {l:List Ai} {w:Ai} (h:Shelf l) (hw:Do w=true):Shelf (Lb l w)/\∀ x,x∈Lb l w↔(x∈l/\x.object≠w.object)\/x=Th (D5 l w.object) w:=by
 unfold Lb Th
 cases hg:D5 l w.object with
 | none =>
  simp only
  obtain ⟨p1,p2⟩:=C98 (o:=w.object) h
  have hne:∀ x∈l,x.object≠w.object:=fun x hx e=>by
   have:=(Cq h).2 ⟨hx,e⟩
   rw [hg] at this;cases this
  have hmem:∀ x,x∈l.take (Fb l w.object)++w :: l.drop (Fb l w.object)↔x∈l\/x=w:=fun x=>by
   rw [List.mem_append,List.mem_cons]
   conv=>rhs;rw [<-List.take_append_drop (Fb l w.object) l,List.mem_append]
   constructor
   ·rintro (h | h | h)
    ·exact .inl (.inl h)
    ·exact .inr h
    ·exact .inl (.inr h)
   ·rintro ((h | h) | h)
    ·exact .inl h
    ·exact .inr (.inr h)
    ·exact .inr (.inl h)
  refine ⟨⟨?_,fun x hx=>?_⟩,fun x=>?_⟩
  ·refine List.pairwise_append.2 ⟨h.1.sublist (List.take_sublist _ _),List.pairwise_cons.2 ⟨fun y hy=>?_,h.1.sublist (List.drop_sublist _ _)⟩,fun x hx y hy=>?_⟩
   ·have:=p2 y hy
    have:=hne y (List.mem_of_mem_drop hy)
    omega
   ·rcases List.mem_cons.1 hy with rfl | hy
    ·exact p1 x hx
    ·have:=p1 x hx
     have:=p2 y hy
     omega
  ·rcases (hmem x).1 hx with hx | rfl
   ·exact h.2 x hx
   ·exact hw
  ·rw [hmem]
   exact or_congr ⟨fun hx=>⟨hx,hne x hx⟩,fun hx=>hx.1⟩ Iff.rfl
 | some u =>
  simp only
  obtain ⟨hl,hu⟩:=B84 h hg
  obtain ⟨hu1,hu2⟩:=(Cq h).1 hg
  cases hn:Gm u w with
  | false =>
   simp only [Bool.false_eq_true,if_false]
   refine ⟨h,fun x=>⟨fun hx=>?_,fun hx=>?_⟩⟩
   ·by_cases e:x.object=w.object
    ·have:=(Cq h).2 ⟨hx,e⟩
     rw [hg] at this
     exact .inr (Option.some.inj this).symm
    ·exact .inl ⟨hx,e⟩
   ·rcases hx with hx | rfl
    ·exact hx.1
    ·exact hu1
  | true =>
   simp only [if_true]
   have hob:∀ j (hj:j < l.length),((l.set (Fb l w.object) w)[j]'(by simpa using hj)).object=l[j].object:=fun j hj=>by
    rw [List.getElem_set]
    split
    ·rename_i e
     subst e
     rw [hu,hu2]
    ·rfl
   refine ⟨⟨?_,fun x hx=>?_⟩,fun x=>⟨fun hx=>?_,fun hx=>?_⟩⟩
   ·rw [List.pairwise_iff_getElem]
    intro i j hi hj hij
    simp only [List.length_set] at hi hj
    rw [hob i hi,hob j hj]
    exact List.pairwise_iff_getElem.1 h.1 i j hi hj hij
   ·rcases List.mem_or_eq_of_mem_set hx with hx | rfl
    ·exact h.2 x hx
    ·exact hw
   ·obtain ⟨j,hj,rfl⟩:=List.mem_iff_getElem.1 hx
    have hj':j < l.length:=by simpa using hj
    rw [List.getElem_set]
    split
    ·exact .inr rfl
    ·rename_i e
     refine .inl ⟨List.getElem_mem hj',fun e2=>e ?_⟩
     rcases Nat.lt_trichotomy (Fb l w.object) j with h5 | h5 | h5
     ·have:=List.pairwise_iff_getElem.1 h.1 _ j hl hj' h5
      rw [hu] at this;omega
     ·exact h5
     ·have:=List.pairwise_iff_getElem.1 h.1 j _ hj' hl h5
      rw [hu] at this;omega
   ·rcases hx with ⟨hx,hne⟩ | rfl
    ·obtain ⟨j,hj,rfl⟩:=List.mem_iff_getElem.1 hx
     refine List.mem_iff_getElem.2 ⟨j,by simpa using hj,?_⟩
     rw [List.getElem_set,if_neg]
     rintro rfl
     rw [hu] at hne
     exact hne hu2
    ·exact List.mem_set (by simpa using hl) _
theorem Ax6 {l:List Ai} {w:Ai} (h:Shelf l) (hw:Do w=true) (o:Int):D5 (Lb l w) o=if o=w.object then some (Th (D5 l w.object) w) else D5 l o:=by
 obtain ⟨h1,h2⟩:=S8 h hw
 have hob:(Th (D5 l w.object) w).object=w.object:=by
  unfold Th
  split
  ·rfl
  ·rename_i u hu
   split
   ·rfl
   ·exact ((Cq h).1 hu).2
 split
 ·rename_i e
  subst e
  exact (Cq h1).2 ⟨(h2 _).2 (.inr rfl),hob⟩
 ·rename_i e
  cases hg:D5 l o with
  | some u =>
   obtain ⟨a,b⟩:=(Cq h).1 hg
   exact (Cq h1).2 ⟨(h2 u).2 (.inl ⟨a,by rw [b];exact e⟩),b⟩
  | none =>
   cases hg2:D5 (Lb l w) o with
   | none=>rfl
   | some u =>
    obtain ⟨a,b⟩:=(Cq h1).1 hg2
    rcases (h2 u).1 a with ⟨a,_⟩ | rfl
    ·have:=(Cq h).2 ⟨a,b⟩
     rw [hg] at this;cases this
    ·rw [hob] at b;exact absurd b.symm e
theorem Ll:∀ {list l:List Ai},Shelf l->(∀ w∈list,Do w=true)->Shelf (Kr l list)
 | [],_,h,_=>h
 | w :: list,l,h,hw=>Ll (l:=Lb l w) (S8 h (hw w (by simp))).1 fun x hx=>hw x (by simp [hx])
def Na (f:Nat->Option Ai):Nat->List Ai
 | 0=>[]
 | n+1=>Na f n++(f n).toList
theorem A77 {f:Nat->Option Ai} : ∀ {n:Nat} {w:Ai},w∈Na f n↔∃ k,k < n/\f k=some w
 | 0,w=>by simp [Na]
 | n+1,w=>by
  rw [Na,List.mem_append,A77,Option.mem_toList]
  constructor
  ·rintro (⟨k,h1,h2⟩ | h)
   ·exact ⟨k,by omega,h2⟩
   ·exact ⟨n,by omega,h⟩
  ·rintro ⟨k,h1,h2⟩
   rcases Nat.lt_or_ge k n with h | h
   ·exact .inl ⟨k,h,h2⟩
   ·obtain rfl:k=n:=by omega
    exact .inr h2
theorem Wz {f:Nat->Option Ai} (hf:∀ k w,f k=some w->w.object=k/\Do w=true):∀ n,Shelf (Na f n)/\∀ w∈Na f n,w.object < n
 | 0=>⟨⟨.nil,fun w hw=>by cases hw⟩,fun w hw=>by cases hw⟩
 | n+1=>by
  obtain ⟨⟨h1,h2⟩,h3⟩:=Wz hf n
  rw [Na]
  cases h:f n with
  | none =>
   rw [Option.toList_none,List.append_nil]
   exact ⟨⟨h1,h2⟩,fun w hw=>by have:=h3 w hw;omega⟩
  | some u =>
   obtain ⟨e1,e2⟩:=hf n u h
   rw [Option.toList_some]
   refine ⟨⟨List.pairwise_append.2 ⟨h1,by simp,fun x hx y hy=>?_⟩,fun x hx=>?_⟩,fun x hx=>?_⟩
   ·rw [List.mem_singleton.1 hy,e1];exact h3 x hx
   ·rcases List.mem_append.1 hx with hx | hx
    ·exact h2 x hx
    ·rw [List.mem_singleton.1 hx];exact e2
   ·rcases List.mem_append.1 hx with hx | hx
    ·have:=h3 x hx;omega
    ·rw [List.mem_singleton.1 hx,e1];omega
theorem B50 {l:List Ai} (h:Shelf l):Na (fun k=>D5 l k) 256=l:=by
 refine Ta (Wz (fun k w hw=>?_) 256).1 h fun w=>?_
 ·obtain ⟨a,b⟩:=(Cq h).1 hw
  exact ⟨b,h.2 w a⟩
 ·rw [A77]
  constructor
  ·rintro ⟨k,_,hk⟩
   exact ((Cq h).1 hk).1
  ·intro hw
   have:=Mz (h.2 w hw)
   exact ⟨w.object.toNat,by omega,(Cq h).2 ⟨hw,by omega⟩⟩
-- views that take
def Ql:B8:=⟨[],[],[],[],0⟩
def Gh (z:List Av) (k:List Ab) (n:At):List Ai:=n.writes.filter fun w=>Df z k w
def Bd (v:B8) (n:At):B8×Int :=
  if Af v=true then
    (if (Kl v.zones v.known n).2.2=0 then
      (⟨(Kl v.zones v.known n).2.1,(Kl v.zones v.known n).1,Kr v.held (Gh (Kl v.zones v.known n).1 (Kl v.zones v.known n).2.1 n),v.bodies.filter (fun x=>Dm (Kr v.held (Gh (Kl v.zones v.known n).1 (Kl v.zones v.known n).2.1 n)) x),v.room⟩,0)
     else (Ql,(Kl v.zones v.known n).2.2))
  else (Ql,1)
end Go.Proofs.YthlgnjlpakimaaaGreatDoor
