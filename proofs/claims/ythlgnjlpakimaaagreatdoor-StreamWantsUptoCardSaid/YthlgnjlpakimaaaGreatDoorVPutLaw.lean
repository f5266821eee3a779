/- Writes are put into a shelf; what a view is behind a note. Plain definitions and laws. No program is known here. -/
import Derived.Test.YthlgnjlpakimaaaGreatDoorVRep
import Derived.Test.YthlgnjlpakimaaaGreatDoorVVec
import Derived.Test.YthlgnjlpakimaaaGreatDoorVTakeLaw
import Derived.Test.YthlgnjlpakimaaaGreatDoorVPlace
set_option linter.all false
set_option linter.unnecessarySimpa false
set_option linter.unusedSimpArgs false
set_option linter.unusedVariables false
namespace Go.Proofs.YthlgnjlpakimaaaGreatDoor
open Go.ChangeShapes Go.WideShapes Go.ChangeAt Go.RowKit
def orI (a b:Int):Int:=if a=0 then b else a
theorem Ck9 (a b:Int) (g:Nat) (w:World) (h0:w.cell? ⟨g,0,none⟩=some (.int .i64 a)) (h1:w.cell? ⟨g,1,none⟩=some (.int .i64 b)) :
  Calls Tryz.prog 180 #[.slice (some ⟨g,0,none⟩) 2 2] w fun e w'=>e=.returned (.int .i64 (orI a b))/\w=w':=by
 go_enter Tryz.func180,Tryz.ntmps180
 go_wp2_with fail
 go_loop [5,8] (fun _ i=>∃ k:Nat,k<=2/\i=.int .i64 k/\(0 < k->a=0)/\(1 < k->b=0)) (fun _ i=>2 - (intOf i).toNat)
 case atStart=>exact ⟨0,by omega,rfl,by omega,by omega⟩
 case round =>
  obtain ⟨k,hk,rfl,ha,hb⟩:=hrel
  have hc:k=0\/k=1\/k=2:=by omega
  rcases hc with rfl | rfl | rfl
  ·clear ha hb
   go_wp2
   ·go_ret;exact ⟨by unfold orI;simp_all,rfl⟩
   ·go_round
    case rel=>exact ⟨1,by omega,rfl,by simp_all,by omega⟩
    case measure=>simp [intOf]
  ·have ha':a=0:=ha (by omega)
   subst ha'
   clear ha hb
   go_wp2
   ·go_ret;exact ⟨by unfold orI;simp_all,rfl⟩
   ·go_round
    case rel=>exact ⟨2,by omega,rfl,by simp_all,by simp_all⟩
    case measure=>simp [intOf]
  ·have ha':a=0:=ha (by omega)
   have hb':b=0:=hb (by omega)
   subst ha' hb'
   clear ha hb
   go_wp2
   go_ret;exact ⟨by unfold orI;simp,rfl⟩
def C01 (a b c d:Int):Int:=orI (W9 a c) (W9 b d)
set_option maxHeartbeats 400000 in
theorem Ad5 (a b c d:Int) (w:World) :
  Calls Tryz.prog 135 #[.agg #[.int .i64 a,.int .i64 b],.agg #[.int .i64 c,.int .i64 d]] w fun e w'=>e=.returned (.int .i64 (C01 a b c d))/\Below w.heap.size w w':=by
 go_enter Tryz.func135,Tryz.ntmps135
 go_wp2
 go_region_held3 (fun w'=>w'.cell? ⟨w.heap.size,0,none⟩=some (.int .i64 a)/\w'.cell? ⟨w.heap.size,1,none⟩=some (.int .i64 b)/\w'.cell? ⟨w.heap.size+1,0,none⟩=some (.int .i64 c)/\w'.cell? ⟨w.heap.size+1,1,none⟩=some (.int .i64 d)) (go_keep)
  (first | (go_at_call 181;refine (Um _ _ _).mono ?_;rintro e w' ⟨rfl,rfl⟩) | (go_at_call 180;refine (Ck9 (W9 a c) (W9 b d) _ _ ?_ ?_).mono ?_;go_simp;go_simp;rintro e w' ⟨rfl,rfl⟩))
 go_wp2
 go_ret
 exact ⟨rfl,(((Below.refl _ _).alloc (Nat.le_refl _) _).alloc (by simp) _).alloc (by simp;omega) _ |>.drew⟩
def nxV (c n s:Int):Value :=
 if c < 0\/n < 0\/64<=n\/s < 0 then .tuple #[.agg #[.int .i64 0,.int .i64 0],.int .i64 1]
 else if 9223372036854775807 - c<=s then .tuple #[.agg #[.int .i64 0,.int .i64 0],.int .i64 2]
 else .tuple #[.agg #[.int .i64 (c+s+1),.int .i64 n],.int .i64 0]
end Go.Proofs.YthlgnjlpakimaaaGreatDoor
namespace Go.Proofs.YthlgnjlpakimaaaGreatDoor
def A23 (u w:Ai):Bool:=decide (C01 u.stamp.count u.stamp.node w.stamp.count w.stamp.node < 0)
def Am1 (u:Option Ai) (w:Ai):Ai:=match u with
 | none=>w
 | some u=>if A23 u w=true then w else u
def Jg (l:List Ai) (w:Ai):List Ai:=match E6 l w.object with
 | none=>l.take (Ep l w.object)++w :: l.drop (Ep l w.object)
 | some u=>if A23 u w=true then l.set (Ep l w.object) w else l
def Mo (l list:List Ai):List Ai:=list.foldl Jg l
def Bi0 (l list:List Ai):List Ai×Int:=if Bk l=true/\list.all Di=true then (Mo l list,0) else ([],1)
theorem B93 (l list:List Ai) (w:Ai):Mo l (list++[w])=Jg (Mo l list) w:=by simp [Mo]
-- shelves as sorted lists
def Shelf (l:List Ai):Prop:=l.Pairwise (fun a b=>a.object < b.object)/\∀ w∈l,Di w=true
theorem M7 {w:Ai} (h:Di w=true):0<=w.object/\w.object<=255:=by
 simp only [Di,Fo,Bool.and_eq_true,decide_eq_true_eq] at h
 exact h.1
theorem Tl:∀ {l:List Ai} {e:Int},Cp e l=true↔Shelf l/\∀ w∈l,e < w.object
 | [],e=>by simp [Cp,Shelf]
 | w :: l,e=>by
  rw [Cp,Bool.and_eq_true,Bool.and_eq_true,decide_eq_true_eq,Tl]
  unfold Shelf
  rw [List.pairwise_cons]
  simp only [List.mem_cons,forall_eq_or_imp]
  constructor
  ·rintro ⟨⟨h1,h2⟩,⟨h3,h4⟩,h5⟩
   exact ⟨⟨⟨h5,h3⟩,h1,h4⟩,h2,fun a ha=>by have:=h5 a ha;omega⟩
  ·rintro ⟨⟨⟨h5,h3⟩,h1,h4⟩,h2,_⟩
   exact ⟨⟨h1,h2⟩,⟨h3,h4⟩,h5⟩
theorem Fd {l:List Ai} : Bk l=true↔Shelf l:=by
 unfold Bk
 rw [Tl]
 exact ⟨fun h=>h.1,fun h=>⟨h,fun w hw=>by have:=M7 (h.2 w hw);omega⟩⟩
theorem Fy {l:List Ai} (h:Shelf l) {o:Int} {w:Ai} : E6 l o=some w↔w∈l/\w.object=o:=by
 unfold E6
 constructor
 ·intro hh
  exact ⟨List.mem_of_find?_eq_some hh,by simpa using List.find?_some hh⟩
 ·rintro ⟨h1,h2⟩
  cases hf:l.find? (fun w=>decide (w.object=o)) with
  | none=>have:=List.find?_eq_none.1 hf w h1;simp [h2] at this
  | some u =>
   have h3:=List.mem_of_find?_eq_some hf
   have h4:u.object=o:=by simpa using List.find?_some hf
   by_cases e:u=w
   ·rw [e]
   ·obtain ⟨i,hi,rfl⟩:=List.mem_iff_getElem.1 h1
    obtain ⟨j,hj,rfl⟩:=List.mem_iff_getElem.1 h3
    rcases Nat.lt_trichotomy i j with h5 | h5 | h5
    ·have:=List.pairwise_iff_getElem.1 h.1 i j hi hj h5;omega
    ·subst h5;exact absurd rfl e
    ·have:=List.pairwise_iff_getElem.1 h.1 j i hj hi h5;omega
theorem Vf:∀ {l m:List Ai},Shelf l->Shelf m->(∀ w,w∈l↔w∈m)->l=m
 | [],[],_,_,_=>rfl
 | [],y :: m,_,_,h=>by have:=(h y).2 (by simp);cases this
 | x :: l,[],_,_,h=>by have:=(h x).1 (by simp);cases this
 | x :: l,y :: m,h1,h2,h=>by
  obtain ⟨a1,a2⟩:=List.pairwise_cons.1 h1.1
  obtain ⟨b1,b2⟩:=List.pairwise_cons.1 h2.1
  have e:x=y:=by
   rcases List.mem_cons.1 ((h x).1 (by simp)) with e | hx
   ·exact e
   ·rcases List.mem_cons.1 ((h y).2 (by simp)) with e | hy
    ·exact e.symm
    ·have:=a1 y hy;have:=b1 x hx;omega
  subst e
  congr 1
  refine Vf ⟨a2,fun w hw=>h1.2 w (by simp [hw])⟩ ⟨b2,fun w hw=>h2.2 w (by simp [hw])⟩ fun w=>⟨fun hw=>?_,fun hw=>?_⟩
  ·rcases List.mem_cons.1 ((h w).1 (by simp [hw])) with e | h3
   ·have:=a1 w hw;rw [e] at this;omega
   ·exact h3
  ·rcases List.mem_cons.1 ((h w).2 (by simp [hw])) with e | h3
   ·have:=b1 w hw;rw [e] at this;omega
   ·exact h3
theorem Bi2 {l:List Ai} {o:Int} (h:Shelf l):(∀ w∈l.take (Ep l o),w.object < o)/\∀ w∈l.drop (Ep l o),o<=w.object:=by
 constructor
 ·intro w hw
  obtain ⟨j,hj,rfl⟩:=List.mem_take_iff_getElem.1 hw
  have h9:=List.not_of_lt_findIdx (p:=fun w:Ai=>decide (o<=w.object)) (xs:=l) (i:=j) (show j < Ep l o by omega)
  have:¬ o<=l[j].object:=by simpa using h9
  omega
 ·intro w hw
  obtain ⟨j,hj,rfl⟩:=List.mem_drop_iff_getElem.1 hw
  have hlt:Ep l o < l.length:=by omega
  have hp:o<=l[Ep l o].object:=by
   exact of_decide_eq_true (List.findIdx_getElem (p:=fun w:Ai=>decide (o<=w.object)) (xs:=l) (w:=hlt))
  rcases Nat.eq_zero_or_pos j with rfl | h0
  ·exact hp
  ·have:=List.pairwise_iff_getElem.1 h.1 (Ep l o) (Ep l o+j) hlt (by omega) (by omega)
   omega
theorem Am5 {l:List Ai} {o:Int} (h:Shelf l) {u:Ai} (hg:E6 l o=some u):∃ hl:Ep l o < l.length,l[Ep l o]=u:=A98 (N7 (Fd.2 h)).1 hg
theorem Pp {l:List Ai} {w:Ai} (h:Shelf l) (hw:Di w=true):Shelf (Jg l w)/\∀ x,x∈Jg l w↔(x∈l/\x.object≠w.object)\/x=Am1 (E6 l w.object) w:=by
 unfold Jg Am1
 cases hg:E6 l w.object with
 | none =>
  simp only
  obtain ⟨p1,p2⟩:=Bi2 (o:=w.object) h
  have hne:∀ x∈l,x.object≠w.object:=fun x hx e=>by
   have:=(Fy h).2 ⟨hx,e⟩
   rw [hg] at this;cases this
  have hmem:∀ x,x∈l.take (Ep l w.object)++w :: l.drop (Ep l w.object)↔x∈l\/x=w:=fun x=>by
   rw [List.mem_append,List.mem_cons]
   conv=>rhs;rw [<-List.take_append_drop (Ep l w.object) l,List.mem_append]
   constructor
   ·rintro (h | h | h)
    ·exact .inl (.inl h)
    ·exact .inr h
    ·exact .inl (.inr h)
   ·rintro ((h | h) | h)
    ·exact .inl h
    ·exact .inr (.inr h)
    ·exact .inr (.inl h)
  refine ⟨⟨?_,fun x hx=>?_⟩,fun x=>?_⟩
  ·refine List.pairwise_append.2 ⟨h.1.sublist (List.take_sublist _ _),List.pairwise_cons.2 ⟨fun y hy=>?_,h.1.sublist (List.drop_sublist _ _)⟩,fun x hx y hy=>?_⟩
   ·have:=p2 y hy
    have:=hne y (List.mem_of_mem_drop hy)
    omega
   ·rcases List.mem_cons.1 hy with rfl | hy
    ·exact p1 x hx
    ·have:=p1 x hx
     have:=p2 y hy
     omega
  ·rcases (hmem x).1 hx with hx | rfl
   ·exact h.2 x hx
   ·exact hw
  ·rw [hmem]
   exact or_congr ⟨fun hx=>⟨hx,hne x hx⟩,fun hx=>hx.1⟩ Iff.rfl
 | some u =>
  simp only
  obtain ⟨hl,hu⟩:=Am5 h hg
  obtain ⟨hu1,hu2⟩:=(Fy h).1 hg
  cases hn:A23 u w with
  | false =>
   simp only [Bool.false_eq_true,if_false]
   refine ⟨h,fun x=>⟨fun hx=>?_,fun hx=>?_⟩⟩
   ·by_cases e:x.object=w.object
    ·have:=(Fy h).2 ⟨hx,e⟩
     rw [hg] at this
     exact .inr (Option.some.inj this).symm
    ·exact .inl ⟨hx,e⟩
   ·rcases hx with hx | rfl
    ·exact hx.1
    ·exact hu1
  | true =>
   simp only [if_true]
   have hob:∀ j (hj:j < l.length),((l.set (Ep l w.object) w)[j]'(by simpa using hj)).object=l[j].object:=fun j hj=>by
    rw [List.getElem_set]
    split
    ·rename_i e
     subst e
     rw [hu,hu2]
    ·rfl
   refine ⟨⟨?_,fun x hx=>?_⟩,fun x=>⟨fun hx=>?_,fun hx=>?_⟩⟩
   ·rw [List.pairwise_iff_getElem]
    intro i j hi hj hij
    simp only [List.length_set] at hi hj
    rw [hob i hi,hob j hj]
    exact List.pairwise_iff_getElem.1 h.1 i j hi hj hij
   ·rcases List.mem_or_eq_of_mem_set hx with hx | rfl
    ·exact h.2 x hx
    ·exact hw
   ·obtain ⟨j,hj,rfl⟩:=List.mem_iff_getElem.1 hx
    have hj':j < l.length:=by simpa using hj
    rw [List.getElem_set]
    split
    ·exact .inr rfl
    ·rename_i e
     refine .inl ⟨List.getElem_mem hj',fun e2=>e ?_⟩
     rcases Nat.lt_trichotomy (Ep l w.object) j with h5 | h5 | h5
     ·have:=List.pairwise_iff_getElem.1 h.1 _ j hl hj' h5
      rw [hu] at this;omega
     ·exact h5
     ·have:=List.pairwise_iff_getElem.1 h.1 j _ hj' hl h5
      rw [hu] at this;omega
   ·rcases hx with ⟨hx,hne⟩ | rfl
    ·obtain ⟨j,hj,rfl⟩:=List.mem_iff_getElem.1 hx
     refine List.mem_iff_getElem.2 ⟨j,by simpa using hj,?_⟩
     rw [List.getElem_set,if_neg]
     rintro rfl
     rw [hu] at hne
     exact hne hu2
    ·exact List.mem_set (by simpa using hl) _
theorem Ae9 {l:List Ai} {w:Ai} (h:Shelf l) (hw:Di w=true) (o:Int):E6 (Jg l w) o=if o=w.object then some (Am1 (E6 l w.object) w) else E6 l o:=by
 obtain ⟨h1,h2⟩:=Pp h hw
 have hob:(Am1 (E6 l w.object) w).object=w.object:=by
  unfold Am1
  split
  ·rfl
  ·rename_i u hu
   split
   ·rfl
   ·exact ((Fy h).1 hu).2
 split
 ·rename_i e
  subst e
  exact (Fy h1).2 ⟨(h2 _).2 (.inr rfl),hob⟩
 ·rename_i e
  cases hg:E6 l o with
  | some u =>
   obtain ⟨a,b⟩:=(Fy h).1 hg
   exact (Fy h1).2 ⟨(h2 u).2 (.inl ⟨a,by rw [b];exact e⟩),b⟩
  | none =>
   cases hg2:E6 (Jg l w) o with
   | none=>rfl
   | some u =>
    obtain ⟨a,b⟩:=(Fy h1).1 hg2
    rcases (h2 u).1 a with ⟨a,_⟩ | rfl
    ·have:=(Fy h).2 ⟨a,b⟩
     rw [hg] at this;cases this
    ·rw [hob] at b;exact absurd b.symm e
theorem Qp:∀ {list l:List Ai},Shelf l->(∀ w∈list,Di w=true)->Shelf (Mo l list)
 | [],_,h,_=>h
 | w :: list,l,h,hw=>Qp (l:=Jg l w) (Pp h (hw w (by simp))).1 fun x hx=>hw x (by simp [hx])
def L3 (f:Nat->Option Ai):Nat->List Ai
 | 0=>[]
 | n+1=>L3 f n++(f n).toList
theorem Y7 {f:Nat->Option Ai} : ∀ {n:Nat} {w:Ai},w∈L3 f n↔∃ k,k < n/\f k=some w
 | 0,w=>by simp [L3]
 | n+1,w=>by
  rw [L3,List.mem_append,Y7,Option.mem_toList]
  constructor
  ·rintro (⟨k,h1,h2⟩ | h)
   ·exact ⟨k,by omega,h2⟩
   ·exact ⟨n,by omega,h⟩
  ·rintro ⟨k,h1,h2⟩
   rcases Nat.lt_or_ge k n with h | h
   ·exact .inl ⟨k,h,h2⟩
   ·obtain rfl:k=n:=by omega
    exact .inr h2
theorem Tj {f:Nat->Option Ai} (hf:∀ k w,f k=some w->w.object=k/\Di w=true):∀ n,Shelf (L3 f n)/\∀ w∈L3 f n,w.object < n
 | 0=>⟨⟨.nil,fun w hw=>by cases hw⟩,fun w hw=>by cases hw⟩
 | n+1=>by
  obtain ⟨⟨h1,h2⟩,h3⟩:=Tj hf n
  rw [L3]
  cases h:f n with
  | none =>
   rw [Option.toList_none,List.append_nil]
   exact ⟨⟨h1,h2⟩,fun w hw=>by have:=h3 w hw;omega⟩
  | some u =>
   obtain ⟨e1,e2⟩:=hf n u h
   rw [Option.toList_some]
   refine ⟨⟨List.pairwise_append.2 ⟨h1,by simp,fun x hx y hy=>?_⟩,fun x hx=>?_⟩,fun x hx=>?_⟩
   ·rw [List.mem_singleton.1 hy,e1];exact h3 x hx
   ·rcases List.mem_append.1 hx with hx | hx
    ·exact h2 x hx
    ·rw [List.mem_singleton.1 hx];exact e2
   ·rcases List.mem_append.1 hx with hx | hx
    ·have:=h3 x hx;omega
    ·rw [List.mem_singleton.1 hx,e1];omega
theorem Aj7 {l:List Ai} (h:Shelf l):L3 (fun k=>E6 l k) 256=l:=by
 refine Vf (Tj (fun k w hw=>?_) 256).1 h fun w=>?_
 ·obtain ⟨a,b⟩:=(Fy h).1 hw
  exact ⟨b,h.2 w a⟩
 ·rw [Y7]
  constructor
  ·rintro ⟨k,_,hk⟩
   exact ((Fy h).1 hk).1
  ·intro hw
   have:=M7 (h.2 w hw)
   exact ⟨w.object.toNat,by omega,(Fy h).2 ⟨hw,by omega⟩⟩
-- views that take
def Uf:Br:=⟨[],[],[],[],0⟩
def Gg (z:List Ao) (k:List Aa) (n:Aq):List Ai:=n.writes.filter fun w=>Ej z k w
def Cu (v:Br) (n:Aq):Br×Int :=
  if Al v=true then
    (if (Hj v.zones v.known n).2.2=0 then
      (⟨(Hj v.zones v.known n).2.1,(Hj v.zones v.known n).1,Mo v.held (Gg (Hj v.zones v.known n).1 (Hj v.zones v.known n).2.1 n),v.bodies.filter (fun x=>Df (Mo v.held (Gg (Hj v.zones v.known n).1 (Hj v.zones v.known n).2.1 n)) x),v.room⟩,0)
     else (Uf,(Hj v.zones v.known n).2.2))
  else (Uf,1)
end Go.Proofs.YthlgnjlpakimaaaGreatDoor
