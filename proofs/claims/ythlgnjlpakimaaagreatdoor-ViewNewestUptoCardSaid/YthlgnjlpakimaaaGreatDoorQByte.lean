/- Whether two rows of bytes, two bodies are the same (the reference's). -/
import Derived.Test.YthlgnjlpakimaaaGreatDoorQPlace
import Derived.Test.YthlgnjlpakimaaaGreatDoorQBlur
set_option linter.all false
set_option linter.unnecessarySimpa false
set_option linter.unusedSimpArgs false
set_option linter.unusedVariables false
namespace Go.Proofs.YthlgnjlpakimaaaGreatDoor
open Go.ChangeShapes Go.WideShapes Go.ChangeAt Go.RowKit
attribute [local irreducible] AW AWY Cd Bk vop C5 Bl Bz qop Cj Cv B4 Aw C4 A7 Bq Ct
attribute [local go_sem] K9 Kc H8 J8 Ao As
theorem Aa1 (x:Cg):A7 Tryz.prog A8 108 [boA x] (.val (.bool (Dd x))) []:=by
 refine A7.of (n:=22) (rs:=[.tmp 2]) Tryz.func108 rfl (by kernel_rfl) Tryz.ntmps108 (by kernel_rfl) (by simp) (fun _ _=>A8.later) ?_
 intro hok V w0
 obtain ⟨B,hB⟩ : ∃ B,Dd x=B:=⟨_,rfl⟩
 rw [hB]
 unfold Dd E9 at hB
 refine g ?_
 repeat' (first | refine st_ rfl (g ?_) | (refine Ci rfl rfl (fun h e=>?_) (fun h e=>?_)<;>simp only [e]<;>clear e<;>refine g ?_) | (refine Ej rfl rfl (fun h=>?_) (fun h=>?_)<;>simp only [h]<;>refine g ?_) | refine A9 (Y5 _ _) rfl (g ?_))
 all_goals (rw [<-hB,Bool.eq_iff_iff];simp [*];try omega)
theorem Ax5 (x:Cg):A7 Tryz.prog A8 96 [boA x] (.val (.bool (Dd x))) []:=by
 refine A7.of (n:=22) (rs:=[.tmp 2]) Tryz.func96 rfl (by kernel_rfl) Tryz.ntmps96 (by kernel_rfl) (by simp) (fun _ _=>A8.later) ?_
 intro hok V w0
 obtain ⟨B,hB⟩ : ∃ B,Dd x=B:=⟨_,rfl⟩
 rw [hB]
 unfold Dd E9 at hB
 refine g ?_
 repeat' (first | refine st_ rfl (g ?_) | (refine Ci rfl rfl (fun h e=>?_) (fun h e=>?_)<;>simp only [e]<;>clear e<;>refine g ?_) | (refine Ej rfl rfl (fun h=>?_) (fun h=>?_)<;>simp only [h]<;>refine g ?_) | refine A9 (A83 _ _) rfl (g ?_))
 all_goals (rw [<-hB,Bool.eq_iff_iff];simp [*];try omega)
theorem Ao9 (l:List Cg) (hl:l.length<=1000) (hb:∀ x∈l,x.value.length<=256):A7 Tryz.prog A8 109 [.iv (boI l)] (.val (.int .i64 (Jb l:Nat))) []:=by
 refine A7.of (n:=19) (rs:=[.tmp 2]) Tryz.func109 rfl (by kernel_rfl) Tryz.ntmps109 (by kernel_rfl) (by simp) (fun _ _=>A8.later) ?_
 intro hok V w0
 refine g ?_
 repeat' refine st_ rfl (g ?_)
 refine AW.loop (fun m:{m:Nat // m<=l.length}=>⟨[(3,.val (.int .i64 (Jb (l.take m.1):Nat))),(6,.iv (boI l)),(7,.val (.int .i64 (l.length:Nat))),(8,.val (.int .i64 (m.1:Nat)))],[]⟩) (fun m=>l.length - m.1) ⟨0,Nat.zero_le _⟩ id ⟨⟨rfl,rfl,rfl,rfl,trivial⟩,trivial,List.nodup_nil⟩ fun ⟨m,hm⟩=>?_
 have hu:=Ab6 (l.take m) fun x hx=>hb x (List.mem_of_mem_take hx)
 rw [List.length_take] at hu
 by_cases hlt:m < l.length
 ·have hv:=hb l[m] (List.getElem_mem hlt)
  have hs:=Ao8 hlt
  refine g ?_
  repeat' (first | refine st_ rfl (g ?_) | refine Az (fun h=>g ?_) (fun h=>g ?_) | refine ix_ (by omega) (g ?_))
  ·refine ⟨⟨m+1,hlt⟩,id,⟨⟨by rw [hs];rfl,rfl,rfl,rfl,trivial⟩,trivial,List.nodup_nil⟩,by show l.length - (m+1) < l.length - m;omega⟩
  ·omega
 ·obtain rfl:m=l.length:=by omega
  refine g ?_
  repeat' (first | refine st_ rfl (g ?_) | refine Az (fun h=>g ?_) (fun h=>g ?_) | refine ix_ (by omega) (g ?_))
  ·omega
  ·rw [List.take_length]
theorem Bj1 (l:List Cg) (hl:l.length<=1000) (hb:∀ x∈l,x.value.length<=256):A7 Tryz.prog A8 155 [.iv (boI l)] (.val (.int .i64 (Jb l:Nat))) []:=by
 refine A7.of (n:=20) (rs:=[.tmp 2]) Tryz.func155 rfl (by kernel_rfl) Tryz.ntmps155 (by kernel_rfl) (by simp) (fun _ _=>A8.later) ?_
 intro hok V w0
 refine g ?_
 repeat' refine st_ rfl (g ?_)
 refine AW.loop (fun m:{m:Nat // m<=l.length}=>⟨[(0,.iv (boI l)),(3,.val (.int .i64 (Jb (l.take m.1):Nat))),(4,.val (.int .i64 (m.1:Nat)))],[]⟩) (fun m=>l.length - m.1) ⟨0,Nat.zero_le _⟩ id ⟨⟨rfl,rfl,rfl,trivial⟩,trivial,List.nodup_nil⟩ fun ⟨m,hm⟩=>?_
 have hu:=Ab6 (l.take m) fun x hx=>hb x (List.mem_of_mem_take hx)
 rw [List.length_take] at hu
 by_cases hlt:m < l.length
 ·have hv:=hb l[m] (List.getElem_mem hlt)
  have hs:=Ao8 hlt
  refine g ?_
  repeat' (first | refine st_ rfl (g ?_) | refine Az (fun h=>g ?_) (fun h=>g ?_) | refine ix_ (by omega) (g ?_))
  ·refine ⟨⟨m+1,hlt⟩,id,⟨⟨rfl,by rw [hs];rfl,rfl,trivial⟩,trivial,List.nodup_nil⟩,by show l.length - (m+1) < l.length - m;omega⟩
  ·omega
 ·obtain rfl:m=l.length:=by omega
  refine g ?_
  repeat' (first | refine st_ rfl (g ?_) | refine Az (fun h=>g ?_) (fun h=>g ?_) | refine ix_ (by omega) (g ?_))
  ·omega
  ·rw [List.take_length]
set_option maxRecDepth 100000 in
theorem An5 (l:List Cg) (room:Int) (iR:I64 room):A7 Tryz.prog A8 77 [.iv (boI l),.val (.int .i64 room)] (.val (.bool (Cb l room))) []:=by
 refine A7.of (n:=49) (rs:=[.tmp 4]) Tryz.func77 rfl (by kernel_rfl) Tryz.ntmps77 (by kernel_rfl) (by simp) (fun _ _=>A8.later) ?_
 intro hok V w0
 have hlen:l.length<=1073741824:=by simpa [boI] using hok.1.1
 obtain ⟨B,hB⟩ : ∃ B,Cb l room=B:=⟨_,rfl⟩
 rw [hB]
 unfold Cb S2 at hB
 refine g ?_
 repeat' (first | refine st_ rfl (g ?_) | refine Az (fun h=>g ?_) (fun h=>g ?_) | (refine Ci rfl rfl (fun h e=>?_) (fun h e=>?_)<;>simp only [e]<;>clear e<;>refine g ?_))
 ·rw [<-hB,decide_eq_false (p:=0<=room) (by omega)];rfl
 ·rw [<-hB,decide_eq_false (p:=room<=16777216) (by omega)];simp
 ·rw [<-hB,decide_eq_false (p:=l.length<=256) (by omega)];simp
 rw [decide_eq_true (p:=0<=room) (by omega),decide_eq_true (p:=room<=16777216) (by omega),decide_eq_true (p:=l.length<=256) (by omega),Bool.true_and,Bool.true_and,Bool.true_and] at hB
 refine AW.loop (fun m:{m:Nat // m<=l.length/\Hm (l.take m)=true}=>⟨[(0,.iv (boI l)),(1,.val (.int .i64 room)),(5,.bp 600 0),(6,.val (.int .i64 (m.1:Nat)))],[.arr 600 (Ct fun o=>An9 (l.take m.1) o)]⟩) (fun m=>l.length - m.1) ⟨0,Nat.zero_le _,rfl⟩ id ⟨⟨rfl,rfl,rfl,rfl,trivial⟩,⟨?_,trivial⟩,by simp [Aq,BA.id]⟩ fun ⟨m,hm,ht⟩=>?_
 ·exact congrArg (fun C=>some (BA.arr 600 C)) (Zi.trans (C6 fun o ho=>rfl))
 refine g ?_
 repeat' (first | refine st_ rfl (g ?_) | refine Az (fun h=>g ?_) (fun h=>g ?_) | (refine Ej rfl rfl (fun h=>?_) (fun h=>?_)<;>simp only [h]<;>refine g ?_) | refine ix_ (by omega) (g ?_) | refine A9 (Ax5 _) rfl (g ?_))
 ·rw [<-hB,Ac2 (by omega) ht (.inl (by simpa using h))];rfl
 ·have hlt:m < l.length:=by omega
  have hr:Dd l[m]=true:=by simpa using h
  obtain ⟨r1,r2,r3⟩:=Fk hr
  have hto:((l[m].object.toNat:Nat):Int)=l[m].object:=by omega
  refine ⟨r1,r2,?_⟩
  rw [Nat.mul_one,Nat.zero_add]
  refine g ?_
  repeat' refine Ag (g ?_)
  refine ⟨_,D6 (by omega),?_⟩
  rw [hto]
  refine g ?_
  repeat' (first | refine st_ rfl (g ?_) | refine Ag (g ?_) | refine C3 (fun h=>g ?_) (fun h=>g ?_) | refine ix_ (by omega) (g ?_))
  ·rw [<-hB,Ac2 hlt ht (.inr h)];rfl
  ·refine ⟨r1,r2,?_⟩
   rw [Nat.mul_one,Nat.zero_add]
   refine g ?_
   repeat' refine Ag (g ?_)
   refine ⟨_,rfl,⟨trivial,trivial⟩,by rw [Bx];omega,?_⟩
   refine g ?_
   repeat' (first | refine st_ rfl (g ?_) | refine Ag (g ?_))
   refine ⟨⟨m+1,hlt,by rw [A51 hlt ht,hr,h];rfl⟩,id,⟨⟨rfl,rfl,rfl,rfl,trivial⟩,⟨congrArg (fun C=>some (BA.arr 600 C)) ?_,trivial⟩,by simp [Aq,BA.id]⟩,by show l.length - (m+1) < l.length - m;omega⟩
   rw [Ff (by omega)]
   refine C6 fun o ho=>?_
   rw [At6 hlt]
   by_cases e:o=l[m].object.toNat
   ·rw [if_pos e,e,hto];simp
   ·rw [if_neg e,decide_eq_false (by omega),Bool.or_false]
 ·obtain rfl:m=l.length:=by omega
  rw [List.take_length] at ht
  refine A9 (Bj1 l (by omega) fun x hx=>(Fk (Qk ht x hx)).2.2) rfl ?_
  refine g ?_
  repeat' refine st_ rfl (g ?_)
  rw [<-hB,ht];rfl
end Go.Proofs.YthlgnjlpakimaaaGreatDoor
namespace Go.Proofs.YthlgnjlpakimaaaGreatDoor
open Go.ChangeShapes Go.WideShapes Go.ChangeAt Go.RowKit
attribute [local irreducible] AW AWY Cd Bk vop C5 Bl Bz qop Cj Cv B4 Aw C4 A7 Bq Ct
attribute [local go_sem] Ao As
set_option maxRecDepth 100000 in
theorem Am2 (a b:List Ab):A7 Tryz.prog A8 113 [.iv (stI a),.iv (stI b)] (.val (.int .i64 (A64 a b))) []:=by
 refine A7.of (n:=22) (rs:=[.tmp 4]) Tryz.func113 rfl (by kernel_rfl) Tryz.ntmps113 (by kernel_rfl) (by simp) (fun _ _=>A8.later) ?_
 intro hok V w0
 unfold A64
 have h1:=T4 a b
 have h2:=T4 b a
 generalize Ay a b=x at h1 ⊢
 generalize Ay b a=y at h2 ⊢
 cases x<;>cases y
 ·refine g ?_
  repeat' refine st_ rfl (g ?_)
  refine ⟨fun v hv=>by simp at hv;subst hv;rfl,_,rfl,⟨rfl,rfl,rfl,rfl,trivial⟩,?_⟩
  refine g ?_
  repeat' (first | refine st_ rfl (g ?_) | refine Ag (g ?_) | exact trivial | refine A9 (h1) rfl (g ?_) | refine A9 (h2) rfl (g ?_))
 ·refine g ?_
  repeat' refine st_ rfl (g ?_)
  refine ⟨fun v hv=>by simp at hv;subst hv;rfl,_,rfl,⟨rfl,rfl,rfl,rfl,trivial⟩,?_⟩
  refine g ?_
  repeat' (first | refine st_ rfl (g ?_) | refine Ag (g ?_) | exact trivial | refine A9 (h1) rfl (g ?_) | refine A9 (h2) rfl (g ?_))
 ·refine g ?_
  repeat' refine st_ rfl (g ?_)
  refine ⟨fun v hv=>by simp at hv;subst hv;rfl,_,rfl,⟨rfl,rfl,rfl,rfl,trivial⟩,?_⟩
  refine g ?_
  repeat' (first | refine st_ rfl (g ?_) | refine Ag (g ?_) | exact trivial | refine A9 (h1) rfl (g ?_) | refine A9 (h2) rfl (g ?_))
 ·refine g ?_
  repeat' refine st_ rfl (g ?_)
  refine ⟨fun v hv=>by simp at hv;subst hv;rfl,_,rfl,⟨rfl,rfl,rfl,rfl,trivial⟩,?_⟩
  refine g ?_
  repeat' (first | refine st_ rfl (g ?_) | refine Ag (g ?_) | exact trivial | refine A9 (h1) rfl (g ?_) | refine A9 (h2) rfl (g ?_))
set_option maxRecDepth 100000 in
theorem Ag1 (a b:List Ab):A7 Tryz.prog A8 78 [.iv (stI a),.iv (stI b)] (.val (.int .i64 (A64 a b))) []:=by
 refine A7.of (n:=22) (rs:=[.tmp 4]) Tryz.func78 rfl (by kernel_rfl) Tryz.ntmps78 (by kernel_rfl) (by simp) (fun _ _=>A8.later) ?_
 intro hok V w0
 unfold A64
 have h1:=X6 a b
 have h2:=X6 b a
 generalize Ay a b=x at h1 ⊢
 generalize Ay b a=y at h2 ⊢
 cases x<;>cases y
 ·refine g ?_
  repeat' (first | refine st_ rfl (g ?_) | exact trivial | refine A9 (h1) rfl (g ?_) | refine A9 (h2) rfl (g ?_))
 ·refine g ?_
  repeat' (first | refine st_ rfl (g ?_) | exact trivial | refine A9 (h1) rfl (g ?_) | refine A9 (h2) rfl (g ?_))
 ·refine g ?_
  repeat' (first | refine st_ rfl (g ?_) | exact trivial | refine A9 (h1) rfl (g ?_) | refine A9 (h2) rfl (g ?_))
 ·refine g ?_
  repeat' (first | refine st_ rfl (g ?_) | exact trivial | refine A9 (h1) rfl (g ?_) | refine A9 (h2) rfl (g ?_))
end Go.Proofs.YthlgnjlpakimaaaGreatDoor
namespace Go.Proofs.YthlgnjlpakimaaaGreatDoor
open Go.ChangeShapes Go.WideShapes Go.ChangeAt Go.RowKit
attribute [local irreducible] AW AWY Cd Bk vop C5 Bl Bz qop Cj Cv B4 Aw C4 A7 Bq Ct
attribute [local go_sem] K9 Kc H8 J8 Fc Eh Jn Gp Gv Ei Ao As
set_option maxRecDepth 100000 in
theorem Zm (z:List Av) (known:List Ab) (w:Ai):A7 Tryz.prog A8 50 [.iv (znI z),.iv (stI known),wA w] (.val (.bool (Df z known w))) []:=by
 refine A7.of (n:=15) (rs:=[.tmp 6]) Tryz.func50 rfl (by kernel_rfl) Tryz.ntmps50 (by kernel_rfl) (by simp) (fun _ _=>A8.later) ?_
 intro hok V w0
 refine g ?_
 repeat' refine st_ rfl (g ?_)
 refine AW.drawn (ds:=[7,8,9,10,11,12,13,14,6]) (fin:=[0]) (bs:=[1,1,1,1,1,1,1,1,1]) [⟨[],[],[],[],0⟩,⟨[],[],[],[],0⟩,⟨[],[],[],[],0⟩,⟨[(9,2)],[],[0],[],0⟩,⟨[(7,0),(8,1),(10,3)],[],[0],[],0⟩,⟨[],[],[],[],0⟩,⟨[(12,5)],[],[0],[],0⟩,⟨[(11,4),(13,6)],[],[0],[],0⟩,⟨[(14,7)],[],[],[],0⟩] (by kernel_rfl) rfl (by kernel_rfl) rfl rfl rfl fun KD hKD=>?_
 refine g ?_
 repeat' (first | refine st_ rfl (g ?_) | (refine hKD _ _ ⟨rfl,g ?_⟩;clear hKD KD) | refine A9 (B20 _ _ _) rfl (g ?_) | refine A9 (A23 _ w.stamp) rfl (g ?_))
 rfl
set_option maxRecDepth 100000 in
theorem An1 (v:B8) (w:Ai):A7 Tryz.prog A8 79 [vwA v,wA w] (.val (.bool (Df v.zones v.known w))) []:=by
 refine A7.of (n:=15) (rs:=[.tmp 4]) Tryz.func79 rfl (by kernel_rfl) Tryz.ntmps79 (by kernel_rfl) (by simp) (fun _ _=>A8.later) ?_
 intro hok V w0
 refine g ?_
 repeat' refine st_ rfl (g ?_)
 refine AW.drawn (ds:=[5,6,7,8,9,10,11,12,13,14,4]) (fin:=[0,1]) (bs:=[2,2,2,2,2,2,2,2,2,2,2]) [⟨[],[],[],[],0⟩,⟨[(5,0)],[],[0,1],[],0⟩,⟨[],[],[],[],0⟩,⟨[(7,2)],[],[0,1],[],0⟩,⟨[],[],[],[],0⟩,⟨[(9,4)],[],[0,1],[],0⟩,⟨[(6,1),(8,3),(10,5)],[],[0,1],[],0⟩,⟨[],[],[],[],0⟩,⟨[(12,7)],[],[0,1],[],0⟩,⟨[(11,6),(13,8)],[],[0,1],[],0⟩,⟨[(14,9)],[],[],[],0⟩] (by kernel_rfl) rfl (by kernel_rfl) rfl rfl rfl fun KD hKD=>?_
 refine g ?_
 repeat' (first | refine st_ rfl (g ?_) | (refine hKD _ _ ⟨rfl,g ?_⟩;clear hKD KD) | refine A9 (M6 _ _ _) rfl (g ?_) | refine A9 (Y0 _ w.stamp) rfl (g ?_))
 rfl
theorem S0 (x y:Operand) (p q r s:Int) (w:World):(do eqGuard .eql 42 x y (.agg #[.int .i64 p,.int .i64 q]) (.agg #[.int .i64 r,.int .i64 s]);binOp .eql 42 (.agg #[.int .i64 p,.int .i64 q]) (.agg #[.int .i64 r,.int .i64 s]):Sem Value).run Tryz.prog w=.ok (.bool (p==r&&q==s)) w:=by
 by_cases h1:p=r<;>by_cases h2:q=s<;>go_simp<;>simp [h1,h2]
theorem A32 {a b:Ab} : decide (a=b)=(a.count==b.count&&a.node==b.node):=by
 obtain ⟨c,n⟩:=a
 obtain ⟨d,m⟩:=b
 by_cases h1:c=d<;>by_cases h2:n=m<;>simp [h1,h2]
set_option maxRecDepth 100000 in
theorem Aw3 (v:B8) (x:Cg):A7 Tryz.prog A8 80 [vwA v,boA x] (.val (.bool (Dm v.held x))) []:=by
 refine A7.of (n:=28) (rs:=[.tmp 4]) Tryz.func80 rfl (by kernel_rfl) Tryz.ntmps80 (by kernel_rfl) (by simp) (fun _ _=>A8.later) ?_
 intro hok V w0
 obtain ⟨B,hB⟩ : ∃ B,Dm v.held x=B:=⟨_,rfl⟩
 rw [hB]
 unfold Dm Au9 at hB
 have hat:=C92 v.held x.object
 cases hg:D5 v.held x.object with
 | none =>
  rw [hg] at hB hat
  refine g ?_
  repeat' (first | refine st_ rfl (g ?_) | refine A9 (hat) rfl (g ?_))
  exact hB
 | some w =>
  rw [hg] at hB hat
  simp only [Option.getD_some,Option.isSome_some] at hat hB
  rw [A32] at hB
  refine g ?_
  repeat' (first | refine st_ rfl (g ?_) | refine A9 (hat) rfl (g ?_))
  refine ⟨_,fun u=>S0 _ _ _ _ _ _ u,?_⟩
  refine g ?_
  repeat' (first | refine st_ rfl (g ?_) | refine Ag (g ?_) | (refine Ej rfl rfl (fun h=>?_) (fun h=>?_)<;>simp only [h]<;>refine g ?_))
  ·rw [<-hB,h];simp
  ·rw [<-hB,h];simp
end Go.Proofs.YthlgnjlpakimaaaGreatDoor
namespace Go.Proofs.YthlgnjlpakimaaaGreatDoor
open Go.ChangeShapes Go.WideShapes Go.ChangeAt Go.RowKit
theorem C69 {t:TypeId} {x y:Operand} {a b:ByteArray} {K:AV->Prop} (h:K (.val (.bool (decide (a=b))))):Cj Tryz.prog .eql t x y (.val (.string a)) (.val (.string b)) K:=⟨_,fun w=>by
 go_simp
 rw [ByteArray.toList_eq,ByteArray.toList_eq]
 by_cases e:a=b
 ·simp [e]
 ·rw [decide_eq_false e,beq_eq_false_iff_ne]
  exact fun h=>e (bytes_inj h),h⟩
theorem Bv6:∀ {a b:List Nat},(∀ x∈a,x < 256)->(∀ x∈b,x < 256)->(Ae7 a=Ae7 b↔a=b):=fun {a b} ha hb=>by
 refine ⟨fun h=>?_,fun h=>h ▸ rfl⟩
 unfold Ae7 strOfNums at h
 injection h with h
 have h:=congrArg Array.toList h
 simp only [List.map_map] at h
 have key:∀ {a b:List Nat},(∀ x∈a,x < 256)->(∀ x∈b,x < 256)->a.map (fun n=>UInt8.ofNat n)=b.map (fun n=>UInt8.ofNat n)->a=b:=by
  intro a
  induction a with
  | nil=>intro b _ _ h;cases b with
   | nil=>rfl
   | cons _ _=>cases h
  | cons x a ih=>intro b ha hb h;cases b with
   | nil=>cases h
   | cons y b =>
    injection h with h1 h2
    have e:=congrArg UInt8.toNat h1
    have p:=ha x (by simp)
    have q:=hb y (by simp)
    simp only [UInt8.toNat_ofNat'] at e
    rw [ih (fun z hz=>ha z (by simp [hz])) (fun z hz=>hb z (by simp [hz])) h2]
    congr 1
    omega
 exact key ha hb (by simpa [Function.comp_def] using h)
attribute [local irreducible] AW AWY Cd Bk vop C5 Bl Bz qop Cj Cv B4 Aw C4 A7 Bq Ct
attribute [local go_sem] H8 J8 Ao As
theorem Co9 {a:List Nat} (h:AV.okd (.iv (byI a))):∀ x∈a,x < 256:=fun x hx=>by
 have h2:=D7 (by simpa [byI] using h.2) [IV.val (.int .u8 x)] (List.mem_map_of_mem (f:=fun (b:Nat)=>[IV.val (.int .u8 (b:Int))]) hx)
 have h3:(Lit.int .u8 (x:Int)).wf=true:=h2.2.1
 simp [Lit.wf,IntKind.max,IntKind.min,IntKind.signed,IntKind.bits] at h3
 omega
set_option maxRecDepth 100000 in
theorem Ax2 (a b:List Nat):A7 Tryz.prog A8 71 [.iv (byI a),.iv (byI b)] (.val (.bool (decide (a=b)))) []:=by
 refine A7.of (n:=10) (rs:=[.tmp 4]) Tryz.func71 rfl (by kernel_rfl) Tryz.ntmps71 (by kernel_rfl) (by simp) (fun _ _=>A8.later) ?_
 intro hok V w0
 obtain ⟨B,hB⟩ : ∃ B,decide (a=b)=B:=⟨_,rfl⟩
 rw [hB]
 refine g ?_
 repeat' refine st_ rfl (g ?_)
 refine ⟨a,rfl,Ag ?_⟩
 refine g ?_
 refine ⟨b,rfl,Ag ?_⟩
 refine g ?_
 refine C69 ?_
 refine g ?_
 repeat' refine st_ rfl (g ?_)
 rw [<-hB]
 exact decide_eq_decide.2 (Bv6 (Co9 hok.1) (Co9 hok.2.1))
set_option maxRecDepth 100000 in
theorem Tg (x y:Cg):A7 Tryz.prog A8 19 [boA x,boA y] (.val (.bool (decide (x=y)))) []:=by
 refine A7.of (n:=24) (rs:=[.tmp 4]) Tryz.func19 rfl (by kernel_rfl) Tryz.ntmps19 (by kernel_rfl) (by simp) (fun _ _=>A8.later) ?_
 intro hok V w0
 obtain ⟨B,hB⟩ : ∃ B,decide (x=y)=B:=⟨_,rfl⟩
 rw [hB]
 obtain ⟨xo,⟨xc,xn⟩,xv⟩:=x
 obtain ⟨yo,⟨yc,yn⟩,yv⟩:=y
 refine g ?_
 repeat' (first | refine st_ rfl (g ?_) | (refine Ci rfl rfl (fun h e=>?_) (fun h e=>?_)<;>simp only [e]<;>clear e<;>refine g ?_))
 ·refine ⟨_,fun u=>S0 _ _ _ _ _ _ u,?_⟩
  refine g ?_
  repeat' (first | refine st_ rfl (g ?_) | refine Ag (g ?_) | (refine Ej rfl rfl (fun h=>?_) (fun h=>?_)<;>simp only [h]<;>refine g ?_) | refine A9 (Ax2 _ _) rfl (g ?_))
  ·rw [<-hB]
   have h3:xc=yc/\xn=yn:=by simpa using h
   rename_i h1
   rw [h1,h3.1,h3.2]
   simp
  ·rw [<-hB]
   refine (decide_eq_false ?_).symm
   intro e
   injection e with e1 e2 e3
   injection e2 with e4 e5
   simp [e4,e5] at h
 ·rw [<-hB]
  refine (decide_eq_false ?_).symm
  intro e
  injection e with e1
  exact h e1
end Go.Proofs.YthlgnjlpakimaaaGreatDoor
