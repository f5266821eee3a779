/- Whether two rows of bytes, two bodies are the same (the reference's). -/
import Derived.Test.YthlgnjlpakimaaaGreatDoorUShelf
import Derived.Test.YthlgnjlpakimaaaGreatDoorUBlur
import Derived.Test.YthlgnjlpakimaaaGreatDoorUPlace
set_option linter.all false
set_option linter.unnecessarySimpa false
set_option linter.unusedSimpArgs false
set_option linter.unusedVariables false
namespace Go.Proofs.YthlgnjlpakimaaaGreatDoor
open Go.ChangeShapes Go.WideShapes Go.ChangeAt Go.RowKit
attribute [local irreducible] AW AWY Bw Bc vop Bj Az Bi qop By Ce Ar Ap Bo A7 Bd C5
attribute [local go_sem] Ha Hf Ff Gl Ai An
theorem Al6 (x:Dc):A7 Tryz.prog A8 108 [boA x] (.val (.bool (Da x))) []:=by
 refine A7.of (n:=22) (rs:=[.tmp 2]) Tryz.func108 rfl (by kernel_rfl) Tryz.ntmps108 (by kernel_rfl) (by simp) (fun _ _=>A8.later) ?_
 intro hok V w0
 obtain ⟨B,hB⟩ : ∃ B,Da x=B:=⟨_,rfl⟩
 rw [hB]
 unfold Da Jv at hB
 refine g ?_
 repeat' (first | refine st_ rfl (g ?_) | (refine Cz rfl rfl (fun h e=>?_) (fun h e=>?_)<;>simp only [e]<;>clear e<;>refine g ?_) | (refine Eu rfl rfl (fun h=>?_) (fun h=>?_)<;>simp only [h]<;>refine g ?_) | refine Aa (Xv _ _) rfl (g ?_))
 all_goals (rw [<-hB,Bool.eq_iff_iff];simp [*];try omega)
theorem A70 (x:Dc):A7 Tryz.prog A8 96 [boA x] (.val (.bool (Da x))) []:=by
 refine A7.of (n:=22) (rs:=[.tmp 2]) Tryz.func96 rfl (by kernel_rfl) Tryz.ntmps96 (by kernel_rfl) (by simp) (fun _ _=>A8.later) ?_
 intro hok V w0
 obtain ⟨B,hB⟩ : ∃ B,Da x=B:=⟨_,rfl⟩
 rw [hB]
 unfold Da Jv at hB
 refine g ?_
 repeat' (first | refine st_ rfl (g ?_) | (refine Cz rfl rfl (fun h e=>?_) (fun h e=>?_)<;>simp only [e]<;>clear e<;>refine g ?_) | (refine Eu rfl rfl (fun h=>?_) (fun h=>?_)<;>simp only [h]<;>refine g ?_) | refine Aa (Vo _ _) rfl (g ?_))
 all_goals (rw [<-hB,Bool.eq_iff_iff];simp [*];try omega)
theorem Ay6 (l:List Dc) (hl:l.length<=1000) (hb:∀ x∈l,x.value.length<=256):A7 Tryz.prog A8 109 [.iv (boI l)] (.val (.int .i64 (Pt l:Nat))) []:=by
 refine A7.of (n:=19) (rs:=[.tmp 2]) Tryz.func109 rfl (by kernel_rfl) Tryz.ntmps109 (by kernel_rfl) (by simp) (fun _ _=>A8.later) ?_
 intro hok V w0
 refine g ?_
 repeat' refine st_ rfl (g ?_)
 refine AW.loop (fun m:{m:Nat // m<=l.length}=>⟨[(3,.val (.int .i64 (Pt (l.take m.1):Nat))),(6,.iv (boI l)),(7,.val (.int .i64 (l.length:Nat))),(8,.val (.int .i64 (m.1:Nat)))],[]⟩) (fun m=>l.length - m.1) ⟨0,Nat.zero_le _⟩ id ⟨⟨rfl,rfl,rfl,rfl,trivial⟩,trivial,List.nodup_nil⟩ fun ⟨m,hm⟩=>?_
 have hu:=A49 (l.take m) fun x hx=>hb x (List.mem_of_mem_take hx)
 rw [List.length_take] at hu
 by_cases hlt:m < l.length
 ·have hv:=hb l[m] (List.getElem_mem hlt)
  have hs:=Zt hlt
  refine g ?_
  repeat' (first | refine st_ rfl (g ?_) | refine Bk (fun h=>g ?_) (fun h=>g ?_) | refine ix_ (by omega) (g ?_))
  ·refine ⟨⟨m+1,hlt⟩,id,⟨⟨by rw [hs];rfl,rfl,rfl,rfl,trivial⟩,trivial,List.nodup_nil⟩,by show l.length - (m+1) < l.length - m;omega⟩
  ·omega
 ·obtain rfl:m=l.length:=by omega
  refine g ?_
  repeat' (first | refine st_ rfl (g ?_) | refine Bk (fun h=>g ?_) (fun h=>g ?_) | refine ix_ (by omega) (g ?_))
  ·omega
  ·rw [List.take_length]
theorem Ao0 (l:List Dc) (hl:l.length<=1000) (hb:∀ x∈l,x.value.length<=256):A7 Tryz.prog A8 155 [.iv (boI l)] (.val (.int .i64 (Pt l:Nat))) []:=by
 refine A7.of (n:=20) (rs:=[.tmp 2]) Tryz.func155 rfl (by kernel_rfl) Tryz.ntmps155 (by kernel_rfl) (by simp) (fun _ _=>A8.later) ?_
 intro hok V w0
 refine g ?_
 repeat' refine st_ rfl (g ?_)
 refine AW.loop (fun m:{m:Nat // m<=l.length}=>⟨[(0,.iv (boI l)),(3,.val (.int .i64 (Pt (l.take m.1):Nat))),(4,.val (.int .i64 (m.1:Nat)))],[]⟩) (fun m=>l.length - m.1) ⟨0,Nat.zero_le _⟩ id ⟨⟨rfl,rfl,rfl,trivial⟩,trivial,List.nodup_nil⟩ fun ⟨m,hm⟩=>?_
 have hu:=A49 (l.take m) fun x hx=>hb x (List.mem_of_mem_take hx)
 rw [List.length_take] at hu
 by_cases hlt:m < l.length
 ·have hv:=hb l[m] (List.getElem_mem hlt)
  have hs:=Zt hlt
  refine g ?_
  repeat' (first | refine st_ rfl (g ?_) | refine Bk (fun h=>g ?_) (fun h=>g ?_) | refine ix_ (by omega) (g ?_))
  ·refine ⟨⟨m+1,hlt⟩,id,⟨⟨rfl,by rw [hs];rfl,rfl,trivial⟩,trivial,List.nodup_nil⟩,by show l.length - (m+1) < l.length - m;omega⟩
  ·omega
 ·obtain rfl:m=l.length:=by omega
  refine g ?_
  repeat' (first | refine st_ rfl (g ?_) | refine Bk (fun h=>g ?_) (fun h=>g ?_) | refine ix_ (by omega) (g ?_))
  ·omega
  ·rw [List.take_length]
set_option maxRecDepth 100000 in
theorem Zg (l:List Dc) (room:Int) (iR:I64 room):A7 Tryz.prog A8 77 [.iv (boI l),.val (.int .i64 room)] (.val (.bool (E5 l room))) []:=by
 refine A7.of (n:=49) (rs:=[.tmp 4]) Tryz.func77 rfl (by kernel_rfl) Tryz.ntmps77 (by kernel_rfl) (by simp) (fun _ _=>A8.later) ?_
 intro hok V w0
 have hlen:l.length<=1073741824:=by simpa [boI] using hok.1.1
 obtain ⟨B,hB⟩ : ∃ B,E5 l room=B:=⟨_,rfl⟩
 rw [hB]
 unfold E5 Av4 at hB
 refine g ?_
 repeat' (first | refine st_ rfl (g ?_) | refine Bk (fun h=>g ?_) (fun h=>g ?_) | (refine Cz rfl rfl (fun h e=>?_) (fun h e=>?_)<;>simp only [e]<;>clear e<;>refine g ?_))
 ·rw [<-hB,decide_eq_false (p:=0<=room) (by omega)];rfl
 ·rw [<-hB,decide_eq_false (p:=room<=16777216) (by omega)];simp
 ·rw [<-hB,decide_eq_false (p:=l.length<=256) (by omega)];simp
 rw [decide_eq_true (p:=0<=room) (by omega),decide_eq_true (p:=room<=16777216) (by omega),decide_eq_true (p:=l.length<=256) (by omega),Bool.true_and,Bool.true_and,Bool.true_and] at hB
 refine AW.loop (fun m:{m:Nat // m<=l.length/\Lt (l.take m)=true}=>⟨[(0,.iv (boI l)),(1,.val (.int .i64 room)),(5,.bp 600 0),(6,.val (.int .i64 (m.1:Nat)))],[.arr 600 (C5 fun o=>Zk (l.take m.1) o)]⟩) (fun m=>l.length - m.1) ⟨0,Nat.zero_le _,rfl⟩ id ⟨⟨rfl,rfl,rfl,rfl,trivial⟩,⟨?_,trivial⟩,by simp [Ay,BA.id]⟩ fun ⟨m,hm,ht⟩=>?_
 ·exact congrArg (fun C=>some (BA.arr 600 C)) (Tc.trans (Bf fun o ho=>rfl))
 refine g ?_
 repeat' (first | refine st_ rfl (g ?_) | refine Bk (fun h=>g ?_) (fun h=>g ?_) | (refine Eu rfl rfl (fun h=>?_) (fun h=>?_)<;>simp only [h]<;>refine g ?_) | refine ix_ (by omega) (g ?_) | refine Aa (A70 _) rfl (g ?_))
 ·rw [<-hB,Wt (by omega) ht (.inl (by simpa using h))];rfl
 ·have hlt:m < l.length:=by omega
  have hr:Da l[m]=true:=by simpa using h
  obtain ⟨r1,r2,r3⟩:=Nz hr
  have hto:((l[m].object.toNat:Nat):Int)=l[m].object:=by omega
  refine ⟨r1,r2,?_⟩
  rw [Nat.mul_one,Nat.zero_add]
  refine g ?_
  repeat' refine Aj (g ?_)
  refine ⟨_,Cj (by omega),?_⟩
  rw [hto]
  refine g ?_
  repeat' (first | refine st_ rfl (g ?_) | refine Aj (g ?_) | refine Cl (fun h=>g ?_) (fun h=>g ?_) | refine ix_ (by omega) (g ?_))
  ·rw [<-hB,Wt hlt ht (.inr h)];rfl
  ·refine ⟨r1,r2,?_⟩
   rw [Nat.mul_one,Nat.zero_add]
   refine g ?_
   repeat' refine Aj (g ?_)
   refine ⟨_,rfl,⟨trivial,trivial⟩,by rw [Be];omega,?_⟩
   refine g ?_
   repeat' (first | refine st_ rfl (g ?_) | refine Aj (g ?_))
   refine ⟨⟨m+1,hlt,by rw [Un hlt ht,hr,h];rfl⟩,id,⟨⟨rfl,rfl,rfl,rfl,trivial⟩,⟨congrArg (fun C=>some (BA.arr 600 C)) ?_,trivial⟩,by simp [Ay,BA.id]⟩,by show l.length - (m+1) < l.length - m;omega⟩
   rw [Du (by omega)]
   refine Bf fun o ho=>?_
   rw [A35 hlt]
   by_cases e:o=l[m].object.toNat
   ·rw [if_pos e,e,hto];simp
   ·rw [if_neg e,decide_eq_false (by omega),Bool.or_false]
 ·obtain rfl:m=l.length:=by omega
  rw [List.take_length] at ht
  refine Aa (Ao0 l (by omega) fun x hx=>(Nz (Y0 ht x hx)).2.2) rfl ?_
  refine g ?_
  repeat' refine st_ rfl (g ?_)
  rw [<-hB,ht];rfl
end Go.Proofs.YthlgnjlpakimaaaGreatDoor
namespace Go.Proofs.YthlgnjlpakimaaaGreatDoor
open Go.ChangeShapes Go.WideShapes Go.ChangeAt Go.RowKit
attribute [local irreducible] AW AWY Bw Bc vop Bj Az Bi qop By Ce Ar Ap Bo A7 Bd C5
attribute [local go_sem] Ai An
set_option maxRecDepth 100000 in
theorem Z4 (a b:List Ab):A7 Tryz.prog A8 113 [.iv (stI a),.iv (stI b)] (.val (.int .i64 (V0 a b))) []:=by
 refine A7.of (n:=22) (rs:=[.tmp 4]) Tryz.func113 rfl (by kernel_rfl) Tryz.ntmps113 (by kernel_rfl) (by simp) (fun _ _=>A8.later) ?_
 intro hok V w0
 unfold V0
 have h1:=So a b
 have h2:=So b a
 generalize Ba a b=x at h1 ⊢
 generalize Ba b a=y at h2 ⊢
 cases x<;>cases y
 ·refine g ?_
  repeat' refine st_ rfl (g ?_)
  refine ⟨fun v hv=>by simp at hv;subst hv;rfl,_,rfl,⟨rfl,rfl,rfl,rfl,trivial⟩,?_⟩
  refine g ?_
  repeat' (first | refine st_ rfl (g ?_) | refine Aj (g ?_) | exact trivial | refine Aa (h1) rfl (g ?_) | refine Aa (h2) rfl (g ?_))
 ·refine g ?_
  repeat' refine st_ rfl (g ?_)
  refine ⟨fun v hv=>by simp at hv;subst hv;rfl,_,rfl,⟨rfl,rfl,rfl,rfl,trivial⟩,?_⟩
  refine g ?_
  repeat' (first | refine st_ rfl (g ?_) | refine Aj (g ?_) | exact trivial | refine Aa (h1) rfl (g ?_) | refine Aa (h2) rfl (g ?_))
 ·refine g ?_
  repeat' refine st_ rfl (g ?_)
  refine ⟨fun v hv=>by simp at hv;subst hv;rfl,_,rfl,⟨rfl,rfl,rfl,rfl,trivial⟩,?_⟩
  refine g ?_
  repeat' (first | refine st_ rfl (g ?_) | refine Aj (g ?_) | exact trivial | refine Aa (h1) rfl (g ?_) | refine Aa (h2) rfl (g ?_))
 ·refine g ?_
  repeat' refine st_ rfl (g ?_)
  refine ⟨fun v hv=>by simp at hv;subst hv;rfl,_,rfl,⟨rfl,rfl,rfl,rfl,trivial⟩,?_⟩
  refine g ?_
  repeat' (first | refine st_ rfl (g ?_) | refine Aj (g ?_) | exact trivial | refine Aa (h1) rfl (g ?_) | refine Aa (h2) rfl (g ?_))
set_option maxRecDepth 100000 in
theorem Xs (a b:List Ab):A7 Tryz.prog A8 78 [.iv (stI a),.iv (stI b)] (.val (.int .i64 (V0 a b))) []:=by
 refine A7.of (n:=22) (rs:=[.tmp 4]) Tryz.func78 rfl (by kernel_rfl) Tryz.ntmps78 (by kernel_rfl) (by simp) (fun _ _=>A8.later) ?_
 intro hok V w0
 unfold V0
 have h1:=Rg a b
 have h2:=Rg b a
 generalize Ba a b=x at h1 ⊢
 generalize Ba b a=y at h2 ⊢
 cases x<;>cases y
 ·refine g ?_
  repeat' (first | refine st_ rfl (g ?_) | exact trivial | refine Aa (h1) rfl (g ?_) | refine Aa (h2) rfl (g ?_))
 ·refine g ?_
  repeat' (first | refine st_ rfl (g ?_) | exact trivial | refine Aa (h1) rfl (g ?_) | refine Aa (h2) rfl (g ?_))
 ·refine g ?_
  repeat' (first | refine st_ rfl (g ?_) | exact trivial | refine Aa (h1) rfl (g ?_) | refine Aa (h2) rfl (g ?_))
 ·refine g ?_
  repeat' (first | refine st_ rfl (g ?_) | exact trivial | refine Aa (h1) rfl (g ?_) | refine Aa (h2) rfl (g ?_))
end Go.Proofs.YthlgnjlpakimaaaGreatDoor
namespace Go.Proofs.YthlgnjlpakimaaaGreatDoor
open Go.ChangeShapes Go.WideShapes Go.ChangeAt Go.RowKit
attribute [local irreducible] AW AWY Bw Bc vop Bj Az Bi qop By Ce Ar Ap Bo A7 Bd C5
attribute [local go_sem] Ha Hf Ff Gl Ei Dp J9 Fe Fq Eh Ai An
set_option maxRecDepth 100000 in
theorem A67 (z:List B8) (known:List Ab) (w:Aq):A7 Tryz.prog A8 50 [.iv (znI z),.iv (stI known),wA w] (.val (.bool (Fj z known w))) []:=by
 refine A7.of (n:=15) (rs:=[.tmp 6]) Tryz.func50 rfl (by kernel_rfl) Tryz.ntmps50 (by kernel_rfl) (by simp) (fun _ _=>A8.later) ?_
 intro hok V w0
 refine g ?_
 repeat' refine st_ rfl (g ?_)
 refine AW.drawn (ds:=[7,8,9,10,11,12,13,14,6]) (fin:=[0]) (bs:=[1,1,1,1,1,1,1,1,1]) [⟨[],[],[],[],0⟩,⟨[],[],[],[],0⟩,⟨[],[],[],[],0⟩,⟨[(9,2)],[],[0],[],0⟩,⟨[(7,0),(8,1),(10,3)],[],[0],[],0⟩,⟨[],[],[],[],0⟩,⟨[(12,5)],[],[0],[],0⟩,⟨[(11,4),(13,6)],[],[0],[],0⟩,⟨[(14,7)],[],[],[],0⟩] (by kernel_rfl) rfl (by kernel_rfl) rfl rfl rfl fun KD hKD=>?_
 refine g ?_
 repeat' (first | refine st_ rfl (g ?_) | (refine hKD _ _ ⟨rfl,g ?_⟩;clear hKD KD) | refine Aa (Ab2 _ _ _) rfl (g ?_) | refine Aa (Ay5 _ w.stamp) rfl (g ?_))
 rfl
set_option maxRecDepth 100000 in
theorem Zd (v:Bz) (w:Aq):A7 Tryz.prog A8 79 [vwA v,wA w] (.val (.bool (Fj v.zones v.known w))) []:=by
 refine A7.of (n:=15) (rs:=[.tmp 4]) Tryz.func79 rfl (by kernel_rfl) Tryz.ntmps79 (by kernel_rfl) (by simp) (fun _ _=>A8.later) ?_
 intro hok V w0
 refine g ?_
 repeat' refine st_ rfl (g ?_)
 refine AW.drawn (ds:=[5,6,7,8,9,10,11,12,13,14,4]) (fin:=[0,1]) (bs:=[2,2,2,2,2,2,2,2,2,2,2]) [⟨[],[],[],[],0⟩,⟨[(5,0)],[],[0,1],[],0⟩,⟨[],[],[],[],0⟩,⟨[(7,2)],[],[0,1],[],0⟩,⟨[],[],[],[],0⟩,⟨[(9,4)],[],[0,1],[],0⟩,⟨[(6,1),(8,3),(10,5)],[],[0,1],[],0⟩,⟨[],[],[],[],0⟩,⟨[(12,7)],[],[0,1],[],0⟩,⟨[(11,6),(13,8)],[],[0,1],[],0⟩,⟨[(14,9)],[],[],[],0⟩] (by kernel_rfl) rfl (by kernel_rfl) rfl rfl rfl fun KD hKD=>?_
 refine g ?_
 repeat' (first | refine st_ rfl (g ?_) | (refine hKD _ _ ⟨rfl,g ?_⟩;clear hKD KD) | refine Aa (Nx _ _ _) rfl (g ?_) | refine Aa (An9 _ w.stamp) rfl (g ?_))
 rfl
theorem Sx (x y:Operand) (p q r s:Int) (w:World):(do eqGuard .eql 42 x y (.agg #[.int .i64 p,.int .i64 q]) (.agg #[.int .i64 r,.int .i64 s]);binOp .eql 42 (.agg #[.int .i64 p,.int .i64 q]) (.agg #[.int .i64 r,.int .i64 s]):Sem Value).run Tryz.prog w=.ok (.bool (p==r&&q==s)) w:=by
 by_cases h1:p=r<;>by_cases h2:q=s<;>go_simp<;>simp [h1,h2]
theorem Zz {a b:Ab} : decide (a=b)=(a.count==b.count&&a.node==b.node):=by
 obtain ⟨c,n⟩:=a
 obtain ⟨d,m⟩:=b
 by_cases h1:c=d<;>by_cases h2:n=m<;>simp [h1,h2]
set_option maxRecDepth 100000 in
theorem A61 (v:Bz) (x:Dc):A7 Tryz.prog A8 80 [vwA v,boA x] (.val (.bool (F9 v.held x))) []:=by
 refine A7.of (n:=28) (rs:=[.tmp 4]) Tryz.func80 rfl (by kernel_rfl) Tryz.ntmps80 (by kernel_rfl) (by simp) (fun _ _=>A8.later) ?_
 intro hok V w0
 obtain ⟨B,hB⟩ : ∃ B,F9 v.held x=B:=⟨_,rfl⟩
 rw [hB]
 unfold F9 A48 at hB
 have hat:=Ba1 v.held x.object
 cases hg:M3 v.held x.object with
 | none =>
  rw [hg] at hB hat
  refine g ?_
  repeat' (first | refine st_ rfl (g ?_) | refine Aa (hat) rfl (g ?_))
  exact hB
 | some w =>
  rw [hg] at hB hat
  simp only [Option.getD_some,Option.isSome_some] at hat hB
  rw [Zz] at hB
  refine g ?_
  repeat' (first | refine st_ rfl (g ?_) | refine Aa (hat) rfl (g ?_))
  refine ⟨_,fun u=>Sx _ _ _ _ _ _ u,?_⟩
  refine g ?_
  repeat' (first | refine st_ rfl (g ?_) | refine Aj (g ?_) | (refine Eu rfl rfl (fun h=>?_) (fun h=>?_)<;>simp only [h]<;>refine g ?_))
  ·rw [<-hB,h];simp
  ·rw [<-hB,h];simp
end Go.Proofs.YthlgnjlpakimaaaGreatDoor
namespace Go.Proofs.YthlgnjlpakimaaaGreatDoor
open Go.ChangeShapes Go.WideShapes Go.ChangeAt Go.RowKit
theorem Bn9 {t:TypeId} {x y:Operand} {a b:ByteArray} {K:AV->Prop} (h:K (.val (.bool (decide (a=b))))):By Tryz.prog .eql t x y (.val (.string a)) (.val (.string b)) K:=⟨_,fun w=>by
 go_simp
 rw [ByteArray.toList_eq,ByteArray.toList_eq]
 by_cases e:a=b
 ·simp [e]
 ·rw [decide_eq_false e,beq_eq_false_iff_ne]
  exact fun h=>e (bytes_inj h),h⟩
theorem Ay9:∀ {a b:List Nat},(∀ x∈a,x < 256)->(∀ x∈b,x < 256)->(Zw a=Zw b↔a=b):=fun {a b} ha hb=>by
 refine ⟨fun h=>?_,fun h=>h ▸ rfl⟩
 unfold Zw strOfNums at h
 injection h with h
 have h:=congrArg Array.toList h
 simp only [List.map_map] at h
 have key:∀ {a b:List Nat},(∀ x∈a,x < 256)->(∀ x∈b,x < 256)->a.map (fun n=>UInt8.ofNat n)=b.map (fun n=>UInt8.ofNat n)->a=b:=by
  intro a
  induction a with
  | nil=>intro b _ _ h;cases b with
   | nil=>rfl
   | cons _ _=>cases h
  | cons x a ih=>intro b ha hb h;cases b with
   | nil=>cases h
   | cons y b =>
    injection h with h1 h2
    have e:=congrArg UInt8.toNat h1
    have p:=ha x (by simp)
    have q:=hb y (by simp)
    simp only [UInt8.toNat_ofNat'] at e
    rw [ih (fun z hz=>ha z (by simp [hz])) (fun z hz=>hb z (by simp [hz])) h2]
    congr 1
    omega
 exact key ha hb (by simpa [Function.comp_def] using h)
attribute [local irreducible] AW AWY Bw Bc vop Bj Az Bi qop By Ce Ar Ap Bo A7 Bd C5
attribute [local go_sem] Ff Gl Ai An
theorem Bm3 {a:List Nat} (h:AV.okd (.iv (byI a))):∀ x∈a,x < 256:=fun x hx=>by
 have h2:=Gc (by simpa [byI] using h.2) [IV.val (.int .u8 x)] (List.mem_map_of_mem (f:=fun (b:Nat)=>[IV.val (.int .u8 (b:Int))]) hx)
 have h3:(Lit.int .u8 (x:Int)).wf=true:=h2.2.1
 simp [Lit.wf,IntKind.max,IntKind.min,IntKind.signed,IntKind.bits] at h3
 omega
set_option maxRecDepth 100000 in
theorem A69 (a b:List Nat):A7 Tryz.prog A8 71 [.iv (byI a),.iv (byI b)] (.val (.bool (decide (a=b)))) []:=by
 refine A7.of (n:=10) (rs:=[.tmp 4]) Tryz.func71 rfl (by kernel_rfl) Tryz.ntmps71 (by kernel_rfl) (by simp) (fun _ _=>A8.later) ?_
 intro hok V w0
 obtain ⟨B,hB⟩ : ∃ B,decide (a=b)=B:=⟨_,rfl⟩
 rw [hB]
 refine g ?_
 repeat' refine st_ rfl (g ?_)
 refine ⟨a,rfl,Aj ?_⟩
 refine g ?_
 refine ⟨b,rfl,Aj ?_⟩
 refine g ?_
 refine Bn9 ?_
 refine g ?_
 repeat' refine st_ rfl (g ?_)
 rw [<-hB]
 exact decide_eq_decide.2 (Ay9 (Bm3 hok.1) (Bm3 hok.2.1))
set_option maxRecDepth 100000 in
theorem A71 (x y:Dc):A7 Tryz.prog A8 19 [boA x,boA y] (.val (.bool (decide (x=y)))) []:=by
 refine A7.of (n:=24) (rs:=[.tmp 4]) Tryz.func19 rfl (by kernel_rfl) Tryz.ntmps19 (by kernel_rfl) (by simp) (fun _ _=>A8.later) ?_
 intro hok V w0
 obtain ⟨B,hB⟩ : ∃ B,decide (x=y)=B:=⟨_,rfl⟩
 rw [hB]
 obtain ⟨xo,⟨xc,xn⟩,xv⟩:=x
 obtain ⟨yo,⟨yc,yn⟩,yv⟩:=y
 refine g ?_
 repeat' (first | refine st_ rfl (g ?_) | (refine Cz rfl rfl (fun h e=>?_) (fun h e=>?_)<;>simp only [e]<;>clear e<;>refine g ?_))
 ·refine ⟨_,fun u=>Sx _ _ _ _ _ _ u,?_⟩
  refine g ?_
  repeat' (first | refine st_ rfl (g ?_) | refine Aj (g ?_) | (refine Eu rfl rfl (fun h=>?_) (fun h=>?_)<;>simp only [h]<;>refine g ?_) | refine Aa (A69 _ _) rfl (g ?_))
  ·rw [<-hB]
   have h3:xc=yc/\xn=yn:=by simpa using h
   rename_i h1
   rw [h1,h3.1,h3.2]
   simp
  ·rw [<-hB]
   refine (decide_eq_false ?_).symm
   intro e
   injection e with e1 e2 e3
   injection e2 with e4 e5
   simp [e4,e5] at h
 ·rw [<-hB]
  refine (decide_eq_false ?_).symm
  intro e
  injection e with e1
  exact h e1
end Go.Proofs.YthlgnjlpakimaaaGreatDoor
