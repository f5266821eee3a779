/- Shelves: told one by one (the program's). -/
import Derived.Test.YthlgnjlpakimaaaGreatDoorVPlace
import Derived.Test.YthlgnjlpakimaaaGreatDoorVCache
import Derived.Test.YthlgnjlpakimaaaGreatDoorVLogAll
set_option linter.all false
set_option linter.unnecessarySimpa false
set_option linter.unusedSimpArgs false
set_option linter.unusedVariables false
namespace Go.Proofs.YthlgnjlpakimaaaGreatDoor
open Go.ChangeShapes Go.WideShapes Go.ChangeAt Go.RowKit
attribute [local irreducible] AW AWY Cf Bf vop Bw Bh Bx qop Cg Cz Az Aw C5 A7 Bl Cj
attribute [local go_sem] Ap Ar
set_option maxRecDepth 100000 in
theorem A48 (a b:List Aa):A7 Tryz.prog A9 113 [.iv (stI a),.iv (stI b)] (.val (.int .i64 (Xp a b))) []:=by
 refine A7.of (n:=22) (rs:=[.tmp 4]) Tryz.func113 rfl (by kernel_rfl) Tryz.ntmps113 (by kernel_rfl) (by simp) (fun _ _=>A9.later) ?_
 intro hok V w0
 unfold Xp
 have h1:=Qc a b
 have h2:=Qc b a
 generalize At a b=x at h1 ⊢
 generalize At b a=y at h2 ⊢
 cases x<;>cases y
 ·refine g ?_
  repeat' refine st_ rfl (g ?_)
  refine ⟨fun v hv=>by simp at hv;subst hv;rfl,_,rfl,⟨rfl,rfl,rfl,rfl,trivial⟩,?_⟩
  refine g ?_
  repeat' (first | refine st_ rfl (g ?_) | refine Am (g ?_) | exact trivial | refine Ab (h1) rfl (g ?_) | refine Ab (h2) rfl (g ?_))
 ·refine g ?_
  repeat' refine st_ rfl (g ?_)
  refine ⟨fun v hv=>by simp at hv;subst hv;rfl,_,rfl,⟨rfl,rfl,rfl,rfl,trivial⟩,?_⟩
  refine g ?_
  repeat' (first | refine st_ rfl (g ?_) | refine Am (g ?_) | exact trivial | refine Ab (h1) rfl (g ?_) | refine Ab (h2) rfl (g ?_))
 ·refine g ?_
  repeat' refine st_ rfl (g ?_)
  refine ⟨fun v hv=>by simp at hv;subst hv;rfl,_,rfl,⟨rfl,rfl,rfl,rfl,trivial⟩,?_⟩
  refine g ?_
  repeat' (first | refine st_ rfl (g ?_) | refine Am (g ?_) | exact trivial | refine Ab (h1) rfl (g ?_) | refine Ab (h2) rfl (g ?_))
 ·refine g ?_
  repeat' refine st_ rfl (g ?_)
  refine ⟨fun v hv=>by simp at hv;subst hv;rfl,_,rfl,⟨rfl,rfl,rfl,rfl,trivial⟩,?_⟩
  refine g ?_
  repeat' (first | refine st_ rfl (g ?_) | refine Am (g ?_) | exact trivial | refine Ab (h1) rfl (g ?_) | refine Ab (h2) rfl (g ?_))
set_option maxRecDepth 100000 in
theorem A04 (a b:List Aa):A7 Tryz.prog A9 78 [.iv (stI a),.iv (stI b)] (.val (.int .i64 (Xp a b))) []:=by
 refine A7.of (n:=22) (rs:=[.tmp 4]) Tryz.func78 rfl (by kernel_rfl) Tryz.ntmps78 (by kernel_rfl) (by simp) (fun _ _=>A9.later) ?_
 intro hok V w0
 unfold Xp
 have h1:=Tm a b
 have h2:=Tm b a
 generalize At a b=x at h1 ⊢
 generalize At b a=y at h2 ⊢
 cases x<;>cases y
 ·refine g ?_
  repeat' (first | refine st_ rfl (g ?_) | exact trivial | refine Ab (h1) rfl (g ?_) | refine Ab (h2) rfl (g ?_))
 ·refine g ?_
  repeat' (first | refine st_ rfl (g ?_) | exact trivial | refine Ab (h1) rfl (g ?_) | refine Ab (h2) rfl (g ?_))
 ·refine g ?_
  repeat' (first | refine st_ rfl (g ?_) | exact trivial | refine Ab (h1) rfl (g ?_) | refine Ab (h2) rfl (g ?_))
 ·refine g ?_
  repeat' (first | refine st_ rfl (g ?_) | exact trivial | refine Ab (h1) rfl (g ?_) | refine Ab (h2) rfl (g ?_))
end Go.Proofs.YthlgnjlpakimaaaGreatDoor
namespace Go.Proofs.YthlgnjlpakimaaaGreatDoor
open Go.ChangeShapes Go.WideShapes Go.ChangeAt Go.RowKit
attribute [local irreducible] AW AWY Cf Bf vop Bw Bh Bx qop Cg Cz Az Aw C5 A7 Bl Cj
attribute [local go_sem] Jl Jo Hw Mx Fa Ee Jp Gd Gn Fl Ap Ar
set_option maxRecDepth 100000 in
theorem Vn (z:List Ao) (known:List Aa) (w:Ai):A7 Tryz.prog A9 50 [.iv (znI z),.iv (stI known),wA w] (.val (.bool (Ej z known w))) []:=by
 refine A7.of (n:=15) (rs:=[.tmp 6]) Tryz.func50 rfl (by kernel_rfl) Tryz.ntmps50 (by kernel_rfl) (by simp) (fun _ _=>A9.later) ?_
 intro hok V w0
 refine g ?_
 repeat' refine st_ rfl (g ?_)
 refine AW.drawn (ds:=[7,8,9,10,11,12,13,14,6]) (fin:=[0]) (bs:=[1,1,1,1,1,1,1,1,1]) [⟨[],[],[],[],0⟩,⟨[],[],[],[],0⟩,⟨[],[],[],[],0⟩,⟨[(9,2)],[],[0],[],0⟩,⟨[(7,0),(8,1),(10,3)],[],[0],[],0⟩,⟨[],[],[],[],0⟩,⟨[(12,5)],[],[0],[],0⟩,⟨[(11,4),(13,6)],[],[0],[],0⟩,⟨[(14,7)],[],[],[],0⟩] (by kernel_rfl) rfl (by kernel_rfl) rfl rfl rfl fun KD hKD=>?_
 refine g ?_
 repeat' (first | refine st_ rfl (g ?_) | (refine hKD _ _ ⟨rfl,g ?_⟩;clear hKD KD) | refine Ab (Ah8 _ _ _) rfl (g ?_) | refine Ab (A70 _ w.stamp) rfl (g ?_))
 rfl
set_option maxRecDepth 100000 in
theorem A57 (v:Br) (w:Ai):A7 Tryz.prog A9 79 [vwA v,wA w] (.val (.bool (Ej v.zones v.known w))) []:=by
 refine A7.of (n:=15) (rs:=[.tmp 4]) Tryz.func79 rfl (by kernel_rfl) Tryz.ntmps79 (by kernel_rfl) (by simp) (fun _ _=>A9.later) ?_
 intro hok V w0
 refine g ?_
 repeat' refine st_ rfl (g ?_)
 refine AW.drawn (ds:=[5,6,7,8,9,10,11,12,13,14,4]) (fin:=[0,1]) (bs:=[2,2,2,2,2,2,2,2,2,2,2]) [⟨[],[],[],[],0⟩,⟨[(5,0)],[],[0,1],[],0⟩,⟨[],[],[],[],0⟩,⟨[(7,2)],[],[0,1],[],0⟩,⟨[],[],[],[],0⟩,⟨[(9,4)],[],[0,1],[],0⟩,⟨[(6,1),(8,3),(10,5)],[],[0,1],[],0⟩,⟨[],[],[],[],0⟩,⟨[(12,7)],[],[0,1],[],0⟩,⟨[(11,6),(13,8)],[],[0,1],[],0⟩,⟨[(14,9)],[],[],[],0⟩] (by kernel_rfl) rfl (by kernel_rfl) rfl rfl rfl fun KD hKD=>?_
 refine g ?_
 repeat' (first | refine st_ rfl (g ?_) | (refine hKD _ _ ⟨rfl,g ?_⟩;clear hKD KD) | refine Ab (Ql _ _ _) rfl (g ?_) | refine Ab (Av8 _ w.stamp) rfl (g ?_))
 rfl
theorem Zp (x y:Operand) (p q r s:Int) (w:World):(do eqGuard .eql 42 x y (.agg #[.int .i64 p,.int .i64 q]) (.agg #[.int .i64 r,.int .i64 s]);binOp .eql 42 (.agg #[.int .i64 p,.int .i64 q]) (.agg #[.int .i64 r,.int .i64 s]):Sem Value).run Tryz.prog w=.ok (.bool (p==r&&q==s)) w:=by
 by_cases h1:p=r<;>by_cases h2:q=s<;>go_simp<;>simp [h1,h2]
theorem Wt {a b:Aa} : decide (a=b)=(a.count==b.count&&a.node==b.node):=by
 obtain ⟨c,n⟩:=a
 obtain ⟨d,m⟩:=b
 by_cases h1:c=d<;>by_cases h2:n=m<;>simp [h1,h2]
set_option maxRecDepth 100000 in
theorem Ae1 (v:Br) (x:Ct):A7 Tryz.prog A9 80 [vwA v,boA x] (.val (.bool (Df v.held x))) []:=by
 refine A7.of (n:=28) (rs:=[.tmp 4]) Tryz.func80 rfl (by kernel_rfl) Tryz.ntmps80 (by kernel_rfl) (by simp) (fun _ _=>A9.later) ?_
 intro hok V w0
 obtain ⟨B,hB⟩ : ∃ B,Df v.held x=B:=⟨_,rfl⟩
 rw [hB]
 unfold Df Ac9 at hB
 have hat:=Bh8 v.held x.object
 cases hg:E6 v.held x.object with
 | none =>
  rw [hg] at hB hat
  refine g ?_
  repeat' (first | refine st_ rfl (g ?_) | refine Ab (hat) rfl (g ?_))
  exact hB
 | some w =>
  rw [hg] at hB hat
  simp only [Option.getD_some,Option.isSome_some] at hat hB
  rw [Wt] at hB
  refine g ?_
  repeat' (first | refine st_ rfl (g ?_) | refine Ab (hat) rfl (g ?_))
  refine ⟨_,fun u=>Zp _ _ _ _ _ _ u,?_⟩
  refine g ?_
  repeat' (first | refine st_ rfl (g ?_) | refine Am (g ?_) | (refine G9 rfl rfl (fun h=>?_) (fun h=>?_)<;>simp only [h]<;>refine g ?_))
  ·rw [<-hB,h];simp
  ·rw [<-hB,h];simp
end Go.Proofs.YthlgnjlpakimaaaGreatDoor
namespace Go.Proofs.YthlgnjlpakimaaaGreatDoor
open Go.ChangeShapes Go.WideShapes Go.ChangeAt Go.RowKit
attribute [local irreducible] AW AWY Cf Bf vop Bw Bh Bx qop Cg Cz Az Aw C5 A7 Bl Cj
attribute [local go_sem] Jl Jo Hw Mx Fa Ee Jp Gd Gn Fl Ap Ar
set_option maxRecDepth 100000 in
theorem Xx (l:List Ai) (x:Ct) (hf:Bk l=true):A7 Tryz.prog A9 55 [.iv (wrI l),boA x] (.val (.bool (Df l x))) []:=by
 refine A7.of (n:=28) (rs:=[.tmp 4]) Tryz.func55 rfl (by kernel_rfl) Tryz.ntmps55 (by kernel_rfl) (by simp) (fun _ _=>A9.later) ?_
 intro hok V w0
 obtain ⟨B,hB⟩ : ∃ B,Df l x=B:=⟨_,rfl⟩
 rw [hB]
 unfold Df Ac9 at hB
 have hat:=Zx l x.object
 unfold A66 at hat
 rw [if_pos hf] at hat
 cases hg:E6 l x.object with
 | none =>
  rw [hg] at hB hat
  refine g ?_
  repeat' (first | refine st_ rfl (g ?_) | refine Ab (hat) rfl (g ?_))
  exact hB
 | some w =>
  rw [hg] at hB hat
  simp only at hat hB
  rw [Wt] at hB
  refine g ?_
  repeat' (first | refine st_ rfl (g ?_) | refine Ab (hat) rfl (g ?_))
  refine ⟨_,fun u=>Zp _ _ _ _ _ _ u,?_⟩
  refine g ?_
  repeat' (first | refine st_ rfl (g ?_) | refine Am (g ?_) | (refine G9 rfl rfl (fun h=>?_) (fun h=>?_)<;>simp only [h]<;>refine g ?_))
  ·rw [<-hB,h];simp
  ·rw [<-hB,h];simp
set_option maxRecDepth 100000 in
theorem Ab3 (l:List Ct) (f:FuncId) (C:List IV) (p:Ct->Bool) (hp:∀ x,A7 Tryz.prog A9 f [boA x,.ip C] (.val (.bool (p x))) []):A7 Tryz.prog A9 53 [.iv (boI l),.fn f [.ip C]] (.val (.int .i64 (if l.any p=true then ((l.findIdx p:Nat):Int) else -1))) []:=by
 refine A7.of (n:=19) (rs:=[.tmp 4]) Tryz.func53 rfl (by kernel_rfl) Tryz.ntmps53 (by kernel_rfl) (by simp) (fun _ _=>A9.later) ?_
 intro hok V w0
 have hlen:l.length<=1073741824:=by simpa [boI] using hok.1.1
 refine g ?_
 repeat' refine st_ rfl (g ?_)
 refine AW.loop (fun m:{m:Nat // m<=l.length/\∀ x∈l.take m,p x=false}=>⟨[(0,.iv (boI l)),(1,.fn f [.ip C]),(7,.val (.int .i64 (l.length:Nat))),(8,.val (.int .i64 (m.1:Nat)))],[]⟩) (fun m=>l.length - m.1) ⟨0,Nat.zero_le _,fun x hx=>by simp at hx⟩ id ⟨⟨rfl,rfl,rfl,rfl,trivial⟩,trivial,List.nodup_nil⟩ fun ⟨m,hm,ht⟩=>?_
 refine g ?_
 repeat' (first | refine st_ rfl (g ?_) | refine Bq (fun h=>g ?_) (fun h=>g ?_) | refine C9 (fun h=>g ?_) (fun h=>g ?_) | refine ix_ (by omega) (g ?_) | refine Ab (hp _) rfl (g ?_))
 ·have hlt:m < l.length:=by omega
  rw [if_pos (List.any_eq_true.2 ⟨_,List.getElem_mem hlt,h⟩),(List.findIdx_eq hlt).2 ⟨h,fun j hj=>ht _ (List.mem_take_iff_getElem.2 ⟨j,by omega,rfl⟩)⟩]
 ·refine ⟨⟨m+1,by omega,fun x hx=>?_⟩,id,⟨⟨rfl,rfl,rfl,rfl,trivial⟩,trivial,List.nodup_nil⟩,by show l.length - (m+1) < l.length - m;omega⟩
  rw [List.take_succ_eq_append_getElem (by omega)] at hx
  rcases List.mem_append.1 hx with h1 | h1
  ·exact ht x h1
  ·rw [List.mem_singleton.1 h1];exact h
 ·obtain rfl:m=l.length:=by omega
  rw [List.take_length] at ht
  rw [if_neg]
  rw [List.any_eq_true]
  rintro ⟨x,hx,hp⟩
  rw [ht x hx] at hp
  cases hp
theorem Az9 (l:List Ct) (f:FuncId) (C:List IV) (p:Ct->Bool) (hp:∀ x,A7 Tryz.prog A9 f [boA x,.ip C] (.val (.bool (p x))) []):A7 Tryz.prog A9 115 [.iv (boI l),.fn f [.ip C]] (.val (.bool (l.any p))) []:=by
 refine A7.of (n:=9) (rs:=[.tmp 4]) Tryz.func115 rfl (by kernel_rfl) Tryz.ntmps115 (by kernel_rfl) (by simp) (fun _ _=>A9.later) ?_
 intro hok V w0
 have h1:=Ab3 l f C p hp
 cases ha:l.any p with
 | true =>
  rw [if_pos ha] at h1
  refine g ?_
  repeat' (first | refine st_ rfl (g ?_) | refine Ab (h1) rfl (g ?_))
  exact decide_eq_true (by omega)
 | false =>
  rw [if_neg (by rw [ha];decide)] at h1
  refine g ?_
  repeat' (first | refine st_ rfl (g ?_) | refine Ab (h1) rfl (g ?_))
  rfl
theorem Af9 (v:Br) (x:Ct) (hf:Bk v.held=true):A7 Tryz.prog A9 116 [boA x,.ip [stI v.known,znI v.zones,wrI v.held,boI v.bodies,.val (.int .i64 v.room)]] (.val (.bool (!Df v.held x))) []:=by
 refine A7.of (n:=9) (rs:=[.tmp 3]) Tryz.func116 rfl (by kernel_rfl) Tryz.ntmps116 (by kernel_rfl) (by simp) (fun _ _=>A9.later) ?_
 intro hok V w0
 refine g ?_
 repeat' (first | refine st_ rfl (g ?_) | exact trivial | refine Ab (Xx _ x hf) rfl (g ?_))
end Go.Proofs.YthlgnjlpakimaaaGreatDoor
namespace Go.Proofs.YthlgnjlpakimaaaGreatDoor
open Go.ChangeShapes Go.WideShapes Go.ChangeAt Go.RowKit
attribute [local irreducible] AW AWY Cf Bf vop Bw Bh Bx qop Cg Cz Az Aw C5 A7 Bl Cj
attribute [local go_sem] Fa Ee Jp Ap Ar
theorem Zz (l:List Ai):A7 Tryz.prog A9 114 [.iv (wrI l)] (.fn 184 [.ip [wrI l]]) []:=by
 have h:A7 Tryz.prog A9 114 [.iv (wrI l)] (.fn 184 [.bp 0 0]) [.box 0 [.iv (wrI l)]]:=by
  refine A7.of (n:=4) (rs:=[.tmp 2]) Tryz.func114 rfl (by kernel_rfl) Tryz.ntmps114 (by kernel_rfl) (by simp) (fun _ _=>A9.later) ?_
  intro hok V w0
  refine g ?_
  repeat' refine st_ rfl (g ?_)
  exact ⟨fun b=>200+100*b,rfl,rfl,by simp⟩
 exact h.frz ⟨trivial,trivial⟩
def Bz3 (w:Ai):List AV:=[.val (.int .i64 w.object),wA w]
theorem Zy (l:List Ai) (hf:Bk l=true):Bl Tryz.prog A9 184 [.ip [wrI l]] Bz3 (fun ys=>ys=l) (fun pre=>pre <+: l):=by
 refine Bl.of (n:=21) Tryz.func184 rfl (by kernel_rfl) Tryz.ntmps184 (by kernel_rfl) (by simp) (fun _ _=>A9.later) ?_
 intro hok Y
 have hlen:l.length<=1073741824:=by simpa [wrI] using hok.1.1.1
 have h1:=Gl l
 rw [hf] at h1
 refine g ?_
 refine g ?_
 repeat' refine Gs rfl (g ?_)
 refine Ab h1 rfl ?_
 refine g ?_
 repeat' refine Gs rfl (g ?_)
 refine AWY.loop (fun i:{i:Nat // i<=l.length}=>(.going (l.take i.1),⟨[(0,.val (.func (.yield Y.l) #[] #[])),(8,.iv (wrI l)),(9,.val (.int .i64 (l.length:Nat))),(10,.val (.int .i64 (i.1:Nat)))],[]⟩)) (fun i=>l.length - i.1) ⟨0,Nat.zero_le _⟩ id ⟨rfl,⟨rfl,rfl,rfl,rfl,trivial⟩,trivial,List.nodup_nil⟩ fun ⟨i,hi⟩=>?_
 refine g ?_
 repeat' (first | refine Gs rfl (g ?_) | refine C9 (fun h=>g ?_) (fun h=>g ?_))
 ·have hlt:i < l.length:=by simpa using h
  obtain ⟨-,o1,o2,o3,o4,-⟩:=En (by simpa [wrI] using hok.1.1.2) (enW l[i]) (List.mem_map_of_mem (List.getElem_mem hlt))
  have hs:l.take i++[l[i]]=l.take (i+1):=(List.take_succ_eq_append_getElem hlt).symm
  refine ⟨by omega,_,Cb (List.getElem?_eq_getElem hlt),?_⟩
  refine g ?_
  repeat' (first | refine Gs rfl (g ?_) | refine Am (g ?_))
  refine Q7 (x:=l[i]) ?_ ?_ ?_ ?_
  ·rfl
  ·exact Sbs.rfl_ _
  ·rw [hs];exact List.take_prefix _ _
  simp only [go_sem]
  rw [hs]
  refine ⟨⟨o1,o2,o3,o4,trivial⟩,?_,?_⟩
  ·refine g ?_
   repeat' refine Gs rfl (g ?_)
   exact ⟨⟨i+1,hlt⟩,id,rfl,⟨⟨rfl,rfl,rfl,rfl,trivial⟩,trivial,List.nodup_nil⟩,by show l.length - (i+1) < l.length - i;omega⟩
  ·refine g ?_
   repeat' (first | refine Gs rfl (g ?_) | exact trivial)
 ·have hle:l.length<=i:=by simpa using h
  exact ⟨.inr trivial,List.take_of_length_le hle⟩
end Go.Proofs.YthlgnjlpakimaaaGreatDoor
