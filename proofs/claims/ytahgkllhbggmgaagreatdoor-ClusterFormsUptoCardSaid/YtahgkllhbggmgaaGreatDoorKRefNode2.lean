/- Two nodes compared (the reference's). -/
import Derived.Test.YtahgkllhbggmgaaGreatDoorKNodeMade
import Derived.Test.YtahgkllhbggmgaaGreatDoorKReached
import Derived.Test.YtahgkllhbggmgaaGreatDoorKPlace
import Derived.Test.YtahgkllhbggmgaaGreatDoorKViewMade
import Derived.Test.YtahgkllhbggmgaaGreatDoorKRefLog
import Derived.Test.YtahgkllhbggmgaaGreatDoorKSubsForm
import Derived.Test.YtahgkllhbggmgaaGreatDoorKOuts
import Derived.Test.YtahgkllhbggmgaaGreatDoorKCluSpec
import Derived.Test.YtahgkllhbggmgaaGreatDoorKDisk
import Derived.Test.YtahgkllhbggmgaaGreatDoorKZones
import Derived.Test.YtahgkllhbggmgaaGreatDoorKSess
set_option linter.all false
set_option linter.unnecessarySimpa false
set_option linter.unusedSimpArgs false
set_option linter.unusedVariables false
namespace Go.Proofs.YtahgkllhbggmgaaGreatDoor
open Go.ChangeShapes Go.WideShapes Go.ChangeAt Go.RowKit
attribute [local irreducible] AW AWY Bd As vop B4 Ap Aw qop Bc Bs Ai Ag Ay A7 Av
attribute [local go_sem] Y7 Dg Sv Mi L9 Gm J9 L6 N6 Kl Nm Fx Fs Es Dx Ek Cr Qy Ae Af
theorem Bj8 (me room bodies e:Int):Em (.tup [.agg [.val (.int .i64 me),.val (.slice none 0 0),.val (.slice none 0 0),.val (.slice none 0 0),.val (.slice none 0 0),.val (.int .i64 bodies),.val (.slice none 0 0),.val (.slice none 0 0),.val (.int .i64 0),.val (.slice none 0 0),.val (.slice none 0 0),.val (.int .i64 0),.val (.slice none 0 0),.val (.int .i64 room),.val (.slice none 0 0),.val (.bool false)],.val (.int .i64 e)]) (.tup [ndA ⟨me,⟨[],[],[],[],bodies⟩,Yn,[],[],0,[],⟨room,[]⟩,false⟩,.val (.int .i64 e)]):=by
 refine Lz rfl fun p hp=>?_
 simp only [List.zip_cons_cons,List.zip_nil_right,List.mem_cons,List.not_mem_nil,or_false] at hp
 rcases hp with rfl | rfl
 ·rw [J9,Gm]
  refine L0 rfl fun p hp=>?_
  simp only [List.zip_cons_cons,List.zip_nil_right,List.mem_cons,List.not_mem_nil,or_false] at hp
  rcases hp with rfl | rfl | rfl | rfl | rfl | rfl | rfl | rfl | rfl | rfl | rfl | rfl | rfl | rfl | rfl | rfl
  all_goals first
   | exact Em.rfl_ _
   | exact Bx _
 ·exact Em.rfl_ _
set_option maxRecDepth 100000 in
set_option maxHeartbeats 1600000 in
theorem Ak0 (me room bodies : Int) : A7 Tryz.prog A8 24 [.val (.int .i64 me), .val (.int .i64 room), .val (.int .i64 bodies)] (.tup [ndA (K1 me room bodies).1, .val (.int .i64 (K1 me room bodies).2)]) [] := by
  refine A7.ofS (n := 37) (rs := [.cell 6 67, .tmp 7]) Tryz.func24 rfl (by kernel_rfl) Tryz.ntmps24 (by kernel_rfl) (by simp) (fun _ _ => A8.later) ?_
  intro hok V w0
  obtain ⟨R, hR⟩ : ∃ R, K1 me room bodies = R := ⟨_, rfl⟩
  rw [hR]
  unfold K1 Jg at hR
  refine g ?_
  repeat' (first | refine st_ rfl (g ?_) | refine Aj (fun h => g ?_) (fun h => g ?_) | (refine B7 rfl rfl (fun h e => ?_) (fun h e => ?_) <;> simp only [e] <;> clear e <;> refine g ?_))
  all_goals first
    | (rw [if_neg (by simp only [Bool.and_eq_true, decide_eq_true_eq]; omega)] at hR
       subst hR
       exact A19 _ rfl _)
    | (rw [if_pos (by simp only [Bool.and_eq_true, decide_eq_true_eq]; omega)] at hR
       subst hR
       exact Bj8 _ _ _ _)
theorem Bj6 {l:List Sub} {p:Sub->Bool} {m:Nat} (hm:m < l.length) (h:p l[m]=true) (ht:∀ x∈l.take m,p x=false):(if l.any p=true then ((l.findIdx p:Nat):Int) else -1)=(m:Int):=by
 rw [if_pos (List.any_eq_true.2 ⟨_,List.getElem_mem hm,h⟩),(List.findIdx_eq hm).2 ⟨h,fun j hj=>ht _ (List.mem_take_iff_getElem.2 ⟨j,by omega,rfl⟩)⟩]
theorem Bj5 {l:List Sub} {p:Sub->Bool} (ht:∀ x∈l,p x=false):(if l.any p=true then ((l.findIdx p:Nat):Int) else -1)=-1:=by
 rw [if_neg]
 rw [List.any_eq_true]
 rintro ⟨x,hx,hp⟩
 rw [ht x hx] at hp
 cases hp
set_option maxRecDepth 100000 in
set_option maxHeartbeats 1600000 in
theorem Ax5 (n:En) (f:Int) (hI:Fv n):A7 Tryz.prog A8 82 [ndA n,.val (.int .i64 f)] (.val (.int .i64 (A74 n.subs f))) []:=by
 refine A7.of (n:=22) (rs:=[.tmp 4]) Tryz.func82 rfl (by kernel_rfl) Tryz.ntmps82 (by kernel_rfl) (by simp) (fun _ _=>A8.later) ?_
 intro hok V w0
 obtain ⟨iM,iR,iS,iT,iD⟩:=hI
 have hu:AV.okd (.iv (Hu n.subs)):=hok.1.2.2.2.2.2.2.2.2.2.2.1
 have hlen:n.subs.length<=1073741824:=by simpa using hu.1
 refine g ?_
 refine AW.seq ?_
 refine AW.reg rfl fun KK hKK=>?_
 refine g ?_
 repeat' (refine hKK _ (g ?_);clear hKK KK)
 refine AW.freeze 300 _ rfl ⟨iM,trivial,trivial,trivial,trivial,iR,trivial,trivial,iS,trivial,trivial,iT,trivial,iD,trivial,trivial,trivial⟩ ?_
 simp only [go_sem,reduceIte,Nat.reduceEqDiff]
 refine g ?_
 repeat' refine st_ rfl (g ?_)
 refine AW.loop (fun m:{m:Nat // m<=n.subs.length/\∀ x∈n.subs.take m,decide (x.from_=f)=false}=>⟨[(1,.val (.int .i64 f)),(2,.ip [.val (.int .i64 n.me),stI n.view.known,znI n.view.zones,wrI n.view.held,boI n.view.bodies,.val (.int .i64 n.view.room),stI n.log.base,noI n.log.notes,.val (.int .i64 n.log.sure),ouI n.outs,Hu n.subs,.val (.int .i64 n.tries),msI n.queue,.val (.int .i64 n.disk.room),flI n.disk.files,.val (.bool n.down)]),(5,.val (.int .i64 (m.1:Nat)))],[]⟩) (fun m=>n.subs.length - m.1) ⟨0,Nat.zero_le _,fun x hx=>by simp at hx⟩ id ⟨⟨rfl,rfl,rfl,trivial⟩,trivial,List.nodup_nil⟩ fun ⟨m,hm,ht⟩=>?_
 simp only
 repeat (refine AW.seq ?_)
 refine AW.reg rfl fun KK hKK=>?_
 refine g ?_
 repeat' (refine hKK _ (g ?_);clear hKK KK)
 repeat (refine AW.seq ?_)
 refine st_ rfl ?_
 refine g ?_
 refine Aj (fun h=>?_) (fun h=>?_)
 ·have hlt:m < n.subs.length:=by omega
  have hget:=Dv (f:=Wm) (List.getElem?_eq_getElem hlt)
  refine st_ rfl (g ?_)
  refine g ?_
  repeat' (first | refine st_ rfl (g ?_) | refine Aj (fun h=>g ?_) (fun h=>g ?_) | refine ix_ (by omega) (g ?_))
  ·have h2:n.subs[m].from_=f:=by simpa using h
   exact (Bj6 hlt (by simpa using h2) ht).symm
  ·have h2:¬ n.subs[m].from_=f:=by simpa using h
   refine ⟨⟨m+1,by omega,fun x hx=>?_⟩,id,⟨⟨rfl,rfl,rfl,trivial⟩,trivial,List.nodup_nil⟩,by show n.subs.length - (m+1) < n.subs.length - m;omega⟩
   rw [List.take_succ_eq_append_getElem hlt] at hx
   rcases List.mem_append.1 hx with h1 | h1
   ·exact ht x h1
   ·rw [List.mem_singleton.1 h1];simpa using h2
 ·obtain rfl:m=n.subs.length:=by omega
  rw [List.take_length] at ht
  refine AW.exit ?_
  simp only [reduceIte]
  refine g ?_
  repeat' refine st_ rfl (g ?_)
  exact (Bj5 ht).symm
end Go.Proofs.YtahgkllhbggmgaaGreatDoor
namespace Go.Proofs.YtahgkllhbggmgaaGreatDoor
open Go.ChangeShapes Go.WideShapes Go.ChangeAt Go.RowKit
theorem Bu1 {t:TypeId} {x y:Operand} {a b:ByteArray} {K:AV->Prop} (h:K (.val (.bool (decide (a=b))))):Bc Tryz.prog .eql t x y (.val (.string a)) (.val (.string b)) K:=⟨_,fun w=>by
 go_simp
 rw [ByteArray.toList_eq,ByteArray.toList_eq]
 by_cases e:a=b
 ·simp [e]
 ·rw [decide_eq_false e,beq_eq_false_iff_ne]
  exact fun h=>e (bytes_inj h),h⟩
theorem Aw7:∀ {a b:List Nat},(∀ x∈a,x < 256)->(∀ x∈b,x < 256)->(T7 a=T7 b↔a=b):=fun {a b} ha hb=>by
 refine ⟨fun h=>?_,fun h=>h ▸ rfl⟩
 unfold T7 strOfNums at h
 injection h with h
 have h:=congrArg Array.toList h
 simp only [List.map_map] at h
 have key:∀ {a b:List Nat},(∀ x∈a,x < 256)->(∀ x∈b,x < 256)->a.map (fun n=>UInt8.ofNat n)=b.map (fun n=>UInt8.ofNat n)->a=b:=by
  intro a
  induction a with
  | nil=>intro b _ _ h;cases b with
   | nil=>rfl
   | cons _ _=>cases h
  | cons x a ih=>intro b ha hb h;cases b with
   | nil=>cases h
   | cons y b =>
    injection h with h1 h2
    have e:=congrArg UInt8.toNat h1
    have p:=ha x (by simp)
    have q:=hb y (by simp)
    simp only [UInt8.toNat_ofNat'] at e
    rw [ih (fun z hz=>ha z (by simp [hz])) (fun z hz=>hb z (by simp [hz])) h2]
    congr 1
    omega
 exact key ha hb (by simpa [Function.comp_def] using h)
attribute [local irreducible] AW AWY Bd As vop B4 Ap Aw qop Bc Bs Ai Ag Ay A7 Av Et
attribute [local go_sem] F8 Dg Ae Af
theorem Br3 {a:List Nat} (h:AV.okd (.iv (byI a))):∀ x∈a,x < 256:=fun x hx=>by
 have h2:=P3 (by simpa [byI] using h.2) [IV.val (.int .u8 x)] (List.mem_map_of_mem (f:=fun (b:Nat)=>[IV.val (.int .u8 (b:Int))]) hx)
 have h3:(Lit.int .u8 (x:Int)).wf=true:=h2.2.1
 simp [Lit.wf,IntKind.max,IntKind.min,IntKind.signed,IntKind.bits] at h3
 omega
set_option maxRecDepth 100000 in
theorem Rb (a b:List Nat):A7 Tryz.prog A8 84 [.iv (byI a),.iv (byI b)] (.val (.bool (decide (a=b)))) []:=by
 refine A7.of (n:=10) (rs:=[.tmp 4]) Tryz.func84 rfl (by kernel_rfl) Tryz.ntmps84 (by kernel_rfl) (by simp) (fun _ _=>A8.later) ?_
 intro hok V w0
 obtain ⟨B,hB⟩ : ∃ B,decide (a=b)=B:=⟨_,rfl⟩
 rw [hB]
 refine g ?_
 repeat' refine st_ rfl (g ?_)
 refine ⟨a,rfl,Bt ?_⟩
 refine g ?_
 refine ⟨b,rfl,Bt ?_⟩
 refine g ?_
 refine Bu1 ?_
 refine g ?_
 repeat' refine st_ rfl (g ?_)
 rw [<-hB]
 exact decide_eq_decide.2 (Aw7 (Br3 hok.1) (Br3 hok.2.1))
set_option maxRecDepth 100000 in
theorem Re (x y:Ci):A7 Tryz.prog A8 355 [boA x,boA y] (.val (.bool (decide (x=y)))) []:=by
 refine A7.of (n:=24) (rs:=[.tmp 4]) Tryz.func355 rfl (by kernel_rfl) Tryz.ntmps355 (by kernel_rfl) (by simp) (fun _ _=>A8.later) ?_
 intro hok V w0
 obtain ⟨B,hB⟩ : ∃ B,decide (x=y)=B:=⟨_,rfl⟩
 rw [hB]
 obtain ⟨xo,⟨xc,xn⟩,xv⟩:=x
 obtain ⟨yo,⟨yc,yn⟩,yv⟩:=y
 refine g ?_
 repeat' (first | refine st_ rfl (g ?_) | (refine B7 rfl rfl (fun h e=>?_) (fun h e=>?_)<;>simp only [e]<;>clear e<;>refine g ?_))
 ·refine ⟨_,fun u=>Qx _ _ _ _ _ _ u,?_⟩
  refine g ?_
  repeat' (first | refine st_ rfl (g ?_) | refine Bt (g ?_) | (refine Dm rfl rfl (fun h=>?_) (fun h=>?_)<;>simp only [h]<;>refine g ?_) | refine Aa (Rb _ _) rfl (g ?_))
  ·rw [<-hB]
   have h3:xc=yc/\xn=yn:=by simpa using h
   rename_i h1
   rw [h1,h3.1,h3.2]
   simp
  ·rw [<-hB]
   refine (decide_eq_false ?_).symm
   intro e
   injection e with e1 e2 e3
   injection e2 with e4 e5
   simp [e4,e5] at h
 ·rw [<-hB]
  refine (decide_eq_false ?_).symm
  intro e
  injection e with e1
  exact h e1
end Go.Proofs.YtahgkllhbggmgaaGreatDoor
namespace Go.Proofs.YtahgkllhbggmgaaGreatDoor
open Go.ChangeShapes Go.WideShapes Go.ChangeAt Go.RowKit
attribute [local irreducible] AW AWY Bd As vop B4 Ap Aw qop Bc Bs Ai Ag Ay A7 Av
attribute [local go_sem] He Ek F8 Ei Cr Je Fz Dx Es Cp Ae Af
end Go.Proofs.YtahgkllhbggmgaaGreatDoor
namespace Go.Proofs.YtahgkllhbggmgaaGreatDoor
open Go.ChangeShapes Go.WideShapes Go.ChangeAt Go.RowKit
attribute [local irreducible] AW AWY Bd As vop B4 Ap Aw qop Bc Bs Ai Ag Ay A7 Av
attribute [local go_sem] He Ek F8 Ei Cr Je Fz Dx Es Cp Ae Af
end Go.Proofs.YtahgkllhbggmgaaGreatDoor
namespace Go.Proofs.YtahgkllhbggmgaaGreatDoor
open Go.ChangeShapes Go.WideShapes Go.ChangeAt Go.RowKit
attribute [local irreducible] AW AWY Bd As vop B4 Ap Aw qop Bc Bs Ai Ag Ay A7 Av
attribute [local go_sem] Dg He Ek F8 Ei Cr Je Fz Dx Es Cp Ae Af
def Dl2 (q:C17):AV:=.tup [vwA q.view,Py q.note,.val (.int .i64 q.err)]
end Go.Proofs.YtahgkllhbggmgaaGreatDoor
namespace Go.Proofs.YtahgkllhbggmgaaGreatDoor
open Go.ChangeShapes Go.WideShapes Go.ChangeAt Go.RowKit
attribute [local irreducible] AW AWY Bd As vop B4 Ap Aw qop Bc Bs Ai Ag Ay A7 Av
attribute [local go_sem] He Ek F8 Ei Cr Je Fz Dx Es Ae Af
theorem Bh6 (x y:Operand) (p q:Int) (w:World):(do eqGuard .neq 89 x y (.agg #[.int .i64 p,.int .i64 q]) (.agg #[.int .i64 p,.int .i64 q]);binOp .neq 89 (.agg #[.int .i64 p,.int .i64 q]) (.agg #[.int .i64 p,.int .i64 q]):Sem Value).run Tryz.prog w=.ok (.bool false) w:=by
 go_simp
theorem B39 (x y:Operand) (p q r:Int) (b:Bool) (w:World):(do eqGuard .neq 128 x y (.agg #[.int .i64 p,.int .i64 q,.int .i64 r,.bool b]) (.agg #[.int .i64 p,.int .i64 q,.int .i64 r,.bool b]);binOp .neq 128 (.agg #[.int .i64 p,.int .i64 q,.int .i64 r,.bool b]) (.agg #[.int .i64 p,.int .i64 q,.int .i64 r,.bool b]):Sem Value).run Tryz.prog w=.ok (.bool false) w:=by
 go_simp
set_option maxRecDepth 100000 in
set_option maxHeartbeats 800000 in
theorem Rc (l:List Ci):A7 Tryz.prog A8 274 [.iv (boI l),.iv (boI l)] (.val (.bool true)) []:=by
 refine A7.of (n:=27) (rs:=[.tmp 4]) Tryz.func274 rfl (by kernel_rfl) Tryz.ntmps274 (by kernel_rfl) (by simp) (fun _ _=>A8.later) ?_
 intro hok V w0
 have hlen:l.length<=1073741824:=by simpa [boI] using hok.1.1
 refine g ?_
 repeat' refine st_ rfl (g ?_)
 refine AW.loop (fun i:{i:Nat // i<=l.length}=>⟨[(0,.iv (boI l)),(1,.iv (boI l)),(5,.val (.int .i64 (i.1:Nat)))],[]⟩) (fun i=>l.length - i.1) ⟨0,Nat.zero_le _⟩ id ⟨⟨rfl,rfl,rfl,trivial⟩,trivial,List.nodup_nil⟩ fun ⟨i,hi⟩=>?_
 refine g ?_
 repeat' (first | refine st_ rfl (g ?_) | exact trivial | refine Aj (fun h=>g ?_) (fun h=>g ?_))
 have hlt:i < l.length:=by omega
 have hg:=Dv (f:=enB) (List.getElem?_eq_getElem hlt)
 have hsame:=Re l[i] l[i]
 rw [decide_eq_true rfl] at hsame
 refine AW.drawn (ds:=[17,18,19,20,21,22,23,24,25,26]) (fin:=[]) (bs:=[0,0,0,0,0,0,0,0,0,0]) [⟨[],[],[],[],0⟩,⟨[],[],[],[],0⟩,⟨[(17,0),(18,1)],[],[],[],0⟩,⟨[(19,2)],[],[],[],0⟩,⟨[],[],[],[],0⟩,⟨[],[],[],[],0⟩,⟨[(21,4),(22,5)],[],[],[],0⟩,⟨[(23,6)],[],[],[],0⟩,⟨[(20,3),(24,7)],[],[],[],0⟩,⟨[(25,8)],[],[],[],0⟩] (by kernel_rfl) rfl (by kernel_rfl) rfl rfl rfl fun KD hKD=>?_
 refine g ?_
 repeat' (first | refine st_ rfl (g ?_) | (refine hKD _ _ ⟨rfl,g ?_⟩;clear hKD KD) | refine ix_ (by omega) (g ?_) | refine Aa (hsame) rfl (g ?_))
 exact ⟨⟨i+1,hlt⟩,id,⟨⟨rfl,rfl,rfl,trivial⟩,trivial,List.nodup_nil⟩,by show l.length - (i+1) < l.length - i;omega⟩
set_option maxRecDepth 100000 in
set_option maxHeartbeats 800000 in
theorem Tc (l:List Aq):A7 Tryz.prog A8 273 [.iv (wrI l),.iv (wrI l)] (.val (.bool true)) []:=by
 refine A7.of (n:=26) (rs:=[.tmp 4]) Tryz.func273 rfl (by kernel_rfl) Tryz.ntmps273 (by kernel_rfl) (by simp) (fun _ _=>A8.later) ?_
 intro hok V w0
 have hlen:l.length<=1073741824:=by simpa [wrI] using hok.1.1
 refine g ?_
 repeat' refine st_ rfl (g ?_)
 refine AW.loop (fun i:{i:Nat // i<=l.length}=>⟨[(0,.iv (wrI l)),(1,.iv (wrI l)),(5,.val (.int .i64 (i.1:Nat)))],[]⟩) (fun i=>l.length - i.1) ⟨0,Nat.zero_le _⟩ id ⟨⟨rfl,rfl,rfl,trivial⟩,trivial,List.nodup_nil⟩ fun ⟨i,hi⟩=>?_
 refine g ?_
 repeat' (first | refine st_ rfl (g ?_) | exact trivial | refine Aj (fun h=>g ?_) (fun h=>g ?_))
 have hlt:i < l.length:=by omega
 have hg:=Dv (f:=enW) (List.getElem?_eq_getElem hlt)
 refine AW.drawn (ds:=[17,18,19,20,21,22,23,24,25]) (fin:=[]) (bs:=[0,0,0,0,0,0,0,0,0]) [⟨[],[],[],[],0⟩,⟨[],[],[],[],0⟩,⟨[(17,0),(18,1)],[],[],[],0⟩,⟨[(19,2)],[],[],[],0⟩,⟨[],[],[],[],0⟩,⟨[],[],[],[],0⟩,⟨[(21,4),(22,5)],[],[],[],0⟩,⟨[(23,6)],[],[],[],0⟩,⟨[(20,3),(24,7)],[],[],[],0⟩] (by kernel_rfl) rfl (by kernel_rfl) rfl rfl rfl fun KD hKD=>?_
 refine g ?_
 repeat' refine ix_ (by omega) (g ?_)
 refine ⟨_,fun u=>B39 _ _ _ _ _ _ u,?_⟩
 refine g ?_
 repeat' (first | refine st_ rfl (g ?_) | refine Bt (g ?_) | (refine hKD _ _ ⟨rfl,g ?_⟩;clear hKD KD))
 exact ⟨⟨i+1,hlt⟩,id,⟨⟨rfl,rfl,rfl,trivial⟩,trivial,List.nodup_nil⟩,by show l.length - (i+1) < l.length - i;omega⟩
set_option maxRecDepth 100000 in
set_option maxHeartbeats 800000 in
theorem Tb (l:List Bi):A7 Tryz.prog A8 272 [.iv (znI l),.iv (znI l)] (.val (.bool true)) []:=by
 refine A7.of (n:=42) (rs:=[.tmp 4]) Tryz.func272 rfl (by kernel_rfl) Tryz.ntmps272 (by kernel_rfl) (by simp) (fun _ _=>A8.later) ?_
 intro hok V w0
 have hlen:l.length<=1073741824:=by simpa [znI] using hok.1.1
 refine g ?_
 repeat' refine st_ rfl (g ?_)
 refine AW.loop (fun i:{i:Nat // i<=l.length}=>⟨[(0,.iv (znI l)),(1,.iv (znI l)),(5,.val (.int .i64 (i.1:Nat)))],[]⟩) (fun i=>l.length - i.1) ⟨0,Nat.zero_le _⟩ id ⟨⟨rfl,rfl,rfl,trivial⟩,trivial,List.nodup_nil⟩ fun ⟨i,hi⟩=>?_
 refine g ?_
 repeat' (first | refine st_ rfl (g ?_) | exact trivial | refine Aj (fun h=>g ?_) (fun h=>g ?_))
 have hlt:i < l.length:=by omega
 have hg:=Dv (f:=enZ) (List.getElem?_eq_getElem hlt)
 have hsame:=Ep l[i].vec l[i].vec
 rw [decide_eq_true rfl] at hsame
 refine AW.drawn (ds:=[17,18,19,20,21,22,23,24,25,26,27,28,29,30,31,32,33,34,35,36,37,38,39,40,41]) (fin:=[]) (bs:=[0,0,0,0,0,0,0,0,0,0,0,0,0,0,0,0,0,0,0,0,0,0,0,0,0]) [⟨[],[],[],[],0⟩,⟨[],[],[],[],0⟩,⟨[(17,0),(18,1)],[],[],[],0⟩,⟨[(19,2)],[],[],[],0⟩,⟨[(20,3)],[],[],[],0⟩,⟨[],[],[],[],0⟩,⟨[],[],[],[],0⟩,⟨[(22,5),(23,6)],[],[],[],0⟩,⟨[(24,7)],[],[],[],0⟩,⟨[(25,8)],[],[],[],0⟩,⟨[(21,4),(26,9)],[],[],[],0⟩,⟨[(27,10)],[],[],[],0⟩,⟨[],[],[],[],0⟩,⟨[],[],[],[],0⟩,⟨[(29,12),(30,13)],[],[],[],0⟩,⟨[(31,14)],[],[],[],0⟩,⟨[(32,15)],[],[],[],0⟩,⟨[],[],[],[],0⟩,⟨[],[],[],[],0⟩,⟨[(34,17),(35,18)],[],[],[],0⟩,⟨[(36,19)],[],[],[],0⟩,⟨[(37,20)],[],[],[],0⟩,⟨[(33,16),(38,21)],[],[],[],0⟩,⟨[(39,22)],[],[],[],0⟩,⟨[(28,11),(40,23)],[],[],[],0⟩] (by kernel_rfl) rfl (by kernel_rfl) rfl rfl rfl fun KD hKD=>?_
 refine g ?_
 repeat' refine ix_ (by omega) (g ?_)
 refine ⟨_,fun u=>Bh6 _ _ _ _ u,?_⟩
 refine g ?_
 repeat' (first | refine st_ rfl (g ?_) | refine Bt (g ?_) | (refine hKD _ _ ⟨rfl,g ?_⟩;clear hKD KD) | refine ix_ (by omega) (g ?_) | refine Aa (hsame) rfl (g ?_))
 exact ⟨⟨i+1,hlt⟩,id,⟨⟨rfl,rfl,rfl,trivial⟩,trivial,List.nodup_nil⟩,by show l.length - (i+1) < l.length - i;omega⟩
set_option maxRecDepth 100000 in
set_option maxHeartbeats 800000 in
theorem Zt (v:Gb) (iR:I64 v.room):A7 Tryz.prog A8 149 [vwA v,vwA v] (.val (.bool true)) []:=by
 refine A7.of (n:=38) (rs:=[.tmp 4]) Tryz.func149 rfl (by kernel_rfl) Tryz.ntmps149 (by kernel_rfl) (by simp) (fun _ _=>A8.later) ?_
 intro hok V w0
 have hs:=Ep v.known v.known
 rw [decide_eq_true rfl] at hs
 refine g ?_
 refine AW.seq ?_
 refine AW.reg rfl fun KK hKK=>?_
 refine g ?_
 repeat' (refine hKK _ (g ?_);clear hKK KK)
 refine AW.freeze 300 _ rfl ⟨trivial,trivial,trivial,trivial,iR,trivial⟩ ?_
 simp only [go_sem,reduceIte,Nat.reduceEqDiff]
 refine AW.freeze 400 _ rfl ⟨trivial,trivial,trivial,trivial,iR,trivial⟩ ?_
 simp only [go_sem,reduceIte,Nat.reduceEqDiff]
 refine g ?_
 repeat' (first | refine st_ rfl (g ?_) | refine Aa (hs) rfl (g ?_) | refine Aa (Tb _) rfl (g ?_) | refine Aa (Tc _) rfl (g ?_) | refine Aa (Rc _) rfl (g ?_))
 exact decide_eq_true trivial
set_option maxRecDepth 100000 in
theorem Ax9 (room:Int):A7 Tryz.prog A8 74 [.val (.int .i64 room)] (.tup [vwA (Xr room).1,.val (.int .i64 (Xr room).2)]) []:=by
 refine A7.ofS (n:=13) (rs:=[.cell 2 56,.tmp 3]) Tryz.func74 rfl (by kernel_rfl) Tryz.ntmps74 (by kernel_rfl) (by simp) (fun _ _=>A8.later) ?_
 intro hok V w0
 obtain ⟨R,hR⟩ : ∃ R,Xr room=R:=⟨_,rfl⟩
 rw [hR]
 unfold Xr Jg at hR
 refine g ?_
 repeat' (first | refine st_ rfl (g ?_) | refine Aj (fun h=>g ?_) (fun h=>g ?_) | (refine B7 rfl rfl (fun h e=>?_) (fun h e=>?_)<;>simp only [e]<;>clear e<;>refine g ?_))
 ·rw [if_neg (by simp;omega)] at hR
  exact Zg hR.symm
 ·rw [if_neg (by simp;omega)] at hR
  exact Zg hR.symm
 ·rw [if_pos (by simp;omega)] at hR
  subst hR
  exact At1 room
end Go.Proofs.YtahgkllhbggmgaaGreatDoor
namespace Go.Proofs.YtahgkllhbggmgaaGreatDoor
open Go.ChangeShapes Go.WideShapes Go.ChangeAt Go.RowKit
attribute [local irreducible] AW AWY Bd As vop B4 Ap Aw qop Bc Bs Ai Ag Ay A7 Av Et
attribute [local go_sem] K8 L6 Qg F8 Dg Ae Af
set_option maxRecDepth 100000 in
set_option maxHeartbeats 1600000 in
theorem Ak2 (x y:Msg) (e:x=y):A7 Tryz.prog A8 277 [msA x,msA y] (.val (.bool true)) []:=by
 refine A7.of (n:=66) (rs:=[.tmp 4]) Tryz.func277 rfl (by kernel_rfl) Tryz.ntmps277 (by kernel_rfl) (by simp) (fun _ _=>A8.later) ?_
 intro hok V w0
 have h3:=Re x.body y.body
 rw [decide_eq_true (congrArg Msg.body e)] at h3
 obtain ⟨a1,a2,a3,a4,a5,a6,a7,a8,⟨a9,⟨b1,b2⟩,b3⟩⟩:=x
 obtain ⟨c1,c2,c3,c4,c5,c6,c7,c8,⟨c9,⟨d1,d2⟩,d3⟩⟩:=y
 injection e with e1 e2 e3 e4 e5 e6 e7 e8 e9
 subst e8
 refine g ?_
 repeat' (first | refine st_ rfl (g ?_) | exact trivial | (refine B7 rfl rfl (fun h e=>?_) (fun h e=>?_)<;>simp only [e]<;>clear e<;>refine g ?_) | refine Aa (N0 _ _) rfl (g ?_) | refine Aa (Ep _ _) rfl (g ?_) | refine Aa (S8 _) rfl (g ?_) | refine Aa (h3) rfl (g ?_))
 all_goals contradiction
theorem A91 (x:Msg):A7 Tryz.prog A8 277 [msA x,msA x] (.val (.bool true)) []:=Ak2 x x rfl
set_option maxRecDepth 100000 in
set_option maxHeartbeats 800000 in
theorem Vh (l:List Msg):A7 Tryz.prog A8 153 [.iv (msI l),.iv (msI l)] (.val (.bool true)) []:=by
 refine A7.of (n:=27) (rs:=[.tmp 4]) Tryz.func153 rfl (by kernel_rfl) Tryz.ntmps153 (by kernel_rfl) (by simp) (fun _ _=>A8.later) ?_
 intro hok V w0
 have hlen:l.length<=1073741824:=by simpa [msI] using hok.1.1
 refine g ?_
 repeat' refine st_ rfl (g ?_)
 refine AW.loop (fun i:{i:Nat // i<=l.length}=>⟨[(0,.iv (msI l)),(1,.iv (msI l)),(5,.val (.int .i64 (i.1:Nat)))],[]⟩) (fun i=>l.length - i.1) ⟨0,Nat.zero_le _⟩ id ⟨⟨rfl,rfl,rfl,trivial⟩,trivial,List.nodup_nil⟩ fun ⟨i,hi⟩=>?_
 refine g ?_
 repeat' (first | refine st_ rfl (g ?_) | exact trivial | refine Aj (fun h=>g ?_) (fun h=>g ?_))
 have hlt:i < l.length:=by omega
 have hg:=Dv (f:=Z4) (List.getElem?_eq_getElem hlt)
 refine AW.drawn (ds:=[17,18,19,20,21,22,23,24,25,26]) (fin:=[]) (bs:=[0,0,0,0,0,0,0,0,0,0]) [⟨[],[],[],[],0⟩,⟨[],[],[],[],0⟩,⟨[(17,0),(18,1)],[],[],[],0⟩,⟨[(19,2)],[],[],[],0⟩,⟨[],[],[],[],0⟩,⟨[],[],[],[],0⟩,⟨[(21,4),(22,5)],[],[],[],0⟩,⟨[(23,6)],[],[],[],0⟩,⟨[(20,3),(24,7)],[],[],[],0⟩,⟨[(25,8)],[],[],[],0⟩] (by kernel_rfl) rfl (by kernel_rfl) rfl rfl rfl fun KD hKD=>?_
 refine g ?_
 repeat' (first | refine st_ rfl (g ?_) | (refine hKD _ _ ⟨rfl,g ?_⟩;clear hKD KD) | refine ix_ (by omega) (g ?_) | refine Aa (A91 _) rfl (g ?_))
 exact ⟨⟨i+1,hlt⟩,id,⟨⟨rfl,rfl,rfl,trivial⟩,trivial,List.nodup_nil⟩,by show l.length - (i+1) < l.length - i;omega⟩
end Go.Proofs.YtahgkllhbggmgaaGreatDoor
namespace Go.Proofs.YtahgkllhbggmgaaGreatDoor
open Go.ChangeShapes Go.WideShapes Go.ChangeAt Go.RowKit
attribute [local irreducible] AW AWY Bd As vop B4 Ap Aw qop Bc Bs Ai Ag Ay A7 Av
attribute [local go_sem] Es Fs Dg L6 K8 Qg N6 Nn Fx K7 Dx Ek Cr Ei Ae Af
set_option maxRecDepth 100000 in
theorem A86 (l:List Out):A7 Tryz.prog A8 151 [.iv (ouI l),.iv (ouI [])] (.val (.bool (decide (l.length=0)))) []:=by
 cases l with
 | nil=>exact R6 []
 | cons x l =>
  refine A7.of (n:=61) (rs:=[.tmp 4]) Tryz.func151 rfl (by kernel_rfl) Tryz.ntmps151 (by kernel_rfl) (by simp) (fun _ _=>A8.later) ?_
  intro hok V w0
  rw [show decide ((x :: l).length=0)=false from rfl]
  refine g ?_
  repeat' (first | refine st_ rfl (g ?_) | exact trivial)
set_option maxRecDepth 100000 in
theorem Ay1 (l:List Msg):A7 Tryz.prog A8 153 [.iv (msI l),.iv (msI [])] (.val (.bool (decide (l.length=0)))) []:=by
 cases l with
 | nil=>exact Vh []
 | cons x l =>
  refine A7.of (n:=27) (rs:=[.tmp 4]) Tryz.func153 rfl (by kernel_rfl) Tryz.ntmps153 (by kernel_rfl) (by simp) (fun _ _=>A8.later) ?_
  intro hok V w0
  rw [show decide ((x :: l).length=0)=false from rfl]
  refine g ?_
  repeat' (first | refine st_ rfl (g ?_) | exact trivial)
set_option maxRecDepth 100000 in
theorem Aj6 (l:List Bi):A7 Tryz.prog A8 272 [.iv (znI l),.iv (znI [])] (.val (.bool (decide (l.length=0)))) []:=by
 cases l with
 | nil=>exact Tb []
 | cons x l =>
  refine A7.of (n:=42) (rs:=[.tmp 4]) Tryz.func272 rfl (by kernel_rfl) Tryz.ntmps272 (by kernel_rfl) (by simp) (fun _ _=>A8.later) ?_
  intro hok V w0
  rw [show decide ((x :: l).length=0)=false from rfl]
  refine g ?_
  repeat' (first | refine st_ rfl (g ?_) | exact trivial)
set_option maxRecDepth 100000 in
theorem B70 (l:List Aq):A7 Tryz.prog A8 273 [.iv (wrI l),.iv (wrI [])] (.val (.bool (decide (l.length=0)))) []:=by
 cases l with
 | nil=>exact Tc []
 | cons x l =>
  refine A7.of (n:=26) (rs:=[.tmp 4]) Tryz.func273 rfl (by kernel_rfl) Tryz.ntmps273 (by kernel_rfl) (by simp) (fun _ _=>A8.later) ?_
  intro hok V w0
  rw [show decide ((x :: l).length=0)=false from rfl]
  refine g ?_
  repeat' (first | refine st_ rfl (g ?_) | exact trivial)
set_option maxRecDepth 100000 in
theorem Aa0 (l:List Ci):A7 Tryz.prog A8 274 [.iv (boI l),.iv (boI [])] (.val (.bool (decide (l.length=0)))) []:=by
 cases l with
 | nil=>exact Rc []
 | cons x l =>
  refine A7.of (n:=27) (rs:=[.tmp 4]) Tryz.func274 rfl (by kernel_rfl) Tryz.ntmps274 (by kernel_rfl) (by simp) (fun _ _=>A8.later) ?_
  intro hok V w0
  rw [show decide ((x :: l).length=0)=false from rfl]
  refine g ?_
  repeat' (first | refine st_ rfl (g ?_) | exact trivial)
set_option maxRecDepth 100000 in
theorem Ay0 (l:List Bv):A7 Tryz.prog A8 275 [.iv (noI l),.iv (noI [])] (.val (.bool (decide (l.length=0)))) []:=by
 cases l with
 | nil=>exact S8 []
 | cons x l =>
  refine A7.of (n:=27) (rs:=[.tmp 4]) Tryz.func275 rfl (by kernel_rfl) Tryz.ntmps275 (by kernel_rfl) (by simp) (fun _ _=>A8.later) ?_
  intro hok V w0
  rw [show decide ((x :: l).length=0)=false from rfl]
  refine g ?_
  repeat' (first | refine st_ rfl (g ?_) | exact trivial)
set_option maxRecDepth 100000 in
theorem A84 (v:Gb) (r:Int) (iR:I64 v.room) (iQ:I64 r):A7 Tryz.prog A8 149 [vwA v,vwA ⟨[],[],[],[],r⟩] (.val (.bool (decide (v.known=[])&&decide (v.zones.length=0)&&decide (v.held.length=0)&&decide (v.bodies.length=0)&&decide (v.room=r)))) []:=by
 refine A7.of (n:=38) (rs:=[.tmp 4]) Tryz.func149 rfl (by kernel_rfl) Tryz.ntmps149 (by kernel_rfl) (by simp) (fun _ _=>A8.later) ?_
 intro hok V w0
 have hk:=Ep v.known []
 have hz:=Aj6 v.zones
 have hw:=B70 v.held
 have hb:=Aa0 v.bodies
 obtain ⟨B,hB⟩ : ∃ B,(decide (v.known=[])&&decide (v.zones.length=0)&&decide (v.held.length=0)&&decide (v.bodies.length=0)&&decide (v.room=r))=B:=⟨_,rfl⟩
 rw [hB]
 refine g ?_
 refine AW.seq ?_
 refine AW.reg rfl fun KK hKK=>?_
 refine g ?_
 repeat' (refine hKK _ (g ?_);clear hKK KK)
 refine AW.freeze 300 _ rfl ⟨trivial,trivial,trivial,trivial,iR,trivial⟩ ?_
 simp only [go_sem,reduceIte,Nat.reduceEqDiff]
 refine AW.freeze 400 _ rfl ⟨trivial,trivial,trivial,trivial,iQ,trivial⟩ ?_
 simp only [go_sem,reduceIte,Nat.reduceEqDiff]
 refine g ?_
 repeat' (first | refine st_ rfl (g ?_) | (refine B7 rfl rfl (fun h e=>?_) (fun h e=>?_)<;>simp only [e]<;>clear e<;>refine g ?_) | refine Aa (hk) rfl (g ?_) | refine Aa (hz) rfl (g ?_) | refine Aa (hw) rfl (g ?_) | refine Aa (hb) rfl (g ?_))
 all_goals (subst hB;simp [*])
set_option maxRecDepth 100000 in
theorem Ak3 (l:Log) (iS:I64 l.sure):A7 Tryz.prog A8 150 [Sj l,Sj ⟨[],[],0⟩] (.val (.bool (decide (l.base=[])&&decide (l.sure=0)&&decide (l.notes.length=0)))) []:=by
 refine A7.of (n:=24) (rs:=[.tmp 4]) Tryz.func150 rfl (by kernel_rfl) Tryz.ntmps150 (by kernel_rfl) (by simp) (fun _ _=>A8.later) ?_
 intro hok V w0
 have hk:=Ep l.base []
 have hn:=Ay0 l.notes
 obtain ⟨B,hB⟩ : ∃ B,(decide (l.base=[])&&decide (l.sure=0)&&decide (l.notes.length=0))=B:=⟨_,rfl⟩
 rw [hB]
 refine g ?_
 refine AW.seq ?_
 refine AW.reg rfl fun KK hKK=>?_
 refine g ?_
 repeat' (refine hKK _ (g ?_);clear hKK KK)
 refine AW.freeze 300 _ rfl ⟨trivial,trivial,iS,trivial⟩ ?_
 simp only [go_sem,reduceIte,Nat.reduceEqDiff]
 refine AW.freeze 400 _ rfl ⟨trivial,trivial,rfl,trivial⟩ ?_
 simp only [go_sem,reduceIte,Nat.reduceEqDiff]
 refine g ?_
 repeat' (first | refine st_ rfl (g ?_) | (refine B7 rfl rfl (fun h e=>?_) (fun h e=>?_)<;>simp only [e]<;>clear e<;>refine g ?_) | refine Aa (hk) rfl (g ?_) | refine Aa (hn) rfl (g ?_))
 all_goals (subst hB;simp [*])
end Go.Proofs.YtahgkllhbggmgaaGreatDoor
namespace Go.Proofs.YtahgkllhbggmgaaGreatDoor
open Go.ChangeShapes Go.WideShapes Go.ChangeAt Go.RowKit
theorem W9:∀ {l:List Gu} {k:Nat} (e:Int) (h:k < l.length),Ge e (l.take (k+1))=l[k].number
 | [],_,_,h=>absurd h (Nat.not_lt_zero _)
 | f :: l,0,e,_=>by simp [Ge]
 | f :: l,k+1,e,h=>by
  rw [List.take_succ_cons]
  exact W9 (l:=l) f.number (by simpa using h)
theorem Ad5 {room:Int} : ∀ {l:List Gu} {u:Nat} {e:Int},E4 room u e l=true->e<=Ge e l
 | [],_,_,_=>Int.le_refl _
 | f :: l,u,e,h=>by
  simp only [E4,Tp,Bool.and_eq_true,decide_eq_true_eq] at h
  have:=Ad5 h.2
  show e<=Ge f.number l
  omega
attribute [local irreducible] AW AWY Bd As vop B4 Ap Aw qop Bc Bs Ai Ag Ay A7 Av
attribute [local go_sem] Dg Sv Mi L9 Ae Af
set_option maxRecDepth 100000 in
set_option maxHeartbeats 3200000 in
theorem Tf (d : Jc) (iR : I64 d.room) : A7 Tryz.prog A8 73 [dkA d] (.val (.bool (Bp d))) [] := by
  refine A7.of (n := 77) (rs := [.tmp 2]) Tryz.func73 rfl (by kernel_rfl) Tryz.ntmps73 (by kernel_rfl) (by simp) (fun _ _ => A8.later) ?_
  intro hok V w0
  have hfl : AV.okd (.iv (flI d.files)) := hok.1.2.1
  have hlen : d.files.length <= 1073741824 := by simpa [flI] using hfl.1
  obtain ⟨B, hB⟩ : ∃ B, Bp d = B := ⟨_, rfl⟩
  rw [hB]
  refine g ?_
  refine AW.seq ?_
  refine AW.reg rfl fun KK hKK => ?_
  refine g ?_
  repeat' (refine hKK _ (g ?_); clear hKK KK)
  refine AW.freeze 200 _ rfl ⟨iR, trivial, trivial⟩ ?_
  simp only [go_sem, reduceIte, Nat.reduceEqDiff]
  refine g ?_
  repeat' (first | refine st_ rfl (g ?_) | refine Aj (fun h => g ?_) (fun h => g ?_) | (refine B7 rfl rfl (fun h e => ?_) (fun h e => ?_) <;> simp only [e] <;> clear e <;> refine g ?_))
  · rw [<- hB]; simp [Bp]; intros; omega
  · rw [<- hB]; simp [Bp]; intros; omega
  have hR : 0 <= d.room /\ d.room <= 16777216 := by omega
  have hBF : B = E4 d.room 0 (-1) d.files := by rw [<- hB]; simp [Bp, hR]
  clear hB
  refine AW.loop (fun m : {m : Nat // m <= d.files.length /\ E4 d.room 0 (-1) (d.files.take m) = true} => ⟨[(1, .ip [.val (.int .i64 d.room), flI d.files]), (3, .val (.int .i64 (d.room - (Jj (d.files.take m.1) : Nat)))), (4, .val (.int .i64 (m.1 : Nat)))], []⟩) (fun m => d.files.length - m.1) ⟨0, Nat.zero_le _, rfl⟩ id ⟨⟨rfl, by show look _ 3 = .val (.int .i64 (d.room - 0)); rw [Int.sub_zero]; rfl, rfl, trivial⟩, trivial, List.nodup_nil⟩ fun ⟨m, hm, ht⟩ => ?_
  simp only
  have hsum := Qm hR.1 (u := 0) (by omega) ht
  repeat (refine AW.seq ?_)
  refine AW.reg rfl fun KK hKK => ?_
  refine g ?_
  repeat' (refine hKK _ (g ?_); clear hKK KK)
  repeat (refine AW.seq ?_)
  refine st_ rfl ?_
  refine g ?_
  refine Aj (fun h => ?_) (fun h => ?_)
  · have hlt : m < d.files.length := by omega
    obtain ⟨i1, i2, i3⟩ := Bp8 hfl hlt
    have hat := Ae4 hlt ht
    rw [<- hBF] at hat
    have hN : Tp d.room (Jj (d.files.take m)) (Ge (-1) (d.files.take m)) d.files[m] = false -> false = B := fun h => by rw [hat, h]; rfl
    have hl0 : m = 0 -> Ge (-1) (d.files.take m) = -1 := fun h => by subst h; rfl
    have hl1 : (h : 0 < m) -> Ge (-1) (d.files.take m) = (d.files[m - 1]'(by omega)).number := fun h => by
      obtain ⟨k, rfl⟩ : ∃ k, m = k + 1 := ⟨m - 1, by omega⟩
      exact W9 _ _
    have hge := Ad5 ht
    have hend : Tp d.room (Jj (d.files.take m)) (Ge (-1) (d.files.take m)) d.files[m] = true -> E4 d.room 0 (-1) (d.files.take (m + 1)) = true /\ d.room - (Jj (d.files.take m) : Nat) - (d.files[m].bytes.length : Nat) = d.room - ((Jj (d.files.take (m + 1)) : Nat) : Int) := fun h => by
      obtain ⟨g1, g2, -⟩ := Wk hlt ht h
      exact ⟨g1, by rw [g2]; omega⟩
    refine st_ rfl (g ?_)
    refine g ?_
    refine g ?_
    repeat' (first | refine st_ rfl (g ?_) | refine ix_ (by omega) (g ?_))
    refine AW.freeze 600 _ rfl ⟨i1, trivial, i2, trivial⟩ ?_
    simp only [go_sem, reduceIte, Nat.reduceEqDiff]
    refine AW.drawn (ds := [28, 29, 30, 31, 32, 33, 34, 35, 36, 37, 38, 39, 40, 41, 42, 43, 44, 45, 46, 47, 48, 49, 50, 51, 52, 53, 54, 55, 56, 57, 58, 59, 60, 61, 62, 63, 64, 65, 66, 67, 68, 69, 70, 71]) (fin := []) (bs := [0, 0, 0, 0, 0, 0, 0, 0, 0, 0, 0, 0, 0, 0, 0, 0, 0, 0, 0, 0, 0, 0, 0, 0, 0, 0, 0, 0, 0, 0, 0, 0, 0, 0, 0, 0, 0, 0, 0, 0, 0, 0, 0, 0]) [⟨[], [], [], [], 0⟩, ⟨[(28, 0)], [], [], [], 0⟩, ⟨[(29, 1)], [], [], [], 0⟩, ⟨[(30, 2)], [], [], [], 0⟩, ⟨[], [], [], [], 0⟩, ⟨[(32, 4)], [], [], [], 0⟩, ⟨[(33, 5)], [], [], [], 0⟩, ⟨[(31, 3), (34, 6)], [], [], [], 0⟩, ⟨[(35, 7)], [], [], [], 0⟩, ⟨[], [], [], [], 0⟩, ⟨[(37, 9)], [], [], [], 0⟩, ⟨[(38, 10)], [], [], [], 0⟩, ⟨[], [], [], [], 0⟩, ⟨[(40, 12)], [], [], [], 0⟩, ⟨[], [], [], [], 0⟩, ⟨[(42, 14)], [], [], [], 0⟩, ⟨[(41, 13), (43, 15)], [], [], [], 0⟩, ⟨[(44, 16)], [], [], [], 0⟩, ⟨[(45, 17)], [], [], [], 0⟩, ⟨[], [], [], [], 0⟩, ⟨[(47, 19)], [], [], [], 0⟩, ⟨[(46, 18), (48, 20)], [], [], [], 0⟩, ⟨[(39, 11), (49, 21)], [], [], [], 0⟩, ⟨[(36, 8), (50, 22)], [], [], [], 0⟩, ⟨[(51, 23)], [], [], [], 0⟩, ⟨[], [], [], [], 0⟩, ⟨[(53, 25)], [], [], [], 0⟩, ⟨[(54, 26)], [], [], [], 0⟩, ⟨[(52, 24), (55, 27)], [], [], [], 0⟩, ⟨[(56, 28)], [], [], [], 0⟩, ⟨[], [], [], [], 0⟩, ⟨[(58, 30)], [], [], [], 0⟩, ⟨[], [], [], [], 0⟩, ⟨[(60, 32)], [], [], [], 0⟩, ⟨[(61, 33)], [], [], [], 0⟩, ⟨[(59, 31), (62, 34)], [], [], [], 0⟩, ⟨[(57, 29), (63, 35)], [], [], [], 0⟩, ⟨[(64, 36)], [], [], [], 0⟩, ⟨[], [], [], [], 0⟩, ⟨[(66, 38)], [], [], [], 0⟩, ⟨[(67, 39)], [], [], [], 0⟩, ⟨[], [], [], [], 0⟩, ⟨[(68, 40), (69, 41)], [], [], [], 0⟩, ⟨[(65, 37), (70, 42)], [], [], [], 0⟩] (by kernel_rfl) rfl (by kernel_rfl) rfl rfl rfl fun KD hKD => ?_
    refine g ?_
    repeat' (first | refine st_ rfl (g ?_) | refine Aj (fun h => g ?_) (fun h => g ?_) | (refine hKD _ _ ⟨rfl, g ?_⟩; clear hKD KD) | (refine Ee rfl rfl (fun h e => ?_) (fun h e => ?_) <;> simp only [e] <;> clear e <;> refine g ?_) | (refine ixm (m - 1) (by omega) (by omega) (by omega) ?_) <;> refine g ?_)
    all_goals first
      | exact hN (decide_eq_false (by omega))
      | exact hN (decide_eq_false (by have := hl1 (by omega); omega))
      | (obtain ⟨g1, g2⟩ := hend (decide_eq_true (by rcases Nat.eq_zero_or_pos m with h0 | h0; (have := hl0 h0; omega); (have := hl1 h0; omega)))
         exact ⟨⟨m + 1, by omega, g1⟩, id, ⟨⟨rfl, congrArg (fun z => AV.val (.int .i64 z)) g2, rfl, trivial⟩, trivial, List.nodup_nil⟩, by show d.files.length - (m + 1) < d.files.length - m; omega⟩)
  · refine AW.exit ?_
    simp only [reduceIte]
    refine g ?_
    repeat' refine st_ rfl (g ?_)
    rw [List.take_of_length_le (by omega)] at ht
    rw [hBF, ht]
end Go.Proofs.YtahgkllhbggmgaaGreatDoor
namespace Go.Proofs.YtahgkllhbggmgaaGreatDoor
open Go.ChangeShapes Go.WideShapes Go.ChangeAt Go.RowKit
attribute [local irreducible] AW AWY Bd As vop B4 Ap Aw qop Bc Bs Ai Ag Ay A7 Av
attribute [local go_sem] Dg Sv Mi L9 Ae Af
set_option maxRecDepth 100000 in
set_option maxHeartbeats 1600000 in
theorem Te (d:Jc) (iR:I64 d.room):A7 Tryz.prog A8 154 [dkA d,dkA d] (.val (.bool true)) []:=by
 refine A7.of (n:=59) (rs:=[.tmp 4]) Tryz.func154 rfl (by kernel_rfl) Tryz.ntmps154 (by kernel_rfl) (by simp) (fun _ _=>A8.later) ?_
 intro hok V w0
 have hfl:AV.okd (.iv (flI d.files)):=hok.1.2.1
 have hlen:d.files.length<=1073741824:=by simpa [flI] using hfl.1
 refine g ?_
 refine AW.seq ?_
 refine AW.reg rfl fun KK hKK=>?_
 refine g ?_
 repeat' (refine hKK _ (g ?_);clear hKK KK)
 refine AW.freeze 300 _ rfl ⟨iR,trivial,trivial⟩ ?_
 simp only [go_sem,reduceIte,Nat.reduceEqDiff]
 refine AW.freeze 400 _ rfl ⟨iR,trivial,trivial⟩ ?_
 simp only [go_sem,reduceIte,Nat.reduceEqDiff]
 refine g ?_
 repeat' refine st_ rfl (g ?_)
 refine AW.loop (fun i:{i:Nat // i<=d.files.length}=>⟨[(2,.ip [.val (.int .i64 d.room),flI d.files]),(3,.ip [.val (.int .i64 d.room),flI d.files]),(5,.val (.int .i64 (i.1:Nat)))],[]⟩) (fun i=>d.files.length - i.1) ⟨0,Nat.zero_le _⟩ id ⟨⟨rfl,rfl,rfl,trivial⟩,trivial,List.nodup_nil⟩ fun ⟨i,hi⟩=>?_
 simp only
 repeat (refine AW.seq ?_)
 refine AW.reg rfl fun KK hKK=>?_
 refine g ?_
 repeat' (refine hKK _ (g ?_);clear hKK KK)
 repeat (refine AW.seq ?_)
 refine st_ rfl ?_
 refine g ?_
 refine Aj (fun h=>?_) (fun h=>?_)
 ·have hlt:i < d.files.length:=by omega
  refine st_ rfl (g ?_)
  refine AW.seq ?_
  refine AW.block ?_
  repeat (refine AW.seq ?_)
  refine AW.drawn (ds:=[29,30,31,32,33,34,35,36,37,38,6,7]) (fin:=[2,3]) (bs:=[0,0,0,0,0,0,0,0,0,0,0,1,2,3]) [⟨[],[],[],[],0⟩,⟨[(29,0)],[],[],[],0⟩,⟨[],[],[],[],0⟩,⟨[(30,1),(31,2)],[],[],[],0⟩,⟨[(32,3)],[],[],[],0⟩,⟨[],[],[],[],0⟩,⟨[(34,5)],[],[],[],0⟩,⟨[],[],[],[],0⟩,⟨[(35,6),(36,7)],[],[],[],0⟩,⟨[(37,8)],[],[],[],0⟩,⟨[],[],[],[],1⟩,⟨[],[],[],[],1⟩,⟨[(6,10),(33,4)],[],[],[0],1⟩,⟨[(7,11),(38,9)],[],[],[1],1⟩] (by kernel_rfl) rfl (by kernel_rfl) rfl rfl rfl fun KD hKD=>?_
  refine g ?_
  repeat' (first | refine st_ rfl (g ?_) | (refine hKD _ _ ⟨rfl,g ?_⟩;clear hKD KD) | refine ix_ (by omega) (g ?_) | refine Aa (Rb _ _) rfl (g ?_))
  all_goals first
   | exact ⟨⟨i+1,hlt⟩,id,⟨⟨rfl,rfl,rfl,trivial⟩,trivial,List.nodup_nil⟩,by show d.files.length - (i+1) < d.files.length - i;omega⟩
   | (simp at *;done)
 ·refine AW.exit ?_
  simp only [reduceIte]
  refine g ?_
  repeat' (first | refine st_ rfl (g ?_) | exact trivial)
end Go.Proofs.YtahgkllhbggmgaaGreatDoor
namespace Go.Proofs.YtahgkllhbggmgaaGreatDoor
open Go.ChangeShapes Go.WideShapes Go.ChangeAt Go.RowKit
theorem X5 (b c:Bool) (w:World):(do pure ();binOp .eql 4 (.bool b) (.bool c):Sem Value).run Tryz.prog w=.ok (.bool (decide (b=c))) w:=by
 cases b<;>cases c<;>go_simp<;>rfl
attribute [local irreducible] AW AWY Bd As vop B4 Ap Aw qop Bc Bs Ai Ag Ay A7 Av
attribute [local go_sem] Dg Mi L9 Gm J9 L6 N6 Kl Fx Fs Es Dx Ek Cr Ae Af
set_option maxRecDepth 100000 in
set_option maxHeartbeats 3200000 in
theorem Vg (n m : En) (hI : Fv n) (hJ : Fv m) (b1 b2 b3 b4 b5 b6 : Bool)
    (h1 : A7 Tryz.prog A8 149 [vwA n.view, vwA m.view] (.val (.bool b1)) [])
    (h2 : A7 Tryz.prog A8 150 [Sj n.log, Sj m.log] (.val (.bool b2)) [])
    (h3 : A7 Tryz.prog A8 151 [.iv (ouI n.outs), .iv (ouI m.outs)] (.val (.bool b3)) [])
    (h4 : A7 Tryz.prog A8 152 [.iv (Hu n.subs), .iv (Hu m.subs)] (.val (.bool b4)) [])
    (h5 : A7 Tryz.prog A8 153 [.iv (msI n.queue), .iv (msI m.queue)] (.val (.bool b5)) [])
    (h6 : A7 Tryz.prog A8 154 [dkA n.disk, dkA m.disk] (.val (.bool b6)) []) :
    A7 Tryz.prog A8 75 [ndA n, ndA m] (.val (.bool (decide (n.me = m.me) && b1 && b2 && b3 && b4 && decide (n.tries = m.tries) && b5 && b6 && decide (n.down = m.down)))) [] := by
  refine A7.of (n := 66) (rs := [.tmp 4]) Tryz.func75 rfl (by kernel_rfl) Tryz.ntmps75 (by kernel_rfl) (by simp) (fun _ _ => A8.later) ?_
  intro hok V w0
  obtain ⟨B, hB⟩ : ∃ B, (decide (n.me = m.me) && b1 && b2 && b3 && b4 && decide (n.tries = m.tries) && b5 && b6 && decide (n.down = m.down)) = B := ⟨_, rfl⟩
  rw [hB]
  obtain ⟨iM, iR, iS, iT, iD⟩ := hI
  obtain ⟨jM, jR, jS, jT, jD⟩ := hJ
  refine g ?_
  refine AW.seq ?_
  refine AW.reg rfl fun KK hKK => ?_
  refine g ?_
  repeat' (refine hKK _ (g ?_); clear hKK KK)
  refine AW.freeze 300 _ rfl ⟨iM, trivial, trivial, trivial, trivial, iR, trivial, trivial, iS, trivial, trivial, iT, trivial, iD, trivial, trivial, trivial⟩ ?_
  simp only [go_sem, reduceIte, Nat.reduceEqDiff]
  refine AW.freeze 400 _ rfl ⟨jM, trivial, trivial, trivial, trivial, jR, trivial, trivial, jS, trivial, trivial, jT, trivial, jD, trivial, trivial, trivial⟩ ?_
  simp only [go_sem, reduceIte, Nat.reduceEqDiff]
  refine g ?_
  repeat' (first | refine st_ rfl (g ?_) | (refine B7 rfl rfl (fun h e => ?_) (fun h e => ?_) <;> simp only [e] <;> clear e <;> refine g ?_) | (refine Dm rfl rfl (fun h => ?_) (fun h => ?_) <;> simp only [h] <;> refine g ?_) | refine Aa (h1) rfl (g ?_) | refine Aa (h2) rfl (g ?_) | refine Aa (h3) rfl (g ?_) | refine Aa (h4) rfl (g ?_) | refine Aa (h5) rfl (g ?_) | refine Aa (h6) rfl (g ?_))
  all_goals first
    | (subst hB; simp [*]; done)
    | (refine ⟨_, fun u => X5 _ _ u, Bt ?_⟩
       refine g ?_
       repeat' refine st_ rfl (g ?_)
       subst hB
       simp [*])
theorem Zx (n:En) (hI:Fv n):A7 Tryz.prog A8 75 [ndA n,ndA n] (.val (.bool true)) []:=by
 have h:=Vg n n hI hI _ _ _ _ _ _ (Zt n.view hI.room) (A93 n.log hI.sure) (R6 n.outs) (Vd n.subs n.subs) (Vh n.queue) (Te n.disk hI.droom)
 simpa using h
end Go.Proofs.YtahgkllhbggmgaaGreatDoor
