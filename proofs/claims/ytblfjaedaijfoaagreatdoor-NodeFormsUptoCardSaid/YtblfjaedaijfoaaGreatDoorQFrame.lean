/- A payload's frame (the program's). -/
import Derived.Test.YtblfjaedaijfoaaGreatDoorQDisk
import Derived.Laws.MakeOwn
import Derived.Test.YtblfjaedaijfoaaGreatDoorQCrc
import Derived.Test.YtblfjaedaijfoaaGreatDoorQWire
set_option linter.all false
set_option linter.unnecessarySimpa false
set_option linter.unusedSimpArgs false
set_option linter.unusedVariables false
namespace Go.Proofs.YtblfjaedaijfoaaGreatDoor
open Go.ChangeShapes Go.WideShapes Go.ChangeAt Go.RowKit
section
variable {P : Program} {G : World -> Prop} {σ : Ag} {V w0 : World} {n : Nd} {ro : Option Nat} {K : Exit -> Ag -> Prop}
theorem AW.makeR {id:Nat} {l1 l2:List Oper} {t e:TypeId} {d s b:Nat} {y:TypeId} {p:String} {ar:Array Edge} {L:List Oper} {i:TypeInfo} {z:Value} (hL:L=l1++⟨some d,.makeSlice t (.const (.int .i64 0)) (.tmp s),y,p,ar,none⟩ :: l2)
  (hd:Dd n L=true) (ht:P.underlying t=some (.slice e)) (hi:P.info? e=some i) (hz:i.zero=some z) (h1:i.size=1) (h2:i.bytes=1)
  (h:Bo P G L l1 σ fun σ1=>∃ N:Nat,Cq σ1.fr s=.val (.int .i64 N)/\N<=1073741824/\(Lg b (b+1) σ1.fr&&Jq b (b+1) σ1.bk)=true/\Bo P G L l2 ⟨Fv (some d) (.own b) σ1.fr,.row b e 1 [] :: σ1.bk⟩ fun σ'=>K .normal σ') :
  AW P G ro V w0 n (.region id L.toArray false) σ K:=fun hG m E a w hn hs=>by
 rw [hL,L9,Bool.and_eq_true] at hd
 obtain ⟨hd1,hd2⟩:=hd
 simp only [Dd,Bool.and_eq_true] at hd2
 refine wpIn_region_lit ?_
 suffices H:wpListIn (FW ro) 0 P L.toArray (Arr V w0 m K) (l1++⟨some d,.makeSlice t (.const (.int .i64 0)) (.tmp s),y,p,ar,none⟩ :: l2) a w by rwa [<-hL] at H
 refine Wd hG l1 σ _ E a w (by rw [hn];exact hd1) h hs fun E1 σ1 a1 w1 ⟨N,q1,q2,q3,hK⟩ hs1=>?_
 rw [Bool.and_eq_true] at q3
 have s1:=hs1.slots s
 rw [q1] at s1
 have hev:a1.tmps.getD s undef=.int .i64 N:=by
  generalize a1.tmps.getD s undef=v at s1
  cases s1
  rfl
 obtain ⟨fr,bk⟩:=σ1
 simp only at hK hs1 q3
 have hr:=run_make (P:=P) w1 t e i z ht hi hz .i64 .i64 0 (N:Int) (Int.le_refl _) (by omega) (by rw [h2];omega) (by omega)
 simp only [Int.toNat_zero,Int.toNat_natCast,h1,Nat.mul_one] at hr
 obtain ⟨C,hC⟩ : ∃ C,madeCells z.cells N=C:=⟨_,rfl⟩
 have hCs:C.size=N:=by rw [<-hC];exact size_madeCells _ _
 rw [hC] at hr
 obtain ⟨E',hE'⟩ : ∃ E':Env,E'=⟨fun c=>if c=b then w1.heap.size else E1.blk c,fun c=>if c=b then .slice (some ⟨w1.heap.size,0,none⟩) 0 N else E1.row c⟩:=⟨_,rfl⟩
 have hsame:Env.same b (b+1) E1 E':=fun c hc=>by
  have:c≠b:=by omega
  rw [hE']
  simp [this]
 have hrow:E'.row b=.slice (some ⟨w1.heap.size,0,none⟩) 0 N:=by rw [hE'];simp
 have hblk:E'.blk b=w1.heap.size:=by rw [hE'];simp
 have how:Ac E' [.row b e 1 []]=[w1.heap.size]:=by simp [Ac,BA.owned,hrow,Value.ownBlock]
 have hsw:=St.swap (E':=E') (nb:=[.row b e 1 []]) (pre:=[]) (mid:=[]) (post:=bk) (lo:=b) (hi:=b+1) (w':=w1.alloc (.cells C e)) hs1 (fun k _ hk=>(Ai (Below.refl _ w1)).block k hk) (Ai (Below.refl _ w1)).size (Ai hs1.low) hsame q3.1 (by simpa using q3.2) (by rw [how];simp) (fun g hg=>by rw [how,List.mem_singleton] at hg;subst hg;exact .inr (Nat.le_refl _)) (fun x hx=>by
  rw [List.mem_singleton] at hx
  subst hx
  refine ⟨?_,fun g hg=>by rw [hrow] at hg;rw [hblk];simpa [Value.ownBlock] using hg.symm⟩
  rw [hrow]
  exact Ah.shut hs1.low.size (Blk.new w1 _ _) rfl (Nat.zero_le _) (by unfold maxLen;omega) (by rw [hCs,Nat.mul_one]) (by simp) (by simp only [List.length_nil,Nat.zero_mul,List.take_zero];exact rfl))
 refine U1 rfl (fun _ h=>by cases h) (v:=.slice (some ⟨w1.heap.size,0,none⟩) 0 N) (w':=w1.alloc (.cells C e)) ?_ ?_
 ·simp only [execOp,Act.eval]
  refine G1 ?_
  rw [hev]
  exact hr
 ·refine Ug hG l2 _ _ E' _ _ (by rw [hn];exact hd2.2) hK (hsw.put (fun d' hd'=>?_) (Bd.own hrow)) fun E' σ' a' w' hK hs'=>⟨m,E',σ',Fm.le.refl m,hK,hs'⟩
  cases hd'
  have:=hd2.1
  simp only [Bool.and_eq_true,Bool.not_eq_true'] at this
  rw [hn]
  exact ⟨Dh.1 this.1,Kj this.2⟩
theorem AW.make {id:Nat} {l1 l2:List Oper} {t e:TypeId} {d s:Nat} {y:TypeId} {p:String} {ar:Array Edge} {L:List Oper} (b:Nat) {i:TypeInfo} {z:Value} (hL:L=l1++⟨some d,.makeSlice t (.const (.int .i64 0)) (.tmp s),y,p,ar,none⟩ :: l2)
  (hd:Dd n L=true) (ht:P.underlying t=some (.slice e)) (hi:P.info? e=some i) (hz:i.zero=some z) (h1:i.size=1) (h2:i.bytes=1)
  (h:∀ KK:Ag->Prop,(∀ σ1 (N:Nat),Cq σ1.fr s=.val (.int .i64 N)->N<=1073741824->(Lg b (b+1) σ1.fr&&Jq b (b+1) σ1.bk)=true->(∀ K2:Ag->Prop,(∀ σ',K .normal σ'->K2 σ')->Bo P G L l2 ⟨Fv (some d) (.own b) σ1.fr,.row b e 1 [] :: σ1.bk⟩ K2)->KK σ1)->Bo P G L l1 σ KK) :
  AW P G ro V w0 n (.region id L.toArray false) σ K:=AW.makeR hL hd ht hi hz h1 h2 (h _ fun σ1 N h1 h2 h3 h4=>⟨N,h1,h2,h3,h4 _ fun _ h=>h⟩)
theorem AW.pureR {id:Nat} {l1 l2:List Oper} {op:Op} {d s:Nat} {y:TypeId} {p:String} {ar:Array Edge} {L:List Oper} (hL:L=l1++⟨some d,op,y,p,ar,none⟩ :: l2)
  (hd:Dd n L=true) (hdf:∀ c,op≠.defer c)
  (h:Bo P G L l1 σ fun σ1=>∃ u v,Cq σ1.fr s=.val u/\(∀ (a:Act) (w:World),a.eval (.tmp s)=u->(execOp a.eval ⟨some d,op,y,p,ar,none⟩).run P w=.ok (.value v) w)/\Bo P G L l2 ⟨Fv (some d) (.val v) σ1.fr,σ1.bk⟩ fun σ'=>K .normal σ') :
  AW P G ro V w0 n (.region id L.toArray false) σ K:=fun hG m E a w hn hs=>by
 rw [hL,L9,Bool.and_eq_true] at hd
 obtain ⟨hd1,hd2⟩:=hd
 simp only [Dd,Bool.and_eq_true] at hd2
 refine wpIn_region_lit ?_
 suffices H:wpListIn (FW ro) 0 P L.toArray (Arr V w0 m K) (l1++⟨some d,op,y,p,ar,none⟩ :: l2) a w by rwa [<-hL] at H
 refine Wd hG l1 σ _ E a w (by rw [hn];exact hd1) h hs fun E1 σ1 a1 w1 ⟨u,v,q1,q2,hK⟩ hs1=>?_
 have s1:=hs1.slots s
 rw [q1] at s1
 have hev:a1.tmps.getD s undef=u:=by
  generalize a1.tmps.getD s undef=v at s1
  cases s1
  rfl
 refine U1 rfl hdf (q2 a1 w1 hev) ?_
 refine Ug hG l2 _ _ E1 _ _ (by rw [hn];exact hd2.2) hK (hs1.put (fun d' hd'=>?_) .val) fun E' σ' a' w' hK hs'=>⟨m,E',σ',Fm.le.refl m,hK,hs'⟩
 cases hd'
 have:=hd2.1
 simp only [Bool.and_eq_true,Bool.not_eq_true'] at this
 rw [hn]
 exact ⟨Dh.1 this.1,Kj this.2⟩
theorem AW.pure {id:Nat} {l1 l2:List Oper} {op:Op} {d:Nat} (s:Nat) {y:TypeId} {p:String} {ar:Array Edge} {L:List Oper} (hL:L=l1++⟨some d,op,y,p,ar,none⟩ :: l2)
  (hd:Dd n L=true) (hdf:∀ c,op≠.defer c)
  (h:∀ KK:Ag->Prop,(∀ σ1 u v,Cq σ1.fr s=.val u->(∀ (a:Act) (w:World),a.eval (.tmp s)=u->(execOp a.eval ⟨some d,op,y,p,ar,none⟩).run P w=.ok (.value v) w)->(∀ K2:Ag->Prop,(∀ σ',K .normal σ'->K2 σ')->Bo P G L l2 ⟨Fv (some d) (.val v) σ1.fr,σ1.bk⟩ K2)->KK σ1)->Bo P G L l1 σ KK) :
  AW P G ro V w0 n (.region id L.toArray false) σ K:=AW.pureR hL hd hdf (h _ fun σ1 u v h1 h2 h3=>⟨u,v,h1,h2,h3 _ fun _ h=>h⟩)
end
theorem A7.nd {f:FuncId} {args:List AV} {r:AV} {nb:List BA} (h:A7 Tryz.prog A8 f args r nb):A7 Tryz.prog H7 f args r nb:=⟨h.1,fun V w E vs a b c=>h.2 V w E vs a b.1 c⟩
theorem Cg.nd {f:FuncId} {args:List AV} {r:AV} {B nb:List BA} {bx:List (Nat×List AV)} {kr:List BA} (h:Cg Tryz.prog A8 f args r B nb bx kr):Cg Tryz.prog H7 f args r B nb bx kr:=⟨h.1,fun V w0 w E vs F a b c=>h.2 V w0 w E vs F a (fun w' hb=>(b w' hb).1) c⟩
section
variable {L : Operand -> AV} {K K' : List (List IV) -> Prop} {x0 x1 x2 x3 : Operand} {a b c d : Int}
theorem E06 (e0:L x0=.val (.int .u8 a)) (o0:okV (.int .u8 a)) (e1:L x1=.val (.int .u8 b)) (o1:okV (.int .u8 b)) (e2:L x2=.val (.int .u8 c)) (o2:okV (.int .u8 c)) (e3:L x3=.val (.int .u8 d)) (o3:okV (.int .u8 d)) (hK:K' [[.val (.int .u8 a)],[.val (.int .u8 b)],[.val (.int .u8 c)],[.val (.int .u8 d)]]):bsQ L 1 4 #[(0,x0),(1,x1),(2,x2),(3,x3)] K K' :=
 ⟨[[.val (.int .u8 a)],[.val (.int .u8 b)],[.val (.int .u8 c)],[.val (.int .u8 d)]],rfl,by omega,by omega,fun i cs h=>by
  match i,h with
  | 0,h=>simp at h;subst h;exact ⟨rfl,x0,rfl,by rw [e0];rfl,by rw [e0];exact .of rfl ⟨o0,trivial⟩⟩
  | 1,h=>simp at h;subst h;exact ⟨rfl,x1,rfl,by rw [e1];rfl,by rw [e1];exact .of rfl ⟨o1,trivial⟩⟩
  | 2,h=>simp at h;subst h;exact ⟨rfl,x2,rfl,by rw [e2];rfl,by rw [e2];exact .of rfl ⟨o2,trivial⟩⟩
  | 3,h=>simp at h;subst h;exact ⟨rfl,x3,rfl,by rw [e3];rfl,by rw [e3];exact .of rfl ⟨o3,trivial⟩⟩
  | i+4,h=>simp at h,rfl,.inr hK⟩
end
theorem Ac6 (c:Nat) (l:List Nat) (hc:c < 4294967296) (hl:∀ x∈l,x < 256):A7 Tryz.prog H7 232 [.val (.int .u32 (c:Int)),.iv (byI l)] (.val (.int .u32 ((Tb c l:Nat):Int))) [] :=
 Bt Tryz.func232 rfl (by kernel_rfl) fun V w E vs hV hG hr=>by
  obtain ⟨v0,v1,rfl,h0,h1⟩:=Kr hr
  cases h0
  have hs:W8 w w.heap.size v1 l:=by
   cases h1 with
   | iv h =>
    refine Sl.ext (Cp.to_typed (R:=Bj2) (enc:=byC) (l:=l) h fun cs x hx hr=>?_) (fun _ _ h=>h) hV
    match cs,hr with
    | [u],hr =>
     obtain ⟨hu,-⟩:=hr
     cases hu
     exact ⟨rfl,hl x hx⟩
    | [],hr=>exact hr.elim
    | _ :: _ :: _,hr=>exact hr.2.elim
  exact (Br1 c l v1 w hc hs hG.2).mono fun e w' h=>⟨h.1,h.2 ▸ Below.refl _ _⟩
attribute [local irreducible] AW AWY Bo B4 vop Bj B7 Bf qop Bu C4 Aq Aj Bh A7 B9
attribute [local go_sem] Af8 Ae Af
set_option maxRecDepth 100000 in
theorem Ae6 (l:List (List IV)) (n:Nat) (hn:n < 4294967296) (hl:l.length<=1000000000):Cg Tryz.prog H7 231 [.own 1,.val (.int .u32 (n:Int))] (.own 0) [.row 1 5 1 l] [.row 0 5 1 (l++(Yr n).map byC)] [] []:=by
 refine Cg.of [] (n:=19) (rs:=[.tmp 4]) Tryz.func231 rfl (by kernel_rfl) Tryz.ntmps231 (by kernel_rfl) (by simp) trivial rfl rfl fun hok V w0 F=>?_
 refine g ?_
 repeat' refine st_ rfl (g ?_)
 refine ⟨.int .u32 ((n / 16777216:Nat):Int),fun w=>by rw [show (n:Int) / 2 ^ min 24 32=((n / 16777216:Nat):Int) from (by show (n:Int) / 16777216=_;omega)];rfl,?_⟩
 refine g ?_
 repeat' refine Bi (g ?_)
 refine ⟨((n / 16777216 % 256:Nat):Int),by rw [IntKind.wrap_u8];omega,Bi (g ?_)⟩
 refine g ?_
 refine ⟨.int .u32 ((n / 65536:Nat):Int),fun w=>by rw [show (n:Int) / 2 ^ min 16 32=((n / 65536:Nat):Int) from (by show (n:Int) / 65536=_;omega)];rfl,?_⟩
 refine g ?_
 repeat' refine Bi (g ?_)
 refine ⟨((n / 65536 % 256:Nat):Int),by rw [IntKind.wrap_u8];omega,Bi (g ?_)⟩
 refine g ?_
 refine ⟨.int .u32 ((n / 256:Nat):Int),fun w=>by rw [show (n:Int) / 2 ^ min 8 32=((n / 256:Nat):Int) from (by show (n:Int) / 256=_;omega)];rfl,?_⟩
 refine g ?_
 repeat' refine Bi (g ?_)
 refine ⟨((n / 256 % 256:Nat):Int),by rw [IntKind.wrap_u8];omega,Bi (g ?_)⟩
 refine g ?_
 refine ⟨((n % 256:Nat):Int),by rw [IntKind.wrap_u8];omega,Bi (g ?_)⟩
 refine g ?_
 refine E06 rfl (Xf (by omega)) rfl (Xf (by omega)) rfl (Xf (by omega)) rfl (Xf (by omega)) ?_
 refine g ?_
 refine Co rfl (by kernel_rfl) (by omega) (by kernel_rfl) rfl (by simp;omega) ?_
 refine g ?_
 repeat' refine st_ rfl (g ?_)
 refine ⟨fun b=>if b=0 then 1900 else b,fun _ _ _ h=>h,trivial,⟨rfl,rfl⟩,by simp⟩
theorem C90 {m:Nat} (h:m < 4294967296):bits .xor .u32 4294967295 (m:Int)=((4294967295 - m:Nat):Int):=by
 have h1:=Yw (a:=4294967295) (by omega) h
 rw [show ((4294967295:Nat):Int)=4294967295 from rfl] at h1
 rw [h1]
 have h2:(BitVec.allOnes 32^^^BitVec.ofNat 32 m).toNat=4294967295 - m:=by
  rw [BitVec.allOnes_xor,BitVec.toNat_not,BitVec.toNat_ofNat,Nat.mod_eq_of_lt (by omega)]
 rw [BitVec.toNat_xor,BitVec.toNat_allOnes,BitVec.toNat_ofNat,Nat.mod_eq_of_lt (by omega)] at h2
 rw [<-h2]
set_option maxRecDepth 100000 in
set_option maxHeartbeats 1600000 in
theorem Bl6 (p:List Nat) (hp:p.length<=1048576) (h8:∀ x∈p,x < 256):A7 Tryz.prog H7 157 [.iv (byI p)] (.tup [.iv (byI (Uz p)),.val (.int .i64 0)]) []:=by
 have h:A7 Tryz.prog H7 157 [.iv (byI p)] (.tup [.own 0,.val (.int .i64 0)]) [.row 0 5 1 ((Uz p).map byC)]:=by
  refine A7.of (n:=26) (rs:=[.tmp 2,.tmp 3]) Tryz.func157 rfl (by kernel_rfl) Tryz.ntmps157 (by kernel_rfl) (by simp) (fun _ _=>H7.later) ?_
  intro hok V w0
  obtain ⟨i0,z0,hi0,hz0,hzs,hz1,hz2⟩:=H5 U3
  refine g ?_
  refine AW.seq ?_
  refine AW.reg rfl fun KK hKK=>?_
  refine g ?_
  repeat' (refine hKK _ (g ?_);clear hKK KK)
  repeat (refine AW.seq ?_)
  refine AW.reg rfl fun KK hKK=>?_
  refine g ?_
  repeat' (refine hKK _ (g ?_);clear hKK KK)
  repeat (refine AW.seq ?_)
  refine st_ rfl ?_
  refine g ?_
  refine Al (fun h=>?_) (fun h=>?_)
  ·exfalso;omega
  refine st_ rfl ?_
  refine g ?_
  repeat (refine AW.seq ?_)
  refine AW.make (l1:=[_,_,_]) 9000 rfl rfl Tryz.underlying47 hi0 hz0 hz1 hz2 fun KK hKK=>?_
  refine g ?_
  refine hKK _ (8+p.length) ?_ (by omega) rfl ?_
  ·show AV.val (.int .i64 (8+(p.length:Int)))=_
   rw [show ((8+p.length:Nat):Int)=8+(p.length:Int) by omega]
  clear hKK KK
  intro KK hKK
  refine g ?_
  refine ⟨((p.length:Nat):Int),by rw [IntKind.wrap_u32];omega,Bi (g ?_)⟩
  refine g ?_
  refine Kq [] [] (fun _=>9000) (Ae6 [] p.length (by omega) (by simp)) rfl rfl rfl (g ?_)
  refine g ?_
  repeat' (refine hKK _ (g ?_);clear hKK KK)
  repeat (refine AW.seq ?_)
  refine AW.pure (l1:=[_,_,_,_,_]) 20 rfl rfl (fun _ h=>by cases h) fun KK hKK=>?_
  refine g ?_
  refine Np (Ac6 4294967295 (Yr p.length) (by omega) (Al7 _)) (by simp [Wy]) rfl (fun _ h=>by cases h) (by exact Sbs.rfl_ _) rfl (g ?_)
  refine g ?_
  refine A9 (Ac6 _ p (Vf (by omega) (Al7 _)) h8) rfl (g ?_)
  refine g ?_
  refine hKK _ _ (.int .u32 ((Bv1 (Yr p.length++p):Nat):Int)) rfl (fun a w e=>?_) ?_
  ·have hm:=Vf (c:=Tb 4294967295 (Yr p.length)) (l:=p) (Vf (by omega) (Al7 _)) h8
   have e1:=C90 hm
   rw [Bv1,Vg]
   simp only [execOp,e]
   refine G1 ?_
   have hmax:(if IntKind.u32.signed=true then -1 else IntKind.u32.max)=4294967295:=by decide
   go_simp
  clear hKK KK
  intro KK hKK
  refine g ?_
  have hS:Bv1 (Yr p.length++p) < 4294967296:=by unfold Bv1;omega
  refine Kq [] [] (fun _=>1600) (Ae6 _ _ hS (by simp [Yr])) rfl rfl rfl (g ?_)
  refine g ?_
  repeat' (refine hKK _ (g ?_);clear hKK KK)
  refine g ?_
  repeat' refine st_ rfl (g ?_)
  refine Co rfl (by kernel_rfl) (by omega) (by kernel_rfl) rfl (by simp [Yr];omega) ?_
  refine g ?_
  repeat' refine st_ rfl (g ?_)
  refine ⟨fun _=>2600,rfl,?_,by simp⟩
  rw [Uz,List.map_append,List.map_append]
  rfl
 exact h.frz trivial
end Go.Proofs.YtblfjaedaijfoaaGreatDoor
