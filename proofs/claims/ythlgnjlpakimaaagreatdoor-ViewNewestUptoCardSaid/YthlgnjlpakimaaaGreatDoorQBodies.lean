/- Bodies: one is found, one goes, one comes (the program's). -/
import Derived.Test.YthlgnjlpakimaaaGreatDoorQTurnRow
import Derived.Test.YthlgnjlpakimaaaGreatDoorQConcatSpan
import Derived.Test.YthlgnjlpakimaaaGreatDoorQClone
import Derived.Test.YthlgnjlpakimaaaGreatDoorQEnc
import Derived.Test.YthlgnjlpakimaaaGreatDoorQPutShelf
import Derived.Test.YthlgnjlpakimaaaGreatDoorQCacheForm
import Derived.Test.YthlgnjlpakimaaaGreatDoorQViewLaw3
set_option linter.all false
set_option linter.unnecessarySimpa false
set_option linter.unusedSimpArgs false
set_option linter.unusedVariables false
namespace Go.Proofs.YthlgnjlpakimaaaGreatDoor
open Go.ChangeShapes Go.WideShapes Go.ChangeAt Go.RowKit
theorem Cc7:(Tryz.prog.info? 49).map (fun i=>i.zero.map (fun z=>z.cells.all (·.oneCell')))=some (some true):=by kernel_rfl
theorem Lx {P:Program} {ro:Option Nat} {ops:Array Oper} {o:Oper} {rest:List Oper} {Q:Exit->Act->World->Prop} {a:Act} {w w':World} {v:Value} (hg:o.guard=none) (hd:∀ c,o.op≠.defer c) (hx:(execOp a.eval o).run P w=.ok (.value v) w') (h:wpListIn (FW ro) 0 P ops Q rest (a.put o.dst v) w'):wpListIn (FW ro) 0 P ops Q (o :: rest) a w:=by
 refine wpListIn_step fun K' hK'=>?_
 rw [if_pos (by unfold Region.wanted;rw [hg])]
 refine N8 hd ?_
 unfold Oper.wp
 rw [hx,Oper.upon_value]
 exact hK' _ _ h
section
variable {V w0 : World} {n : Nd} {ro : Option Nat} {σ : Am} {K : Exit -> Am -> Prop}
set_option maxHeartbeats 1600000 in
theorem AW.trimW {id1 id2 m b:Nat} {l:List (List IV)} {rest:Code} {y1 y2 y3 y4 y5 y6 y7 y8:TypeId} {p1 p2 p3 p4 p5 p6 p7 p8:String} {a1 a2 a3 a4 a5 a6 a7 a8:Array Edge}
  (h0:Cz σ.fr 0=.own b) (h5:Cz σ.fr 5=.val (.int .i64 (m:Nat))) (hb:Cx b σ.bk=some (.row b 49 4 l)) (hm:m < l.length) (hn42:n.n=42) (hfx:n.fx=[]) (hf:(Ks 4200 4300 σ.bk)=true)
  (h:AW Tryz.prog A8 ro V w0 n rest ⟨[(4,.own 4200)],.row 4200 49 4 (l.take m) :: Du b [] σ.bk⟩ K) :
  AW Tryz.prog A8 ro V w0 n (.seq (.region id1 #[⟨some 36,.move (.tmp 0),y1,p1,a1,none⟩,⟨some 37,.move (.tmp 5),y2,p2,a2,none⟩,⟨some 38,.slice 27 (.tmp 36) (some (.tmp 37)) none none,y3,p3,a3,none⟩,⟨none,.call { callee:=.builtin .clear,args:=#[.tmp 38],argTypes:=#[27] },y4,p4,a4,none⟩] false)
   (.seq (.region id2 #[⟨some 39,.move (.tmp 0),y5,p5,a5,none⟩,⟨some 40,.move (.tmp 5),y6,p6,a6,none⟩,⟨some 41,.slice 27 (.tmp 39) none (some (.tmp 40)) none,y7,p7,a7,none⟩,⟨some 4,.assign (.tmp 41),y8,p8,a8,none⟩] false) rest)) σ K:=fun hG m0 E a w hn hs=>by
 obtain ⟨i0,z0,hi0,hz0,hzs,hz1,hz2⟩:=Lc Tq
 have hzone:∀ v∈z0.cells,v.oneCell'=true:=by
  have:=Cc7
  rw [hi0] at this
  simp only [Option.map_some,hz0,Option.some.injEq] at this
  intro v hv
  obtain ⟨j,hj,rfl⟩:=Array.mem_iff_getElem.1 hv
  exact (Array.all_eq_true.1 this) j hj
 have hsz:a.tmps.size=42:=by rw [hs.size.1,hn,hn42]
 have s0:=hs.slots 0
 have s5:=hs.slots 5
 rw [h0] at s0
 rw [h5] at s5
 have e5:a.tmps.getD 5 undef=.int .i64 (m:Nat):=by
  generalize a.tmps.getD 5 undef=u at s5
  cases s5;rfl
 obtain ⟨v,hv⟩ : ∃ v,a.tmps.getD 0 undef=v:=⟨_,rfl⟩
 rw [hv] at s0
 obtain ⟨pre,post,q1,q2,q3⟩:=Dh hb
 obtain ⟨hO,hB⟩:=hs.holds _ (H5 hb).1
 cases s0 with
 | @own _ A n0 cc he =>
 rw [he] at hO hB
 rcases hO.forms with ⟨_,h0'⟩ | ⟨g,c,hvv,hg1,hg2⟩
 ·rw [h0'] at hm;simp at hm
 injection hvv with r1 r2 r3
 subst r1 r2 r3
 obtain ⟨cur,_,_,hBk,hnc,hcm,hcs,hbig,hch⟩:=hO.open_
 have hgb:g=E.blk b:=hB g rfl
 have hzc:(Builtin.zeroCells z0.cells (l.length - m)).toList.length=(l.length - m)*4:=by simp [Builtin.zeroCells,hzs]
 obtain ⟨C2,hC2⟩ : ∃ C2:Array Value,C2=(cur.toList.take (m*4)++(Builtin.zeroCells z0.cells (l.length - m)).toList++cur.toList.drop (m*4+(l.length - m)*4)).toArray:=⟨_,rfl⟩
 have hC2s:C2.size=cc*4:=by
  rw [hC2]
  simp only [List.size_toArray,List.length_append,List.length_take,List.length_drop,Array.length_toList,hcs,hzc]
  omega
 have hcl:∀ ty' cp,(Builtin.clear_ #[27] ty' #[.slice (some ⟨g,m*4,none⟩) (l.length - m) cp]).run Tryz.prog w=.ok (.tuple #[]) (w.setRow g C2):=fun ty' cp=>by
  rw [hC2]
  exact Ur 4 w _ _ ty' i0 z0 g (m*4) (l.length - m) cp cur 49 Tryz.underlying27 hi0 hz0 hzs (by omega) hBk (by rw [hcs];omega) hzone
 unfold maxLen at hcm
 have tg:∀ (a:Act) (d i:Nat) (v:Value),a.tmps.size=42->d < 42->(a.put (some d) v).tmps.getD i undef=if i=d then v else a.tmps.getD i undef:=fun a d i v h hd=>Ag9 v i (by rw [h];exact hd)
 have ts:∀ (a:Act) (d:Nat) (v:Value),a.tmps.size=42->(a.put (some d) v).tmps.size=42:=fun a d v h=>by simpa [Act.put] using h
 obtain ⟨A1,hA1⟩ : ∃ A1,a.put (some 36) (.slice (some ⟨g,0,none⟩) l.length cc)=A1:=⟨_,rfl⟩
 obtain ⟨A2,hA2⟩ : ∃ A2,A1.put (some 37) (.int .i64 (m:Nat))=A2:=⟨_,rfl⟩
 obtain ⟨A3,hA3⟩ : ∃ A3,A2.put (some 38) (.slice (some ⟨g,m*4,none⟩) (l.length - m) (cc - m))=A3:=⟨_,rfl⟩
 obtain ⟨A4,hA4⟩ : ∃ A4,A3.put (some 39) (.slice (some ⟨g,0,none⟩) l.length cc)=A4:=⟨_,rfl⟩
 obtain ⟨A5,hA5⟩ : ∃ A5,A4.put (some 40) (.int .i64 (m:Nat))=A5:=⟨_,rfl⟩
 obtain ⟨A6,hA6⟩ : ∃ A6,A5.put (some 41) (.slice (some ⟨g,0,none⟩) m cc)=A6:=⟨_,rfl⟩
 have t1:A1.tmps.size=42:=by rw [<-hA1];exact ts _ _ _ hsz
 have t2:A2.tmps.size=42:=by rw [<-hA2];exact ts _ _ _ t1
 have t3:A3.tmps.size=42:=by rw [<-hA3];exact ts _ _ _ t2
 have t4:A4.tmps.size=42:=by rw [<-hA4];exact ts _ _ _ t3
 have t5:A5.tmps.size=42:=by rw [<-hA5];exact ts _ _ _ t4
 have t6:A6.tmps.size=42:=by rw [<-hA6];exact ts _ _ _ t5
 have g1:A1.tmps.getD 5 undef=.int .i64 (m:Nat):=by rw [<-hA1,tg _ _ _ _ hsz (by omega),if_neg (by omega)];exact e5
 have g2:A2.tmps.getD 36 undef=.slice (some ⟨g,0,none⟩) l.length cc:=by rw [<-hA2,tg _ _ _ _ t1 (by omega),if_neg (by omega),<-hA1,tg _ _ _ _ hsz (by omega),if_pos rfl]
 have g3:A2.tmps.getD 37 undef=.int .i64 (m:Nat):=by rw [<-hA2,tg _ _ _ _ t1 (by omega),if_pos rfl]
 have g4:A3.tmps.getD 38 undef=.slice (some ⟨g,m*4,none⟩) (l.length - m) (cc - m):=by rw [<-hA3,tg _ _ _ _ t2 (by omega),if_pos rfl]
 have g5:A3.tmps.getD 0 undef=.slice (some ⟨g,0,none⟩) l.length cc:=by rw [<-hA3,tg _ _ _ _ t2 (by omega),if_neg (by omega),<-hA2,tg _ _ _ _ t1 (by omega),if_neg (by omega),<-hA1,tg _ _ _ _ hsz (by omega),if_neg (by omega)];exact hv
 have g6:A4.tmps.getD 5 undef=.int .i64 (m:Nat):=by rw [<-hA4,tg _ _ _ _ t3 (by omega),if_neg (by omega),<-hA3,tg _ _ _ _ t2 (by omega),if_neg (by omega),<-hA2,tg _ _ _ _ t1 (by omega),if_neg (by omega)];exact g1
 have g7:A5.tmps.getD 39 undef=.slice (some ⟨g,0,none⟩) l.length cc:=by rw [<-hA5,tg _ _ _ _ t4 (by omega),if_neg (by omega),<-hA4,tg _ _ _ _ t3 (by omega),if_pos rfl]
 have g8:A5.tmps.getD 40 undef=.int .i64 (m:Nat):=by rw [<-hA5,tg _ _ _ _ t4 (by omega),if_pos rfl]
 have g9:A6.tmps.getD 41 undef=.slice (some ⟨g,0,none⟩) m cc:=by rw [<-hA6,tg _ _ _ _ t5 (by omega),if_pos rfl]
 have i1:(0:Int)<=(m:Int)/\(m:Int)<=(l.length:Int):=by omega
 have i2:(0:Int)<=(l.length:Int)/\(l.length:Int)<=(cc:Int):=by omega
 have i3:(0:Int)<=(m:Int)/\(m:Int)<=(cc:Int):=by omega
 have i4:m<=l.length:=by omega
 have i5:m<=cc:=by omega
 have i6:cc≠m:=by omega
 have i7:cc≠0:=by omega
 have b1:∀ w,(Instr.sliceBounds true l.length cc (some (.int .i64 (m:Nat))) none none).run Tryz.prog w=.ok (m,l.length,cc) w:=fun w=>by simp [Instr.sliceBounds,Instr.sliceBound,asIntOf,i1,i2,i3,i4,i5,hnc]
 have b2:∀ w,(Instr.sliceBounds true l.length cc none (some (.int .i64 (m:Nat))) none).run Tryz.prog w=.ok (0,m,cc) w:=fun w=>by simp [Instr.sliceBounds,Instr.sliceBound,asIntOf,i1,i2,i3,i4,i5,hnc]
 refine wpIn_seq (wpIn_region_lit (l:=[_,_,_,_]) ?_)
 refine Lx rfl (fun _ h=>by cases h) (v:=.slice (some ⟨g,0,none⟩) l.length cc) (w':=w) (by simp only [execOp,Act.eval,hv];rfl) ?_
 simp only [hA1]
 refine Lx rfl (fun _ h=>by cases h) (v:=.int .i64 (m:Nat)) (w':=w) (by simp only [execOp,Act.eval,g1];rfl) ?_
 simp only [hA2]
 refine Lx rfl (fun _ h=>by cases h) (v:=.slice (some ⟨g,m*4,none⟩) (l.length - m) (cc - m)) (w':=w) (by
  simp only [execOp,Act.eval,g2,Option.map_some,Option.map_none,g3]
  refine Hh ?_
  simp [Instr.sliceAt,Instr.slice,run_underlying Tryz.underlying27,b1,sizeOf,typeInfo,hi0,hz1,i6,Addr.add]
  exact fun h=>h.symm) ?_
 simp only [hA3]
 refine Lx rfl (fun _ h=>by cases h) (v:=.tuple #[]) (w':=w.setRow g C2) ?_ ?_
 ·have he:A3.eval (.tmp 38)=.slice (some ⟨g,m*4,none⟩) (l.length - m) (cc - m):=g4
  simp [execOp,resolve,invoke,builtin,he,hcl]
 refine wpListIn_nil ?_
 refine wpIn_seq (wpIn_region_lit (l:=[_,_,_,_]) ?_)
 refine Lx rfl (fun _ h=>by cases h) (v:=.slice (some ⟨g,0,none⟩) l.length cc) (w':=w.setRow g C2) (by
  show (execOp A3.eval _).run _ _=_
  simp only [execOp,Act.eval,g5];rfl) ?_
 show wpListIn _ _ _ _ _ _ (A3.put (some 39) _) _
 simp only [hA4]
 refine Lx rfl (fun _ h=>by cases h) (v:=.int .i64 (m:Nat)) (w':=w.setRow g C2) (by simp only [execOp,Act.eval,g6];rfl) ?_
 simp only [hA5]
 refine Lx rfl (fun _ h=>by cases h) (v:=.slice (some ⟨g,0,none⟩) m cc) (w':=w.setRow g C2) (by
  simp only [execOp,Act.eval,g7,Option.map_some,Option.map_none,g8]
  refine Hh ?_
  simp [Instr.sliceAt,Instr.slice,run_underlying Tryz.underlying27,b2,sizeOf,typeInfo,hi0,hz1,i7,Addr.add]) ?_
 simp only [hA6]
 refine Lx rfl (fun _ h=>by cases h) (v:=.slice (some ⟨g,0,none⟩) m cc) (w':=w.setRow g C2) (by simp only [execOp,Act.eval,g9];rfl) ?_
 refine wpListIn_nil ?_
 -- the state behind
 have hst0:St V w0 m0 E ⟨[],σ.bk⟩ a w:=hs.weak fun i=>.inr rfl
 rw [q1] at hst0
 have hch2:Bw (Ba (vis V w0 w (Ac E σ.bk))) 4 (C2.toList.take ((l.take m).length*4)) (l.take m):=by
  have e1:(l.take m).length=m:=by simp;omega
  obtain ⟨hA,-⟩:=hch.split m i4
  rw [List.take_take,Nat.min_eq_left (by omega)] at hA
  have e2:(cur.toList.take (m*4)).length=m*4:=by simp only [List.length_take,Array.length_toList,hcs];omega
  rw [e1,hC2]
  show Bw _ 4 (List.take _ (_++_++_)) _
  rw [List.append_assoc,List.take_left' e2]
  exact hA
 have hO2:Ah (Ba (vis V w0 w (Ac E σ.bk))) 4 (w.setRow g C2) w0.heap.size 49 (.slice (some ⟨g,0,none⟩) m cc) (l.take m) :=
  Ah.shut hg1 hBk.setRow' (by simp;omega) (by simp;omega) (by unfold maxLen;omega) hC2s (by simp;omega) hch2
 have hown:(BA.row b 49 4 l).owned E=[g]:=by simp [BA.owned,he,Value.ownBlock]
 have hE:Env.same 4200 4300 E ⟨fun x=>if x=4200 then g else E.blk x,fun x=>if x=4200 then .slice (some ⟨g,0,none⟩) m cc else E.row x⟩:=fun x hx=>by
  have:¬ x=4200:=by omega
  simp [this]
 have hoff:Ks 4200 4300 (pre++post)=true:=by
  have key:∀ {l:List BA},(∀ b∈l,b.off 4200 4300=true)->Ks 4200 4300 l=true:=fun {l}=>by
   induction l with
   | nil=>exact fun _=>rfl
   | cons b l ih=>exact fun h=>by simp only [Ks,Bool.and_eq_true];exact ⟨h b (by simp),ih fun x hx=>h x (List.mem_cons_of_mem _ hx)⟩
  exact key fun x hx=>Ma hf x (by
   rw [q1]
   rcases List.mem_append.1 hx with hx | hx
   ·exact List.mem_append_left _ hx
   ·exact List.mem_append_right _ (List.mem_cons_of_mem _ hx))
 have hnew:Ac (⟨fun x=>if x=4200 then g else E.blk x,fun x=>if x=4200 then .slice (some ⟨g,0,none⟩) m cc else E.row x⟩ : Env) [.row 4200 49 4 (l.take m)]=[g]:=by simp [Ac,BA.owned,Value.ownBlock]
 have hmid:Ac E [BA.row b 49 4 l]=[g]:=by simp [Ac,hown]
 have hsw:=St.swap (mid:=[.row b 49 4 l]) (nb:=[.row 4200 49 4 (l.take m)]) (w':=w.setRow g C2) (lo:=4200) (hi:=4300) (by simpa using hst0) (fun x hx hlt=>(Fo w g C2).block x hlt fun e=>hx (by rw [hmid,<-Option.some.inj e];simp)) (by simp [World.setRow]) (hs.low.grown (Fo w g C2) hs.low.size fun x hx=>by rw [<-Option.some.inj hx];exact hg1) hE rfl hoff (by rw [hnew];simp) (fun x hx=>.inl (by rw [hmid];rw [hnew] at hx;exact hx)) (fun x hx=>by
  simp only [List.mem_singleton] at hx
  subst hx
  refine ⟨?_,fun x hx=>by simpa [Value.ownBlock,eq_comm] using hx⟩
  simp only [if_true]
  refine hO2.mono fun cs y hy=>Ba.ext ?_ hy
  rw [hnew]
  refine Db (by simp [World.setRow]) fun p u _ h2 h3 h4=>?_
  rw [q1] at h3
  simp only [Ar,Ac,hown,List.mem_append,not_or] at h3 ⊢
  refine ⟨⟨h3.2.1,h3.1,h3.2.2⟩,?_⟩
  rw [World.cell?_of_block ((Fo w g C2).block p.block h2 fun e=>h3.2.1 (by rw [<-Option.some.inj e];simp))]
  exact h4)
 have hd:∀ x,x < 42->∀ d,some x=some d->d < m0.nd.n/\d∉m0.nd.fx:=fun x hx d e=>by
  obtain rfl:=Option.some.inj e
  rw [hn,hn42,hfx]
  exact ⟨hx,by simp⟩
 have P1:=hsw.put (dst:=some 36) (hd 36 (by omega)) (v:=.slice (some ⟨g,0,none⟩) l.length cc) (r:=.any) .any
 rw [hA1] at P1
 have P2:=P1.put (dst:=some 37) (hd 37 (by omega)) (v:=.int .i64 (m:Nat)) (r:=.any) .any
 rw [hA2] at P2
 have P3:=P2.put (dst:=some 38) (hd 38 (by omega)) (v:=.slice (some ⟨g,m*4,none⟩) (l.length - m) (cc - m)) (r:=.any) .any
 rw [hA3] at P3
 have P4:=P3.put (dst:=some 39) (hd 39 (by omega)) (v:=.slice (some ⟨g,0,none⟩) l.length cc) (r:=.any) .any
 rw [hA4] at P4
 have P5:=P4.put (dst:=some 40) (hd 40 (by omega)) (v:=.int .i64 (m:Nat)) (r:=.any) .any
 rw [hA5] at P5
 have P6:=P5.put (dst:=some 41) (hd 41 (by omega)) (v:=.slice (some ⟨g,0,none⟩) m cc) (r:=.any) .any
 rw [hA6] at P6
 have P7:=P6.put (dst:=some 4) (hd 4 (by omega)) (v:=.slice (some ⟨g,0,none⟩) m cc) (r:=.own 4200) (.own (by simp))
 have P8:=P7.weak (fr':=[(4,.own 4200)]) fun i=>by
  simp only [J2,Cz]
  by_cases e:i=4
  ·exact .inl (by simp [e])
  ·exact .inr (by simp [e])
 rw [q3] at h
 exact h hG m0 _ _ _ hn P8
end
attribute [local irreducible] AW AWY Cd Bk vop C5 Bl Bz qop Cj Cv B4 Aw C4 A7 Bq
attribute [local go_sem] Eh Fc Jn Ao As
section
variable (f : FuncId) (C D : List IV) (p : Ai -> Bool) (hp : ∀ x, A7 Tryz.prog A8 f [wA x, .ip C, .ip D] (.val (.bool (p x))) [])
include hp
theorem C16 (l:List Ai):A7 Tryz.prog A8 130 [.iv (wrI l),.fn f [.ip C,.ip D]] (.val (.int .i64 (if l.any p=true then ((l.findIdx p:Nat):Int) else -1))) []:=by
 refine A7.of (n:=19) (rs:=[.tmp 4]) Tryz.func130 rfl (by kernel_rfl) Tryz.ntmps130 (by kernel_rfl) (by simp) (fun _ _=>A8.later) ?_
 intro hok V w0
 have hlen:l.length<=1073741824:=by simpa [wrI] using hok.1.1
 refine g ?_
 repeat' refine st_ rfl (g ?_)
 refine AW.loop (fun m:{m:Nat // m<=l.length/\∀ x∈l.take m,p x=false}=>⟨[(0,.iv (wrI l)),(1,.fn f [.ip C,.ip D]),(7,.val (.int .i64 (l.length:Nat))),(8,.val (.int .i64 (m.1:Nat)))],[]⟩) (fun m=>l.length - m.1) ⟨0,Nat.zero_le _,fun x hx=>by simp at hx⟩ id ⟨⟨rfl,rfl,rfl,rfl,trivial⟩,trivial,List.nodup_nil⟩ fun ⟨m,hm,ht⟩=>?_
 refine g ?_
 repeat' (first | refine st_ rfl (g ?_) | refine Az (fun h=>g ?_) (fun h=>g ?_) | refine C3 (fun h=>g ?_) (fun h=>g ?_) | refine ix_ (by omega) (g ?_) | refine A9 (hp _) rfl (g ?_))
 ·have hlt:m < l.length:=by omega
  rw [if_pos (List.any_eq_true.2 ⟨_,List.getElem_mem hlt,h⟩),(List.findIdx_eq hlt).2 ⟨h,fun j hj=>ht _ (List.mem_take_iff_getElem.2 ⟨j,by omega,rfl⟩)⟩]
 ·refine ⟨⟨m+1,by omega,fun x hx=>?_⟩,id,⟨⟨rfl,rfl,rfl,rfl,trivial⟩,trivial,List.nodup_nil⟩,by show l.length - (m+1) < l.length - m;omega⟩
  rw [List.take_succ_eq_append_getElem (by omega)] at hx
  rcases List.mem_append.1 hx with h1 | h1
  ·exact ht x h1
  ·rw [List.mem_singleton.1 h1];exact h
 ·obtain rfl:m=l.length:=by omega
  rw [List.take_length] at ht
  rw [if_neg]
  rw [List.any_eq_true]
  rintro ⟨x,hx,hp⟩
  rw [ht x hx] at hp
  cases hp
structure E43 (p:Ai->Bool) (l:List Ai) where
 i:Nat
 j:Nat
 M:List Ai
 hj:j<=l.length
 hij:i < j
 hl:M.length=l.length
 ht:M.take i=(l.take j).filter fun x=>!p x
 hd:M.drop j=l.drop j
set_option maxRecDepth 100000 in
set_option maxHeartbeats 1600000 in
theorem C33 (l : List Ai) (hbig : l.length <= 1073741824) (hI : ∀ x ∈ l, I64 x.stamp.count /\ I64 x.stamp.node /\ I64 x.object) : Fa Tryz.prog A8 47 [.own 1, .fn f [.ip C, .ip D]] (.own 0) [.row 1 49 4 (l.map enW)] [.row 0 49 4 ((l.filter fun x => !p x).map enW)] [] [] := by
  refine Fa.of [] (n := 42) (rs := [.tmp 4]) Tryz.func47 rfl (by kernel_rfl) Tryz.ntmps47 (by kernel_rfl) (by simp) trivial rfl rfl fun hok V w0 F => ?_
  have hidx := C16 f C D p hp l
  refine g ?_
  repeat' refine st_ rfl (g ?_)
  refine Pb hidx (by simp [Wn]) rfl (fun _ h => by cases h) (Sbs.rfl_ _) rfl (g ?_)
  cases ha : l.any p with
  | false =>
    have hfil : (l.filter fun x => !p x) = l := List.filter_eq_self.2 fun x hx => by
      have := List.any_eq_false.1 ha x hx
      simpa using this
    rw [hfil, if_neg (by decide)]
    refine g ?_
    repeat' refine st_ rfl (g ?_)
    exact ⟨fun b => if b = 0 then 1 else b, fun _ _ _ h => h, trivial, ⟨rfl, rfl⟩, by simp⟩
  | true =>
    obtain ⟨i0, hi0⟩ : ∃ i0, l.findIdx p = i0 := ⟨_, rfl⟩
    have hlt0 : i0 < l.length := by rw [<- hi0]; exact List.findIdx_lt_length.2 (List.any_eq_true.1 ha)
    have hp0 : p l[i0] = true := by
      have := List.findIdx_getElem (p := p) (xs := l) (w := by rw [hi0]; exact hlt0)
      simpa only [hi0] using this
    have hbef : ∀ x ∈ l.take i0, p x = false := fun x hx => by
      obtain ⟨j, hj, rfl⟩ := List.mem_take_iff_getElem.1 hx
      have := List.not_of_lt_findIdx (p := p) (xs := l) (i := j) (by omega)
      simpa using this
    have hstart : l.take i0 = (l.take (i0 + 1)).filter fun x => !p x := by
      rw [List.take_succ_eq_append_getElem hlt0, List.filter_append, List.filter_eq_self.2 fun x hx => by simp [hbef x hx]]
      simp [hp0]
    rw [if_pos rfl, hi0]
    refine g ?_
    repeat' refine st_ rfl (g ?_)
    refine AW.loop (fun x : E43 p l => ⟨[(0, .own 1), (1, .fn f [.ip C, .ip D]), (5, .val (.int .i64 (x.i : Nat))), (6, .val (.int .i64 (x.j : Nat)))], [.row 1 49 4 (x.M.map enW), .opq 99 F]⟩) (fun x => l.length - x.j) ⟨i0, i0 + 1, l, hlt0, by omega, rfl, hstart, rfl⟩ id ⟨⟨rfl, rfl, rfl, rfl, trivial⟩, ⟨rfl, rfl, trivial⟩, by simp [Aq, BA.id]⟩ fun ⟨i, j, M, hj, hij, hl, ht, hd⟩ => ?_
    simp only
    repeat (refine AW.seq ?_)
    refine AW.reg rfl fun KK hKK => ?_
    refine g ?_
    repeat' (refine hKK _ (g ?_); clear hKK KK)
    repeat (refine AW.seq ?_)
    refine st_ rfl ?_
    refine g ?_
    refine C3 (fun h => ?_) (fun h => ?_)
    · have hlt : j < M.length := by simpa using h
      have hltl : j < l.length := by omega
      obtain ⟨x, hx⟩ : ∃ x, l[j] = x := ⟨_, rfl⟩
      have hMj : M[j]? = some x := by
        have := congrArg (fun L => L[0]?) hd
        simp only [List.getElem?_drop, Nat.add_zero] at this
        rw [this, <- hx]
        exact List.getElem?_eq_getElem hltl
      have hgj := C0 (f := enW) hMj
      have hMi : M[i]? = some M[i] := List.getElem?_eq_getElem (by omega)
      have hgi := C0 (f := enW) hMi
      obtain ⟨o1, o2, o3⟩ := hI x (hx ▸ List.getElem_mem hltl)
      have hnext : M.drop (j + 1) = l.drop (j + 1) := by
        have := congrArg (List.drop 1) hd
        rwa [List.drop_drop, List.drop_drop] at this
      refine g ?_
      repeat' refine st_ rfl (g ?_)
      refine ⟨by omega, by omega, ?_⟩
      refine g ?_
      repeat' refine Ag (g ?_)
      refine ⟨_, hgj, ?_⟩
      refine g ?_
      repeat' (first | refine st_ rfl (g ?_) | refine Ag (g ?_) | refine C3 (fun h => g ?_) (fun h => g ?_) | refine A9 (hp x) rfl (g ?_))
      · have hq : p x = false := by simpa using h
        refine ⟨by omega, by omega, ?_⟩
        refine g ?_
        repeat' refine Ag (g ?_)
        refine ⟨_, _, rfl, ⟨o1, o2, o3, trivial, trivial⟩, hgi, ?_⟩
        refine g ?_
        repeat' (first | refine st_ rfl (g ?_) | refine Ag (g ?_))
        refine ⟨⟨i + 1, j + 1, M.set i x, hltl, by omega, by simp [hl], ?_, ?_⟩, id, ⟨⟨rfl, rfl, rfl, rfl, trivial⟩, ⟨?_, rfl, trivial⟩, by simp [Aq, BA.id]⟩, by show l.length - (j + 1) < l.length - j; omega⟩
        · rw [List.take_succ_eq_append_getElem hltl, List.filter_append, <- ht, hx, List.take_succ_eq_append_getElem (by simp; omega), List.getElem_set_self, List.take_set_of_le (Nat.le_refl _)]
          simp [hq]
        · rw [List.drop_set_of_lt (by omega)]; exact hnext
        · simp only [List.map_set]
          rfl
      · have hq : p x = true := by simpa using h
        refine ⟨⟨i, j + 1, M, hltl, by omega, hl, ?_, hnext⟩, id, ⟨⟨rfl, rfl, rfl, rfl, trivial⟩, ⟨rfl, rfl, trivial⟩, by simp [Aq, BA.id]⟩, by show l.length - (j + 1) < l.length - j; omega⟩
        rw [List.take_succ_eq_append_getElem hltl, List.filter_append, <- ht, hx]
        simp [hq]
    · obtain rfl : j = l.length := by have : ¬ j < M.length := by simpa using h
                                      omega
      refine AW.exit ?_
      simp only [reduceIte]
      rw [List.take_length] at ht
      refine AW.trimW (b := 1) (m := i) (l := M.map enW) rfl rfl rfl (by simp; omega) rfl rfl rfl ?_
      rw [<- List.map_take, ht]
      refine g ?_
      repeat' refine st_ rfl (g ?_)
      exact ⟨fun b => if b = 0 then 4200 else b, fun _ _ _ h => h, trivial, ⟨rfl, rfl⟩, by simp⟩
end
end Go.Proofs.YthlgnjlpakimaaaGreatDoor
namespace Go.Proofs.YthlgnjlpakimaaaGreatDoor
open Go.ChangeShapes Go.WideShapes Go.ChangeAt Go.RowKit
theorem Bb6:(Tryz.prog.info? 44).map (fun i=>(i.zero.map (·.cells.size),i.size,i.bytes))=some (some 4,4,48):=by kernel_rfl
theorem B23:(Tryz.prog.info? 44).map (fun i=>i.zero.map (fun z=>z.cells.all (·.oneCell')))=some (some true):=by kernel_rfl
set_option maxRecDepth 100000 in
set_option maxHeartbeats 1600000 in
theorem Bp5 {α:Type} {R:List Value->α->Prop} (h1:∀ cs x,R cs x->∀ u∈cs,u.oneCell'=true) (l:List α) (i n c g:Nat) (w:World) (base:Nat) (h:Ah R 4 w base 44 (.slice (some ⟨g,0,none⟩) n c) l) (hi:i < l.length) :
  Calls Tryz.prog 56 #[.slice (some ⟨g,0,none⟩) n c,.int .i64 i,.int .i64 ((i:Int)+1)] w fun e w'=>e=.returned (.slice (some ⟨g,0,none⟩) (n - 1) c)/\Ah R 4 w' base 44 (.slice (some ⟨g,0,none⟩) (n - 1) c) (l.take i++l.drop (i+1))/\w.grownBy w' (some g):=by
 obtain ⟨i0,z0,hi0,hz0,hzs,hz1,hz2⟩:=Lc Bb6
 have hzone:∀ v∈z0.cells,v.oneCell'=true:=by
  have:=B23
  rw [hi0] at this
  simp only [Option.map_some,hz0,Option.some.injEq] at this
  intro v hv
  obtain ⟨j,hj,rfl⟩:=Array.mem_iff_getElem.1 hv
  exact (Array.all_eq_true.1 this) j hj
 obtain ⟨cur,rfl,hg1,hBk,hnc,hcm,hcs,hbig,hch⟩:=h.open_
 obtain ⟨hA,-⟩:=hch.split i (by omega)
 obtain ⟨-,hBm⟩:=hch.split (i+1) hi
 have hAl:=hA.length
 have hBl:=hBm.length
 rw [show (l.take i).length=i by simp;omega] at hAl
 rw [show (l.drop (i+1)).length=l.length - (i+1) by simp] at hBl
 generalize hL:l.take i++l.drop (i+1)=L
 have hLn:L.length=l.length - 1:=by rw [<-hL];simp;omega
 have HL:=Lib.hid hL
 have HLn:=Lib.hid hLn
 have hBc:∀ j u,((cur.toList.take (l.length*4)).drop ((i+1)*4))[j]? = some u->w.cell? ⟨g,(i+1)*4+j,none⟩=some u:=fun j u hj=>by
  rw [hBk.cell]
  rw [List.getElem?_drop,List.getElem?_take] at hj
  split at hj
  ·simpa using hj
  ·cases hj
 have hone2:∀ v∈(cur.toList.take (l.length*4)).drop ((i+1)*4),v.oneCell'=true:=hBm.one_cell h1
 have hcurA:cur.toList.take (i*4)=(cur.toList.take (l.length*4)).take (i*4):=by rw [List.take_take,Nat.min_eq_left (by omega)]
 rw [<-hcurA] at hA hAl
 generalize hBB:(cur.toList.take (l.length*4)).drop ((i+1)*4)=Bm at hBm hBl hBc hone2
 have hchain:=hA.append hBm
 rw [hL] at hchain
 obtain ⟨C1,hC1⟩ : ∃ C1:Array Value,C1=(cur.toList.take (i*4)++Bm++cur.toList.drop (i*4+Bm.length)).toArray:=⟨_,rfl⟩
 have hC1s:C1.size=c*4:=by
  rw [hC1]
  simp only [List.size_toArray,List.length_append,List.length_take,List.length_drop,Array.length_toList,hcs,hBl]
  omega
 obtain ⟨C2,hC2⟩ : ∃ C2:Array Value,C2=(C1.toList.take ((l.length - 1)*4)++(Builtin.zeroCells z0.cells 1).toList++C1.toList.drop ((l.length - 1)*4+1*4)).toArray:=⟨_,rfl⟩
 have hC2s:C2.size=c*4:=by
  rw [hC2]
  have:(Builtin.zeroCells z0.cells 1).toList.length=4:=by simp [Builtin.zeroCells,hzs]
  simp only [List.size_toArray,List.length_append,List.length_take,List.length_drop,Array.length_toList,hC1s] at this ⊢
  omega
 have hfin:Bw R 4 (C2.toList.take (L.length*4)) L:=by
  have e0:(cur.toList.take (i*4)++Bm).length=(l.length - 1)*4:=by rw [List.length_append,hAl,hBl];omega
  have e1:C1.toList.take ((l.length - 1)*4)=cur.toList.take (i*4)++Bm:=by
   rw [hC1]
   exact List.take_left' e0
  rw [hC2,hLn]
  show Bw R 4 (List.take _ (_++_++_)) L
  rw [e1,List.append_assoc,List.take_left' e0]
  exact hchain
 have hap:∀ W:World,Blk W g 44 cur->∀ ty' cp sc (ad:Addr),(i+1 < l.length->ad=⟨g,(i+1)*4,none⟩)->cp=c->(Builtin.append_ #[28,28] ty' #[.slice (some ⟨g,0,none⟩) i cp,.slice (some ad) (l.length - (i+1)) sc]).run Tryz.prog W=.ok (.slice (some ⟨g,0,none⟩) (l.length - 1) c) (W.setRow g C1):=fun W hN ty' cp sc ad had hcp=>by
  subst hcp
  have hr:=run_append_room (P:=Tryz.prog) W 28 ty' 44 i0 Tryz.underlying28 hi0 g i cp cur hN ad (l.length - (i+1)) sc Bm (by rw [hz1];exact hBl)
   (fun j u hj=>by
    have hlt:i+1 < l.length:=by
     have:=(List.getElem?_eq_some_iff.1 hj).1
     rw [hBl] at this
     omega
    rw [had hlt,Gr,hN.cell,<-hBk.cell]
    exact hBc j u hj) hone2 (by omega) (by rw [hz1,hBl,hcs];omega)
  rw [hz1] at hr
  rw [hC1,hr,show i+(l.length - (i+1))=l.length - 1 by omega]
 have hcl:∀ W:World,Blk W g 44 C1->∀ ty' cp,(Builtin.clear_ #[28] ty' #[.slice (some ⟨g,(l.length - 1)*4,none⟩) 1 cp]).run Tryz.prog W=.ok (.tuple #[]) (W.setRow g C2):=fun W hN ty' cp=>by
  rw [hC2]
  exact Ur 4 W _ _ ty' i0 z0 g ((l.length - 1)*4) 1 cp C1 44 Tryz.underlying28 hi0 hz0 hzs (by omega) hN (by rw [hC1s];omega) hzone
 have HAP:=Lib.hid hap
 have HCL:=Lib.hid hcl
 have HFIN:=Lib.hid hfin
 clear hap hcl hfin
 have B1:=hBk.drew.setRow' (cs':=C1)
 unfold maxLen at hcm
 clear hC1 hC2 hcurA hBB hLn hL h
 have hw1:IntKind.i64.wrap ((i:Int)+1)=(i:Int)+1:=IntWalk.i64_in _ (by omega)
 have hb1:(0:Int)<=(i:Int)+1:=by omega
 have htn:((i:Int)+1).toNat=i+1:=by omega
 have hb3:(i:Int)<=(l.length:Int):=by omega
 have hb4:(i:Int)+1<=(l.length:Int):=by omega
 have hb5:(i:Int)<=(i:Int)+1:=by omega
 have hb6:(l.length:Int)<=(c:Int):=by omega
 have hb7:(i:Int)<=(c:Int):=by omega
 have hne:((i:Int)==(i:Int)+1)=false:=by simp;omega
 have hd1:i+1 - i=1:=by omega
 have hn1:((l.length - 1:Nat):Int)<=(l.length:Int):=by omega
 have hn2:¬ (c=l.length - 1):=by omega
 have hn3:l.length - (l.length - 1)=1:=by omega
 by_cases hcc:c=i+1
 ·subst hcc
  have HLL:=Lib.hid (show l.length=i+1 by omega)
  go_enter Tryz.func56,Tryz.ntmps56
  go_wp2_with fail
  have HAP1:Hid (∀ ty',(Builtin.append_ #[28,28] ty' #[.slice (some ⟨g,0,none⟩) i (i+1),.slice (some ⟨g,0,none⟩) 0 0]).run Tryz.prog w.drew=.ok (.slice (some ⟨g,0,none⟩) (l.length - 1) (i+1)) (w.drew.setRow g C1)):=fun ty'=>by
   have:=HAP.out w.drew hBk.drew ty' (i+1) 0 ⟨g,0,none⟩ (fun h=>by have:=HLL.out;omega) rfl
   rwa [show l.length - (i+1)=0 by have:=HLL.out;omega] at this
  go_region_law (refine Rz rfl _ _ 28 28 rfl (.slice (some ⟨g,0,none⟩) i (i+1)) (.slice (some ⟨g,0,none⟩) 0 0) (by simp [Act.eval,Act.put]) (by simp [Act.eval,Act.put]) (HAP1.out _) ?_)
  go_wp2_with (refine Qy _ rfl (.tmp 31) 28 rfl _ rfl (HCL.out _ B1 _ _) ?_)
  go_ret
  exact ⟨rfl,Ah.shut hg1 (B1.setRow' (cs':=C2)) HLn.out.symm (by rw [HLn.out];omega) (by unfold maxLen;omega) hC2s (by rw [HLn.out];omega) HFIN.out,Ly (Ly (Ye w _) (Fo _ g C1)) (Fo _ g C2)⟩
 ·go_enter Tryz.func56,Tryz.ntmps56
  go_wp2_with fail
  go_region_law (refine Rz rfl _ _ 28 28 rfl (.slice (some ⟨g,0,none⟩) i c) (.slice (some ⟨g,(i+1)*4,none⟩) (l.length - (i+1)) (c - (i+1))) (by simp [Act.eval,Act.put]) (by simp [Act.eval,Act.put]) (HAP.out _ hBk.drew _ c _ _ (fun _=>rfl) rfl) ?_)
  go_wp2_with (refine Qy _ rfl (.tmp 31) 28 rfl _ rfl (HCL.out _ B1 _ _) ?_)
  go_ret
  exact ⟨rfl,Ah.shut hg1 (B1.setRow' (cs':=C2)) HLn.out.symm (by rw [HLn.out];omega) (by unfold maxLen;omega) hC2s (by rw [HLn.out];omega) HFIN.out,Ly (Ly (Ye w _) (Fo _ g C1)) (Fo _ g C2)⟩
theorem A10 {P : Program} {G : World -> Prop} {f : FuncId} {fn : Func} {c : Code} {k T : Nat} {l : List (List IV)} (hf : P.funcs[f]? = some fn) (hb : fn.body = some c) (hname : (fn.name == "runtime.NumGoroutine") = false)
  (h:∀ (V w:World) (v:Value),Ext V w->Sl (Ba V) k V V.heap.size v l->Calls P f #[v] w fun e w'=>(∃ v',e=.returned v'/\Ah (Ba V) k w' w.heap.size T v' l)/\Below w.heap.size w w'):A7 P G f [.iv (.sl k l)] (.own 0) [.row 0 T k l] :=
 ⟨Vi hf hb hname,fun V w E vs hV hG hr=>by
  obtain ⟨v0,rfl,hv0⟩:=Jk hr
  have hs:Sl (Ba V) k V V.heap.size v0 l:=by cases hv0 with | iv h=>exact h.to_sl
  refine (h V w v0 hV hs).mono fun _ w' ⟨⟨v,he,hO⟩,hb⟩=>?_
  obtain ⟨A,n,cc,hv⟩ : ∃ A n cc,v=.slice A n cc:=by
   obtain ⟨A,cc,hv,_⟩:=hO.sl
   exact ⟨A,_,cc,hv⟩
  have ho:Ac ⟨fun _=>(v.ownBlock).getD 0,fun _=>v⟩ [.row 0 T k l]=v.ownBlock.toList:=by simp [Ac,BA.owned]
  refine ⟨v,⟨fun _=>(v.ownBlock).getD 0,fun _=>v⟩,he,hb,by rw [ho];cases v.ownBlock<;>simp,fun g hg=>by rw [ho,Option.mem_toList] at hg;exact (hO.lt g hg).1,fun b hb'=>?_,?_⟩
  ·simp only [List.mem_singleton] at hb'
   subst hb'
   refine ⟨hO.mono fun cs x h=>?_,fun g hg=>by simp [hg]⟩
   rw [ho]
   exact Ba.ext (Q5 hV hb) h
  ·rw [hv]
   exact .own rfl⟩
theorem Bn5:(Tryz.prog.info? 5).map (fun i=>(i.zero.map (·.cells.size),i.size,i.bytes))=some (some 1,1,1):=by kernel_rfl
theorem Be7 (l:List (List IV)) (v:Value) (V:World) (w:World) (hV:Ext V w) (h:Sl (Ba V) 1 V V.heap.size v l) :
  Calls Tryz.prog 147 #[v] w fun e w'=>(∃ v',e=.returned v'/\Ah (Ba V) 1 w' w.heap.size 5 v' l)/\Below w.heap.size w w':=by
 have hle:=h.len_le
 obtain ⟨i0,z0,hi,hz0,hzs,hz1,hz2⟩:=Lc Bn5
 obtain ⟨A,c,rfl,-,-,hne⟩:=id h
 have he:=fun (w:World) (a:Option Addr) (n c:Nat)=>Lib.run_eql_slice_nil (P:=Tryz.prog) w 38 5 a n c 0 0 Tryz.underlying38
 cases A with
 | none =>
  obtain rfl:l=[]:=by
   rcases l with _ | ⟨y,l⟩
   ·rfl
   ·obtain ⟨b,off,h1,_⟩:=hne (by simp)
    cases h1
  clear hne h
  go_enter Tryz.func147,Tryz.ntmps147
  go_wp2_with fail
  go_ret
  exact ⟨⟨_,rfl,Ah.nil_ _ _ _⟩,Below.refl _ _⟩
 | some A =>
  have HH:=Lib.hid (Sl.ext h (fun _ _ h=>h) hV)
  clear hne h
  go_enter Tryz.func147,Tryz.ntmps147
  go_wp2_with (at_builtin;refine D0 _ (fun cs x h=>Ba.one h) rfl (.tmp 5) (.tmp 6) 38 rfl w.heap.size 5 i0 _ 1 Tryz.underlying38 hi hz0 hz1 hz2 hzs (by omega) _ [] rfl (K6 (R:=(Ba V)) (k:=1) w 5) w.heap.size _ l rfl (HH.out.keep (fun _ _ h=>h) (Nat.le_refl _) (fun p hp=>World.cell?_alloc_lt _ _ _ hp)) (by simp only [List.length_nil];omega) (by omega) (by simp) ?_;intro v1 w1 hown hgr hat)
  simp only [List.nil_append] at hown
  have hb1:Below w.heap.size w w1:=(Aj (Below.refl _ _)).grown hgr (by simp) (fun k hk=>Nat.le_of_eq (Option.some.inj hk))
  have H1:=Lib.hid hown
  clear hown hgr hat hi hz0 hz1 hz2 hzs
  go_wp2_with fail
  go_ret
  exact ⟨⟨_,rfl,H1.out⟩,hb1⟩
theorem Bb4:(Tryz.prog.info? 44).map (fun i=>(i.zero.map (·.cells.size),i.size,i.bytes))=some (some 4,4,48):=by kernel_rfl
theorem B07 (l:List (List IV)) (v:Value) (V:World) (w:World) (hV:Ext V w) (h:Sl (Ba V) 4 V V.heap.size v l) :
  Calls Tryz.prog 143 #[v] w fun e w'=>(∃ v',e=.returned v'/\Ah (Ba V) 4 w' w.heap.size 44 v' l)/\Below w.heap.size w w':=by
 have hle:=h.len_le
 obtain ⟨i0,z0,hi,hz0,hzs,hz1,hz2⟩:=Lc Bb4
 obtain ⟨A,c,rfl,-,-,hne⟩:=id h
 have he:=fun (w:World) (a:Option Addr) (n c:Nat)=>Lib.run_eql_slice_nil (P:=Tryz.prog) w 28 44 a n c 0 0 Tryz.underlying28
 cases A with
 | none =>
  obtain rfl:l=[]:=by
   rcases l with _ | ⟨y,l⟩
   ·rfl
   ·obtain ⟨b,off,h1,_⟩:=hne (by simp)
    cases h1
  clear hne h
  go_enter Tryz.func143,Tryz.ntmps143
  go_wp2_with fail
  go_ret
  exact ⟨⟨_,rfl,Ah.nil_ _ _ _⟩,Below.refl _ _⟩
 | some A =>
  have HH:=Lib.hid (Sl.ext h (fun _ _ h=>h) hV)
  clear hne h
  go_enter Tryz.func143,Tryz.ntmps143
  go_wp2_with (at_builtin;refine D0 _ (fun cs x h=>Ba.one h) rfl (.tmp 5) (.tmp 6) 28 rfl w.heap.size 44 i0 _ 48 Tryz.underlying28 hi hz0 hz1 hz2 hzs (by omega) _ [] rfl (K6 (R:=(Ba V)) (k:=4) w 44) w.heap.size _ l rfl (HH.out.keep (fun _ _ h=>h) (Nat.le_refl _) (fun p hp=>World.cell?_alloc_lt _ _ _ hp)) (by simp only [List.length_nil];omega) (by omega) (by simp) ?_;intro v1 w1 hown hgr hat)
  simp only [List.nil_append] at hown
  have hb1:Below w.heap.size w w1:=(Aj (Below.refl _ _)).grown hgr (by simp) (fun k hk=>Nat.le_of_eq (Option.some.inj hk))
  have H1:=Lib.hid hown
  clear hown hgr hat hi hz0 hz1 hz2 hzs
  go_wp2_with fail
  go_ret
  exact ⟨⟨_,rfl,H1.out⟩,hb1⟩
theorem A07 (l:List Nat):A7 Tryz.prog A8 147 [.iv (byI l)] (.iv (byI l)) [] :=
 (A10 (l:=l.map fun (b:Nat)=>[.val (.int .u8 b)]) Tryz.func147 rfl (by kernel_rfl) fun V w v hV h=>Be7 _ v V w hV h).frz trivial
theorem A08 (l:List Cg):A7 Tryz.prog A8 143 [.iv (boI l)] (.iv (boI l)) [] :=
 (A10 (l:=l.map enB) Tryz.func143 rfl (by kernel_rfl) fun V w v hV h=>B07 _ v V w hV h).frz trivial
set_option maxRecDepth 100000 in
theorem C34 (l:List Cg) (i:Nat) (hi:i < l.length):Fa Tryz.prog A8 56 [.own 1,.val (.int .i64 i),.val (.int .i64 ((i:Int)+1))] (.own 0) [.row 1 44 4 (l.map enB)] [.row 0 44 4 ((l.take i++l.drop (i+1)).map enB)] [] []:=by
 refine Fa.row (r:=id) Tryz.func56 rfl (by kernel_rfl) (fun E X v' ⟨A,n,c,hv⟩ he=>by subst hv;exact .own he) fun X w E v vs base hX hb hG h hh hvs=>?_
 obtain ⟨u0,u1,rfl,q0,q1⟩ : ∃ u0 u1,vs=[u0,u1]/\Bp E X u0 (.val (.int .i64 i))/\Bp E X u1 (.val (.int .i64 ((i:Int)+1))):=by
  obtain ⟨u0,vs',e,h1,h2⟩:=Au.cons_iff.1 hvs
  obtain ⟨u1,vs'',e',h1',h2'⟩:=Au.cons_iff.1 h2
  rw [Au.nil_iff.1 h2'] at e'
  exact ⟨u0,u1,by rw [e,e'],h1,h1'⟩
 cases q0
 cases q1
 rcases h.forms with ⟨_,h0⟩ | ⟨g,c,rfl,hg1,hg2⟩
 ·have:l.length=0:=by simpa using congrArg List.length h0
  omega
 have hcall:=Bp5 (R:=Ba X) (fun cs x h=>Ba.one h) (l.map enB) i _ c g w base h (by simpa using hi)
 refine hcall.mono ?_
 rintro e w' ⟨rfl,r1,r2⟩
 refine ⟨_,rfl,?_,r2,.inl rfl⟩
 rw [List.map_append,List.map_take,List.map_drop]
 exact r1
attribute [local irreducible] AW AWY Cd Bk vop C5 Bl Bz qop Cj Cv B4 Aw C4 A7 Bq
attribute [local go_sem] K9 Kc H8 J8 Ao As
set_option maxRecDepth 100000 in
theorem Ap1 (x:Cg):A7 Tryz.prog A8 137 [boA x] (boA x) []:=by
 refine A7.of (n:=8) (rs:=[.cell 2 44]) Tryz.func137 rfl (by kernel_rfl) Tryz.ntmps137 (by kernel_rfl) (by simp) (fun _ _=>A8.later) ?_
 intro hok V w0
 refine g ?_
 repeat' (first | refine st_ rfl (g ?_) | exact trivial | refine A9 (A07 _) rfl (g ?_))
set_option maxRecDepth 100000 in
theorem A96 (l:List Cg) (o:Int):A7 Tryz.prog A8 52 [.iv (boI l),.val (.int .i64 o)] (.own 0) [.row 0 44 4 ((G7 l o).map enB)]:=by
 refine A7.ofS (n:=25) (rs:=[.tmp 4]) Tryz.func52 rfl (by kernel_rfl) Tryz.ntmps52 (by kernel_rfl) (by simp) (fun _ _=>A8.later) ?_
 intro hok V w0
 have hlen:l.length<=1073741824:=by simpa [boI] using hok.1.1
 refine g ?_
 repeat' refine st_ rfl (g ?_)
 refine AW.adopt 5 9900 44 4 rfl rfl ?_
 refine AW.loop (fun m:{m:Nat // m<=l.length}=>⟨[(1,.val (.int .i64 o)),(5,.own 9900),(8,.iv (boI l)),(9,.val (.int .i64 (l.length:Nat))),(10,.val (.int .i64 (m.1:Nat)))],[.row 9900 44 4 ((G7 (l.take m.1) o).map enB)]⟩) (fun m=>l.length - m.1) ⟨0,Nat.zero_le _⟩ id ⟨⟨rfl,rfl,rfl,?_,rfl,trivial⟩,⟨rfl,trivial⟩,by simp [Aq,BA.id]⟩ fun ⟨m,hm⟩=>?_
 ·simp [AV.ren,Cz]
 simp only
 have hfl:(G7 (l.take m) o).length<=m:=by
  have:=List.length_filter_le (fun x:Cg=>!decide (x.object=o)) (l.take m)
  rw [List.length_take] at this
  unfold G7
  omega
 repeat (refine AW.seq ?_)
 refine AW.reg rfl fun KK hKK=>?_
 refine g ?_
 repeat' (refine hKK _ (g ?_);clear hKK KK)
 repeat (refine AW.seq ?_)
 refine st_ rfl ?_
 refine g ?_
 refine C3 (fun h=>?_) (fun h=>?_)
 ·have hlt:m < l.length:=by have:=of_decide_eq_true h;omega
  obtain ⟨-,o1,o2,o3,-⟩:=D7 (by simpa [boI] using hok.1.2) (enB l[m]) (List.mem_map_of_mem (List.getElem_mem hlt))
  have hs:G7 (l.take (m+1)) o=G7 (l.take m) o++if l[m].object=o then [] else [l[m]]:=by
   unfold G7
   rw [List.take_succ_eq_append_getElem hlt,List.filter_append]
   by_cases e:l[m].object=o<;>simp [e]
  refine g ?_
  repeat' (first | refine st_ rfl (g ?_) | refine Az (fun h=>g ?_) (fun h=>g ?_) | refine ix_ (by omega) (g ?_) | refine A9 (Ap1 _) rfl (g ?_))
  ·refine bs1 (by omega) rfl rfl rfl ⟨o1,o2,o3,trivial,trivial⟩ ?_
   refine g ?_
   refine Bo rfl (by kernel_rfl) (by omega) (by kernel_rfl) rfl (by simp;omega) ?_
   refine g ?_
   repeat' refine st_ rfl (g ?_)
   refine ⟨⟨m+1,hlt⟩,fun b=>if b=9900 then 2300 else b,⟨⟨rfl,rfl,rfl,rfl,rfl,trivial⟩,⟨?_,trivial⟩,by simp [Aq,BA.id]⟩,by show l.length - (m+1) < l.length - m;omega⟩
   rw [hs,if_neg h,List.map_append]
   rfl
  ·refine ⟨⟨m+1,hlt⟩,id,⟨⟨rfl,rfl,rfl,rfl,rfl,trivial⟩,⟨?_,trivial⟩,by simp [Aq,BA.id]⟩,by show l.length - (m+1) < l.length - m;omega⟩
   rw [hs,if_pos (Decidable.of_not_not h),List.append_nil]
   rfl
 ·obtain rfl:m=l.length:=by have:=of_decide_eq_false h;omega
  rw [List.take_length]
  refine g ?_
  repeat' refine st_ rfl (g ?_)
  exact ⟨fun b=>if b=0 then 9900 else b,fun _ _ _ h=>h,rfl,by simp⟩
theorem Cc6 (x:Cg) (o:Int) (s:Ab):A7 Tryz.prog A8 146 [boA x,.ip [.val (.int .i64 o)],.ip [.val (.int .i64 s.count),.val (.int .i64 s.node)]] (.val (.bool (isB o s x))) []:=by
 refine A7.of (n:=15) (rs:=[.tmp 4]) Tryz.func146 rfl (by kernel_rfl) Tryz.ntmps146 (by kernel_rfl) (by simp) (fun _ _=>A8.later) ?_
 intro hok V w0
 obtain ⟨B,hB⟩ : ∃ B,isB o s x=B:=⟨_,rfl⟩
 rw [hB]
 unfold isB at hB
 rw [A32] at hB
 refine g ?_
 repeat' (first | refine st_ rfl (g ?_) | (refine Ci rfl rfl (fun h e=>?_) (fun h e=>?_)<;>simp only [e]<;>clear e<;>refine g ?_))
 ·refine ⟨_,fun u=>S0 _ _ _ _ _ _ u,?_⟩
  refine g ?_
  repeat' (first | refine st_ rfl (g ?_) | refine Ag (g ?_))
  rw [<-hB,h]
  simp
 ·rw [<-hB,decide_eq_false h]
  rfl
set_option maxRecDepth 100000 in
theorem Bn9 (l:List Cg) (f:FuncId) (C D:List IV) (p:Cg->Bool) (hp:∀ x,A7 Tryz.prog A8 f [boA x,.ip C,.ip D] (.val (.bool (p x))) []):A7 Tryz.prog A8 53 [.iv (boI l),.fn f [.ip C,.ip D]] (.val (.int .i64 (if l.any p=true then ((l.findIdx p:Nat):Int) else -1))) []:=by
 refine A7.of (n:=19) (rs:=[.tmp 4]) Tryz.func53 rfl (by kernel_rfl) Tryz.ntmps53 (by kernel_rfl) (by simp) (fun _ _=>A8.later) ?_
 intro hok V w0
 have hlen:l.length<=1073741824:=by simpa [boI] using hok.1.1
 refine g ?_
 repeat' refine st_ rfl (g ?_)
 refine AW.loop (fun m:{m:Nat // m<=l.length/\∀ x∈l.take m,p x=false}=>⟨[(0,.iv (boI l)),(1,.fn f [.ip C,.ip D]),(7,.val (.int .i64 (l.length:Nat))),(8,.val (.int .i64 (m.1:Nat)))],[]⟩) (fun m=>l.length - m.1) ⟨0,Nat.zero_le _,fun x hx=>by simp at hx⟩ id ⟨⟨rfl,rfl,rfl,rfl,trivial⟩,trivial,List.nodup_nil⟩ fun ⟨m,hm,ht⟩=>?_
 refine g ?_
 repeat' (first | refine st_ rfl (g ?_) | refine Az (fun h=>g ?_) (fun h=>g ?_) | refine C3 (fun h=>g ?_) (fun h=>g ?_) | refine ix_ (by omega) (g ?_) | refine A9 (hp _) rfl (g ?_))
 ·have hlt:m < l.length:=by omega
  rw [if_pos (List.any_eq_true.2 ⟨_,List.getElem_mem hlt,h⟩),(List.findIdx_eq hlt).2 ⟨h,fun j hj=>ht _ (List.mem_take_iff_getElem.2 ⟨j,by omega,rfl⟩)⟩]
 ·refine ⟨⟨m+1,by omega,fun x hx=>?_⟩,id,⟨⟨rfl,rfl,rfl,rfl,trivial⟩,trivial,List.nodup_nil⟩,by show l.length - (m+1) < l.length - m;omega⟩
  rw [List.take_succ_eq_append_getElem (by omega)] at hx
  rcases List.mem_append.1 hx with h1 | h1
  ·exact ht x h1
  ·rw [List.mem_singleton.1 h1];exact h
 ·obtain rfl:m=l.length:=by omega
  rw [List.take_length] at ht
  rw [if_neg]
  rw [List.any_eq_true]
  rintro ⟨x,hx,hp⟩
  rw [ht x hx] at hp
  cases hp
theorem Bs7 {α:Type} {p:α->Bool} {l:List α} (h:l.any p=true):∃ hl:l.findIdx p < l.length,p l[l.findIdx p]=true/\l.find? p=some l[l.findIdx p]:=by
 have hl:l.findIdx p < l.length:=List.findIdx_lt_length.2 (List.any_eq_true.1 h)
 refine ⟨hl,List.findIdx_getElem (w:=hl),?_⟩
 obtain ⟨m,hm⟩ : ∃ m,l.findIdx p=m:=⟨_,rfl⟩
 have h1:=List.findIdx_getElem (p:=p) (xs:=l) (w:=hl)
 have h2:∀ x∈l.take m,p x=false:=fun x hx=>by
  obtain ⟨j,hj,rfl⟩:=List.mem_take_iff_getElem.1 hx
  have:=List.not_of_lt_findIdx (p:=p) (xs:=l) (i:=j) (by omega)
  simpa using this
 simp only [hm] at hl h1 ⊢
 conv=>lhs;rw [<-List.take_append_drop m l,List.drop_eq_getElem_cons hl]
 rw [List.find?_append,List.find?_eq_none.2 fun x hx=>by rw [h2 x hx];simp,Option.none_or]
 simp only [List.find?_cons,h1]
set_option maxRecDepth 100000 in
theorem C41 (l:List Cg) (o:Int) (s:Ab) (i0:I64 o) (i1:I64 s.count) (i2:I64 s.node):A7 Tryz.prog A8 70 [.iv (boI l),.val (.int .i64 o),.agg [.val (.int .i64 s.count),.val (.int .i64 s.node)]] (.tup [.iv (byI (Wo l o s).1),.val (.int .i64 (Wo l o s).2)]) []:=by
 refine A7.ofS (n:=20) (rs:=[.tmp 6,.tmp 7]) Tryz.func70 rfl (by kernel_rfl) Tryz.ntmps70 (by kernel_rfl) (by simp) (fun _ _=>A8.later) ?_
 intro hok V w0
 have hlen:l.length<=1073741824:=by simpa [boI] using hok.1.1
 obtain ⟨R,hR⟩ : ∃ R,Wo l o s=R:=⟨_,rfl⟩
 rw [hR]
 unfold Wo at hR
 have hidx:=Bn9 l 146 [.val (.int .i64 o)] [.val (.int .i64 s.count),.val (.int .i64 s.node)] (isB o s) fun x=>Cc6 x o s
 refine g ?_
 refine AW.seq ?_
 refine AW.reg rfl fun KK hKK=>?_
 refine g ?_
 repeat' (refine hKK _ (g ?_);clear hKK KK)
 refine AW.freeze 500 _ rfl ⟨i0,trivial⟩ ?_
 simp only [go_sem,reduceIte,Nat.reduceEqDiff]
 refine AW.freeze 600 _ rfl ⟨i1,i2,trivial⟩ ?_
 simp only [go_sem,reduceIte,Nat.reduceEqDiff]
 cases ha:l.any (isB o s) with
 | false =>
  rw [ha,if_neg (by decide)] at hidx
  have hn:l.find? (isB o s)=none:=List.find?_eq_none.2 fun x hx=>by simpa using List.any_eq_false.1 ha x hx
  rw [hn] at hR
  subst hR
  refine g ?_
  repeat' (first | refine st_ rfl (g ?_) | refine A9 (hidx) rfl (g ?_))
  refine G6 rfl fun p hp=>?_
  simp only [List.zip_cons_cons,List.zip_nil_right,List.mem_cons,List.not_mem_nil,or_false] at hp
  rcases hp with rfl | rfl
  ·exact Bf 1
  ·exact Cm.rfl_ _
 | true =>
  obtain ⟨hl,hp1,hf⟩:=Bs7 ha
  rw [ha,if_pos rfl] at hidx
  rw [hf] at hR
  simp only at hR
  subst hR
  generalize l.findIdx (isB o s)=m at hl hp1 hf hidx ⊢
  refine g ?_
  repeat' (first | refine st_ rfl (g ?_) | refine ix_ (by omega) (g ?_) | refine A9 (hidx) rfl (g ?_) | refine A9 (A07 _) rfl (g ?_))
  exact Cm.rfl_ _
theorem Cd4 {room:Int} {l:List Cg} {k:Nat} (h:k < l.length) (hu:¬ (Jb (l.drop k):Int)<=room):Rr room (l.drop k)=Rr room (l.drop (k+1)):=by
 have e:l.drop k=l[k] :: l.drop (k+1):=List.drop_eq_getElem_cons h
 rw [e] at hu ⊢
 rw [Rr,if_neg hu]
theorem Bc5 {room:Int} : ∀ {l:List Cg},(Jb l:Int)<=room->Rr room l=l
 | [],_=>rfl
 | x :: l,h=>by rw [Rr,if_pos h]
theorem Bv1 {l:List Cg} {k:Nat} (h:k < l.length):Jb (l.drop k)=l[k].value.length+Jb (l.drop (k+1)):=by
 unfold Jb
 rw [List.drop_eq_getElem_cons h,List.map_cons,List.sum_cons]
set_option maxRecDepth 100000 in
set_option maxHeartbeats 1600000 in
theorem C36 (l:List Cg) (room:Int) (x:Cg) (iR:I64 room) (i0:I64 x.object) (i1:I64 x.stamp.count) (i2:I64 x.stamp.node):A7 Tryz.prog A8 65 [.iv (boI l),.val (.int .i64 room),boA x] (.tup [.iv (boI (C96 l room x).1),.val (.int .i64 (C96 l room x).2)]) []:=by
 refine A7.ofS (n:=47) (rs:=[.tmp 6,.tmp 7]) Tryz.func65 rfl (by kernel_rfl) Tryz.ntmps65 (by kernel_rfl) (by simp) (fun _ _=>A8.later) ?_
 intro hok V w0
 have hlen:l.length<=1073741824:=by simpa [boI] using hok.1.1
 obtain ⟨R,hR⟩ : ∃ R,C96 l room x=R:=⟨_,rfl⟩
 rw [hR]
 unfold C96 at hR
 refine g ?_
 refine AW.seq ?_
 refine AW.reg rfl fun KK hKK=>?_
 refine g ?_
 repeat' (refine hKK _ (g ?_);clear hKK KK)
 refine AW.freeze 600 _ rfl ⟨i0,i1,i2,trivial,trivial⟩ ?_
 simp only [go_sem,reduceIte,Nat.reduceEqDiff]
 have hno:∀ {q:List Cg×Int},q=([],1)->Cm (.tup [.val (.slice none 0 0),.val (.int .i64 1)]) (.tup [.iv (boI q.1),.val (.int .i64 q.2)]):=fun {q} e=>by
  subst e
  refine G6 rfl fun p hp=>?_
  simp only [List.zip_cons_cons,List.zip_nil_right,List.mem_cons,List.not_mem_nil,or_false] at hp
  rcases hp with rfl | rfl
  ·exact Bf 4
  ·exact Cm.rfl_ _
 refine g ?_
 repeat' (first | refine st_ rfl (g ?_) | refine C3 (fun h=>g ?_) (fun h=>g ?_) | (refine Ej rfl rfl (fun h=>?_) (fun h=>?_)<;>simp only [h]<;>refine g ?_) | refine A9 (Tz l room iR) rfl (g ?_) | refine A9 (Aa1 x) rfl (g ?_))
 ·rw [if_neg (by rintro ⟨a,_⟩;simp [a] at h)] at hR
  exact hno hR.symm
 ·rw [if_neg (by rintro ⟨_,a⟩;simp [a] at h)] at hR
  exact hno hR.symm
 rename_i h1
 have hc:Cb l room=true:=by simpa using h1
 have hb:Dd x=true:=by simpa using h
 rw [if_pos ⟨hc,hb⟩] at hR
 subst hR
 simp only [Cb,S2,Bool.and_eq_true,decide_eq_true_eq] at hc
 obtain ⟨⟨⟨⟨c1,c2⟩,c3⟩,c4⟩,c5⟩:=hc
 have hcv:=Qk c4
 obtain ⟨O,hO⟩ : ∃ O,G7 l x.object++[x]=O:=⟨_,rfl⟩
 have hfl:(G7 l x.object).length<=256:=Nat.le_trans (List.length_filter_le _ _) c3
 have hOl:O.length<=257:=by rw [<-hO];simp;omega
 have hOv:∀ y∈O,y.value.length<=256:=fun y hy=>by
  rw [<-hO] at hy
  rcases List.mem_append.1 hy with hy | hy
  ·exact (Fk (hcv y (List.mem_filter.1 hy).1)).2.2
  ·rw [List.mem_singleton.1 hy];exact (Fk hb).2.2
 refine AW.drawn (ds:=[20,21,22,23,24,25,26,27,8]) (fin:=[1,2]) (bs:=[0,0,0,0,1,1,1,2,3]) [⟨[],[],[],[],0⟩,⟨[],[],[],[],0⟩,⟨[(21,1)],[],[],[],0⟩,⟨[(20,0),(22,2)],[],[],[],1⟩,⟨[],[],[],[],0⟩,⟨[(24,4)],[],[0],[],0⟩,⟨[(25,5)],[],[],[],1⟩,⟨[(23,3),(26,6)],[],[1],[0],1⟩,⟨[(27,7)],[],[],[],0⟩] (by kernel_rfl) rfl (by kernel_rfl) rfl rfl rfl fun KD hKD=>?_
 refine g ?_
 repeat' (first | refine A9 (A96 l x.object) rfl (g ?_) | refine A9 (Ap1 x) rfl (g ?_))
 refine bs1 (by omega) rfl rfl rfl ⟨i0,i1,i2,trivial,trivial⟩ ?_
 refine g ?_
 refine Bo rfl (by kernel_rfl) (by omega) (by kernel_rfl) rfl (by simp;omega) ?_
 refine g ?_
 repeat' (refine hKD _ _ ⟨rfl,g ?_⟩;clear hKD KD)
 have eO:List.map enB (G7 l x.object)++[[.val (.int .i64 x.object),.val (.int .i64 x.stamp.count),.val (.int .i64 x.stamp.node),byI x.value]]=O.map enB:=by rw [<-hO,List.map_append];rfl
 simp only [J8] at eO
 rw [eO]
 refine AW.freeze 2800 _ rfl trivial ?_
 simp only [go_sem,reduceIte,Nat.reduceEqDiff]
 refine g ?_
 repeat' (first | refine st_ rfl (g ?_) | refine A9 (Ao9 O (by omega) hOv) rfl (g ?_))
 refine AW.loop (fun m:{m:Nat // m<=O.length/\Rr room O=Rr room (O.drop m)}=>⟨[(1,.val (.int .i64 room)),(8,.iv (boI O)),(9,.val (.int .i64 (Jb (O.drop m.1):Nat))),(10,.val (.int .i64 (m.1:Nat)))],[]⟩) (fun m=>O.length - m.1) ⟨0,Nat.zero_le _,rfl⟩ id ⟨⟨rfl,rfl,rfl,rfl,trivial⟩,trivial,List.nodup_nil⟩ fun ⟨m,hm,ht⟩=>?_
 have hu:=Ab6 (O.drop m) fun x hx=>hOv x (List.mem_of_mem_drop hx)
 rw [List.length_drop] at hu
 by_cases hlt:m < O.length
 ·have hv:=hOv O[m] (List.getElem_mem hlt)
  have hs:=Bv1 hlt
  refine g ?_
  repeat' (first | refine st_ rfl (g ?_) | refine Az (fun h=>g ?_) (fun h=>g ?_) | refine ix_ (by omega) (g ?_))
  ·refine ⟨⟨m+1,hlt,ht.trans (Cd4 hlt (by omega))⟩,id,⟨⟨rfl,rfl,?_,rfl,trivial⟩,trivial,List.nodup_nil⟩,by show O.length - (m+1) < O.length - m;omega⟩
   simp [Cz,AV.ren]
   omega
  ·refine ⟨m,O.length,rfl,rfl,hm,Nat.le_refl _,?_⟩
   have eS:((O.map enB).take O.length).drop m=(Rr room O).map enB:=by
    rw [ht,Bc5 (by omega),List.take_of_length_le (by simp),List.map_drop]
   rw [eS]
   refine g ?_
   repeat' (first | refine st_ rfl (g ?_) | refine Ag (g ?_) | refine A9 (A08 (Rr room O)) rfl (g ?_))
   rw [hO]
   exact Cm.rfl_ _
 ·obtain rfl:m=O.length:=by omega
  have hs0:Jb (O.drop O.length)=0:=by rw [List.drop_length];rfl
  refine g ?_
  repeat' (first | refine st_ rfl (g ?_) | refine Az (fun h=>g ?_) (fun h=>g ?_) | refine ix_ (by omega) (g ?_))
  ·exfalso
   omega
  ·refine ⟨O.length,O.length,rfl,rfl,hm,Nat.le_refl _,?_⟩
   have eS:((O.map enB).take O.length).drop O.length=(Rr room O).map enB:=by
    rw [ht,Bc5 (by omega),List.take_of_length_le (by simp),List.map_drop]
   rw [eS]
   refine g ?_
   repeat' (first | refine st_ rfl (g ?_) | refine Ag (g ?_) | refine A9 (A08 (Rr room O)) rfl (g ?_))
   rw [hO]
   exact Cm.rfl_ _
end Go.Proofs.YthlgnjlpakimaaaGreatDoor
