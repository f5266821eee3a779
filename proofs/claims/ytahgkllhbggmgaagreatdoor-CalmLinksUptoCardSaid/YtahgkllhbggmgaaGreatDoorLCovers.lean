/- Contracts of the program's walk over a vector, and of its test whether one vector covers another. -/
import Derived.Test.YtahgkllhbggmgaaGreatDoorLIter
set_option linter.all false
set_option linter.unnecessarySimpa false
set_option linter.unusedSimpArgs false
set_option linter.unusedVariables false
namespace Go.Proofs.YtahgkllhbggmgaaGreatDoor
open Go.ChangeShapes Go.WideShapes Go.ChangeAt Go.RowKit Go.Shelf
attribute [local go_sem] Oper.semAt_some
def Yf (Bn:Nat):Value:=.func (.func 470) #[] #[.pointer (some ⟨Bn,0,none⟩)]
theorem Yj (C:Nat) (w:World) :
  Calls Tryz.prog 420 #[.pointer (some ⟨C,0,none⟩)] w fun e w'=>e=.returned (Yf w.heap.size)/\w.alloc (.cells #[.pointer (some ⟨C,0,none⟩)] 464)=w':=by
 go_enter Tryz.func420,Tryz.ntmps420
 go_wp2
 go_ret
 exact ⟨rfl,rfl⟩
def C18 (l:List Ad) (w:World) (e:Ending) (w':World):Prop :=
 ∃ Bn C,e=.returned (Yf Bn)/\Jv Bn C (fun n=>A9 l n) (Ep l) w'/\w.heap.size<=Bn/\w.heap.size<=C/\Below w.heap.size w w'
set_option maxRecDepth 100000 in
theorem Zp (l:List Ad) (v:Value) (w:World) (h:Bx w w.heap.size v l) (hT:A8 w) :
  Calls Tryz.prog 350 #[v] w (C18 l w):=by
 obtain ⟨A,c,rfl,_⟩:=id h
 have HT:=Lib.hid hT
 clear hT
 go_enter Tryz.func350,Tryz.ntmps350
 go_wp2_with fail
 refine (Wo l _ _ h).mono ?_
 rintro e w1 ⟨rfl,hb1⟩
 have hs:=hb1.size
 have Hb1:=Lib.hid hb1
 clear hb1 h
 go_wp2_with (refine wpList_store_row rfl 396 (.tmp 3) (.tmp 5) rfl w1.heap.size _ rfl rfl 396 _ (Blk.new w1 396 _).raw (Pi _ _) (Uj _ _).symm (Yl _ _) ?_)
 refine (Yj _ _).mono ?_
 rintro e w2 ⟨rfl,rfl⟩
 go_wp2
 go_ret
 have hC:Blk ((w1.alloc (.cells (E7 (fun _=>0) 0) 396)).setRow w1.heap.size (E7 (fun n=>A9 l n) (Ep l))) w1.heap.size 396 (E7 (fun n=>A9 l n) (Ep l)):=(Blk.new _ _ _).setRow
 rw [Qc] at hC
 have hk:=Ln (g:=w1.heap.size) (cs:=E7 (fun n=>A9 l n) (Ep l)) (Ap (o:=.cells (E7 (fun _=>0) 0) 396) Hb1.out) hs
 rw [Qc] at hk
 exact ⟨_,_,rfl,⟨Blk.new_at (by simp),hC.alloc,HT.out.next (Ap hk)⟩,by omega,hs,Ap hk⟩
theorem R6 {F:Fence} {nF:Nat} {P:Program} {ops:Array Oper} {rest:List Oper} {o:Oper} {a:Act} {w:World} {Q:Exit->Act->World->Prop} (hgd:o.guard=none) (ty:TypeId) (x y:Operand) (ho:o.op=.store ty x y)
  (g:Nat) (cells:Array Value) (hx:a.eval x=.pointer (some ⟨g,0,none⟩)) (hy:a.eval y=.agg cells)
  (t:TypeId) (old:Array Value) (hg:w.heap[g]? = some (.cells old t (0,0))) (hi:(P.info? ty).map (·.size)=some cells.size)
  (hold:old.size=cells.size) (h1:cells.all (·.oneCell')=true)
  (h:wpListIn F nF P ops Q rest (a.put o.dst undef) (w.setRow g cells)):wpListIn F nF P ops Q (o :: rest) a w:=by
 refine wpListIn_plain hgd fun K hK=>?_
 unfold Oper.wpIn
 refine ⟨by simp [Oper.about,ho],?_⟩
 rw [Oper.semAt_plain F _ _ (by rw [ho];intro c hc';cases hc')]
 simp only [execOp,ho,hx,hy,Instr.storeAt,Instr.sureAddr,Sem.run_bind,Sem.run_pure,Result.andThen_ok,run_storeVar_row w g t ty old cells hg hi hold h1]
 exact hK _ _ h
set_option maxRecDepth 100000 in
set_option maxHeartbeats 2000000 in
theorem Ms (l m:List Ad) (v u:Value) (w:World) (h:Bx w w.heap.size v l) (h':Bx w w.heap.size u m) (hT:A8 w) :
  Calls Tryz.prog 263 #[v,u] w fun e w'=>e=.returned (.bool (Bi l m))/\Below w.heap.size w w':=by
 obtain ⟨A,c,rfl,_⟩:=id h
 obtain ⟨A',c',rfl,_⟩:=id h'
 have HT:=Lib.hid hT
 clear hT
 refine (callsIn_wide (n:=5)).1 ?_
 refine callsIn_of_wp_marks Tryz.func263 rfl trivial ?_ rfl
 simp only [Tryz.ntmps263,List.size_toArray,List.length_cons,List.length_nil,Nat.reduceAdd,Nat.reduceSub,Array.replicate_succ,Array.replicate_zero,List.push_toArray,List.append_toArray,List.nil_append,List.cons_append]
 gi_wp2
 refine ⟨trivial,?_⟩
 have B0:=Blk.new w 4 #[.bool false]
 refine (callsIn_wide.2 (Wo l _ _ (h.next (Ap (Below.refl _ _))))).mono ?_
 rintro e w1 ⟨rfl,hb1⟩
 replace B0:=B0.next hb1
 have k1:=B6 (Ap (Below.refl _ _)) hb1
 have Hs:=Lib.hid (h'.next k1)
 have HT1:=Lib.hid (HT.out.next k1)
 clear h h' hb1 HT
 have hC:Blk ((w1.alloc (.cells (E7 (fun _=>0) 0) 396)).setRow w1.heap.size (E7 (fun n=>A9 l n) (Ep l))) w1.heap.size 396 (E7 (fun n=>A9 l n) (Ep l)):=(Blk.new _ _ _).setRow
 have hk:=Ln (g:=w1.heap.size) (cs:=E7 (fun n=>A9 l n) (Ep l)) (Ap (o:=.cells (E7 (fun _=>0) 0) 396) (Below.refl _ w1)) (Nat.le_refl _)
 rw [Qc] at hC hk
 have HC:=Lib.hid hC
 have Hk:=Lib.hid hk
 have Hk1:=Lib.hid k1
 have HB:=Lib.hid B0
 clear hC hk k1 B0
 gi_wp2_with (refine R6 rfl 396 (.tmp 5) (.tmp 9) rfl w1.heap.size _ rfl rfl 396 _ (Blk.new w1 396 _).raw (Pi _ _) (Uj _ _).symm (Yl _ _) ?_)
 refine ⟨trivial,?_⟩
 refine (callsIn_wide.2 (Zp m _ _ (Hs.out.next Hk.out) (HT1.out.next Hk.out))).mono ?_
 rintro e w2 ⟨Bn,D,rfl,hE,hBn,hD,hb2⟩
 have B2:Blk w2 w.heap.size 4 #[.bool false]:=(HB.out.next Hk.out).next hb2
 have C2:=HC.out.next hb2
 have k2:Below w.heap.size w w2:=B6 (B6 Hk1.out Hk.out) hb2
 have l1:=hE.box.lt
 have l2:=hE.cnt.lt
 have l3:=hE.tab.lt
 have l4:=B2.lt
 have hM:=U6 m
 have HE:=Lib.hid hE
 have HK2:=Lib.hid k2
 have hg1:=Hk1.out.size
 clear hb2 HB HC Hk Hk1 hE Hs HT1 hBn hD
 generalize w1.heap.size=g1 at *
 have HB2:=Lib.hid B2
 have HC2:=Lib.hid C2
 clear B2 C2 k2
 gi_wp2
 refine wpIn_rangeFunc_ownF rfl (by omega) (gf:=470) (lb:=#[.pointer (some ⟨Bn,0,none⟩)]) rfl trivial (enters_of Tryz.func470 (by kernel_rfl) rfl)
  (Rv _ (by omega) Bn D (fun n=>A9 m n) (Ep m) hM w2 HE.out) (fun h k=>Bo.t h k) (fun W l o o' hl _ _ _=>Bo.put l1 l2 l3 hl) (Below.refl _ _) (fun _=>rfl)
  (fun pre W=>(Blk W w.heap.size 4 #[.bool false]/\Blk W g1 396 (E7 (fun n=>A9 l n) (Ep l))/\∀ i∈pre,A9 m (i.1:Nat)<=A9 l (i.1:Nat))/\Below w.heap.size w W)
  (fun c pre W=>(c=.ret/\Blk W w.heap.size 4 #[.bool false]/\∃ i∈pre,A9 l (i.1:Nat) < A9 m (i.1:Nat))/\Below w.heap.size w W)
  (OwnFrom.and (Own.from (fun s A B row hs hg hr=>⟨hs.1.own hg hr,hs.2.1.own hg hr,hs.2.2⟩) _) (ownFrom_below (Nat.le_refl _) HK2.out.size))
  (fun c=>OwnFrom.and (Own.from (fun s A B row hs hg hr=>⟨hs.1,hs.2.1.own hg hr,hs.2.2⟩) _) (ownFrom_below (Nat.le_refl _) HK2.out.size))
  ⟨⟨HB2.out,HC2.out,by simp⟩,HK2.out⟩
  (fun x=>{ tmps:=#[.slice A l.length c,.slice A' m.length c',undef,undef,.pointer (some ⟨w.heap.size,0,none⟩),.pointer (some ⟨g1,0,none⟩),.int .i64 (x.1:Nat),.int .i64 (A9 m (x.1:Nat)),.slice A l.length c,.agg (E7 (fun n=>A9 l n) (Ep l)),.slice A' m.length c',Yf Bn,.int .i64 (x.1:Nat),.int .i64 (A9 m (x.1:Nat)),undef,undef,undef,undef,undef,undef],defers:=[] }) ?assign ?body ?done ?stop
 case assign =>
  intro r x W K hK
  dsimp only [Jg]
  gi_wp2
  exact hK
 case body =>
  rintro r pre ⟨x,hx⟩ W ⟨⟨hB,hC,hall⟩,hb⟩ _
  dsimp only
  have c0:=(hC.cell x).trans (T5 hx)
  have f0:=hB.frozen 0
  have d0:=hB.cell 0
  simp only [List.getElem?_toArray,List.getElem?_cons_zero] at c0 d0
  have Hall:=Lib.hid hall
  have HBB:=Lib.hid hB
  have HCC:=Lib.hid hC
  have Hb:=Lib.hid hb
  clear hall hB hC hb
  have hxi:(x:Int) < 64:=by omega
  generalize hp:A9 l x=p at c0
  generalize hq:A9 m x=q
  have HP:=Lib.hid hp
  have HQ:=Lib.hid hq
  clear hp hq
  gi_wp2
  ·refine ⟨KeepsOthers.setCell _ _ _,⟨rfl,?_,⟨x,hx⟩,by simp,?_⟩,Yu Hb.out (Nat.le_refl _)⟩
   ·exact HBB.out.set_ 0 _
   ·show A9 l x < A9 m x
    rw [HP.out,HQ.out]
    assumption
  ·refine ⟨KeepsOthers.refl _,Bo.refl _ _ _,⟨HBB.out,HCC.out,fun i hi=>?_⟩,Hb.out⟩
   rcases List.mem_append.1 hi with hi | hi
   ·exact Hall.out i hi
   ·obtain rfl:i=⟨x,hx⟩:=by simpa using hi
    show A9 m x<=A9 l x
    rw [HP.out,HQ.out]
    assumption
 case done =>
  rintro E ys W hD hys ⟨⟨hB,_,hall⟩,hb⟩ hK
  have Hres:Hid (Bi l m=true):=by
   rw [Bi,decide_eq_true_eq]
   intro n hn
   by_cases hz:A9 m n=0
   ·rw [hz]
    by_cases h0:A9 l n=0
    ·omega
    ·have:=Vh h0;omega
   ·have hmem:n∈Cp (Ep m) 64:=V9.2 ⟨hn,by rw [Rp hn];simpa using hz⟩
    rw [<-hys] at hmem
    obtain ⟨i,hi,rfl⟩:=List.mem_map.1 hmem
    exact hall i hi
  have f0:=hB.frozen 0
  have d0:=hB.cell 0
  simp only [List.getElem?_toArray,List.getElem?_cons_zero] at d0
  have HBB:=Lib.hid hB
  have Hb:=Lib.hid hb
  have Hys:=Lib.hid hys
  have HK:=Lib.hid hK
  clear hall hB hb hys hK
  gi_wp2
  have hK':=(KeepsOthers.setCell W ⟨w.heap.size,0,none⟩ (.bool true)).same E _ HK.out rfl
  refine ⟨by simp,.inl ⟨_,_,rfl,run_takeDeferred hK',?_⟩⟩
  have hc5:=cell_kept (World.cell?_setCell_same' W ⟨w.heap.size,0,none⟩ (.bool true) (by rw [d0];rfl)) (grownBy_putObj' _ E (.deferred none)) (fun r e=>by cases e;exact ⟨_,hK',rfl⟩)
  refine ⟨.bool true,?_,by rw [Hres.out],(Hb.out.setCell (p:=⟨w.heap.size,0,none⟩) (Nat.le_refl _) _).trans (belowK_b (w:=w) (Nat.le_refl _) _ E _ _ (by have:=HK2.out.size;omega) hK' rfl rfl)⟩
  simp [results,Tryz.f263,go_sem,hc5]
 case stop =>
  rintro E d pre W hD _ ⟨⟨rfl,hB,i,_,hi⟩,hb⟩ hK
  have Hres:Hid (Bi l m=false):=by
   rw [Bi,decide_eq_false_iff_not]
   intro h
   have:=h i.1 i.2
   omega
  have d0:=hB.cell 0
  simp only [List.getElem?_toArray,List.getElem?_cons_zero] at d0
  have Hb:=Lib.hid hb
  have HK:=Lib.hid hK
  clear hB hb hK hi
  gi_wp2
  refine ⟨by simp,.inl ⟨_,_,rfl,run_takeDeferred HK.out,?_⟩⟩
  have hc5:=cell_kept d0 (grownBy_putObj' _ E (.deferred none)) (fun r e=>by cases e;exact ⟨_,HK.out,rfl⟩)
  refine ⟨.bool false,?_,by rw [Hres.out],Hb.out.trans (belowK_b (w:=w) (Nat.le_refl _) W E _ _ (by have:=HK2.out.size;omega) HK.out rfl rfl)⟩
  simp [results,Tryz.f263,go_sem,hc5]
end Go.Proofs.YtahgkllhbggmgaaGreatDoor
