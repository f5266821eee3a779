/- The fixed fact that the streams' laws ask first. -/
import Derived.Test.YthlgnjlpakimaaaGreatDoorVBatch
set_option linter.all false
set_option linter.unnecessarySimpa false
set_option linter.unusedSimpArgs false
set_option linter.unusedVariables false
namespace Go.Proofs.YthlgnjlpakimaaaGreatDoor
open Go.ChangeShapes Go.WideShapes Go.ChangeAt Go.RowKit
theorem Bw7 {k:Nat} {l l':List (List IV)} (hl:l'.length=l.length) (h:∀ (i:Nat) cs cs',l[i]? = some cs->l'[i]? = some cs'->cs'.length=cs.length/\∀ (j:Nat) u u',cs[j]? = some u->cs'[j]? = some u'->∀ (X:World) (v:Value),D3 X v u->D3 X v u'):D1 (.iv (.sl k l)) (.iv (.sl k l')):=fun E X v hv=>by
 cases hv with
 | iv hv =>
  obtain ⟨A,c,rfl,h1,h3,h4⟩:=hv.to_sl
  refine .iv (D3.of_sl ⟨A,c,by rw [hl],by rw [hl];exact h1,h3,fun hne=>?_⟩)
  obtain ⟨b,off,rfl,hb,h5⟩:=h4 (fun e=>hne (List.length_eq_zero_iff.1 (by rw [hl,e];rfl)))
  refine ⟨b,off,rfl,hb,fun i cs' hi=>?_⟩
  have hi2:=(List.getElem?_eq_some_iff.1 hi).1
  rw [hl] at hi2
  obtain ⟨vs,a1,a2,a3⟩:=h5 i _ (List.getElem?_eq_getElem hi2)
  obtain ⟨g1,g2⟩:=h i _ cs' (List.getElem?_eq_getElem hi2) hi
  refine ⟨vs,B8.of (by rw [a1.len,g1]) fun j v u' e1 e2=>?_,a2,a3⟩
  have hj:=(List.getElem?_eq_some_iff.1 e1).1
  rw [a1.len] at hj
  exact g2 j _ u' (List.getElem?_eq_getElem hj) e2 X v (a1.get e1 (List.getElem?_eq_getElem hj))
theorem Az3 (k:Nat) (X:World) (v:Value) (h:D3 X v (.val (.slice none 0 0))):D3 X v (.sl k []):=by
 cases h;exact .nil (by unfold maxLen;omega)
def By1:Log:=⟨[],[⟨[],[⟨1,0⟩],[],[⟨⟨1,0⟩,7,false⟩]⟩,⟨[⟨1,0⟩],[⟨2,0⟩],[],[⟨⟨2,0⟩,8,false⟩]⟩],2⟩
def Bt6:Aq:=⟨[],[⟨2,0⟩],[⟨7,8⟩],[]⟩
theorem C06:Mz By1 0 [⟨0,3⟩] 8=([Bt6],2,0):=by kernel_rfl
theorem Ce5:D1 (.iv (.sl 4 [[.val (.slice none 0 0),.sl 2 [[.val (.int .i64 1),.val (.int .i64 0)]],.val (.slice none 0 0),.sl 4 [[.val (.int .i64 1),.val (.int .i64 0),.val (.int .i64 7),.val (.bool false)]]],
  [.sl 2 [[.val (.int .i64 1),.val (.int .i64 0)]],.sl 2 [[.val (.int .i64 2),.val (.int .i64 0)]],.val (.slice none 0 0),.sl 4 [[.val (.int .i64 2),.val (.int .i64 0),.val (.int .i64 8),.val (.bool false)]]]])) (.iv (noI By1.notes)) :=
 Bw7 rfl fun i cs cs' h1 h2=>by
  match i,h1,h2 with
  | 0,h1,h2 =>
   obtain rfl:=Option.some.inj h1
   obtain rfl:=Option.some.inj h2
   refine ⟨rfl,fun j u u' a b=>?_⟩
   match j,a,b with
   | 0,a,b=>obtain rfl:=Option.some.inj a;obtain rfl:=Option.some.inj b;exact Az3 2
   | 1,a,b=>obtain rfl:=Option.some.inj a;obtain rfl:=Option.some.inj b;exact fun _ _ h=>h
   | 2,a,b=>obtain rfl:=Option.some.inj a;obtain rfl:=Option.some.inj b;exact Az3 2
   | 3,a,b=>obtain rfl:=Option.some.inj a;obtain rfl:=Option.some.inj b;exact fun _ _ h=>h
   | j+4,a,b=>simp at a
  | 1,h1,h2 =>
   obtain rfl:=Option.some.inj h1
   obtain rfl:=Option.some.inj h2
   refine ⟨rfl,fun j u u' a b=>?_⟩
   match j,a,b with
   | 0,a,b=>obtain rfl:=Option.some.inj a;obtain rfl:=Option.some.inj b;exact fun _ _ h=>h
   | 1,a,b=>obtain rfl:=Option.some.inj a;obtain rfl:=Option.some.inj b;exact fun _ _ h=>h
   | 2,a,b=>obtain rfl:=Option.some.inj a;obtain rfl:=Option.some.inj b;exact Az3 2
   | 3,a,b=>obtain rfl:=Option.some.inj a;obtain rfl:=Option.some.inj b;exact fun _ _ h=>h
   | j+4,a,b=>simp at a
  | i+2,h1,_=>simp at h1
theorem noX:noI [Bt6]=.sl 4 [[.sl 2 [],.sl 2 [[.val (.int .i64 2),.val (.int .i64 0)]],.sl 2 [[.val (.int .i64 7),.val (.int .i64 8)]],.sl 4 []]]:=rfl
attribute [local irreducible] AW AWY Cf Bf vop Bw Bh Bx qop Cg Cz Az Aw C5 A7 Bl
attribute [local go_sem] Ap Ar
theorem Cd9 (x y:Operand) (w:World):(do eqGuard .eql 66 x y (.agg #[.int .i64 7,.int .i64 8]) (.agg #[.int .i64 7,.int .i64 8]);binOp .eql 66 (.agg #[.int .i64 7,.int .i64 8]) (.agg #[.int .i64 7,.int .i64 8]):Sem Value).run Tryz.prog w=.ok (.bool true) w:=by
 go_simp
set_option maxHeartbeats 1600000 in
set_option maxRecDepth 100000 in
theorem A46:A7 Tryz.prog A9 20 [] (.val (.bool true)) []:=by
 have hbatch:=Ur By1 0 [⟨0,3⟩] 8 rfl rfl rfl
 unfold Sg at hbatch
 rw [C06] at hbatch
 simp only [noX] at hbatch
 refine A7.of (n:=73) (rs:=[.tmp 0]) Tryz.func20 rfl (by kernel_rfl) Tryz.ntmps20 (by kernel_rfl) (by simp) (fun _ _=>A9.later) ?_
 intro hok V w0
 refine g ?_
 refine g ?_
 repeat' refine st_ rfl (g ?_)
 refine bd1 (by omega) rfl rfl rfl ⟨rfl,rfl,trivial⟩ ?_
 refine g ?_
 refine bd1 (by omega) rfl rfl rfl ⟨rfl,rfl,trivial⟩ ?_
 refine g ?_
 repeat' refine st_ rfl (g ?_)
 refine AW.drawn (ds:=[11,12,13,14,15,16,17,18,19,20,21,22,23,24,25,26,27,3]) (fin:=[1]) (bs:=[0,0,0,0,0,0,0,0,0,0,0,0,0,0,0,0,0,0,1]) [⟨[],[],[],[],0⟩,⟨[],[],[],[],0⟩,⟨[(12,1)],[],[],[],0⟩,⟨[(13,2)],[],[],[],0⟩,⟨[(14,3)],[],[],[],0⟩,⟨[(15,4)],[],[],[],0⟩,⟨[(11,0),(16,5)],[],[],[],0⟩,⟨[],[],[],[],0⟩,⟨[],[],[],[],0⟩,⟨[],[],[],[],0⟩,⟨[(20,9)],[],[],[],0⟩,⟨[(21,10)],[],[],[],0⟩,⟨[(22,11)],[],[],[],0⟩,⟨[(23,12)],[],[],[],0⟩,⟨[(18,7),(19,8),(24,13)],[],[],[],0⟩,⟨[(17,6),(25,14)],[],[],[],0⟩,⟨[(26,15)],[],[],[],0⟩,⟨[],[],[],[],1⟩,⟨[(3,17),(27,16)],[],[],[0],1⟩] (by kernel_rfl) rfl (by kernel_rfl) rfl rfl rfl fun KD hKD=>?_
 refine g ?_
 refine bd1 (by omega) rfl rfl rfl ⟨rfl,rfl,rfl,trivial,trivial⟩ ?_
 refine g ?_
 refine bd1 (by omega) rfl rfl rfl ⟨rfl,rfl,rfl,trivial,trivial⟩ ?_
 refine g ?_
 refine bd2 (by omega) rfl rfl rfl ⟨trivial,trivial,trivial,trivial,trivial⟩ rfl rfl rfl ⟨trivial,trivial,trivial,trivial,trivial⟩ ?_
 refine g ?_
 repeat' (refine hKD _ _ ⟨rfl,g ?_⟩;clear hKD KD)
 refine g ?_
 repeat' refine st_ rfl (g ?_)
 refine bd1 (by omega) rfl rfl rfl ⟨rfl,rfl,trivial⟩ ?_
 refine g ?_
 refine B14 hbatch ?_ rfl ?_
 ·refine Sbs.of_ (Z8 rfl fun p hp=>?_) (Sbs.rfl_ _)
  simp only [List.zip_cons_cons,List.zip_nil_right,List.mem_cons,List.not_mem_nil,or_false] at hp
  rcases hp with rfl | rfl | rfl
  ·exact Cs 2
  ·exact Ce5
  ·exact D1.rfl_ _
 refine g ?_
 repeat' refine st_ rfl (g ?_)
 refine ⟨_,Cd9 _ _,?_⟩
 refine g ?_
 repeat' (first | refine st_ rfl (g ?_) | refine Am (g ?_))
 first | exact trivial | exact ⟨.inl trivial,id,List.nodup_nil⟩ | exact ⟨.inl trivial,id,rfl,List.nodup_nil⟩ | rfl
end Go.Proofs.YthlgnjlpakimaaaGreatDoor
