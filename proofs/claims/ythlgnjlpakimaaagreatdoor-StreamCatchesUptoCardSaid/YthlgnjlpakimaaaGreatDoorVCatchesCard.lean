/- The law StreamCatches: a batch or the sum of any log and view is what the reference says, or refused. The card (second form: of bulk at most 1048576). -/
import Derived.Test.YthlgnjlpakimaaaGreatDoorVLogAll
import Derived.Test.YthlgnjlpakimaaaGreatDoorVViewEnc
import Derived.OpenShut
import Derived.Test.YthlgnjlpakimaaaGreatDoorVRefMrg
import Derived.Test.YthlgnjlpakimaaaGreatDoorVRefTouch
import Derived.Test.YthlgnjlpakimaaaGreatDoorVRefLog
import Derived.Test.YthlgnjlpakimaaaGreatDoorVBatch
import Derived.Test.YthlgnjlpakimaaaGreatDoorVViewRead
import Derived.Test.YthlgnjlpakimaaaGreatDoorVSpanLess
import Derived.Test.YthlgnjlpakimaaaGreatDoorVSumLaw
import Derived.Test.YthlgnjlpakimaaaGreatDoorVRefCopy13
import Derived.Test.YthlgnjlpakimaaaGreatDoorVCache
import Derived.Test.YthlgnjlpakimaaaGreatDoorVAlive16
import Derived.Test.YthlgnjlpakimaaaGreatDoorVTzLaid
set_option linter.all false
set_option linter.unnecessarySimpa false
set_option linter.unusedSimpArgs false
set_option linter.unusedVariables false
namespace Go.Proofs.YthlgnjlpakimaaaGreatDoor
open Go.ChangeShapes Go.WideShapes Go.ChangeAt Go.RowKit
def Bn5 (w:World) (B:Nat) (cs:List Value) (z:Ao):Prop:=∃ v,cs=[.int .i64 z.span.lo,.int .i64 z.span.hi,v]/\I64 z.span.lo/\I64 z.span.hi/\Cc w B v z.vec
theorem Ax4 {w:World} : Jb Tryz.prog w 122 3 (Bn5 w w.heap.size):=by
 intro H enc fuel cs x h
 obtain ⟨hl,n,hf⟩:=Ed Tryz.underlying122 h
 have hk:Tryz.prog.cellsOf 122=3:=by kernel_rfl
 have hs:Tryz.prog.cellsOf 66=2:=by kernel_rfl
 have hv:Tryz.prog.cellsOf 25=1:=by kernel_rfl
 rw [hk] at hl
 refine ⟨hl,?_⟩
 match cs,hl with
 | [v0,v1,v2],_ =>
  obtain ⟨y0,h0⟩:=hf 0 66 0 2 rfl hs
  obtain ⟨y1,h1⟩:=hf 1 25 2 1 rfl hv
  obtain ⟨_,a,e0,i0,i1⟩:=A15 (w:=w) H enc n _ _ h0
  obtain ⟨_,b,_,e1,s1⟩:=K9 (w:=w) H enc n _ _ h1
  simp at e0 e1
  obtain ⟨rfl,rfl⟩:=e0
  subst e1
  exact ⟨⟨a,b⟩,_,rfl,i0,i1,s1⟩
abbrev B55 (w:World) (B:Nat) (v:Value) (l:List Ao):Prop:=Sl (Bn5 w B) 3 w B v l
theorem Am9 {w:World} : Jb Tryz.prog w 26 1 (fun cs l=>∃ v,cs=[v]/\B55 w w.heap.size v l) :=
 H7 Tryz.underlying26 (by kernel_rfl) (by omega) Ax4
abbrev Ah7 (w:World) (B:Nat) (v:Value) (l:List Ct):Prop:=Sl (Bn9 w B) 4 w B v l
theorem Af0 {w:World} : Jb Tryz.prog w 28 1 (fun cs l=>∃ v,cs=[v]/\Ah7 w w.heap.size v l) :=
 H7 Tryz.underlying28 (by kernel_rfl) (by omega) Ax9
def Cm6 (w:World) (B:Nat) (cs:List Value) (x:Br):Prop:=∃ v0 v1 v2 v3,cs=[v0,v1,v2,v3,.int .i64 x.room]/\Cc w B v0 x.known/\B55 w B v1 x.zones/\N1 w B v2 x.held/\Ah7 w B v3 x.bodies/\I64 x.room
theorem Ax5 {w:World} : Jb Tryz.prog w 30 5 (Cm6 w w.heap.size):=by
 intro H enc fuel cs x h
 obtain ⟨hl,n,hf⟩:=Ed Tryz.underlying30 h
 have hk:Tryz.prog.cellsOf 30=5:=by kernel_rfl
 have q0:Tryz.prog.cellsOf 25=1:=by kernel_rfl
 have q1:Tryz.prog.cellsOf 26=1:=by kernel_rfl
 have q2:Tryz.prog.cellsOf 27=1:=by kernel_rfl
 have q3:Tryz.prog.cellsOf 28=1:=by kernel_rfl
 have q4:Tryz.prog.cellsOf 3=1:=by kernel_rfl
 rw [hk] at hl
 refine ⟨hl,?_⟩
 match cs,hl with
 | [v0,v1,v2,v3,v4],_ =>
  obtain ⟨y0,h0⟩:=hf 0 25 0 1 rfl q0
  obtain ⟨y1,h1⟩:=hf 1 26 1 1 rfl q1
  obtain ⟨y2,h2⟩:=hf 2 27 2 1 rfl q2
  obtain ⟨y3,h3⟩:=hf 3 28 3 1 rfl q3
  obtain ⟨y4,h4⟩:=hf 4 3 4 1 rfl q4
  obtain ⟨_,a,_,e0,s0⟩:=K9 (w:=w) H enc n _ _ h0
  obtain ⟨_,b,_,e1,s1⟩:=Am9 (w:=w) H enc n _ _ h1
  obtain ⟨_,c,_,e2,s2⟩:=Vq (w:=w) H enc n _ _ h2
  obtain ⟨_,d,_,e3,s3⟩:=Af0 (w:=w) H enc n _ _ h3
  obtain ⟨_,r,e4,i4⟩:=Gm (w:=w) Tryz.underlying3 H enc n _ _ h4
  simp at e0 e1 e2 e3 e4
  subst e0 e1 e2 e3 e4
  exact ⟨⟨a,b,c,d,r⟩,_,_,_,_,rfl,s0,s1,s2,s3,i4⟩
theorem C82 {X:World} {cs:List Value} {x:Ao} (h:Bn5 X X.heap.size cs x):B8 X cs (enZ x):=by
 obtain ⟨v0,rfl,h1,h2,h⟩:=h
 exact ⟨.val h1,.val h2,Mk h (Nat.le_refl _),trivial⟩
theorem B57 {X:World} {v:Value} {l:List Ao} (h:B55 X X.heap.size v l):D3 X v (znI l):=D3.of_typed (fun _ _ h=>C82 h) h (Nat.le_refl _)
theorem Bd3 {X:World} {v:Value} {l:List Nat} (h:B56 X X.heap.size v l):D3 X v (byI l):=D3.of_typed (enc:=fun (b:Nat)=>[.val (.int .u8 b)]) (fun cs x h=>by
 obtain ⟨rfl,h1⟩:=h
 refine ⟨.val ?_,trivial⟩
 simp [okV,Lit.wf,IntKind.max,IntKind.min,IntKind.signed,IntKind.bits]
 omega) h (Nat.le_refl _)
theorem Cl4 {X:World} {cs:List Value} {x:Ct} (h:Bn9 X X.heap.size cs x):B8 X cs (enB x):=by
 obtain ⟨v0,rfl,h1,h2,h3,h⟩:=h
 exact ⟨.val h1,.val h2,.val h3,Bd3 h,trivial⟩
theorem B16 {X:World} {v:Value} {l:List Ct} (h:Ah7 X X.heap.size v l):D3 X v (boI l):=D3.of_typed (fun _ _ h=>Cl4 h) h (Nat.le_refl _)
theorem Be7 {E:Env} {X:World} {v0 v1 v2 v3:Value} {x:Br} (h0:Cc X X.heap.size v0 x.known) (h1:B55 X X.heap.size v1 x.zones) (h2:N1 X X.heap.size v2 x.held) (h3:Ah7 X X.heap.size v3 x.bodies):B9 E X (.agg #[v0,v1,v2,v3,.int .i64 x.room]) (vwA x) :=
 .agg rfl fun j v c a b=>by
  match j,a,b with
  | 0,a,b=>simp at a b;subst a b;exact .iv (Mk h0 (Nat.le_refl _))
  | 1,a,b=>simp at a b;subst a b;exact .iv (B57 h1)
  | 2,a,b=>simp at a b;subst a b;exact .iv (Zb h2 (Nat.le_refl _))
  | 3,a,b=>simp at a b;subst a b;exact .iv (B16 h3)
  | 4,a,b=>simp at a b;subst a b;exact .val
  | j+5,a,b=>simp at a
attribute [local irreducible] AW AWY Cf Bf vop Bw Bh Bx qop Cg Cz Az Aw C5 A7 Bl
attribute [local go_sem] Lk Lm Kj Ce Ap Ar Vt
set_option maxHeartbeats 3200000 in
set_option maxRecDepth 100000 in
theorem Al8 (l:Log) (a:Int) (it:List Ad) (m:Int) (iS:I64 l.sure) (iA:I64 a) (iM:I64 m):A7 Tryz.prog A9 39 [Ug l,.val (.int .i64 a),.iv (spI it),.val (.int .i64 m)] (Sg l a it m) []:=by
 refine A7.ofS (n:=89) (rs:=[.tmp 8,.tmp 9,.tmp 10]) Tryz.func39 rfl (by kernel_rfl) Tryz.ntmps39 (by kernel_rfl) (by simp) (fun _ _=>A9.later) ?_
 intro hok V w0
 have hlen:l.notes.length<=1073741824:=by simpa using hok.1.2.1.1
 obtain ⟨⟨O,k,e⟩,hq⟩ : ∃ q,Mz l a it m=q:=⟨_,rfl⟩
 unfold Sg
 rw [hq]
 unfold Mz Bn3 at hq
 refine g ?_
 refine AW.seq ?_
 refine AW.reg rfl fun KK hKK=>?_
 refine g ?_
 repeat' (refine hKK _ (g ?_);clear hKK KK)
 refine AW.freeze 500 _ rfl ⟨trivial,trivial,iS,trivial⟩ ?_
 simp only [go_sem,reduceIte,Nat.reduceEqDiff]
 refine g ?_
 repeat' refine st_ rfl (g ?_)
 refine Ab (Nu l iS) rfl ?_
 cases hF:C0 l
 ·rw [if_neg (by simp [hF])] at hq
  cases hq
  refine g ?_
  repeat' refine st_ rfl (g ?_)
  first | exact ⟨.inl trivial,id,Fu,List.nodup_nil⟩ | exact Fu
 refine g ?_
 by_cases h0:a < 0
 ·rw [if_neg fun h=>by simp only [Bool.and_eq_true,decide_eq_true_eq] at h;omega] at hq
  cases hq
  simp only [decide_eq_true h0]
  refine g ?_
  repeat' refine st_ rfl (g ?_)
  first | exact ⟨.inl trivial,id,Fu,List.nodup_nil⟩ | exact Fu
 simp only [decide_eq_false h0]
 refine g ?_
 by_cases h1:l.sure < a
 ·rw [if_neg fun h=>by simp only [Bool.and_eq_true,decide_eq_true_eq] at h;omega] at hq
  cases hq
  simp only [decide_eq_true h1]
  refine g ?_
  repeat' refine st_ rfl (g ?_)
  first | exact ⟨.inl trivial,id,Fu,List.nodup_nil⟩ | exact Fu
 simp only [decide_eq_false h1]
 refine g ?_
 repeat' (first | refine st_ rfl (g ?_) | refine C9 (fun h=>g ?_) (fun h=>g ?_))
 ·have h2:m < 1:=of_decide_eq_true h
  rw [if_neg fun h=>by simp only [Bool.and_eq_true,decide_eq_true_eq] at h;omega] at hq
  cases hq
  first | exact ⟨.inl trivial,id,Fu,List.nodup_nil⟩ | exact Fu
 have h2:¬ m < 1:=by simpa using h
 rw [if_pos (by simp [hF];omega)] at hq
 obtain ⟨a,rfl⟩ : ∃ n:Nat,a=n:=⟨a.toNat,by omega⟩
 unfold N0 at hq
 simp only [Int.toNat_natCast] at hq
 have hX:(Fg l it).length=l.sure.toNat:=by
  have:=(H8 hF).2
  unfold Fg
  rw [List.length_map,List.length_take];omega
 refine AW.adopt 11 9900 37 4 rfl rfl ?_
 have hs1:=(H8 hF).2
 refine AW.loop (fun i:{i:Nat // a<=i/\(i:Int)<=l.sure/\Ge it m (Fg l it) a (Jj (Fg l it) a i)}=>⟨[(2,.iv (spI it)),(3,.val (.int .i64 m)),(4,.ip [stI l.base,noI l.notes,.val (.int .i64 l.sure)]),(11,.own 9900),(12,.val (.int .i64 (i.1:Nat)))],[.row 9900 37 4 ((Mq it (Jj (Fg l it) a i.1)).map enN)]⟩) (fun i=>l.sure.toNat - i.1) ⟨a,Nat.le_refl _,by omega,by rw [Xa];exact Ge.nil⟩ id ⟨⟨rfl,rfl,rfl,rfl,rfl,trivial⟩,⟨by rw [Xa];rfl,trivial⟩,by simp [Au]⟩ fun ⟨i,hi1,hi2,hI⟩=>?_
 clear h
 repeat (refine AW.seq ?_)
 refine AW.reg rfl fun KK hKK=>?_
 refine g ?_
 repeat' (refine hKK _ (g ?_);clear hKK KK)
 repeat (refine AW.seq ?_)
 refine st_ rfl ?_
 refine g ?_
 refine C9 (fun h=>?_) (fun h=>?_)
 ·have hlt:(i:Int) < l.sure:=of_decide_eq_true h
  have hin:i < l.notes.length:=by omega
  have hfn0:Ag l.notes[i]=true:=Nw hF _ (List.getElem_mem hin)
  obtain ⟨n,hn⟩ : ∃ n,Dl l.notes[i] it=n:=⟨_,rfl⟩
  have hfn:Ag n=true:=hn ▸ K5 it hfn0
  have hiX:i < (Fg l it).length:=by omega
  have hXs:(Fg l it)[i]? = some n:=by
   unfold Fg
   rw [List.getElem?_map,List.getElem?_take_of_lt (by omega),List.getElem?_eq_getElem hin,Option.map_some,hn]
  have hXi:(Fg l it)[i]=n:=(List.getElem?_eq_some_iff.1 hXs).2
  have hpl:(Jj (Fg l it) a i).length=i - a:=A11 (by omega)
  have hp3:(Fg l it)[a+(Jj (Fg l it) a i).length]? = some ((n,i):Aq×Nat).1:=by
   rw [hpl,show a+(i - a)=i by omega];exact hXs
  have hnx:Jj (Fg l it) a (i+1)=Jj (Fg l it) a i++[(n,i)]:=by rw [X9 hi1 hiX,hXi]
  have hai:a+(Jj (Fg l it) a i).length=i:=by omega
  have hol:=hI.len
  rw [hpl] at hol
  obtain ⟨o,ho⟩ : ∃ o,Mq it (Jj (Fg l it) a i)=o:=⟨_,rfl⟩
  have hos:Mq it (Jj (Fg l it) a (i+1))=G6 it o n:=by rw [hnx,Ps,ho]
  rw [ho] at hol
  have hthr:=A55 l.notes[i] it hfn0
  rw [hn] at hthr
  refine g ?_
  repeat' refine st_ rfl (g ?_)
  refine ⟨by omega,_,Cb (List.getElem?_eq_getElem hin),?_⟩
  refine g ?_
  repeat' refine Am (g ?_)
  refine Ab hthr rfl ?_
  rw [ho]
  refine g ?_
  repeat' refine st_ rfl (g ?_)
  rcases List.eq_nil_or_concat o with rfl | ⟨d,z,rfl⟩
  ·obtain ⟨g1,g2⟩:=Zn (it:=it) (m:=m) (x:=n) (by omega)
   refine AW.drawn (ds:=[53,54,55,56,57,58,59,60,61,62,63]) (fin:=[0,1]) (bs:=[2,2,2,2,2,2,2,2,2,2,2]) [⟨[],[],[],[],0⟩,⟨[(53,0)],[],[],[],0⟩,⟨[(54,1)],[],[],[],0⟩,⟨[],[],[],[],0⟩,⟨[],[],[],[],0⟩,⟨[(56,3),(57,4)],[],[0,1],[],0⟩,⟨[(58,5)],[],[0,1],[],0⟩,⟨[],[],[0,1],[],0⟩,⟨[],[],[],[],0⟩,⟨[(59,6),(60,7),(61,8)],[],[0,1],[],0⟩,⟨[(55,2),(62,9)],[],[],[],0⟩] (by kernel_rfl) rfl (by kernel_rfl) rfl rfl rfl fun KD hKD=>?_
   refine g ?_
   repeat' (refine hKD _ _ ⟨rfl,g ?_⟩;clear hKD KD)
   refine g ?_
   repeat' (first | ((fail_if_success refine AW.ret ?_);refine st_ rfl (g ?_)) | refine C9 (fun h=>g ?_) (fun h=>g ?_))
   ·exfalso
    have:=of_decide_eq_true h
    try simp at this
    omega
   refine bs1 (by omega) rfl rfl rfl ⟨trivial,trivial,trivial,trivial,trivial⟩ ?_
   refine g ?_
   refine C4 rfl (by kernel_rfl) (by omega) (by kernel_rfl) rfl (by first | (simp;done) | (simp at hol ⊢;omega)) ?_
   refine g ?_
   repeat' refine st_ rfl (g ?_)
   refine ⟨⟨i+1,by omega,by omega,?_⟩,fun b=>if b=9900 then 8600 else b,⟨⟨rfl,rfl,rfl,rfl,rfl,trivial⟩,⟨?_,trivial⟩,by simp [Au]⟩,by show l.sure.toNat - (i+1) < l.sure.toNat - i;omega⟩
   ·rw [hnx];exact hI.step hp3 hfn (by rw [ho];exact g2)
   ·rw [hos,g1];rfl
  ·rw [List.concat_eq_append] at *
   have hlast:(((d++[z]).length:Nat):Int) - 1=(d.length:Nat):=by simp
   have hgl:(d++[z]).getLast? = some z:=by simp
   have hfz:Ag z=true:=hI.formed z (by rw [ho];simp)
   have hix:(d++[z])[d.length]? = some z:=by simp
   simp only [hlast]
   refine AW.drawn (ds:=[53,54,55,56,57,58,59,60,61,62,63]) (fin:=[0,1]) (bs:=[2,2,2,2,2,2,2,2,2,2,2]) [⟨[],[],[],[],0⟩,⟨[(53,0)],[],[],[],0⟩,⟨[(54,1)],[],[],[],0⟩,⟨[],[],[],[],0⟩,⟨[],[],[],[],0⟩,⟨[(56,3),(57,4)],[],[0,1],[],0⟩,⟨[(58,5)],[],[0,1],[],0⟩,⟨[],[],[0,1],[],0⟩,⟨[],[],[],[],0⟩,⟨[(59,6),(60,7),(61,8)],[],[0,1],[],0⟩,⟨[(55,2),(62,9)],[],[],[],0⟩] (by kernel_rfl) rfl (by kernel_rfl) rfl rfl rfl fun KD hKD=>?_
   refine g ?_
   refine ⟨by omega,by simp,?_⟩
   refine g ?_
   repeat' refine Am (g ?_)
   refine ⟨_,Cb hix,?_⟩
   refine g ?_
   repeat' refine Am (g ?_)
   refine Ab (Aw1 z n it) rfl ?_
   cases hg:Lr it z n
   ·obtain ⟨g1,g2⟩:=Aj1 (m:=m) hgl hg
    refine g ?_
    repeat' (refine hKD _ _ ⟨rfl,g ?_⟩;clear hKD KD)
    refine g ?_
    repeat' (first | ((fail_if_success refine AW.ret ?_);refine st_ rfl (g ?_)) | refine C9 (fun h=>g ?_) (fun h=>g ?_))
    ·refine AW.freeze 9900 _ rfl trivial ?_
     simp only [go_sem,reduceIte,Nat.reduceEqDiff]
     refine g ?_
     repeat' refine st_ rfl (g ?_)
     rw [hI.stop (x:=(n,i)) hp3 (by rw [ho,g2];exact h),ho,hai] at hq
     cases hq
     first | exact ⟨.inl trivial,id,fun _ _ _ h=>h,List.nodup_nil⟩ | exact fun _ _ _ h=>h
    ·refine bs1 (by omega) rfl rfl rfl ⟨trivial,trivial,trivial,trivial,trivial⟩ ?_
     refine g ?_
     refine C4 rfl (by kernel_rfl) (by omega) (by kernel_rfl) rfl (by first | (simp;done) | (simp at hol ⊢;omega)) ?_
     refine g ?_
     repeat' refine st_ rfl (g ?_)
     refine ⟨⟨i+1,by omega,by omega,?_⟩,fun b=>if b=9900 then 8600 else b,⟨⟨rfl,rfl,rfl,rfl,rfl,trivial⟩,⟨?_,trivial⟩,by simp [Au]⟩,by show l.sure.toNat - (i+1) < l.sure.toNat - i;omega⟩
     ·rw [hnx];exact hI.step hp3 hfn (by rw [ho,g2];exact h)
     ·rw [hos,g1,List.map_append];rfl
   ·obtain ⟨g1,g2⟩:=A77 (m:=m) hgl hg
    obtain ⟨⟨⟨w1,w2⟩,w3⟩,-⟩ : ((z.writes=[]/\n.writes=[])/\z.end_=n.start)/\_:=by
     have:=hg
     unfold Lr at this
     simpa only [Bool.and_eq_true,decide_eq_true_eq] using this
    refine g ?_
    repeat' (refine hKD _ _ ⟨rfl,g ?_⟩;clear hKD KD)
    refine g ?_
    repeat' ((fail_if_success refine AW.ret ?_);refine st_ rfl (g ?_))
    refine AW.drawn (ds:=[65,66,67,68,69,70,71,72,64,73,74,75]) (fin:=[0,2]) (bs:=[2,2,2,2,2,2,2,2,2,2,2,2,2]) [⟨[],[],[],[],0⟩,⟨[],[],[],[],0⟩,⟨[],[],[],[],0⟩,⟨[],[],[],[],0⟩,⟨[(67,2),(68,3)],[],[0,1],[],0⟩,⟨[(69,4)],[],[0,1],[],0⟩,⟨[],[],[0,1],[],0⟩,⟨[(70,5),(71,6)],[],[0,1],[],0⟩,⟨[(72,7)],[],[],[],0⟩,⟨[(64,8)],[],[],[],0⟩,⟨[(64,8)],[],[],[],0⟩,⟨[(65,0),(66,1)],[],[0,1],[],0⟩,⟨[(75,11),(73,9)],[],[],[1],1⟩] (by kernel_rfl) rfl (by kernel_rfl) rfl rfl rfl fun KD hKD=>?_
    refine g ?_
    refine ⟨by omega,by simp,?_⟩
    refine g ?_
    repeat' refine Am (g ?_)
    refine ⟨_,Cb hix,?_⟩
    refine g ?_
    repeat' refine Am (g ?_)
    refine Ab (Al1 z n hfz hfn w1 w2 w3) rfl ?_
    refine g ?_
    refine ⟨by omega,by simp,?_⟩
    refine g ?_
    repeat' refine Am (g ?_)
    refine ⟨_,_,rfl,by simp [Gj,okA],Cb hix,?_⟩
    refine g ?_
    repeat' (first | refine Am (g ?_) | (refine hKD _ _ ⟨rfl,g ?_⟩;clear hKD KD))
    refine g ?_
    repeat' ((fail_if_success refine AW.ret ?_);refine st_ rfl (g ?_))
    refine ⟨⟨i+1,by omega,by omega,?_⟩,id,⟨⟨rfl,rfl,rfl,rfl,rfl,trivial⟩,⟨?_,trivial⟩,by simp [Au]⟩,by show l.sure.toNat - (i+1) < l.sure.toNat - i;omega⟩
    ·rw [hnx];exact hI.step hp3 hfn (by rw [ho];exact g2)
    ·rw [hos,g1,List.map_set,List.length_append,List.length_singleton,Nat.add_sub_cancel]
     rfl
 ·have hge:¬ (i:Int) < l.sure:=of_decide_eq_false h
  obtain rfl:i=l.sure.toNat:=by omega
  have hpl:(Jj (Fg l it) a l.sure.toNat).length=l.sure.toNat - a:=A11 (by omega)
  rw [hI.done (by omega),show a+(Jj (Fg l it) a l.sure.toNat).length=l.sure.toNat by omega,show ((l.sure.toNat:Nat):Int)=l.sure by omega] at hq
  generalize Mq it (Jj (Fg l it) a l.sure.toNat)=o at hq ⊢
  cases hq
  refine AW.freeze 9900 _ rfl trivial ?_
  simp only [go_sem,reduceIte,Nat.reduceEqDiff]
  refine g ?_
  repeat' refine st_ rfl (g ?_)
  refine AW.drawn (ds:=[86,87,88,8,9,10]) (fin:=[]) (bs:=[0,0,0,0,0,0]) [⟨[],[],[],[],0⟩,⟨[],[],[],[],0⟩,⟨[(87,1)],[],[],[],0⟩,⟨[(86,0)],[],[],[],0⟩,⟨[(88,2)],[],[],[],0⟩,⟨[],[],[],[],0⟩] (by kernel_rfl) rfl (by kernel_rfl) rfl rfl rfl fun KD hKD=>?_
  refine g ?_
  repeat' (refine hKD _ _ ⟨rfl,g ?_⟩;clear hKD KD)
  refine g ?_
  repeat' refine st_ rfl (g ?_)
  first | exact ⟨.inl trivial,id,fun _ _ _ h=>h,List.nodup_nil⟩ | exact fun _ _ _ h=>h
end Go.Proofs.YthlgnjlpakimaaaGreatDoor
namespace Go.Proofs.YthlgnjlpakimaaaGreatDoor
open Go.ChangeShapes Go.WideShapes Go.ChangeAt Go.RowKit
attribute [local irreducible] AW AWY Cf Bf vop Bw Bh Bx qop Cg Cz Az Aw C5 A7 Bl
attribute [local go_sem] Jl Jo Hw Fa Ee Jp Gd Gn Fl Ce Ap Ar
def Ch2 (v:Br) (it:List Ad) (w:Ai):Bool:=!w.gone&&By it w.object&&!decide ((Yv v.bodies w.object w.stamp).2=0)
def Ch1 (v:Br) (it:List Ad) (l:List Ai):List Int:=(l.filter (Ch2 v it)).map (·.object)
def D42 (v:Br) (it:List Ad):List Int×Int:=if Al v=true then (Ch1 v it v.held,0) else ([],1)
def enO (o:Int):List IV:=[.val (.int .i64 o)]
end Go.Proofs.YthlgnjlpakimaaaGreatDoor
namespace Go.Proofs.YthlgnjlpakimaaaGreatDoor
open Go.ChangeShapes Go.WideShapes Go.ChangeAt Go.RowKit
attribute [local irreducible] AW AWY Cf Bf vop Bw Bh Bx qop Cg Cz Az Aw C5 A7 Bl
attribute [local go_sem] Fa Ee Jp Fl Ce Ap Ar
theorem Ux (set:List Ad) (l:List Ai) (w:Ai):Fe (l++[w]) set=Fe l set++if By set w.object=true then [w] else []:=by
 unfold Fe
 rw [List.filter_append,List.filter_cons,List.filter_nil]
theorem A69 {q:List Ai×Int} {e:Int} (h:q=([],e)):D1 (.tup [.val (.slice none 0 0),.val (.int .i64 e)]) (.tup [.iv (wrI q.1),.val (.int .i64 q.2)]):=by
 subst h
 refine Je rfl fun p hp=>?_
 simp only [List.zip_cons_cons,List.zip_nil_right,List.mem_cons,List.not_mem_nil,or_false] at hp
 rcases hp with rfl | rfl
 ·exact Cs 4
 ·exact D1.rfl_ _
set_option maxRecDepth 100000 in
set_option maxHeartbeats 1600000 in
theorem Ad2 (l:List Ai) (set:List Ad):A7 Tryz.prog A9 200 [.iv (wrI l),.iv (spI set)] (.tup [.iv (wrI (L2 l set).1),.val (.int .i64 (L2 l set).2)]) []:=by
 refine A7.ofS (n:=24) (rs:=[.tmp 4,.tmp 5]) Tryz.func200 rfl (by kernel_rfl) Tryz.ntmps200 (by kernel_rfl) (by simp) (fun _ _=>A9.later) ?_
 intro hok V w0
 obtain ⟨R,hR⟩ : ∃ R,L2 l set=R:=⟨_,rfl⟩
 rw [hR]
 unfold L2 at hR
 have hI:∀ x∈l,I64 x.stamp.count/\I64 x.stamp.node/\I64 x.object:=fun x hx=>by
  obtain ⟨-,o1,o2,o3,-⟩:=En (by simpa [wrI] using hok.1.2) (enW x) (List.mem_map_of_mem hx)
  exact ⟨o1,o2,o3⟩
 refine g ?_
 refine AW.seq ?_
 refine AW.reg rfl fun KK hKK=>?_
 refine g ?_
 repeat' (refine hKK _ (g ?_);clear hKK KK)
 refine AW.freeze 400 _ rfl ⟨trivial,trivial⟩ ?_
 simp only [go_sem,reduceIte,Nat.reduceEqDiff]
 refine g ?_
 repeat' (first | refine st_ rfl (g ?_) | refine C9 (fun h=>g ?_) (fun h=>g ?_) | refine Ab (Gl _) rfl (g ?_) | refine Ab (Zz _) rfl (g ?_))
 ·rw [if_neg (by simpa using h)] at hR
  exact A69 hR.symm
 have hF:Bk l=true:=by simpa using h
 rw [if_pos hF] at hR
 have hhl:=Wx (Fd.1 hF)
 refine AW.adoptB 700 9900 49 4 rfl rfl ?_
 refine AW.le (S:=⟨[(6,.bp 700 0),(3,.ip [spI set]),(13,.fn 184 [.ip [wrI l]])],[.row 9900 49 4 ((Fe [] set).map enW),.box 700 [.own 9900]]⟩) (ρ:=id) ⟨⟨rfl,rfl,rfl,trivial⟩,⟨rfl,rfl,trivial⟩,by simp [Au,BA.id]⟩ ?_
 refine AW.range (Zy l hF) [(6,.bp 700 0)] [(3,.ip [spI set]),(13,.fn 184 [.ip [wrI l]])] (fun pre=>[.row 9900 49 4 ((Fe pre set).map enW),.box 700 [.own 9900]]) (fun _=>True) rfl trivial rfl rfl rfl rfl (fun x=>⟨rfl,rfl⟩) (fun c pre x hsp _=>?_) (fun xs hS _=>?_)
 ·have hx:x∈l:=hsp.subset (by simp)
  obtain ⟨w1,w2,w3⟩:=hI x hx
  have hs:=Ux set pre x
  have hll:(Fe pre set).length<=256:=by
   unfold Fe
   have h1:=List.length_filter_le (fun w=>By set w.object) pre
   have h2:=hsp.length_le
   rw [List.length_append,List.length_singleton] at h2
   omega
  simp only [T9,Bz3,List.cons_append,List.nil_append]
  refine g ?_
  refine AW.seq ?_
  refine AW.reg rfl fun KK hKK=>?_
  refine g ?_
  repeat' (refine hKK _ (g ?_);clear hKK KK)
  refine AW.reg rfl fun KK hKK=>?_
  refine g ?_
  repeat' (refine hKK _ (g ?_);clear hKK KK)
  refine AW.freeze 900 _ rfl ⟨w1,w2,w3,trivial,trivial⟩ ?_
  simp only [go_sem,reduceIte,Nat.reduceEqDiff]
  refine g ?_
  repeat' (first | refine st_ rfl (g ?_) | refine C9 (fun h=>g ?_) (fun h=>g ?_) | refine Ab (Wy _ _) rfl (g ?_))
  ·rw [if_pos (by simpa using h)] at hs
   refine bs1 (by omega) rfl rfl rfl ⟨w1,w2,w3,trivial,trivial⟩ ?_
   refine g ?_
   refine C4 rfl (by kernel_rfl) (by omega) (by kernel_rfl) rfl (by simp;omega) ?_
   refine g ?_
   refine ⟨trivial,fun b=>if b=9900 then 2300 else b,⟨rfl,trivial⟩,⟨?_,rfl,trivial⟩,by simp [Au,BA.id]⟩
   rw [hs,List.map_append]
   rfl
  ·rw [if_neg (by simpa using h),List.append_nil] at hs
   refine ⟨trivial,id,⟨rfl,trivial⟩,⟨?_,rfl,trivial⟩,by simp [Au,BA.id]⟩
   rw [hs]
   rfl
 ·obtain rfl:xs=l:=hS
  refine AW.freeze 9900 _ rfl trivial ?_
  simp only [go_sem,reduceIte,Nat.reduceEqDiff]
  refine g ?_
  repeat' refine st_ rfl (g ?_)
  subst hR
  exact D1.rfl_ _
theorem An8 (a b c:IV):D1 (.agg [.val (.slice none 0 0),.iv a,.iv b,.iv c]) (.agg [.iv (stI []),.iv a,.iv b,.iv c]):=by
 refine Z8 rfl fun p hp=>?_
 simp only [List.zip_cons_cons,List.zip_nil_right,List.mem_cons,List.not_mem_nil,or_false] at hp
 rcases hp with rfl | rfl | rfl | rfl
 ·exact Cs 2
 all_goals exact D1.rfl_ _
set_option maxRecDepth 100000 in
set_option maxHeartbeats 1600000 in
theorem Zd (v:Br) (r:List Aa) (set:List Ad) (iR:I64 v.room) (hF:Bk v.held=true):A7 Tryz.prog A9 149 [vwA v,.iv (stI r),.iv (spI set)] (F3 ⟨[],r,Fp [⟨0,255⟩] set,Fe v.held set⟩) []:=by
 refine A7.ofS (n:=24) (rs:=[.cell 6 37]) Tryz.func149 rfl (by kernel_rfl) Tryz.ntmps149 (by kernel_rfl) (by simp) (fun _ _=>A9.later) ?_
 intro hok V w0
 have hw:=Ad2 v.held set
 unfold L2 at hw
 rw [if_pos hF] at hw
 obtain ⟨W,hW⟩ : ∃ W,Fe v.held set=W:=⟨_,rfl⟩
 have hl:=Ad8 [⟨0,255⟩] set
 obtain ⟨B,hB⟩ : ∃ B,Fp [⟨0,255⟩] set=B:=⟨_,rfl⟩
 rw [hW] at hw ⊢
 rw [hB] at hl ⊢
 simp only at hw
 refine g ?_
 refine AW.seq ?_
 refine AW.reg rfl fun KK hKK=>?_
 refine g ?_
 repeat' (refine hKK _ (g ?_);clear hKK KK)
 refine AW.freeze 400 _ rfl ⟨trivial,trivial,trivial,trivial,iR,trivial⟩ ?_
 simp only [go_sem,reduceIte,Nat.reduceEqDiff]
 refine g ?_
 repeat' (first | refine st_ rfl (g ?_) | refine Ab (hw) rfl (g ?_) | refine Ab (Lf _) rfl (g ?_))
 refine bd1 (by omega) rfl rfl rfl ⟨rfl,rfl,trivial⟩ ?_
 refine g ?_
 repeat' (first | refine st_ rfl (g ?_) | refine Ab (hl) rfl (g ?_))
 exact An8 _ _ _
end Go.Proofs.YthlgnjlpakimaaaGreatDoor
namespace Go.Proofs.YthlgnjlpakimaaaGreatDoor
open Go.ChangeShapes Go.WideShapes Go.ChangeAt Go.RowKit
attribute [local irreducible] AW AWY Cf Bf vop Bw Bh Bx qop Cg Cz Az Aw C5 A7 Bl Cj
attribute [local go_sem] Fa Ee Jp Fl Ce Kt M6 Ku Qe
set_option maxRecDepth 100000 in
set_option maxHeartbeats 1600000 in
theorem Ak7 (a b:List Ad):A7 Tryz.prog A9 223 [.iv (spI a),.iv (spI b)] (.iv (spI (Fp a b))) []:=by
 refine A7.of (n:=29) (rs:=[.tmp 4]) Tryz.func223 rfl (by kernel_rfl) Tryz.ntmps223 (by kernel_rfl) (by simp) (fun _ _=>A9.later) ?_
 intro hok V w0
 refine g ?_
 repeat' refine st_ rfl (g ?_)
 refine Ab (Hf a) rfl (g ?_)
 refine g ?_
 refine Ab (Hf b) rfl (g ?_)
 refine g ?_
 refine Gw (q:=2) (s:=256) (by kernel_rfl) (Bj _) rfl (by simp [rep]) ?_
 refine g ?_
 refine Gw (q:=2) (s:=256) (by kernel_rfl) (Bj _) rfl (by simp [rep]) ?_
 refine g ?_
 repeat' refine st_ rfl (g ?_)
 refine AW.freeze 700 _ rfl trivial ?_
 simp only [go_sem,reduceIte,Nat.reduceEqDiff]
 refine AW.loop (fun m:{m:Nat // m<=256}=>⟨[(5,.bp 600 0),(6,.ip (Cj fun o=>Ae b o)),(7,.val (.int .i64 (m.1:Nat)))],[.arr 600 (Cj fun o=>Ae a o&&!(decide (o < m.1)&&Ae b o))]⟩) (fun m=>256 - m.1) ⟨0,Nat.zero_le _⟩ id ⟨⟨rfl,rfl,rfl,trivial⟩,⟨congrArg (fun C=>some (BA.arr 600 C)) (Bo fun o _=>by simp),trivial⟩,by simp [Au,BA.id]⟩ fun ⟨m,hm⟩=>?_
 simp only
 repeat (refine AW.seq ?_)
 refine AW.reg rfl fun KK hKK=>?_
 refine g ?_
 repeat' (refine hKK _ (g ?_);clear hKK KK)
 repeat (refine AW.seq ?_)
 refine st_ rfl ?_
 refine g ?_
 refine Bq (fun h=>?_) (fun h=>?_)
 ·have hm':m < 256:=by omega
  obtain ⟨F,hF⟩ : ∃ F:Nat->Bool,(fun o:Nat=>Ae a o&&!(decide (o < m)&&Ae b o))=F:=⟨_,rfl⟩
  have hld:(Cj F)[m]? = some (.val (.bool (Ae a m))):=by rw [Cv hm',<-hF];simp
  have hnx:Cj (fun o=>if o=m then (Ae a m&&!Ae b m) else F o)=Cj fun o=>Ae a o&&!(decide (o < m+1)&&Ae b o):=Bo fun o _=>by
   rw [<-hF]
   by_cases e:o=m
   ·subst e;simp
   ·rw [if_neg e,show decide (o < m+1)=decide (o < m) from decide_eq_decide.2 (by omega)]
  rw [hF]
  refine g ?_
  repeat' refine st_ rfl (g ?_)
  refine ⟨by omega,by omega,?_⟩
  rw [Nat.mul_one,Nat.zero_add]
  refine g ?_
  repeat' refine Am (g ?_)
  refine ⟨_,hld,?_⟩
  cases ha:Ae a m with
  | false =>
   rw [ha,Bool.false_and] at hnx
   refine g ?_
   repeat' refine Am (g ?_)
   refine ⟨by omega,by omega,?_⟩
   rw [Nat.mul_one,Nat.zero_add]
   refine g ?_
   repeat' refine Am (g ?_)
   refine ⟨_,rfl,⟨trivial,trivial⟩,by rw [Bj];omega,?_⟩
   refine g ?_
   repeat' (first | refine st_ rfl (g ?_) | refine Am (g ?_))
   refine ⟨⟨m+1,hm'⟩,id,⟨⟨rfl,rfl,rfl,trivial⟩,⟨congrArg (fun C=>some (BA.arr 600 C)) ((Er hm').trans hnx),trivial⟩,by simp [Au,BA.id]⟩,by show 256 - (m+1) < 256 - m;omega⟩
  | true =>
   rw [ha,Bool.true_and] at hnx
   refine g ?_
   repeat' refine Am (g ?_)
   refine ⟨by omega,by omega,?_⟩
   rw [Nat.mul_one]
   refine g ?_
   repeat' refine Am (g ?_)
   refine F2 (Cv hm') ?_
   refine g ?_
   refine ⟨by omega,by omega,?_⟩
   rw [Nat.mul_one,Nat.zero_add]
   refine g ?_
   repeat' refine Am (g ?_)
   refine ⟨_,rfl,⟨trivial,trivial⟩,by rw [Bj];omega,?_⟩
   refine g ?_
   repeat' (first | refine st_ rfl (g ?_) | refine Am (g ?_))
   refine ⟨⟨m+1,hm'⟩,id,⟨⟨rfl,rfl,rfl,trivial⟩,⟨congrArg (fun C=>some (BA.arr 600 C)) ((Er hm').trans hnx),trivial⟩,by simp [Au,BA.id]⟩,by show 256 - (m+1) < 256 - m;omega⟩
 ·obtain rfl:m=256:=by omega
  refine AW.exit ?_
  simp only [reduceIte]
  refine g ?_
  repeat' refine st_ rfl (g ?_)
  refine ⟨(Bj _).symm,?_⟩
  rw [show Fp a b=C8 (fun o=>Ae a o&&!(decide (o < 256)&&Ae b o)) from E4 fun o ho=>by simp [ho]]
  refine g ?_
  repeat' (first | refine st_ rfl (g ?_) | exact trivial | refine Ab (B28 _) rfl (g ?_))
theorem Ak5 (l:List Ad):A7 Tryz.prog A9 201 [.iv (spI l)] (.iv (spI (Fp [⟨0,255⟩] l))) []:=by
 refine A7.of (n:=7) (rs:=[.tmp 2]) Tryz.func201 rfl (by kernel_rfl) Tryz.ntmps201 (by kernel_rfl) (by simp) (fun _ _=>A9.later) ?_
 intro hok V w0
 refine g ?_
 repeat' refine st_ rfl (g ?_)
 refine bd1 (by omega) rfl rfl rfl ⟨rfl,rfl,trivial⟩ ?_
 refine g ?_
 repeat' (first | refine st_ rfl (g ?_) | exact trivial | refine Ab (Ak7 [⟨0,255⟩] l) rfl (g ?_))
set_option maxRecDepth 100000 in
set_option maxHeartbeats 1600000 in
theorem A56 (l:List Ai) (set:List Ad):A7 Tryz.prog A9 202 [.iv (wrI l),.iv (spI set)] (.tup [.iv (wrI (L2 l set).1),.val (.int .i64 (L2 l set).2)]) []:=by
 refine A7.ofS (n:=35) (rs:=[.tmp 4,.tmp 5]) Tryz.func202 rfl (by kernel_rfl) Tryz.ntmps202 (by kernel_rfl) (by simp) (fun _ _=>A9.later) ?_
 intro hok V w0
 obtain ⟨R,hR⟩ : ∃ R,L2 l set=R:=⟨_,rfl⟩
 rw [hR]
 unfold L2 at hR
 have hI:∀ x∈l,I64 x.stamp.count/\I64 x.stamp.node/\I64 x.object:=fun x hx=>by
  obtain ⟨-,o1,o2,o3,-⟩:=En (by simpa [wrI] using hok.1.2) (enW x) (List.mem_map_of_mem hx)
  exact ⟨o1,o2,o3⟩
 refine g ?_
 repeat' (first | refine st_ rfl (g ?_) | refine C9 (fun h=>g ?_) (fun h=>g ?_) | refine Ab (Rs _) rfl (g ?_))
 ·rw [if_neg (by simpa using h)] at hR
  exact A69 hR.symm
 have hF:Bk l=true:=by simpa using h
 rw [if_pos hF] at hR
 have hS:=Fd.1 hF
 have hhl:=Wx hS
 refine Ab (Hf set) rfl (g ?_)
 refine g ?_
 refine Gw (q:=2) (s:=256) (by kernel_rfl) (Bj _) rfl (by simp [rep]) ?_
 refine g ?_
 repeat' refine st_ rfl (g ?_)
 refine AW.freeze 700 _ rfl trivial ?_
 simp only [go_sem,reduceIte,Nat.reduceEqDiff]
 refine AW.adopt 7 9900 49 4 rfl rfl ?_
 refine AW.loop (fun m:{m:Nat // m<=l.length}=>⟨[(0,.iv (wrI l)),(6,.ip (Cj fun o=>Ae set o)),(7,.own 9900),(8,.val (.int .i64 (m.1:Nat)))],[.row 9900 49 4 ((Fe (l.take m.1) set).map enW)]⟩) (fun m=>l.length - m.1) ⟨0,Nat.zero_le _⟩ id ⟨⟨rfl,rfl,rfl,rfl,trivial⟩,⟨rfl,trivial⟩,by simp [Au,BA.id]⟩ fun ⟨m,hm⟩=>?_
 simp only
 repeat (refine AW.seq ?_)
 refine AW.reg rfl fun KK hKK=>?_
 refine g ?_
 repeat' (refine hKK _ (g ?_);clear hKK KK)
 repeat (refine AW.seq ?_)
 refine st_ rfl ?_
 refine g ?_
 refine Bq (fun h=>?_) (fun h=>?_)
 ·have hlt:m < l.length:=by omega
  have hs:=Ux set (l.take m) l[m]
  rw [<-List.take_succ_eq_append_getElem hlt] at hs
  have hll:(Fe (l.take m) set).length<=256:=by
   unfold Fe
   have h1:=List.length_filter_le (fun w=>By set w.object) (l.take m)
   have h2:=List.length_take_le m l
   omega
  have hr:=M7 (hS.2 _ (List.getElem_mem hlt))
  obtain ⟨o1,o2,o3⟩:=hI _ (List.getElem_mem hlt)
  obtain ⟨J,hJ⟩ : ∃ J,Fe (l.take m) set=J:=⟨_,rfl⟩
  obtain ⟨x,hx⟩ : ∃ x,l[m]=x:=⟨_,rfl⟩
  rw [hJ] at hs hll ⊢
  rw [hx] at hs hr o1 o2 o3
  obtain ⟨k,hk⟩ : ∃ k:Nat,x.object=k:=⟨x.object.toNat,by omega⟩
  have hkt:x.object.toNat=k:=by omega
  have hsp:By set x.object=Ae set k:=by
   unfold By
   rw [decide_eq_true hr,Bool.true_and,hk]
  rw [hsp] at hs
  refine g ?_
  repeat' (first | refine st_ rfl (g ?_) | refine ix_ (by omega) (g ?_))
  rw [hx]
  refine ⟨by omega,by omega,?_⟩
  rw [hkt,Nat.mul_one]
  refine g ?_
  repeat' refine Am (g ?_)
  refine F2 (Cv (by omega)) ?_
  cases hb:Ae set k with
  | false =>
   rw [hb,if_neg (by decide),List.append_nil] at hs
   refine g ?_
   repeat' refine st_ rfl (g ?_)
   refine ⟨⟨m+1,hlt⟩,id,⟨⟨rfl,rfl,rfl,rfl,trivial⟩,⟨?_,trivial⟩,by simp [Au,BA.id]⟩,by show l.length - (m+1) < l.length - m;omega⟩
   rw [hs]
   rfl
  | true =>
   rw [hb,if_pos rfl] at hs
   refine g ?_
   repeat' (first | refine st_ rfl (g ?_) | refine ix_ (by omega) (g ?_))
   rw [hx]
   refine bs1 (by omega) rfl rfl rfl ⟨o1,o2,o3,trivial,trivial⟩ ?_
   refine g ?_
   refine C4 rfl (by kernel_rfl) (by omega) (by kernel_rfl) rfl (by simp;omega) ?_
   refine g ?_
   repeat' refine st_ rfl (g ?_)
   refine ⟨⟨m+1,hlt⟩,fun b=>if b=9900 then 3400 else b,⟨⟨rfl,rfl,rfl,rfl,trivial⟩,⟨?_,trivial⟩,by simp [Au,BA.id]⟩,by show l.length - (m+1) < l.length - m;omega⟩
   rw [hs,List.map_append]
   rfl
 ·obtain rfl:m=l.length:=by omega
  rw [List.take_length]
  refine AW.exit ?_
  simp only [reduceIte]
  refine AW.freeze 9900 _ rfl trivial ?_
  simp only [go_sem,reduceIte,Nat.reduceEqDiff]
  refine g ?_
  repeat' refine st_ rfl (g ?_)
  subst hR
  exact D1.rfl_ _
set_option maxRecDepth 100000 in
set_option maxHeartbeats 1600000 in
theorem Yb (v:Br) (r:List Aa) (f:Nat->Bool) (iR:I64 v.room) (hF:Bk v.held=true):A7 Tryz.prog A9 153 [vwA v,.iv (stI r),.aggI (Cj f)] (F3 (Vp v r f)) []:=by
 refine A7.ofS (n:=25) (rs:=[.cell 6 37]) Tryz.func153 rfl (by kernel_rfl) Tryz.ntmps153 (by kernel_rfl) (by simp) (fun _ _=>A9.later) ?_
 intro hok V w0
 have hw:=A56 v.held (C8 f)
 unfold L2 at hw
 rw [if_pos hF] at hw
 have hl:=Ak5 (C8 f)
 have hb:Fp [⟨0,255⟩] (C8 f)=C8 fun o=>!f o:=E4 fun o ho=>by
  rw [C3 _ ho]
  have:Ae [⟨0,255⟩] (o:Int)=true:=J7.2 ⟨by simp only;omega,by simp only;omega⟩
  rw [this,Bool.true_and]
 rw [hb] at hl
 unfold Vp
 obtain ⟨W,hW⟩ : ∃ W,Fe v.held (C8 f)=W:=⟨_,rfl⟩
 obtain ⟨B,hB⟩ : ∃ B,(C8 fun o=>!f o)=B:=⟨_,rfl⟩
 rw [hW] at hw ⊢
 rw [hB] at hl ⊢
 simp only at hw
 refine g ?_
 refine AW.seq ?_
 refine AW.reg rfl fun KK hKK=>?_
 refine g ?_
 repeat' (refine hKK _ (g ?_);clear hKK KK)
 refine AW.freeze 400 _ rfl ⟨trivial,trivial,trivial,trivial,iR,trivial⟩ ?_
 simp only [go_sem,reduceIte,Nat.reduceEqDiff]
 refine g ?_
 repeat' refine st_ rfl (g ?_)
 refine ⟨(Bj _).symm,?_⟩
 refine g ?_
 repeat' (first | refine st_ rfl (g ?_) | refine Ab (B28 f) rfl (g ?_) | refine Ab (N9 _) rfl (g ?_) | refine Ab (hl) rfl (g ?_) | refine Ab (hw) rfl (g ?_))
 exact An8 _ _ _
end Go.Proofs.YthlgnjlpakimaaaGreatDoor
namespace Go.Proofs.YthlgnjlpakimaaaGreatDoor
def D7 (z:List Ao) (it:List Ad):Nat->List (List Aa)
 | 0=>[]
 | i+1=>D7 z it i++match z[i]? with
  | some x=>if Hu [x.span] it=true/\x.vec∉D7 z it i then [x.vec] else []
  | none=>[]
theorem Rc {z:List Ao} {it:List Ad} {i:Nat} (h:i < z.length):D7 z it (i+1)=D7 z it i++if Hu [z[i].span] it=true/\z[i].vec∉D7 z it i then [z[i].vec] else []:=by
 rw [D7,List.getElem?_eq_getElem h]
theorem Q5 {z:List Ao} {it:List Ad} {r:List Aa} : ∀ {i:Nat},i<=z.length->(r∈D7 z it i↔∃ j,∃ h:j < z.length,j < i/\z[j].vec=r/\Hu [z[j].span] it=true)
 | 0,_=>by simp [D7]
 | i+1,hi=>by
  rw [Rc (by omega),List.mem_append,Q5 (by omega)]
  constructor
  ·rintro (⟨j,h,h1,h2⟩ | h)
   ·exact ⟨j,h,by omega,h2⟩
   ·split at h
    ·rename_i hb
     exact ⟨i,by omega,by omega,(List.mem_singleton.1 h).symm,hb.1⟩
    ·cases h
  ·rintro ⟨j,h,h1,h2,h3⟩
   rcases Nat.lt_or_ge j i with h4 | h4
   ·exact .inl ⟨j,h,h4,h2,h3⟩
   ·obtain rfl:j=i:=by omega
    by_cases hm:z[j].vec∈D7 z it j
    ·exact .inl (h2 ▸ (Q5 (by omega)).1 hm)
    ·right
     rw [if_pos ⟨h3,hm⟩,h2]
     simp
theorem A75 {s:Ad} {it:List Ad} : Hu [s] it=true↔∃ o:Nat,o < 256/\(s.lo<=o/\(o:Int)<=s.hi)/\Ae it o=true:=by
 rw [B70]
 constructor
 ·rintro ⟨o,h1,h2,h3⟩;exact ⟨o,h1,J7.1 h2,h3⟩
 ·rintro ⟨o,h1,h2,h3⟩;exact ⟨o,h1,J7.2 h2,h3⟩
theorem A05 {v:Br} {it:List Ad} {a:Nat} : ∀ {b:Nat},a<=b->(∀ o,a<=o->o < b->My v it o=false)->Cr v it b=Cr v it a
 | 0,h,_=>by
  obtain rfl:a=0:=by omega
  rfl
 | b+1,h,hb=>by
  rcases Nat.eq_or_lt_of_le h with rfl | h1
  ·rfl
  ·rw [Cr,if_neg (by rw [hb b (by omega) (by omega)];simp),List.append_nil]
   exact A05 (by omega) fun o h2 h3=>hb o h2 (by omega)
open Classical in
theorem Ak8 {v:Br} {it:List Ad} {r:List Aa} {a:Nat} : ∀ {b:Nat},a<=b->(∀ o,a<=o->o < b->My v it o=Ae it o/\Bd v.zones v.known o=r)->Cr v it b=Cr v it a++if (∃ o:Nat,(a<=o/\o < b)/\Ae it o=true)/\r∉Cr v it a then [r] else []
 | 0,h,_=>by
  obtain rfl:a=0:=by omega
  rw [if_neg (by rintro ⟨⟨o,h1,_⟩,_⟩;omega),List.append_nil]
 | b+1,h,hb=>by
  rcases Nat.eq_or_lt_of_le h with rfl | h1
  ·rw [if_neg (by rintro ⟨⟨o,h1,_⟩,_⟩;omega),List.append_nil]
  ·have ih:=Ak8 (v:=v) (it:=it) (r:=r) (a:=a) (b:=b) (by omega) fun o h2 h3=>hb o h2 (by omega)
   obtain ⟨e1,e2⟩:=hb b (by omega) (by omega)
   rw [Cr,e1,e2]
   by_cases hA:r∈Cr v it a
   ·have hs:Cr v it b=Cr v it a:=by rw [ih,if_neg (fun h=>h.2 hA),List.append_nil]
    rw [hs,if_neg (fun h=>h.2 hA),if_neg (fun h=>h.2 hA)]
   ·rw [ih]
    by_cases hE:∃ o:Nat,(a<=o/\o < b)/\Ae it o=true
    ·rw [if_pos ⟨hE,hA⟩,if_neg (by simp),List.append_nil,if_pos]
     obtain ⟨o,h2,h3⟩:=hE
     exact ⟨⟨o,by omega,h3⟩,hA⟩
    ·rw [if_neg (fun h=>hE h.1),List.append_nil]
     by_cases hm:Ae it b=true
     ·rw [if_pos ⟨hm,hA⟩,if_pos ⟨⟨b,by omega,hm⟩,hA⟩]
     ·rw [if_neg (fun h=>hm h.1),if_neg]
      rintro ⟨⟨o,h2,h3⟩,_⟩
      rcases Nat.eq_or_lt_of_le (show o<=b by omega) with rfl | h4
      ·exact hm h3
      ·exact hE ⟨o,by omega,h3⟩
theorem Np {v:Br} (hv:VF v) {o:Nat} (ho:o < 256):Ae (Dr v.zones) o=true↔∃ j,∃ h:j < v.zones.length,v.zones[j].span.lo<=o/\(o:Int)<=v.zones[j].span.hi:=by
 unfold Dr
 rw [if_pos hv.zones,show Ba (v.zones.map (·.span))=C8 fun o=>Ae (v.zones.map (·.span)) o from rfl,C3 _ ho,Kf]
 constructor
 ·rintro ⟨s,hs,h1,h2⟩
  obtain ⟨x,hx,rfl⟩:=List.mem_map.1 hs
  obtain ⟨j,hj,rfl⟩:=List.mem_iff_getElem.1 hx
  exact ⟨j,hj,h1,h2⟩
 ·rintro ⟨j,hj,h1,h2⟩
  exact ⟨_,List.mem_map_of_mem (List.getElem_mem hj),h1,h2⟩
theorem B86 {v:Br} (hv:VF v) (it:List Ad):Cr v it 256=D7 v.zones it v.zones.length:=by
 have key:∀ i,i<=v.zones.length->∀ m:Nat,(m:Int)=Bb (v.zones.take i).getLast? + 1->Cr v it m=D7 v.zones it i:=by
  intro i
  induction i with
  | zero =>
   intro _ m hm
   simp only [List.take_zero,List.getLast?_nil,Bb] at hm
   obtain rfl:m=0:=by omega
   rfl
  | succ i ih =>
   intro hi m hm
   have hlt:=B03 hv.zones (i:=i) (by omega)
   have hle:=Uv hv.zones (i:=i) (by omega)
   have hge:=Kr (l:=v.zones) (m:=i) (by
    have h1:=hv.zones
    unfold Ay at h1
    rw [<-List.take_append_drop i v.zones,Ew,Bool.and_eq_true] at h1
    exact h1.1)
   have hok:=Eu hv.zones v.zones[i] (List.getElem_mem (by omega))
   simp only [Ch,Bool.and_eq_true,decide_eq_true_eq] at hok
   rw [Vz (l:=v.zones) (m:=i+1) (by omega) (by omega)] at hm
   simp only [Nat.add_sub_cancel] at hm
   obtain ⟨a,ha⟩ : ∃ a:Nat,(a:Int)=Bb (v.zones.take i).getLast? + 1:=⟨(Bb (v.zones.take i).getLast? + 1).toNat,by omega⟩
   obtain ⟨b,hb⟩ : ∃ b:Nat,(b:Int)=v.zones[i].span.lo:=⟨v.zones[i].span.lo.toNat,by omega⟩
   have hgap:Cr v it b=Cr v it a:=A05 (by omega) fun o h1 h2=>by
    unfold My
    cases hm2:Ae (Dr v.zones) o with
    | false=>rw [Bool.and_false]
    | true =>
     obtain ⟨j,hj,h3,h4⟩:=(Np hv (by omega)).1 hm2
     exfalso
     rcases Nat.lt_or_ge j i with h5 | h5
     ·have:=Ag4 hv.zones h5 (by omega)
      omega
     ·rcases Nat.eq_or_lt_of_le h5 with rfl | h6
      ·omega
      ·have:=Yz hv.zones h6 hj
       omega
   have hrun:=Ak8 (v:=v) (it:=it) (r:=v.zones[i].vec) (a:=b) (b:=m) (by omega) fun o h1 h2=>by
    refine ⟨?_,Rw hv.zones v.known (by omega) (by omega)⟩
    unfold My
    rw [(Np hv (by omega)).2 ⟨i,by omega,by omega,by omega⟩,Bool.and_true]
   rw [hrun,hgap,ih (by omega) a ha,Rc (by omega)]
   congr 1
   have e:(∃ o:Nat,(b<=o/\o < m)/\Ae it o=true)↔Hu [v.zones[i].span] it=true:=by
    rw [A75]
    constructor
    ·rintro ⟨o,h1,h2⟩;exact ⟨o,by omega,by omega,h2⟩
    ·rintro ⟨o,h0,h1,h2⟩;exact ⟨o,by omega,h2⟩
   by_cases h1:Hu [v.zones[i].span] it=true/\v.zones[i].vec∉D7 v.zones it i
   ·exact (if_pos ⟨e.2 h1.1,h1.2⟩).trans (if_pos h1).symm
   ·exact (if_neg fun h=>h1 ⟨e.1 h.1,h.2⟩).trans (if_neg h1).symm
 have hge:=Kr (l:=v.zones) (m:=v.zones.length) (by rw [List.take_length];exact hv.zones)
 obtain ⟨a,ha⟩ : ∃ a:Nat,(a:Int)=Bb (v.zones.take v.zones.length).getLast? + 1:=⟨(Bb (v.zones.take v.zones.length).getLast? + 1).toNat,by omega⟩
 rw [<-key _ (Nat.le_refl _) a ha]
 refine A05 (by omega) fun o h1 h2=>?_
 unfold My
 cases hm2:Ae (Dr v.zones) o with
 | false=>rw [Bool.and_false]
 | true =>
  obtain ⟨j,hj,h3,h4⟩:=(Np hv (by omega)).1 hm2
  have:=Ag4 hv.zones (show j < v.zones.length from hj) (Nat.le_refl _)
  omega
def Rp (z:List Ao) (it:List Ad) (i:Nat) (r:List Aa) (k:Nat) (o:Nat):Bool:=Ae it o&&((z.drop i).take k).any fun x=>decide (x.vec=r)&&x.has o
theorem B79 (z:List Ao) (it:List Ad) (i:Nat) (r:List Aa):C8 (Rp z it i r 0)=[]:=by
 refine L7 (Be _) (show B7 _ []=true from rfl) fun o=>⟨fun h=>?_,fun h=>by simp [Ae] at h⟩
 obtain ⟨k,_,_,h2⟩:=Hg h
 simp [Rp] at h2
theorem B80 {z:List Ao} {it:List Ad} {i k:Nat} (h:i+k < z.length) (r:List Aa) (o:Nat):Rp z it i r (k+1) o=(Rp z it i r k o || (decide (z[i+k].vec=r)&&(Ae [z[i+k].span] o&&Ae it o))):=by
 unfold Rp
 rw [List.take_succ_eq_append_getElem (by simp;omega),List.any_append,List.getElem_drop]
 simp only [List.any_cons,List.any_nil,Bool.or_false]
 rw [show Ae [z[i+k].span] (o:Int)=z[i+k].has o from by simp [Ae,Ao.has]]
 cases Ae it o<;>simp
theorem Bg8 {z:List Ao} {it:List Ad} {i k:Nat} (h:i+k < z.length):Ba (C8 (Rp z it i z[i].vec k)++Ci [z[i+k].span] it)=C8 (fun o=>Rp z it i z[i].vec k o || (Ae [z[i+k].span] o&&Ae it o)):=by
 refine E4 fun o ho=>?_
 rw [Cn,C3 _ ho]
 unfold Ci
 rw [C3 _ ho]
theorem Bg9 {v:Br} (hv:VF v) {it:List Ad} {i:Nat} (hi:i < v.zones.length) (hn:v.zones[i].vec∉D7 v.zones it i):C8 (Rp v.zones it i v.zones[i].vec (v.zones.length - i))=C8 (K6 v it v.zones[i].vec):=by
 refine E4 fun o ho=>?_
 unfold Rp K6 My
 rw [List.take_of_length_le (by simp)]
 cases hm:Ae it o with
 | false=>simp
 | true =>
  rw [Bool.true_and,Bool.true_and,Bool.eq_iff_iff,List.any_eq_true,Bool.and_eq_true,decide_eq_true_eq,Np hv ho]
  constructor
  ·rintro ⟨x,hx,h1⟩
   obtain ⟨j,hj,rfl⟩:=List.mem_drop_iff_getElem.1 hx
   simp only [Ao.has,Bool.and_eq_true,decide_eq_true_eq] at h1
   exact ⟨⟨i+j,by omega,h1.2⟩,by rw [Rw hv.zones v.known (i:=i+j) (by omega) h1.2,h1.1]⟩
  ·rintro ⟨⟨j,hj,h1⟩,h2⟩
   rw [Rw hv.zones v.known hj h1] at h2
   rcases Nat.lt_or_ge j i with h3 | h3
   ·exact (hn ((Q5 (by omega)).2 ⟨j,hj,h3,h2,A75.2 ⟨o,ho,h1,hm⟩⟩)).elim
   ·refine ⟨v.zones[j],List.mem_drop_iff_getElem.2 ⟨j - i,by omega,by congr 1;omega⟩,?_⟩
    simp only [Ao.has,Bool.and_eq_true,decide_eq_true_eq]
    exact ⟨h2,h1⟩
end Go.Proofs.YthlgnjlpakimaaaGreatDoor
namespace Go.Proofs.YthlgnjlpakimaaaGreatDoor
open Go.ChangeShapes Go.WideShapes Go.ChangeAt Go.RowKit
attribute [local irreducible] AW AWY Cf Bf vop Bw Bh Bx qop Cg Cz Az Aw C5 A7 Bl
attribute [local go_sem] Gd Gn Fl Ce Lm Lk Ap Ar
@[go_sem] theorem Ct2 {b:Nat} {k:IntKind} {kv:List (Int×Value)} {x:BA} {r:List BA} : J8 x (.mp b k kv :: r)=.mp b k kv :: J8 x r:=rfl
@[go_sem] theorem Bu4 {b c:Nat} {cs:List AV} : Fj (.box b cs) (.mv c)=if c=b then .any else .mv c:=rfl
theorem Aa1 (v:Br) (r:List Aa) (f:Nat->Bool):(⟨[],r,Fp [⟨0,255⟩] (C8 f),Fe v.held (C8 f)⟩ : Aq)=Vp v r f:=by
 unfold Vp Fp
 rw [show C8 (fun o=>Ae [⟨0,255⟩] o&&!Ae (C8 f) o)=C8 fun o=>!f o from E4 fun o ho=>by
  rw [C3 _ ho,show Ae [⟨0,255⟩] (o:Int)=true from J7.2 ⟨by simp only;omega,by simp only;omega⟩,Bool.true_and]]
theorem A82 (v:Br) (it:List Ad):Fp it (Dr v.zones)=C8 (Jh v it):=rfl
theorem Bf8 {q:List Aq×Int} {e:Int} (h:q=([],e)):D1 (.tup [.val (.slice none 0 0),.val (.int .i64 e)]) (.tup [.iv (noI q.1),.val (.int .i64 q.2)]):=by
 subst h
 refine Je rfl fun p hp=>?_
 simp only [List.zip_cons_cons,List.zip_nil_right,List.mem_cons,List.not_mem_nil,or_false] at hp
 rcases hp with rfl | rfl
 ·exact Cs 4
 ·exact D1.rfl_ _
theorem Uw (z:List Ao) (it:List Ad):∀ i,(D7 z it i).length<=i
 | 0=>Nat.le_refl _
 | i+1=>by
  have:=Uw z it i
  rw [D7,List.length_append]
  split
  ·split<;>simp<;>omega
  ·simp;omega
def R9 (v:Br) (it:List Ad) (i:Nat):List Aq:=Vp v v.known (Jh v it) :: (D7 v.zones it i).map fun r=>Vp v r (K6 v it r)
def Bu8 (z:List Ao) (i:Nat) (p:Ao->Nat->Bool) (kv:List (Int×Value)):Prop:=∀ (j:Nat) (x:Ao),i<=j->z[j]? = some x->(Mu kv (j:Int)).getD (.bool false)=.bool (p x j)
set_option maxRecDepth 100000 in
set_option maxHeartbeats 3200000 in
theorem B62 (v:Br) (it:List Ad) (iR:I64 v.room):A7 Tryz.prog A9 73 [vwA v,.iv (spI it)] (.tup [.iv (noI (A50 v it).1),.val (.int .i64 (A50 v it).2)]) []:=by
 refine A7.ofS (n:=84) (rs:=[.tmp 4,.tmp 5]) Tryz.func73 rfl (by kernel_rfl) Tryz.ntmps73 (by kernel_rfl) (by simp) (fun _ _=>A9.later) ?_
 intro hok V w0
 obtain ⟨R,hR⟩ : ∃ R,A50 v it=R:=⟨_,rfl⟩
 rw [hR]
 unfold A50 at hR
 refine g ?_
 refine AW.seq ?_
 refine AW.reg rfl fun KK hKK=>?_
 refine g ?_
 repeat' (refine hKK _ (g ?_);clear hKK KK)
 refine AW.freeze 300 _ rfl ⟨trivial,trivial,trivial,trivial,iR,trivial⟩ ?_
 simp only [go_sem,reduceIte,Nat.reduceEqDiff]
 refine g ?_
 repeat' (first | refine st_ rfl (g ?_) | refine C9 (fun h=>g ?_) (fun h=>g ?_) | refine Ab (Q9 v iR) rfl (g ?_))
 ·rw [if_neg (by simpa using h)] at hR
  exact Bf8 hR.symm
 have hF:Al v=true:=by simpa using h
 rw [if_pos hF] at hR
 have hv:=Pa.1 hF
 have hhf:Bk v.held=true:=Fd.2 hv.held
 have hzl:=At8 hF
 have hp0:=Zd v v.known (Fp it (Dr v.zones)) iR hhf
 rw [A82,Aa1] at hp0
 have hl0:=Ad8 it (Dr v.zones)
 rw [A82] at hl0
 refine AW.drawn (ds:=[16,17,18,19,20,21,22,23,24,25,6]) (fin:=[0]) (bs:=[0,0,0,0,0,0,0,0,0,0,1]) [⟨[],[],[],[],0⟩,⟨[],[],[],[],0⟩,⟨[(17,1)],[],[],[],0⟩,⟨[],[],[],[],0⟩,⟨[],[],[],[],0⟩,⟨[(20,4)],[],[],[],0⟩,⟨[(21,5)],[],[],[],0⟩,⟨[(19,3),(22,6)],[],[],[],0⟩,⟨[(16,0),(18,2),(23,7)],[],[],[],0⟩,⟨[(24,8)],[],[],[],1⟩,⟨[(25,9)],[],[],[],0⟩] (by kernel_rfl) rfl (by kernel_rfl) rfl rfl rfl fun KD hKD=>?_
 refine g ?_
 repeat' (first | refine Ab (Za _) rfl (g ?_) | refine Ab (hl0) rfl (g ?_) | refine Ab (hp0) rfl (g ?_))
 refine bs1 (by omega) rfl rfl rfl ⟨trivial,trivial,trivial,trivial,trivial⟩ ?_
 refine g ?_
 repeat' (first | refine st_ rfl (g ?_) | (refine hKD _ _ ⟨rfl,g ?_⟩;clear hKD KD))
 have hzI:∀ z∈v.zones,I64 z.span.lo/\I64 z.span.hi:=fun z hz=>by
  obtain ⟨-,o1,o2,-⟩:=En (by simpa [znI] using hok.1.2.1.2) (enZ z) (List.mem_map_of_mem hz)
  exact ⟨o1,o2⟩
 refine AW.loop (fun x:{x:Nat×List (Int×Value) // x.1<=v.zones.length/\Bu8 v.zones x.1 (fun z _=>decide (z.vec∈D7 v.zones it x.1)) x.2}=>⟨[(1,.iv (spI it)),(2,.ip [stI v.known,znI v.zones,wrI v.held,boI v.bodies,.val (.int .i64 v.room)]),(6,.own 2600),(7,.mv 2700),(28,.iv (znI v.zones)),(29,.val (.int .i64 (v.zones.length:Nat))),(30,.val (.int .i64 (x.1.1:Nat)))],[.mp 2700 .i64 x.1.2,.row 2600 37 4 ((R9 v it x.1.1).map enN)]⟩) (fun x=>v.zones.length - x.1.1) ⟨(0,[]),Nat.zero_le _,fun j x _ _=>rfl⟩ id ⟨⟨rfl,rfl,rfl,rfl,rfl,rfl,rfl,trivial⟩,⟨rfl,rfl,trivial⟩,by simp [Au,BA.id]⟩ fun ⟨⟨i,kv⟩,hi,hk⟩=>?_
 simp only at hi hk ⊢
 repeat (refine AW.seq ?_)
 refine AW.reg rfl fun KK hKK=>?_
 refine g ?_
 repeat' (refine hKK _ (g ?_);clear hKK KK)
 repeat (refine AW.seq ?_)
 refine st_ rfl ?_
 refine g ?_
 refine Bq (fun h=>?_) (fun h=>?_)
 ·have hlt:i < v.zones.length:=by omega
  obtain ⟨x,hx⟩ : ∃ x,v.zones[i]=x:=⟨_,rfl⟩
  have hgx:v.zones[i]? = some x:=by rw [List.getElem?_eq_getElem hlt,hx]
  obtain ⟨w1,w2⟩:=hzI _ (List.getElem_mem hlt)
  have hz:=Rc (it:=it) hlt
  have hzl2:=Uw v.zones it i
  have hall:=Bg9 hv (it:=it) hlt
  rw [hx] at w1 w2 hz hall
  have hki:=hk i x (Nat.le_refl _) hgx
  have htc:=Aj0 [x.span] it
  refine st_ rfl (g ?_)
  refine AW.seq ?_
  refine AW.block ?_
  repeat (refine AW.seq ?_)
  refine AW.reg rfl fun KK hKK=>?_
  refine g ?_
  refine ⟨by omega,_,Cb (f:=enZ) hgx,?_⟩
  refine g ?_
  repeat' (first | refine Am (g ?_) | (refine hKK _ (g ?_);clear hKK KK))
  refine AW.freeze 1000 _ rfl ⟨w1,w2,trivial,trivial⟩ ?_
  simp only [go_sem,reduceIte,Nat.reduceEqDiff]
  refine g ?_
  repeat' refine st_ rfl (g ?_)
  refine ⟨_,hki,?_⟩
  refine g ?_
  repeat' (first | refine st_ rfl (g ?_) | refine Am (g ?_) | (refine Ef rfl rfl (fun h e=>?_) (fun h e=>?_)<;>simp only [e]<;>clear e<;>refine g ?_))
  ·have hz0:D7 v.zones it (i+1)=D7 v.zones it i:=by rw [hz,if_neg (fun q=>q.2 h),List.append_nil]
   refine ⟨⟨(i+1,kv),hlt,fun j y hj hy=>by rw [hz0];exact hk j y (by omega) hy⟩,id,⟨⟨rfl,rfl,rfl,rfl,rfl,rfl,rfl,trivial⟩,⟨rfl,?_,trivial⟩,by simp [Au,BA.id]⟩,by show v.zones.length - (i+1) < v.zones.length - i;omega⟩
   show some (BA.row _ _ _ _)=some (BA.row _ _ _ ((R9 v it (i+1)).map enN))
   unfold R9
   rw [hz0]
   rfl
  refine bd1 (by omega) rfl rfl rfl ⟨w1,w2,trivial⟩ ?_
  refine g ?_
  repeat' (first | refine st_ rfl (g ?_) | refine C9 (fun h=>g ?_) (fun h=>g ?_) | refine Ab (htc) rfl (g ?_))
  ·have hz0:D7 v.zones it (i+1)=D7 v.zones it i:=by rw [hz,if_neg (fun q=>by rw [q.1] at h;cases h),List.append_nil]
   refine ⟨⟨(i+1,kv),hlt,fun j y hj hy=>by rw [hz0];exact hk j y (by omega) hy⟩,id,⟨⟨rfl,rfl,rfl,rfl,rfl,rfl,rfl,trivial⟩,⟨rfl,?_,trivial⟩,by simp [Au,BA.id]⟩,by show v.zones.length - (i+1) < v.zones.length - i;omega⟩
   show some (BA.row _ _ _ _)=some (BA.row _ _ _ ((R9 v it (i+1)).map enN))
   unfold R9
   rw [hz0]
   rfl
  rename_i ht
  have htt:Hu [x.span] it=true:=by simpa using h
  rw [if_pos ⟨htt,ht⟩] at hz
  have hp1:=Zd v x.vec (C8 (K6 v it x.vec)) iR hhf
  rw [Aa1] at hp1
  refine ⟨i,v.zones.length,rfl,rfl,by omega,Nat.le_refl _,?_⟩
  rw [show ((v.zones.map enZ).take v.zones.length).drop i=(v.zones.drop i).map enZ by rw [List.take_of_length_le (by simp),List.map_drop]]
  have hdl:(v.zones.drop i).length=v.zones.length - i:=List.length_drop
  refine g ?_
  repeat' (first | refine st_ rfl (g ?_) | refine Am (g ?_))
  refine AW.sub 10 _ (.iv (spI [])) rfl (Cs 2) ?_
  refine AW.loop (fun y:{y:Nat×List (Int×Value) // y.1<=v.zones.length - i/\Bu8 v.zones i (fun z j=>decide (z.vec∈D7 v.zones it i) || (decide (j < i+y.1)&&decide (z.vec=x.vec))) y.2}=>⟨[(1,.iv (spI it)),(2,.ip [stI v.known,znI v.zones,wrI v.held,boI v.bodies,.val (.int .i64 v.room)]),(6,.own 2600),(7,.mv 2700),(8,.val (.int .i64 (i:Nat))),(9,.ip [.val (.int .i64 x.span.lo),.val (.int .i64 x.span.hi),stI x.vec]),(10,.iv (spI (C8 (Rp v.zones it i x.vec y.1.1)))),(28,.iv (znI v.zones)),(29,.val (.int .i64 (v.zones.length:Nat))),(30,.val (.int .i64 (i:Nat))),(49,.iv (znI (v.zones.drop i))),(50,.val (.int .i64 ((v.zones.drop i).length:Nat))),(51,.val (.int .i64 (y.1.1:Nat)))],[.mp 2700 .i64 y.1.2,.row 2600 37 4 ((R9 v it i).map enN)]⟩) (fun y=>v.zones.length - i - y.1.1) ⟨(0,kv),Nat.zero_le _,fun j y hj hy=>by rw [hk j y hj hy];simp;omega⟩ id ⟨⟨rfl,rfl,rfl,rfl,rfl,rfl,?_,rfl,rfl,rfl,rfl,rfl,rfl,trivial⟩,⟨rfl,rfl,trivial⟩,by simp [Au,BA.id]⟩ fun ⟨⟨k,kv'⟩,hkl,hk'⟩=>?_
  ·show AV.iv (spI [])=AV.iv (spI (C8 (Rp v.zones it i x.vec 0)))
   rw [B79]
  simp only at hkl hk' ⊢
  repeat (refine AW.seq ?_)
  refine AW.reg rfl fun KK hKK=>?_
  refine g ?_
  repeat' (refine hKK _ (g ?_);clear hKK KK)
  repeat (refine AW.seq ?_)
  refine st_ rfl ?_
  refine g ?_
  refine Bq (fun h=>?_) (fun h=>?_)
  ·have hlk:i+k < v.zones.length:=by omega
   obtain ⟨y,hy⟩ : ∃ y,v.zones[i+k]=y:=⟨_,rfl⟩
   have hgy:v.zones[i+k]? = some y:=by rw [List.getElem?_eq_getElem hlk,hy]
   have hgd:(v.zones.drop i)[k]? = some y:=by rw [List.getElem?_drop];exact hgy
   obtain ⟨u1,u2⟩:=hzI _ (List.getElem_mem hlk)
   have hfs:=B80 (it:=it) hlk x.vec
   have hfp:=Bg8 (it:=it) hlk
   rw [hx] at hfp
   rw [hy] at u1 u2 hfs hfp
   have hSl:=Ea (Rp v.zones it i x.vec k)
   have hMl:(Ci [y.span] it).length<=128:=Ea _
   have hmc:=Vb [y.span] it
   have heq:=T5 y.vec x.vec
   obtain ⟨T,hT⟩ : ∃ T,C8 (Rp v.zones it i x.vec k)=T:=⟨_,rfl⟩
   obtain ⟨M,hM⟩ : ∃ M,Ci [y.span] it=M:=⟨_,rfl⟩
   rw [hT] at hSl hfp ⊢
   rw [hM] at hMl hfp hmc
   refine st_ rfl (g ?_)
   refine AW.seq ?_
   refine AW.block ?_
   repeat (refine AW.seq ?_)
   refine AW.reg rfl fun KK hKK=>?_
   refine g ?_
   refine ⟨by omega,_,Cb (f:=enZ) hgd,?_⟩
   refine g ?_
   repeat' (first | refine Am (g ?_) | (refine hKK _ (g ?_);clear hKK KK))
   refine AW.freeze 1300 _ rfl ⟨u1,u2,trivial,trivial⟩ ?_
   simp only [go_sem,reduceIte,Nat.reduceEqDiff]
   refine g ?_
   repeat' (first | refine st_ rfl (g ?_) | refine Bq (fun h=>g ?_) (fun h=>g ?_) | refine Ab (heq) rfl (g ?_))
   ·refine bd1 (by omega) rfl rfl rfl ⟨u1,u2,trivial⟩ ?_
    refine g ?_
    repeat' refine Ab (hmc) rfl (g ?_)
    refine bd2 (by omega) rfl rfl rfl ⟨trivial,trivial⟩ rfl rfl rfl ⟨trivial,trivial⟩ ?_
    refine g ?_
    repeat' (first | refine st_ rfl (g ?_) | refine Ab (Bg6 [T,M] (by simp [Ec];omega)) rfl (g ?_))
    refine ⟨⟨(k+1,Ni kv' ((i:Int)+k) (.bool true)),by omega,fun j z hj hz=>?_⟩,id,⟨⟨rfl,rfl,rfl,rfl,rfl,rfl,?_,rfl,rfl,rfl,rfl,rfl,rfl,trivial⟩,⟨rfl,rfl,trivial⟩,by simp [Au,BA.id]⟩,by show v.zones.length - i - (k+1) < v.zones.length - i - k;omega⟩
    ·rw [Xi]
     by_cases e:j=i+k
     ·subst e
      rw [hgy] at hz
      cases hz
      rw [if_pos (by omega)]
      simp [h]
     ·rw [if_neg (by omega),hk' j z hj hz]
      simp only
      rw [show decide (j < i+(k+1))=decide (j < i+k) from decide_eq_decide.2 (by omega)]
    ·show AV.iv (spI _)=AV.iv (spI (C8 (Rp v.zones it i x.vec (k+1))))
     rw [E4 (g:=fun o=>Rp v.zones it i x.vec k o || (Ae [y.span] o&&Ae it o)) fun o _=>by rw [hfs,decide_eq_true h,Bool.true_and],<-hfp]
     simp
   ·refine ⟨⟨(k+1,kv'),by omega,fun j z hj hz=>?_⟩,id,⟨⟨rfl,rfl,rfl,rfl,rfl,rfl,?_,rfl,rfl,rfl,rfl,rfl,rfl,trivial⟩,⟨rfl,rfl,trivial⟩,by simp [Au,BA.id]⟩,by show v.zones.length - i - (k+1) < v.zones.length - i - k;omega⟩
    ·rw [hk' j z hj hz]
     by_cases e:j=i+k
     ·subst e
      rw [hgy] at hz
      cases hz
      simp [h]
     ·simp only
      rw [show decide (j < i+(k+1))=decide (j < i+k) from decide_eq_decide.2 (by omega)]
    ·show AV.iv (spI T)=AV.iv (spI (C8 (Rp v.zones it i x.vec (k+1))))
     rw [E4 (g:=Rp v.zones it i x.vec k) fun o _=>by rw [hfs,decide_eq_false h,Bool.false_and,Bool.or_false],hT]
  ·obtain rfl:k=v.zones.length - i:=by omega
   rw [hall ht]
   have hsl:(R9 v it i).length<=257:=by
    unfold R9
    rw [List.length_cons,List.length_map]
    omega
   refine AW.exit ?_
   simp only [reduceIte]
   refine g ?_
   repeat' (first | refine st_ rfl (g ?_) | refine Ab (hp1) rfl (g ?_))
   refine bs1 (by omega) rfl rfl rfl ⟨trivial,trivial,trivial,trivial,trivial⟩ ?_
   refine g ?_
   refine C4 rfl (by kernel_rfl) (by omega) (by kernel_rfl) rfl (by simp;omega) ?_
   refine g ?_
   repeat' refine st_ rfl (g ?_)
   refine ⟨⟨(i+1,kv'),hlt,fun j z hj hz9=>?_⟩,fun b=>if b=2600 then 8200 else b,⟨⟨rfl,rfl,rfl,rfl,rfl,rfl,rfl,trivial⟩,⟨rfl,?_,trivial⟩,by simp [Au,BA.id]⟩,by show v.zones.length - (i+1) < v.zones.length - i;omega⟩
   ·have hjl:j < v.zones.length:=(List.getElem?_eq_some_iff.1 hz9).1
    simp only at hj
    rw [hk' j z (by omega) hz9,hz]
    simp only
    rw [decide_eq_true (p:=j < i+(v.zones.length - i)) (by omega),Bool.true_and]
    simp
   ·show some (BA.row _ _ _ _)=some (BA.row _ _ _ ((R9 v it (i+1)).map enN))
    unfold R9
    rw [hz,List.map_append,<-List.cons_append,List.map_append]
    rfl
 ·obtain rfl:i=v.zones.length:=by omega
  have hs:R9 v it v.zones.length=Bf9 v it:=by
   unfold R9 Bf9
   rw [B86 hv]
  rw [hs]
  refine AW.exit ?_
  simp only [reduceIte]
  refine AW.freeze 2600 _ rfl trivial ?_
  simp only [go_sem,reduceIte,Nat.reduceEqDiff]
  refine g ?_
  repeat' refine st_ rfl (g ?_)
  subst hR
  exact D1.rfl_ _
end Go.Proofs.YthlgnjlpakimaaaGreatDoor
namespace Go.Proofs.YthlgnjlpakimaaaGreatDoor
open Go.ChangeShapes Go.WideShapes Go.ChangeAt Go.RowKit
attribute [local irreducible] AW AWY Cf Bf vop Bw Bh Bx qop Cg Cz Az Aw C5 A7 Bl Cj
attribute [local go_sem] Fl Ce Lm Lk Kt M6 Ku Qe
def N6 (v:Br) (it:List Ad) (o:Nat):List Aq:=(Cr v it o).map fun r=>Vp v r (K6 v it r)
def Jz (v:Br) (it:List Ad) (o p:Nat):Bool:=My v it p&&decide (Bd v.zones v.known p∈Cr v it o)
def upB (v:Br) (it:List Ad) (r:List Aa) (o p q:Nat):Bool:=decide (o<=q/\q < p)&&K6 v it r q
theorem Ai5 (v:Br) (it:List Ad) (r:List Aa) (o q:Nat):upB v it r o o q=false:=by
 unfold upB
 rw [decide_eq_false (by omega),Bool.false_and]
theorem Bf3 (v:Br) (it:List Ad) (r:List Aa) {o p:Nat} (h:o<=p):∀ q,upB v it r o (p+1) q=if q=p then K6 v it r p else upB v it r o p q:=fun q=>by
 unfold upB
 by_cases e:q=p
 ·subst e
  rw [if_pos rfl,decide_eq_true (by omega),Bool.true_and]
 ·rw [if_neg e,show decide (o<=q/\q < p+1)=decide (o<=q/\q < p) from decide_eq_decide.2 (by omega)]
theorem A96 {v:Br} (hv:VF v) {o:Nat} (ho:o < 256):Lj v.zones v.known o=Bd v.zones v.known o:=by
 unfold Lj
 rw [if_pos ⟨hv.zones,hv.known,by omega,by omega⟩]
set_option maxRecDepth 100000 in
set_option maxHeartbeats 3200000 in
theorem Av7 (v:Br) (it:List Ad) (iR:I64 v.room):A7 Tryz.prog A9 74 [vwA v,.iv (spI it)] (.tup [.iv (noI (A50 v it).1),.val (.int .i64 (A50 v it).2)]) []:=by
 refine A7.ofS (n:=109) (rs:=[.tmp 4,.tmp 5]) Tryz.func74 rfl (by kernel_rfl) Tryz.ntmps74 (by kernel_rfl) (by simp) (fun _ _=>A9.later) ?_
 intro hok V w0
 obtain ⟨R,hR⟩ : ∃ R,A50 v it=R:=⟨_,rfl⟩
 rw [hR]
 unfold A50 at hR
 refine g ?_
 refine AW.seq ?_
 refine AW.reg rfl fun KK hKK=>?_
 refine g ?_
 repeat' (refine hKK _ (g ?_);clear hKK KK)
 refine AW.freeze 300 _ rfl ⟨trivial,trivial,trivial,trivial,iR,trivial⟩ ?_
 simp only [go_sem,reduceIte,Nat.reduceEqDiff]
 refine g ?_
 repeat' (first | refine st_ rfl (g ?_) | refine C9 (fun h=>g ?_) (fun h=>g ?_) | refine Ab (A03 v iR) rfl (g ?_))
 ·rw [if_neg (by simpa using h)] at hR
  exact Bf8 hR.symm
 have hF:Al v=true:=by simpa using h
 rw [if_pos hF] at hR
 have hv:=Pa.1 hF
 have hhf:Bk v.held=true:=Fd.2 hv.held
 obtain ⟨bl,hbl⟩ : ∃ bl,Dr v.zones=bl:=⟨_,rfl⟩
 have hzb:=Ak2 v.zones
 rw [hbl] at hzb
 refine AW.drawn (ds:=[18,19,20,21,22,23,6,7]) (fin:=[2,3]) (bs:=[0,0,0,0,0,0,0,1,2,3]) [⟨[],[],[],[],0⟩,⟨[(18,0)],[],[],[],0⟩,⟨[],[],[],[],0⟩,⟨[(20,2)],[],[],[],0⟩,⟨[(21,3)],[],[],[],0⟩,⟨[(22,4)],[],[],[],0⟩,⟨[],[],[],[],1⟩,⟨[],[],[],[],1⟩,⟨[(6,6),(19,1)],[],[],[0],1⟩,⟨[(7,7),(23,5)],[],[],[1],1⟩] (by kernel_rfl) rfl (by kernel_rfl) rfl rfl rfl fun KD hKD=>?_
 refine g ?_
 refine Ab (Hf it) rfl (g ?_)
 refine g ?_
 repeat' refine Ab (hzb) rfl (g ?_)
 refine Ab (Hf bl) rfl (g ?_)
 refine g ?_
 refine Gw (q:=2) (s:=256) (by kernel_rfl) (Bj _) rfl (by simp [rep]) ?_
 refine g ?_
 refine Gw (q:=2) (s:=256) (by kernel_rfl) (Bj _) rfl (by simp [rep]) ?_
 refine g ?_
 repeat' (first | refine st_ rfl (g ?_) | (refine hKD _ _ ⟨rfl,g ?_⟩;clear hKD KD))
 refine AW.freeze 700 _ rfl trivial ?_
 simp only [go_sem,reduceIte,Nat.reduceEqDiff]
 refine AW.freeze 800 _ rfl trivial ?_
 simp only [go_sem,reduceIte,Nat.reduceEqDiff]
 refine AW.adopt 10 50000 37 4 rfl rfl ?_
 refine AW.loop (fun o:{o:Nat // o<=256}=>⟨[(2,.ip [stI v.known,znI v.zones,wrI v.held,boI v.bodies,.val (.int .i64 v.room)]),(6,.ip (Cj fun p=>Ae it p)),(7,.ip (Cj fun p=>Ae bl p)),(8,.bp 900 0),(9,.bp 1000 0),(10,.own 50000),(11,.val (.int .i64 (o.1:Nat)))],[.row 50000 37 4 ((N6 v it o.1).map enN),.arr 1000 (Cj (Jz v it o.1)),.arr 900 (Cj fun p=>decide (p < o.1)&&Jh v it p)]⟩) (fun o=>256 - o.1) ⟨0,Nat.zero_le _⟩ id ⟨⟨rfl,rfl,rfl,rfl,rfl,rfl,rfl,trivial⟩,⟨rfl,congrArg (fun C=>some (BA.arr 1000 C)) (Vj.trans (Bo fun o _=>by simp [Jz,Cr])),congrArg (fun C=>some (BA.arr 900 C)) (Vj.trans (Bo fun o _=>by simp)),trivial⟩,by simp [Au,BA.id]⟩ fun ⟨o,ho⟩=>?_
 simp only
 repeat (refine AW.seq ?_)
 refine AW.reg rfl fun KK hKK=>?_
 refine g ?_
 repeat' (refine hKK _ (g ?_);clear hKK KK)
 repeat (refine AW.seq ?_)
 refine st_ rfl ?_
 refine g ?_
 refine Bq (fun h=>?_) (fun h=>?_)
 ·have ho':o < 256:=by omega
  have hsp:Jh v it o=(Ae it o&&!Ae bl o):=by unfold Jh;rw [hbl]
  have hbp:My v it o=(Ae it o&&Ae bl o):=by unfold My;rw [hbl]
  have hrow:Cr v it (o+1)=Cr v it o++if My v it o=true/\Bd v.zones v.known o∉Cr v it o then [Bd v.zones v.known o] else []:=rfl
  obtain ⟨F,hFs⟩ : ∃ F:Nat->Bool,(fun p=>decide (p < o)&&Jh v it p)=F:=⟨_,rfl⟩
  have hnx:Cj (fun p=>if p=o then Jh v it o else F p)=Cj fun p=>decide (p < o+1)&&Jh v it p:=Bo fun p _=>by
   rw [<-hFs]
   by_cases e:p=o
   ·subst e;simp
   ·rw [if_neg e,show decide (p < o+1)=decide (p < o) from decide_eq_decide.2 (by omega)]
  rw [hFs]
  refine g ?_
  repeat' refine st_ rfl (g ?_)
  refine ⟨by omega,by omega,?_⟩
  rw [Nat.mul_one]
  refine g ?_
  repeat' refine Am (g ?_)
  refine F2 (Cv ho') ?_
  cases hm:Ae it o with
  | false =>
   rw [hm,Bool.false_and] at hsp hbp
   rw [hsp] at hnx
   rw [hbp,if_neg (fun q=>by cases q.1),List.append_nil] at hrow
   refine g ?_
   refine ⟨by omega,by omega,?_⟩
   rw [Nat.mul_one,Nat.zero_add]
   refine g ?_
   repeat' refine Am (g ?_)
   refine ⟨_,rfl,⟨trivial,trivial⟩,by rw [Bj];omega,?_⟩
   refine g ?_
   repeat' (first | refine st_ rfl (g ?_) | refine Am (g ?_))
   refine ⟨by omega,by omega,?_⟩
   rw [Nat.mul_one]
   refine g ?_
   repeat' refine Am (g ?_)
   refine F2 (Cv ho') ?_
   rw [hm]
   refine g ?_
   repeat' refine st_ rfl (g ?_)
   refine ⟨⟨o+1,ho'⟩,id,⟨⟨rfl,rfl,rfl,rfl,rfl,rfl,rfl,trivial⟩,⟨?_,congrArg (fun C=>some (BA.arr 1000 C)) ?_,congrArg (fun C=>some (BA.arr 900 C)) ((Er ho').trans hnx),trivial⟩,by simp [Au,BA.id]⟩,by show 256 - (o+1) < 256 - o;omega⟩
   ·show some (BA.row _ _ _ _)=some (BA.row _ _ _ ((N6 v it (o+1)).map enN))
    unfold N6
    rw [hrow]
    rfl
   ·exact Bo fun p _=>by unfold Jz;rw [hrow]
  | true =>
   rw [hm,Bool.true_and] at hsp hbp
   refine g ?_
   refine ⟨by omega,by omega,?_⟩
   rw [Nat.mul_one]
   refine g ?_
   repeat' refine Am (g ?_)
   refine F2 (Cv ho') ?_
   have hG:∀ c,Jh v it o=c->(Cj fun p=>decide (p < o+1)&&Jh v it p)[o]? = some (.val (.bool c)):=fun c hc=>by
    rw [Cv ho',hc]
    simp
   cases hb:Ae bl o with
   | false =>
    rw [hb] at hsp hbp
    have hG':=hG _ hsp
    rw [hsp] at hnx
    rw [hbp,if_neg (fun q=>by cases q.1),List.append_nil] at hrow
    refine g ?_
    refine ⟨by omega,by omega,?_⟩
    rw [Nat.mul_one,Nat.zero_add]
    refine g ?_
    repeat' refine Am (g ?_)
    refine ⟨_,rfl,⟨trivial,trivial⟩,by rw [Bj];omega,?_⟩
    refine g ?_
    repeat' (first | refine st_ rfl (g ?_) | refine Am (g ?_))
    refine ⟨by omega,by omega,?_⟩
    rw [Nat.mul_one]
    refine g ?_
    repeat' refine Am (g ?_)
    refine F2 (Cv ho') ?_
    rw [hm]
    simp only [Bool.not_false] at hnx hG'
    refine g ?_
    rw [Er ho',hnx]
    refine ⟨by omega,by omega,?_⟩
    rw [Nat.mul_one,Nat.zero_add]
    refine g ?_
    repeat' refine Am (g ?_)
    refine ⟨_,hG',?_⟩
    refine g ?_
    repeat' (first | refine st_ rfl (g ?_) | refine Am (g ?_))
    refine ⟨⟨o+1,ho'⟩,id,⟨⟨rfl,rfl,rfl,rfl,rfl,rfl,rfl,trivial⟩,⟨?_,congrArg (fun C=>some (BA.arr 1000 C)) ?_,congrArg (fun C=>some (BA.arr 900 C)) (rfl),trivial⟩,by simp [Au,BA.id]⟩,by show 256 - (o+1) < 256 - o;omega⟩
    ·show some (BA.row _ _ _ _)=some (BA.row _ _ _ ((N6 v it (o+1)).map enN))
     unfold N6
     rw [hrow]
     rfl
    ·exact Bo fun p _=>by unfold Jz;rw [hrow]
   | true =>
    rw [hb] at hsp hbp
    have hG':=hG _ hsp
    rw [hsp] at hnx
    rw [hbp] at hrow
    simp only [Bool.not_true] at hnx hG'
    refine g ?_
    refine ⟨by omega,by omega,?_⟩
    rw [Nat.mul_one,Nat.zero_add]
    refine g ?_
    repeat' refine Am (g ?_)
    refine ⟨_,rfl,⟨trivial,trivial⟩,by rw [Bj];omega,?_⟩
    refine g ?_
    repeat' (first | refine st_ rfl (g ?_) | refine Am (g ?_))
    refine ⟨by omega,by omega,?_⟩
    rw [Nat.mul_one]
    refine g ?_
    repeat' refine Am (g ?_)
    refine F2 (Cv ho') ?_
    rw [hm]
    refine g ?_
    rw [Er ho',hnx]
    refine ⟨by omega,by omega,?_⟩
    rw [Nat.mul_one,Nat.zero_add]
    refine g ?_
    repeat' refine Am (g ?_)
    refine ⟨_,hG',?_⟩
    have hdn:Jz v it o o=decide (Bd v.zones v.known o∈Cr v it o):=by unfold Jz;rw [hbp,Bool.true_and]
    refine g ?_
    repeat' refine Am (g ?_)
    refine ⟨by omega,by omega,?_⟩
    rw [Nat.mul_one,Nat.zero_add]
    refine g ?_
    repeat' refine Am (g ?_)
    refine ⟨_,Cv ho',?_⟩
    rw [hdn]
    refine g ?_
    repeat' (first | refine st_ rfl (g ?_) | refine Am (g ?_) | refine Bq (fun h=>g ?_) (fun h=>g ?_))
    ·rw [if_neg (fun q=>q.2 h),List.append_nil] at hrow
     refine ⟨⟨o+1,ho'⟩,id,⟨⟨rfl,rfl,rfl,rfl,rfl,rfl,rfl,trivial⟩,⟨?_,congrArg (fun C=>some (BA.arr 1000 C)) ?_,congrArg (fun C=>some (BA.arr 900 C)) (rfl),trivial⟩,by simp [Au,BA.id]⟩,by show 256 - (o+1) < 256 - o;omega⟩
     ·show some (BA.row _ _ _ _)=some (BA.row _ _ _ ((N6 v it (o+1)).map enN))
      unfold N6
      rw [hrow]
      rfl
     ·exact Bo fun p _=>by unfold Jz;rw [hrow]
    rw [if_pos ⟨rfl,h⟩] at hrow
    have hrc:=Ql v.zones v.known o
    rw [A96 hv ho'] at hrc
    have hrm:Bd v.zones v.known o∉Cr v it o:=h
    have hslen:(N6 v it o).length<=256:=by
     unfold N6
     rw [List.length_map]
     have:=Rm v it o
     omega
    obtain ⟨r,hr⟩ : ∃ r,Bd v.zones v.known o=r:=⟨_,rfl⟩
    rw [hr] at hrow hrc hrm
    have hpart:=Yb v r (K6 v it r) iR hhf
    obtain ⟨G,hGe⟩ : ∃ G:Nat->Bool,(fun p=>decide (p < o+1)&&Jh v it p)=G:=⟨_,rfl⟩
    rw [hGe]
    clear hG hG' hnx hFs
    refine g ?_
    repeat' (first | refine st_ rfl (g ?_) | refine Ab (hrc) rfl (g ?_))
    refine AW.loop (fun p:{p:Nat // o<=p/\p<=256}=>⟨[(2,.ip [stI v.known,znI v.zones,wrI v.held,boI v.bodies,.val (.int .i64 v.room)]),(6,.ip (Cj fun p=>Ae it p)),(7,.ip (Cj fun p=>Ae bl p)),(8,.bp 900 0),(9,.bp 1000 0),(10,.own 50000),(11,.val (.int .i64 (o:Nat))),(12,.iv (stI r)),(13,.bp 1400 0),(14,.val (.int .i64 (p.1:Nat)))],[.arr 1400 (Cj (upB v it r o p.1)),.row 50000 37 4 ((N6 v it o).map enN),.arr 1000 (Cj fun q=>Jz v it o q || upB v it r o p.1 q),.arr 900 (Cj G)]⟩) (fun p=>256 - p.1) ⟨o,Nat.le_refl _,by omega⟩ id ⟨⟨rfl,rfl,rfl,rfl,rfl,rfl,rfl,rfl,rfl,rfl,trivial⟩,⟨congrArg (fun C=>some (BA.arr 1400 C)) (Vj.trans (Bo fun q _=>(Ai5 v it r o q).symm)),rfl,congrArg (fun C=>some (BA.arr 1000 C)) (Bo fun q _=>by rw [Ai5,Bool.or_false]),rfl,trivial⟩,by simp [Au,BA.id]⟩ fun ⟨p,hp1,hp2⟩=>?_
    simp only
    repeat (refine AW.seq ?_)
    refine AW.reg rfl fun KK hKK=>?_
    refine g ?_
    repeat' (refine hKK _ (g ?_);clear hKK KK)
    repeat (refine AW.seq ?_)
    refine st_ rfl ?_
    refine g ?_
    refine Bq (fun h=>?_) (fun h=>?_)
    ·have hp:p < 256:=by omega
     have hrp:=Ql v.zones v.known p
     rw [A96 hv hp] at hrp
     have hsame:=N8 (Bd v.zones v.known p) r
     have hss:K6 v it r p=(Ae it p&&Ae bl p&&decide (Bd v.zones v.known p=r)):=by unfold K6 My;rw [hbl]
     have hu:=Bf3 v it r hp1
     obtain ⟨U,hU⟩ : ∃ U,upB v it r o p=U:=⟨_,rfl⟩
     obtain ⟨W,hW⟩ : ∃ W,upB v it r o (p+1)=W:=⟨_,rfl⟩
     have hup:U p=false:=by rw [<-hU];simp [upB]
     rw [hU,hW] at hu
     rw [hU]
     refine g ?_
     repeat' refine st_ rfl (g ?_)
     refine ⟨by omega,by omega,?_⟩
     rw [Nat.mul_one]
     refine g ?_
     repeat' refine Am (g ?_)
     refine F2 (Cv hp) ?_
     cases ha:Ae it p with
     | false =>
      rw [ha,Bool.false_and,Bool.false_and] at hss
      rw [hss] at hu
      refine g ?_
      refine ⟨by omega,by omega,?_⟩
      rw [Nat.mul_one,Nat.zero_add]
      refine g ?_
      repeat' refine Am (g ?_)
      refine ⟨_,rfl,⟨trivial,trivial⟩,by rw [Bj];omega,?_⟩
      refine g ?_
      repeat' (first | refine st_ rfl (g ?_) | refine Am (g ?_))
      have hld:(Cj fun q=>Jz v it o q || U q)[p]? = some (.val (.bool (Jz v it o p))):=by rw [Cv hp,hup,Bool.or_false]
      have hWp:(Cj W)[p]? = some (.val (.bool (false))):=by rw [Cv hp,hu,if_pos rfl]
      have hW2:Cj (fun q=>if q=p then false else U q)=Cj W:=Bo fun q _=>(hu q).symm
      rw [Er hp,hW2]
      refine ⟨by omega,by omega,?_⟩
      rw [Nat.mul_one,Nat.zero_add]
      refine g ?_
      repeat' refine Am (g ?_)
      refine ⟨_,hld,?_⟩
      cases hd:Jz v it o p with
      | true =>
       refine g ?_
       repeat' refine Am (g ?_)
       refine ⟨by omega,by omega,?_⟩
       rw [Nat.mul_one,Nat.zero_add]
       refine g ?_
       repeat' refine Am (g ?_)
       refine ⟨_,rfl,⟨trivial,trivial⟩,by rw [Bj];omega,?_⟩
       refine g ?_
       repeat' (first | refine st_ rfl (g ?_) | refine Am (g ?_))
       refine ⟨⟨p+1,by omega,hp⟩,id,⟨⟨rfl,rfl,rfl,rfl,rfl,rfl,rfl,rfl,rfl,rfl,trivial⟩,⟨congrArg (fun C=>some (BA.arr 1400 C)) (by rw [hW]),rfl,congrArg (fun C=>some (BA.arr 1000 C)) ((Er hp).trans (Bo fun q _=>?_)),rfl,trivial⟩,by simp [Au,BA.id]⟩,by show 256 - (p+1) < 256 - p;omega⟩
       rw [hW,hu]
       by_cases e:q=p
       ·rw [if_pos e,if_pos e,e,hd];simp
       ·rw [if_neg e,if_neg e]
      | false =>
       refine g ?_
       repeat' refine Am (g ?_)
       refine ⟨by omega,by omega,?_⟩
       rw [Nat.mul_one,Nat.zero_add]
       refine g ?_
       repeat' refine Am (g ?_)
       refine ⟨_,hWp,?_⟩
       refine g ?_
       repeat' refine Am (g ?_)
       refine ⟨by omega,by omega,?_⟩
       rw [Nat.mul_one,Nat.zero_add]
       refine g ?_
       repeat' refine Am (g ?_)
       refine ⟨_,rfl,⟨trivial,trivial⟩,by rw [Bj];omega,?_⟩
       refine g ?_
       repeat' (first | refine st_ rfl (g ?_) | refine Am (g ?_))
       refine ⟨⟨p+1,by omega,hp⟩,id,⟨⟨rfl,rfl,rfl,rfl,rfl,rfl,rfl,rfl,rfl,rfl,trivial⟩,⟨congrArg (fun C=>some (BA.arr 1400 C)) (by rw [hW]),rfl,congrArg (fun C=>some (BA.arr 1000 C)) ((Er hp).trans (Bo fun q _=>?_)),rfl,trivial⟩,by simp [Au,BA.id]⟩,by show 256 - (p+1) < 256 - p;omega⟩
       rw [hW,hu]
       by_cases e:q=p
       ·rw [if_pos e,if_pos e,e,hd];simp
       ·rw [if_neg e,if_neg e]
     | true =>
      rw [ha,Bool.true_and] at hss
      refine g ?_
      refine ⟨by omega,by omega,?_⟩
      rw [Nat.mul_one]
      refine g ?_
      repeat' refine Am (g ?_)
      refine F2 (Cv hp) ?_
      cases hb2:Ae bl p with
      | false =>
       rw [hb2,Bool.false_and] at hss
       rw [hss] at hu
       refine g ?_
       refine ⟨by omega,by omega,?_⟩
       rw [Nat.mul_one,Nat.zero_add]
       refine g ?_
       repeat' refine Am (g ?_)
       refine ⟨_,rfl,⟨trivial,trivial⟩,by rw [Bj];omega,?_⟩
       refine g ?_
       repeat' (first | refine st_ rfl (g ?_) | refine Am (g ?_))
       have hld:(Cj fun q=>Jz v it o q || U q)[p]? = some (.val (.bool (Jz v it o p))):=by rw [Cv hp,hup,Bool.or_false]
       have hWp:(Cj W)[p]? = some (.val (.bool (false))):=by rw [Cv hp,hu,if_pos rfl]
       have hW2:Cj (fun q=>if q=p then false else U q)=Cj W:=Bo fun q _=>(hu q).symm
       rw [Er hp,hW2]
       refine ⟨by omega,by omega,?_⟩
       rw [Nat.mul_one,Nat.zero_add]
       refine g ?_
       repeat' refine Am (g ?_)
       refine ⟨_,hld,?_⟩
       cases hd:Jz v it o p with
       | true =>
        refine g ?_
        repeat' refine Am (g ?_)
        refine ⟨by omega,by omega,?_⟩
        rw [Nat.mul_one,Nat.zero_add]
        refine g ?_
        repeat' refine Am (g ?_)
        refine ⟨_,rfl,⟨trivial,trivial⟩,by rw [Bj];omega,?_⟩
        refine g ?_
        repeat' (first | refine st_ rfl (g ?_) | refine Am (g ?_))
        refine ⟨⟨p+1,by omega,hp⟩,id,⟨⟨rfl,rfl,rfl,rfl,rfl,rfl,rfl,rfl,rfl,rfl,trivial⟩,⟨congrArg (fun C=>some (BA.arr 1400 C)) (by rw [hW]),rfl,congrArg (fun C=>some (BA.arr 1000 C)) ((Er hp).trans (Bo fun q _=>?_)),rfl,trivial⟩,by simp [Au,BA.id]⟩,by show 256 - (p+1) < 256 - p;omega⟩
        rw [hW,hu]
        by_cases e:q=p
        ·rw [if_pos e,if_pos e,e,hd];simp
        ·rw [if_neg e,if_neg e]
       | false =>
        refine g ?_
        repeat' refine Am (g ?_)
        refine ⟨by omega,by omega,?_⟩
        rw [Nat.mul_one,Nat.zero_add]
        refine g ?_
        repeat' refine Am (g ?_)
        refine ⟨_,hWp,?_⟩
        refine g ?_
        repeat' refine Am (g ?_)
        refine ⟨by omega,by omega,?_⟩
        rw [Nat.mul_one,Nat.zero_add]
        refine g ?_
        repeat' refine Am (g ?_)
        refine ⟨_,rfl,⟨trivial,trivial⟩,by rw [Bj];omega,?_⟩
        refine g ?_
        repeat' (first | refine st_ rfl (g ?_) | refine Am (g ?_))
        refine ⟨⟨p+1,by omega,hp⟩,id,⟨⟨rfl,rfl,rfl,rfl,rfl,rfl,rfl,rfl,rfl,rfl,trivial⟩,⟨congrArg (fun C=>some (BA.arr 1400 C)) (by rw [hW]),rfl,congrArg (fun C=>some (BA.arr 1000 C)) ((Er hp).trans (Bo fun q _=>?_)),rfl,trivial⟩,by simp [Au,BA.id]⟩,by show 256 - (p+1) < 256 - p;omega⟩
        rw [hW,hu]
        by_cases e:q=p
        ·rw [if_pos e,if_pos e,e,hd];simp
        ·rw [if_neg e,if_neg e]
      | true =>
       rw [hb2,Bool.true_and] at hss
       rw [hss] at hu
       refine g ?_
       repeat' (first | refine Ab (hrp) rfl (g ?_) | refine Ab (hsame) rfl (g ?_))
       refine ⟨by omega,by omega,?_⟩
       rw [Nat.mul_one,Nat.zero_add]
       refine g ?_
       repeat' refine Am (g ?_)
       refine ⟨_,rfl,⟨trivial,trivial⟩,by rw [Bj];omega,?_⟩
       refine g ?_
       repeat' (first | refine st_ rfl (g ?_) | refine Am (g ?_))
       have hld:(Cj fun q=>Jz v it o q || U q)[p]? = some (.val (.bool (Jz v it o p))):=by rw [Cv hp,hup,Bool.or_false]
       have hWp:(Cj W)[p]? = some (.val (.bool (decide (Bd v.zones v.known p=r)))):=by rw [Cv hp,hu,if_pos rfl]
       have hW2:Cj (fun q=>if q=p then decide (Bd v.zones v.known p=r) else U q)=Cj W:=Bo fun q _=>(hu q).symm
       rw [Er hp,hW2]
       refine ⟨by omega,by omega,?_⟩
       rw [Nat.mul_one,Nat.zero_add]
       refine g ?_
       repeat' refine Am (g ?_)
       refine ⟨_,hld,?_⟩
       cases hd:Jz v it o p with
       | true =>
        refine g ?_
        repeat' refine Am (g ?_)
        refine ⟨by omega,by omega,?_⟩
        rw [Nat.mul_one,Nat.zero_add]
        refine g ?_
        repeat' refine Am (g ?_)
        refine ⟨_,rfl,⟨trivial,trivial⟩,by rw [Bj];omega,?_⟩
        refine g ?_
        repeat' (first | refine st_ rfl (g ?_) | refine Am (g ?_))
        refine ⟨⟨p+1,by omega,hp⟩,id,⟨⟨rfl,rfl,rfl,rfl,rfl,rfl,rfl,rfl,rfl,rfl,trivial⟩,⟨congrArg (fun C=>some (BA.arr 1400 C)) (by rw [hW]),rfl,congrArg (fun C=>some (BA.arr 1000 C)) ((Er hp).trans (Bo fun q _=>?_)),rfl,trivial⟩,by simp [Au,BA.id]⟩,by show 256 - (p+1) < 256 - p;omega⟩
        rw [hW,hu]
        by_cases e:q=p
        ·rw [if_pos e,if_pos e,e,hd];simp
        ·rw [if_neg e,if_neg e]
       | false =>
        refine g ?_
        repeat' refine Am (g ?_)
        refine ⟨by omega,by omega,?_⟩
        rw [Nat.mul_one,Nat.zero_add]
        refine g ?_
        repeat' refine Am (g ?_)
        refine ⟨_,hWp,?_⟩
        refine g ?_
        repeat' refine Am (g ?_)
        refine ⟨by omega,by omega,?_⟩
        rw [Nat.mul_one,Nat.zero_add]
        refine g ?_
        repeat' refine Am (g ?_)
        refine ⟨_,rfl,⟨trivial,trivial⟩,by rw [Bj];omega,?_⟩
        refine g ?_
        repeat' (first | refine st_ rfl (g ?_) | refine Am (g ?_))
        refine ⟨⟨p+1,by omega,hp⟩,id,⟨⟨rfl,rfl,rfl,rfl,rfl,rfl,rfl,rfl,rfl,rfl,trivial⟩,⟨congrArg (fun C=>some (BA.arr 1400 C)) (by rw [hW]),rfl,congrArg (fun C=>some (BA.arr 1000 C)) ((Er hp).trans (Bo fun q _=>?_)),rfl,trivial⟩,by simp [Au,BA.id]⟩,by show 256 - (p+1) < 256 - p;omega⟩
        rw [hW,hu]
        by_cases e:q=p
        ·rw [if_pos e,if_pos e,e,hd];simp
        ·rw [if_neg e,if_neg e]
    ·obtain rfl:p=256:=by omega
     have hus:∀ q,q < 256->upB v it r o 256 q=K6 v it r q:=fun q hq=>by
      unfold upB
      rcases Nat.lt_or_ge q o with h1 | h1
      ·rw [decide_eq_false (by omega),Bool.false_and]
       refine (Bool.eq_false_iff.2 fun hh=>hrm ?_).symm
       unfold K6 at hh
       rw [Bool.and_eq_true,decide_eq_true_eq] at hh
       exact Rl.2 ⟨q,h1,hh.1,hh.2⟩
      ·rw [decide_eq_true ⟨h1,hq⟩,Bool.true_and]
     rw [Bo hus,Bo (f:=fun q=>Jz v it o q || upB v it r o 256 q) (g:=Jz v it (o+1)) fun q hq=>by
      rw [hus q hq]
      unfold Jz K6
      rw [hrow]
      cases My v it q<;>simp]
     refine AW.exit ?_
     simp only [reduceIte]
     refine g ?_
     repeat' refine st_ rfl (g ?_)
     refine ⟨(Bj _).symm,?_⟩
     refine g ?_
     repeat' refine Ab (hpart) rfl (g ?_)
     refine bs1 (by omega) rfl rfl rfl ⟨trivial,trivial,trivial,trivial,trivial⟩ ?_
     refine g ?_
     refine C4 rfl (by kernel_rfl) (by omega) (by kernel_rfl) rfl (by simp;omega) ?_
     refine g ?_
     repeat' refine st_ rfl (g ?_)
     refine ⟨⟨o+1,ho'⟩,fun b=>if b=50000 then 10100 else b,⟨⟨rfl,rfl,rfl,rfl,rfl,rfl,rfl,trivial⟩,⟨?_,rfl,congrArg (fun C=>some (BA.arr 900 (Cj C))) hGe.symm,trivial⟩,by simp [Au,BA.id]⟩,by show 256 - (o+1) < 256 - o;omega⟩
     show some (BA.row _ _ _ _)=some (BA.row _ _ _ ((N6 v it (o+1)).map enN))
     unfold N6
     rw [hrow,List.map_append,List.map_append]
     rfl
 ·obtain rfl:o=256:=by omega
  rw [Bo (f:=fun p=>decide (p < 256)&&Jh v it p) (g:=Jh v it) fun q hq=>by rw [decide_eq_true hq,Bool.true_and]]
  have hpart:=Yb v v.known (Jh v it) iR hhf
  have hslen:(N6 v it 256).length<=256:=by
   unfold N6
   rw [List.length_map]
   exact Rm v it 256
  refine AW.exit ?_
  simp only [reduceIte]
  refine g ?_
  repeat' refine st_ rfl (g ?_)
  refine ⟨(Bj _).symm,?_⟩
  refine g ?_
  repeat' refine Ab (hpart) rfl (g ?_)
  refine bs1 (by omega) rfl rfl rfl ⟨trivial,trivial,trivial,trivial,trivial⟩ ?_
  refine g ?_
  refine C4 rfl (by kernel_rfl) (by omega) (by kernel_rfl) rfl (by simp;omega) ?_
  refine g ?_
  refine AW.freeze 10900 _ rfl trivial ?_
  simp only [go_sem,reduceIte,Nat.reduceEqDiff]
  refine g ?_
  repeat' refine st_ rfl (g ?_)
  subst hR
  exact D1.rfl_ _
end Go.Proofs.YthlgnjlpakimaaaGreatDoor
namespace Go.Proofs.YthlgnjlpakimaaaGreatDoor
open Go.ChangeShapes Go.WideShapes Go.ChangeAt Go.RowKit
attribute [local irreducible] AW AWY Cf Bf vop Bw Bh Bx qop Cg Cz Az Aw C5 A7 Bl
attribute [local go_sem] Kj Fl Ce Ap Ar
def Se (l:Log) (v:Br) (a:Int) (it:List Ad) (m:Int):List Aq×Int×Int :=
 if C0 l=true/\Al v=true then (if a=-1 then (Bf9 v it,l.sure,0) else Mz l a it m) else ([],0,1)
def A43 (l:Log) (v:Br) (a:Int) (it:List Ad) (m:Int):AV:=.tup [.iv (noI (Se l v a it m).1),.val (.int .i64 (Se l v a it m).2.1),.val (.int .i64 (Se l v a it m).2.2)]
theorem Wc {q:List Aq×Int×Int} {k e:Int} (h:q=([],k,e)):D1 (.tup [.val (.slice none 0 0),.val (.int .i64 k),.val (.int .i64 e)]) (.tup [.iv (noI q.1),.val (.int .i64 q.2.1),.val (.int .i64 q.2.2)]):=by
 subst h
 refine Je rfl fun p hp=>?_
 simp only [List.zip_cons_cons,List.zip_nil_right,List.mem_cons,List.not_mem_nil,or_false] at hp
 rcases hp with rfl | rfl | rfl
 ·exact Cs 4
 ·exact D1.rfl_ _
 ·exact D1.rfl_ _
set_option maxRecDepth 100000 in
set_option maxHeartbeats 1600000 in
theorem B13 (l:Log) (v:Br) (a:Int) (it:List Ad) (m:Int) (iS:I64 l.sure) (iR:I64 v.room) (iA:I64 a) (iM:I64 m):A7 Tryz.prog A9 21 [Ug l,vwA v,.val (.int .i64 a),.iv (spI it),.val (.int .i64 m)] (A43 l v a it m) []:=by
 refine A7.ofS (n:=43) (rs:=[.tmp 10,.tmp 11,.tmp 12]) Tryz.func21 rfl (by kernel_rfl) Tryz.ntmps21 (by kernel_rfl) (by simp) (fun _ _=>A9.later) ?_
 intro hok V w0
 have hs:=B62 v it iR
 have hb:=Ur l a it m iS iA iM
 unfold Sg at hb
 unfold A50 at hs
 obtain ⟨R,hR⟩ : ∃ R,Se l v a it m=R:=⟨_,rfl⟩
 unfold A43
 rw [hR]
 unfold Se at hR
 refine g ?_
 refine AW.seq ?_
 refine AW.reg rfl fun KK hKK=>?_
 refine g ?_
 repeat' (refine hKK _ (g ?_);clear hKK KK)
 refine AW.freeze 600 _ rfl ⟨trivial,trivial,iS,trivial⟩ ?_
 simp only [go_sem,reduceIte,Nat.reduceEqDiff]
 refine AW.freeze 700 _ rfl ⟨trivial,trivial,trivial,trivial,iR,trivial⟩ ?_
 simp only [go_sem,reduceIte,Nat.reduceEqDiff]
 refine g ?_
 repeat' (first | refine st_ rfl (g ?_) | refine Bq (fun h=>g ?_) (fun h=>g ?_) | refine C9 (fun h=>g ?_) (fun h=>g ?_) | (refine G9 rfl rfl (fun h=>?_) (fun h=>?_)<;>simp only [h]<;>refine g ?_) | refine Ab (Qu l iS) rfl (g ?_) | refine Ab (Q9 v iR) rfl (g ?_))
 ·rw [if_neg fun q=>by rw [q.1] at h;cases h] at hR
  exact Wc hR.symm
 ·rw [if_neg fun q=>by rw [q.2] at h;cases h] at hR
  exact Wc hR.symm
 ·rw [if_pos ⟨by simpa using ‹(!C0 l)=false›,by simpa using ‹(!Al v)=false›⟩,if_neg h] at hR
  refine g ?_
  repeat' (first | refine st_ rfl (g ?_) | refine Ab (hb) rfl (g ?_))
  rw [hR]
  exact D1.rfl_ _
 ·have hF:Al v=true:=by simpa using ‹(!Al v)=false›
  have ha:a=-1:=Decidable.of_not_not h
  rw [if_pos ⟨by simpa using ‹(!C0 l)=false›,hF⟩,if_pos ha] at hR
  rw [if_pos hF] at hs
  refine g ?_
  repeat' (first | refine st_ rfl (g ?_) | refine Ab (hs) rfl (g ?_))
  refine AW.drawn (ds:=[39,40,41,42,10,11,12]) (fin:=[]) (bs:=[0,0,0,0,0,0,0]) [⟨[],[],[],[],0⟩,⟨[],[],[],[],0⟩,⟨[(40,1)],[],[],[],0⟩,⟨[],[],[],[],0⟩,⟨[(39,0)],[],[],[],0⟩,⟨[(41,2)],[],[],[],0⟩,⟨[(42,3)],[],[],[],0⟩] (by kernel_rfl) rfl (by kernel_rfl) rfl rfl rfl fun KD hKD=>?_
  refine g ?_
  repeat' (first | refine st_ rfl (g ?_) | (refine hKD _ _ ⟨rfl,g ?_⟩;clear hKD KD))
  subst hR
  exact D1.rfl_ _
set_option maxRecDepth 100000 in
set_option maxHeartbeats 1600000 in
theorem Al7 (l:Log) (v:Br) (a:Int) (it:List Ad) (m:Int) (iS:I64 l.sure) (iR:I64 v.room) (iA:I64 a) (iM:I64 m):A7 Tryz.prog A9 22 [Ug l,vwA v,.val (.int .i64 a),.iv (spI it),.val (.int .i64 m)] (A43 l v a it m) []:=by
 refine A7.ofS (n:=42) (rs:=[.tmp 10,.tmp 11,.tmp 12]) Tryz.func22 rfl (by kernel_rfl) Tryz.ntmps22 (by kernel_rfl) (by simp) (fun _ _=>A9.later) ?_
 intro hok V w0
 have hs:=Av7 v it iR
 have hb:=Al8 l a it m iS iA iM
 unfold Sg at hb
 unfold A50 at hs
 obtain ⟨R,hR⟩ : ∃ R,Se l v a it m=R:=⟨_,rfl⟩
 unfold A43
 rw [hR]
 unfold Se at hR
 refine g ?_
 refine AW.seq ?_
 refine AW.reg rfl fun KK hKK=>?_
 refine g ?_
 repeat' (refine hKK _ (g ?_);clear hKK KK)
 refine AW.freeze 600 _ rfl ⟨trivial,trivial,iS,trivial⟩ ?_
 simp only [go_sem,reduceIte,Nat.reduceEqDiff]
 refine AW.freeze 700 _ rfl ⟨trivial,trivial,trivial,trivial,iR,trivial⟩ ?_
 simp only [go_sem,reduceIte,Nat.reduceEqDiff]
 refine g ?_
 repeat' (first | refine st_ rfl (g ?_) | refine Bq (fun h=>g ?_) (fun h=>g ?_) | refine C9 (fun h=>g ?_) (fun h=>g ?_) | (refine G9 rfl rfl (fun h=>?_) (fun h=>?_)<;>simp only [h]<;>refine g ?_) | refine Ab (Nu l iS) rfl (g ?_) | refine Ab (A03 v iR) rfl (g ?_))
 ·rw [if_neg fun q=>by rw [q.1] at h;cases h] at hR
  exact Wc hR.symm
 ·rw [if_neg fun q=>by rw [q.2] at h;cases h] at hR
  exact Wc hR.symm
 ·have hF:Al v=true:=by simpa using ‹(!Al v)=false›
  rw [if_pos ⟨by simpa using ‹(!C0 l)=false›,hF⟩,if_pos h] at hR
  rw [if_pos hF] at hs
  refine g ?_
  repeat' (first | refine st_ rfl (g ?_) | refine Ab (hs) rfl (g ?_))
  refine AW.drawn (ds:=[31,32,33,10,11,12]) (fin:=[]) (bs:=[0,0,0,0,0,0]) [⟨[],[],[],[],0⟩,⟨[],[],[],[],0⟩,⟨[(32,1)],[],[],[],0⟩,⟨[(31,0)],[],[],[],0⟩,⟨[(33,2)],[],[],[],0⟩,⟨[],[],[],[],0⟩] (by kernel_rfl) rfl (by kernel_rfl) rfl rfl rfl fun KD hKD=>?_
  refine g ?_
  repeat' (first | refine st_ rfl (g ?_) | (refine hKD _ _ ⟨rfl,g ?_⟩;clear hKD KD))
  subst hR
  exact D1.rfl_ _
 ·rw [if_pos ⟨by simpa using ‹(!C0 l)=false›,by simpa using ‹(!Al v)=false›⟩,if_neg h] at hR
  refine g ?_
  repeat' (first | refine st_ rfl (g ?_) | refine Ab (hb) rfl (g ?_))
  rw [hR]
  exact D1.rfl_ _
end Go.Proofs.YthlgnjlpakimaaaGreatDoor
namespace Go.Proofs.YthlgnjlpakimaaaGreatDoor
open Go.ChangeShapes Go.WideShapes Go.ChangeAt Go.RowKit
attribute [local irreducible] AW AWY Cf Bf vop Bw Bh Bx qop Cg Cz Az Aw C5 A7 Bl
attribute [local go_sem] Kj Fl Ap Ar
set_option maxRecDepth 100000 in
set_option maxHeartbeats 1600000 in
theorem Az1 (l:Log) (v:Br) (q:Ask) (iS:I64 l.sure) (iR:I64 v.room) (i1:I64 q.at_) (i2:I64 q.most):A7 Tryz.prog A9 4 [Ug l,vwA v,.agg [.val (.int .i64 q.at_),.val (.int .i64 q.most)]] (.val (.bool true)) []:=by
 refine A7.of (n:=56) (rs:=[.tmp 6]) Tryz.func4 rfl (by kernel_rfl) Tryz.ntmps4 (by kernel_rfl) (by simp) (fun _ _=>A9.later) ?_
 intro hok V w0
 have hp:=B13 l v q.at_ [⟨2,5⟩,⟨7,7⟩] q.most iS iR i1 i2
 have hr:=Al7 l v q.at_ [⟨2,5⟩,⟨7,7⟩] q.most iS iR i1 i2
 unfold A43 at hp hr
 generalize Se l v q.at_ [⟨2,5⟩,⟨7,7⟩] q.most=x at hp hr
 obtain ⟨O,k,e⟩:=x
 simp only at hp hr
 refine g ?_
 refine AW.seq ?_
 refine AW.reg rfl fun KK hKK=>?_
 refine g ?_
 repeat' (refine hKK _ (g ?_);clear hKK KK)
 refine AW.freeze 400 _ rfl ⟨trivial,trivial,iS,trivial⟩ ?_
 simp only [go_sem,reduceIte,Nat.reduceEqDiff]
 refine AW.freeze 500 _ rfl ⟨trivial,trivial,trivial,trivial,iR,trivial⟩ ?_
 simp only [go_sem,reduceIte,Nat.reduceEqDiff]
 refine AW.freeze 600 _ rfl ⟨i1,i2,trivial⟩ ?_
 simp only [go_sem,reduceIte,Nat.reduceEqDiff]
 refine g ?_
 repeat' (first | refine st_ rfl (g ?_) | refine Ab (A46) rfl (g ?_))
 refine bd2 (by omega) rfl rfl rfl ⟨rfl,rfl,trivial⟩ rfl rfl rfl ⟨rfl,rfl,trivial⟩ ?_
 refine g ?_
 repeat' (first | refine st_ rfl (g ?_) | refine Ab (hp) rfl (g ?_) | refine Ab (hr) rfl (g ?_) | refine Ab (B92 O) rfl (g ?_))
 exact decide_eq_true trivial
end Go.Proofs.YthlgnjlpakimaaaGreatDoor
namespace Go.Proofs.YthlgnjlpakimaaaGreatDoor
open Go.ChangeShapes Go.WideShapes Go.ChangeAt Go.RowKit
namespace cStreamCatches
set_option maxRecDepth 100000 in
theorem contract (H : Type) (enc : TypeId × Value -> H) (W : World) (base : Nat) (args : Array Value) (ds gs : List (DataW H)) (before : List MemPlace)
    (hval : ∀ (j : Nat) t v, Tryz.f4.params[j]? = some t -> args[j]? = some v -> Value.okWide Tryz.prog W .any base t v)
    (hW : DataW.Whole enc Tryz.prog Tryz.f4.params.toList Rows.streamCatchesSpec.vars false W args.toList ds gs before) (hk : Rows.uptoSmall H (ds ++ gs) = true) (hL : laidMetH Tryz.prog Rows.streamCatchesRow.laid W) :
    Calls Tryz.prog 4 args W fun e W' => ∃ v, e = .returned v /\ Rows.streamCatchesSpec.post enc Tryz.prog Tryz.f4 false true false false W args v W' := by
  have hW' := hW
  obtain ⟨p, q, hA0, hV, rfl, hfz, hnd⟩ := hW
  have hA : DataW.TrodAll enc Tryz.prog W 0 (fun _ => true) true Tryz.f4.params.toList args.toList ds p := hA0
  rw [Tryz.params4] at hA hval
  obtain ⟨v0, vs0, d0, ds0, p0, q0, hargs, rfl, rfl, h0, r0⟩ := trodAll_cons hA
  obtain ⟨v1, vs1, d1, ds1, p1, q1, rfl, rfl, rfl, h1, r1⟩ := trodAll_cons r0
  obtain ⟨v2, vs2, d2, ds2, p2, q2, rfl, rfl, rfl, h2, r2⟩ := trodAll_cons r1
  obtain ⟨rfl, rfl, rfl⟩ := trodAll_nil r2
  obtain rfl : args = #[v0, v1, v2] := by cases args; simp_all
  obtain ⟨rfl, rfl⟩ := trodVars_none hV
  have hpart := Zu hk
  obtain ⟨cs0, rfl, hs0⟩ := okWide_struct Tryz.underlying62 (hval 0 _ v0 rfl rfl)
  obtain ⟨n0, hn0⟩ := h0
  obtain ⟨_, x0, ua, ub, e0, hLB, hLN, iS⟩ := Aa4 (w := W) H enc n0 _ _ ⟨hn0, hpart d0 (by simp)⟩
  obtain rfl : cs0 = #[ua, ub, .int .i64 x0.sure] := Array.toList_inj.1 (by simpa only [Value.cells] using e0)
  obtain ⟨cs1, rfl, hs1⟩ := okWide_struct Tryz.underlying30 (hval 1 _ v1 rfl rfl)
  obtain ⟨n1, hn1⟩ := h1
  obtain ⟨_, x1, va, vb, vc, vd, e1, hK, hZ, hH, hB, iR⟩ := Ax5 (w := W) H enc n1 _ _ ⟨hn1, hpart d1 (by simp)⟩
  obtain rfl : cs1 = #[va, vb, vc, vd, .int .i64 x1.room] := Array.toList_inj.1 (by simpa only [Value.cells] using e1)
  obtain ⟨cs2, rfl, hs2⟩ := okWide_struct Tryz.underlying64 (hval 2 _ v2 rfl rfl)
  obtain ⟨n2, hn2⟩ := h2
  obtain ⟨_, x2, e2, i1, i2⟩ := B96 (w := W) H enc n2 _ _ ⟨hn2, hpart d2 (by simp)⟩
  obtain rfl : cs2 = #[.int .i64 x2.at_, .int .i64 x2.most] := Array.toList_inj.1 (by simpa only [Value.cells] using e2)
  have hT : A9 W := Zg (by kernel_rfl) hL
  clear hA0
  refine ((Az1 x0 x1 x2 iS iR i1 i2).law hT (As.cons (B41 hLB hLN) (As.cons (Be7 hK hZ hH hB) (As.cons Bs3 As.nil)))).mono fun e W' ⟨he, hb⟩ => ?_
  subst he
  exact ⟨_, rfl, Ao7 B43 (by kernel_rfl) (by kernel_rfl) Tryz.underlying4 rfl rfl rfl rfl hW' hb⟩
theorem laid_met (os:Os):laidMet Tryz.prog Rows.streamCatchesRow.laid ((Sm os).forCall (fun _ _=>0) ⟨#[],#[.agg #[.slice none 0 0,.slice none 0 0,.int .i64 0],.agg #[.slice none 0 0,.slice none 0 0,.slice none 0 0,.slice none 0 0,.int .i64 0],.agg #[.int .i64 0,.int .i64 0]],[]⟩).memory :=
  laidMet_of_run' 8 (by kernel_rfl) (by kernel_rfl)
theorem reads (os:Os) {H:Type} (enc:TypeId×Value->H):∃ places,DataW.whole enc Tryz.prog ((Sm os).forCall (fun _ _=>0) ⟨#[],#[.agg #[.slice none 0 0,.slice none 0 0,.int .i64 0],.agg #[.slice none 0 0,.slice none 0 0,.slice none 0 0,.slice none 0 0,.int .i64 0],.agg #[.int .i64 0,.int .i64 0]],[]⟩).memory Tryz.f4.params.toList Rows.streamCatchesSpec.vars false (#[.agg #[.slice none 0 0,.slice none 0 0,.int .i64 0],.agg #[.slice none 0 0,.slice none 0 0,.slice none 0 0,.slice none 0 0,.int .i64 0],.agg #[.int .i64 0,.int .i64 0]]:Array Value).toList 8=some ([.agg [.nil,.nil,.lit (.int .i64 0)],.agg [.nil,.nil,.nil,.nil,.lit (.int .i64 0)],.agg [.lit (.int .i64 0),.lit (.int .i64 0)]],[],places) :=
  ⟨[],by kernel_rfl⟩
set_option maxRecDepth 100000 in
theorem lifted (os : Os) (started : os.Started) (H : Type) (enc : TypeId × Value -> H) (F : Stop.Interp) :
    ReturnsInHanded {} Tryz.checked os 4 .any ((Rows.OpenSpec.upto Rows.streamCatchesSpec).preRow enc Tryz.prog Tryz.f4 Rows.streamCatchesUptoRow.domain false Rows.streamCatchesUptoRow.laid) (((Rows.OpenSpec.upto Rows.streamCatchesSpec).at F).post enc Tryz.prog Tryz.f4 false true false false) := by
  obtain ⟨places, hx⟩ := reads os enc
  refine returnsInHanded_of_row (C := Tryz.checked) (s := Rows.OpenSpec.upto Rows.streamCatchesSpec) own started (by kernel_rfl) Tryz.func4
    (witness_row_at (enc := enc) (C := Tryz.checked) false (Sm os) #[.agg #[.slice none 0 0, .slice none 0 0, .int .i64 0], .agg #[.slice none 0 0, .slice none 0 0, .slice none 0 0, .slice none 0 0, .int .i64 0], .agg #[.int .i64 0, .int .i64 0]] rfl (by kernel_rfl) (by kernel_rfl) (by kernel_rfl)
      (OpenSpec.preRow_of_cond 8 hx (by kernel_rfl) (fun k hk => by cases hk; kernel_rfl) (by kernel_rfl) (laid_met os))) ?_
  intro W base args ds gs before hval hW _ hcond _ hL _ _
  exact contract H enc W base args ds gs before hval hW (hcond _ rfl) hL
theorem c1:laidOutB Tryz.pinned.checked.prog=true:=by kernel_rfl
theorem c2:mapsRowed Tryz.pinned.checked.prog=true:=by kernel_rfl
theorem c3:(Rows.streamCatchesUptoRow.inPlace==Tryz.pinned.checked.prog.inPlace 4)=true:=by kernel_rfl
theorem c4:(Rows.streamCatchesUptoRow.unfollowed==Tryz.pinned.checked.prog.unfollowed 4)=true:=by kernel_rfl
theorem c5:(Rows.streamCatchesUptoRow.recurses==Tryz.pinned.checked.prog.recurses 4)=true:=by kernel_rfl
theorem c6:(Rows.streamCatchesUptoRow.named==Tryz.pinned.checked.prog.varsNamed 4)=true:=by kernel_rfl
theorem closed:joinedFacts Tryz.pinned.checked.prog 4 Tryz.f4 (Rows.OpenSpec.upto Rows.streamCatchesSpec).bare Rows.streamCatchesUptoRow=true:=by
  unfold joinedFacts
  rw [c1,c2,c3,c4,c5,c6]
  kernel_rfl
theorem said:Rows.StreamCatchesUptoSaid :=
  OpenClaim.holds_of_cond 4 Tryz.f4 rfl rfl rfl rfl rfl rfl rfl ⟨rfl,rfl,rfl,rfl,rfl⟩ rfl rfl rfl rfl rfl (by kernel_rfl) Tryz.func4 closed
    (of_decide_eq_true (by kernel_rfl)) (by unfold Func.isWrapper;first | (rw [if_pos (by decide +kernel)];kernel_rfl) | (rw [if_neg (by decide +kernel)];exact ⟨rfl,rfl⟩))
    (fun os started H enc _ F=>by rw [OpenClaim.pre_eq_preRow];exact lifted os started H enc F)
theorem plain (f : FuncId) (fn : Func) (hf : Tryz.pinned.checked.prog.funcNamed "telltale/telltalelaw16.StreamCatches" = some f) (hfn : Tryz.pinned.checked.prog.funcs[f]? = some fn) :
    false = Tryz.pinned.checked.prog.looks [] /\ ∀ (j : Nat) t, fn.params[j]? = some t -> Tryz.pinned.checked.prog.wantsStandIn t = false := by
  obtain rfl : f = 4 := Option.some.inj ((show Tryz.prog.funcNamed "telltale/telltalelaw16.StreamCatches" = some 4 by kernel_rfl).symm.trans hf) |>.symm
  obtain rfl : fn = Tryz.f4 := (Option.some.inj (Tryz.func4.symm.trans hfn)).symm
  refine ⟨by kernel_rfl, fun j t ht => ?_⟩
  rw [Tryz.params4] at ht
  have hm := Array.mem_of_getElem? ht
  simp at hm
  rcases hm with rfl | rfl | rfl
  · exact (show Tryz.prog.wantsStandIn 62 = false by kernel_rfl)
  · exact (show Tryz.prog.wantsStandIn 30 = false by kernel_rfl)
  · exact (show Tryz.prog.wantsStandIn 64 = false by kernel_rfl)
theorem card:Rows.StreamCatchesUptoCardSaid :=
  Claim7.holds_tied_plain_at .later [] _ _ _ _ said (fun _ h=>by cases h) (by as_aux_lemma=>kernel_rfl) (fun _ h=>by cases h) streamCatchesUpto_row_tie rfl ⟨rfl,rfl⟩ (by as_aux_lemma=>kernel_rfl) rfl plain (by as_aux_lemma=>kernel_rfl)
#print axioms card
end cStreamCatches
end Go.Proofs.YthlgnjlpakimaaaGreatDoor
