/- A world that holds the two tables as they are laid, and what a row's list gives of them. -/
import Derived.Test.YtahgkllhbggmgaaGreatDoorProg
import Derived.Shelf.Spec.SlicesGrow
import Derived.KernelRfl
import Derived.Test.YtahgkllhbggmgaaGreatDoorKSortSpan
import Derived.Test.YtahgkllhbggmgaaGreatDoorKCluSpec
import Derived.Test.YtahgkllhbggmgaaGreatDoorKViewMade
import Derived.Test.YtahgkllhbggmgaaGreatDoorKSubsForm
import Derived.Test.YtahgkllhbggmgaaGreatDoorKAbsFrz
import Derived.Test.YtahgkllhbggmgaaGreatDoorKPlace
import Derived.Test.YtahgkllhbggmgaaGreatDoorKVecLaw
import Derived.Laws.BitsAllLaws
import Derived.Laws.MakeOwn
import Derived.Test.YtahgkllhbggmgaaGreatDoorCards
import Derived.Test.YtahgkllhbggmgaaGreatDoorTie
import Derived.Lib.LaidTab
import Derived.Deep.DeepWitnessRowRef
import Derived.Lib.SmallJoins
set_option linter.all false
set_option linter.unnecessarySimpa false
set_option linter.unusedSimpArgs false
set_option linter.unusedVariables false
namespace Go.Proofs.YtahgkllhbggmgaaGreatDoor
def Nj:Go.Shelf.Ren:=⟨fun | 4=>369 | n=>n,fun | 0=>0 | 3=>3 | 4=>4 | 9=>9 | 20=>20 | 22=>44 | 25=>5 | n=>n,fun n=>n⟩
theorem A31:Go.Proofs.Lays8.n4 Tryz.prog Nj:={
 mixed:=by kernel_rfl
 f4:=⟨Tryz.f369.name,by decide,Tryz.func369.trans (congrArg some (by kernel_rfl))⟩
 t0:=Tryz.underlying0
 a0:=Tryz.isAgg0
 z0:=Tryz.sizeOf0
 v0:=Tryz.zeroValue0
 t3:=Tryz.underlying3
 a3:=Tryz.isAgg3
 z3:=Tryz.sizeOf3
 v3:=Tryz.zeroValue3
 t4:=Tryz.underlying4
 a4:=Tryz.isAgg4
 z4:=Tryz.sizeOf4
 v4:=Tryz.zeroValue4
 t9:=Tryz.underlying9
 a9:=Tryz.isAgg9
 z9:=Tryz.sizeOf9
 v9:=Tryz.zeroValue9
 t20:=Tryz.underlying20
 a20:=Tryz.isAgg20
 z20:=Tryz.sizeOf20
 v20:=Tryz.zeroValue20
 t22:=Tryz.underlying44
 a22:=Tryz.isAgg44
 z22:=Tryz.sizeOf44
 v22:=Tryz.zeroValue44 }
end Go.Proofs.YtahgkllhbggmgaaGreatDoor
namespace Go.Proofs.YtahgkllhbggmgaaGreatDoor
open Go.ChangeShapes Go.WideShapes Go.ChangeAt Go.RowKit
def byC (b:Nat):List IV:=[.val (.int .u8 (b:Int))]
theorem Be3 (l:List Nat):byI l=.sl 1 (l.map byC):=rfl
attribute [local irreducible] AW AWY Bd As vop B4 Ap Aw qop Bc Bs Ai Ag Ay A7 Av
attribute [local go_sem] Be3 Ae Af
structure Dq1 (n:Nat) where
 done:List Nat
 m:Nat
 j:Nat
 h:Bj4 8 n=done++Bj4 j m
 hm:m < 128 ^ (j+1)
 hj:done.length+j=8
theorem Bp7 (l:List Int):inI l=.sl 1 (l.map fun n=>[.val (.int .i64 n)]):=rfl
attribute [local go_sem] Bp7
end Go.Proofs.YtahgkllhbggmgaaGreatDoor
namespace Go.Proofs.YtahgkllhbggmgaaGreatDoor
open Go.ChangeShapes Go.WideShapes Go.ChangeAt Go.RowKit
section
variable {L : Operand -> AV} {K K' : List (List IV) -> Prop} {x0 x1 x2 x3 : Operand} {a b c d : Int}
end
attribute [local irreducible] AW AWY Bd As vop B4 Ap Aw qop Bc Bs Ai Ag Ay A7 Av
attribute [local go_sem] Be3 Bp7 Ei Cr Je F8 Cp Ae Af
theorem Qy (l:List Ad):stI l=.sl 2 (l.map Wn):=rfl
theorem Y7 (l:List Ar):spI l=.sl 2 (l.map Xv):=rfl
theorem By8 (s:Ar):Xv s=[.val (.int .i64 s.lo),.val (.int .i64 s.hi)]:=rfl
attribute [local go_sem] Qy Y7 Bl1 By8
def stY (s:Ad):List Nat:=Vu [s.node,s.count]
def spY (s:Ar):List Nat:=Vu [s.lo,s.hi]
end Go.Proofs.YtahgkllhbggmgaaGreatDoor
namespace Go.Proofs.YtahgkllhbggmgaaGreatDoor
open Go.ChangeShapes Go.WideShapes Go.ChangeAt Go.RowKit
theorem Bc0 {w:World} {g n:Nat} {e:TypeId} {C:Array Value} (hB:Blk w g e C):(w.freeze ⟨g,n,none⟩ 1).heap.size=w.heap.size/\(∀ k,k≠g->(w.freeze ⟨g,n,none⟩ 1).heap[k]? = w.heap[k]?)/\(∀ p:Addr,(w.freeze ⟨g,n,none⟩ 1).cell? p=w.cell? p):=by
 have hsz:(w.freeze ⟨g,n,none⟩ 1).heap.size=w.heap.size:=by simp [World.freeze]
 have hfar:∀ k,k≠g->(w.freeze ⟨g,n,none⟩ 1).heap[k]? = w.heap[k]? := fun k hk=>by
  simp [World.freeze,Array.getElem?_modify,Ne.symm hk]
 refine ⟨hsz,hfar,fun p=>?_⟩
 by_cases hp:p.block=g
 ·have h1:(w.freeze ⟨g,n,none⟩ 1).heap[g]? = some (.cells C e (n,n+1)):=by
   have:=hB
   unfold Blk at this
   simp [World.freeze,Array.getElem?_modify,this]
  have h2:w.heap[g]? = some (.cells C e (0,0)):=hB
  unfold World.cell?
  rw [hp,h1,h2]
 ·exact World.cell?_of_block (hfar _ hp)
section
variable {P : Program} {G : World -> Prop} {V w0 : World} {n : Fm} {ro : Option Nat}
end
section
variable {P : Program} {G : World -> Prop} {σ : Ab} {V w0 : World} {n : Nd} {ro : Option Nat} {K : Exit -> Ab -> Prop}
end
attribute [local irreducible] AW AWY Bd As vop B4 Ap Aw qop Bc Bs Ai Ag Ay A7 Av
attribute [local go_sem] Dg Sv Mi L9 Ae Af
theorem Bp8 {l:List Gu} (h:AV.okd (.iv (flI l))) {m:Nat} (hm:m < l.length):I64 l[m].number/\I64 l[m].sure/\l[m].bytes.length<=1073741824:=by
 obtain ⟨-,o1,o2,o3,-⟩:=P3 (by simpa [flI] using h.2) (enF l[m]) (List.mem_map_of_mem (List.getElem_mem hm))
 exact ⟨o1,o3,by simpa [byI] using o2.1⟩
set_option maxRecDepth 100000 in
set_option maxHeartbeats 1600000 in
theorem Wr (d:Jc) (iR:I64 d.room):A7 Tryz.prog A8 59 [dkA d] (.val (.bool (Bp d))) []:=by
 refine A7.of (n:=62) (rs:=[.tmp 2]) Tryz.func59 rfl (by kernel_rfl) Tryz.ntmps59 (by kernel_rfl) (by simp) (fun _ _=>A8.later) ?_
 intro hok V w0
 have hfl:AV.okd (.iv (flI d.files)):=hok.1.2.1
 have hlen:d.files.length<=1073741824:=by simpa [flI] using hfl.1
 obtain ⟨B,hB⟩ : ∃ B,Bp d=B:=⟨_,rfl⟩
 rw [hB]
 refine g ?_
 refine AW.seq ?_
 refine AW.reg rfl fun KK hKK=>?_
 refine g ?_
 repeat' (refine hKK _ (g ?_);clear hKK KK)
 refine AW.freeze 200 _ rfl ⟨iR,trivial,trivial⟩ ?_
 simp only [go_sem,reduceIte,Nat.reduceEqDiff]
 refine g ?_
 repeat' (first | refine st_ rfl (g ?_) | refine Aj (fun h=>g ?_) (fun h=>g ?_) | (refine B7 rfl rfl (fun h e=>?_) (fun h e=>?_)<;>simp only [e]<;>clear e<;>refine g ?_))
 ·rw [<-hB];simp [Bp];intros;omega
 ·rw [<-hB];simp [Bp];intros;omega
 have hR:0<=d.room/\d.room<=16777216:=by omega
 have hBF:B=E4 d.room 0 (-1) d.files:=by rw [<-hB];simp [Bp,hR]
 clear hB
 refine AW.loop (fun m:{m:Nat // m<=d.files.length/\E4 d.room 0 (-1) (d.files.take m)=true}=>⟨[(1,.ip [.val (.int .i64 d.room),flI d.files]),(3,.val (.int .i64 (Jj (d.files.take m.1):Nat))),(4,.val (.int .i64 (Ge (-1) (d.files.take m.1)))),(16,.iv (flI d.files)),(17,.val (.int .i64 (d.files.length:Nat))),(18,.val (.int .i64 (m.1:Nat)))],[]⟩) (fun m=>d.files.length - m.1) ⟨0,Nat.zero_le _,rfl⟩ id ⟨⟨rfl,rfl,rfl,rfl,rfl,rfl,trivial⟩,trivial,List.nodup_nil⟩ fun ⟨m,hm,ht⟩=>?_
 simp only
 have hsum:=Qm hR.1 (u:=0) (by omega) ht
 repeat (refine AW.seq ?_)
 refine AW.reg rfl fun KK hKK=>?_
 refine g ?_
 repeat' (refine hKK _ (g ?_);clear hKK KK)
 repeat (refine AW.seq ?_)
 refine st_ rfl ?_
 refine g ?_
 refine Aj (fun h=>?_) (fun h=>?_)
 ·have hlt:m < d.files.length:=by omega
  obtain ⟨i1,i2,i3⟩:=Bp8 hfl hlt
  have hat:=Ae4 hlt ht
  rw [<-hBF] at hat
  have hN:Tp d.room (Jj (d.files.take m)) (Ge (-1) (d.files.take m)) d.files[m]=false->false=B:=fun h=>by rw [hat,h];rfl
  refine st_ rfl (g ?_)
  refine g ?_
  repeat' (first | refine st_ rfl (g ?_) | refine Aj (fun h=>g ?_) (fun h=>g ?_) | (refine B7 rfl rfl (fun h e=>?_) (fun h e=>?_)<;>simp only [e]<;>clear e<;>refine g ?_) | refine ix_ (by omega) (g ?_))
  ·exact hN (decide_eq_false (by omega))
  ·exact hN (decide_eq_false (by omega))
  ·exact hN (decide_eq_false (by omega))
  ·exact hN (decide_eq_false (by omega))
  ·exact hN (decide_eq_false (by omega))
  obtain ⟨g1,g2,g3⟩:=Wk hlt ht (decide_eq_true (by omega))
  refine AW.drawn (ds:=[54,55,56,57,58,59,60,3,4]) (fin:=[0]) (bs:=[1,1,1,1,1,1,1,1,1]) [⟨[],[3],[],[],0⟩,⟨[],[],[],[],0⟩,⟨[(55,1)],[],[0],[],0⟩,⟨[(56,2)],[],[0],[],0⟩,⟨[(54,0),(57,3)],[],[],[],0⟩,⟨[],[],[],[],0⟩,⟨[(59,5)],[],[0],[],0⟩,⟨[(58,4)],[],[],[],0⟩,⟨[(60,6)],[],[],[],0⟩] (by kernel_rfl) rfl (by kernel_rfl) rfl rfl rfl fun KD hKD=>?_
  refine g ?_
  simp only [An6,List.contains_cons,List.contains_nil,Nat.reduceBEq,Bool.or_false,Bool.false_eq_true,reduceIte,B04,List.cons_append,List.nil_append]
  refine g ?_
  repeat' (first | refine st_ rfl (g ?_) | (refine hKD _ _ ⟨rfl,g ?_⟩;clear hKD KD))
  exact ⟨⟨m+1,by omega,g1⟩,id,⟨⟨rfl,by rw [g2];rfl,by rw [g3];rfl,rfl,rfl,rfl,trivial⟩,trivial,List.nodup_nil⟩,by show d.files.length - (m+1) < d.files.length - m;omega⟩
 ·refine AW.exit ?_
  simp only [reduceIte]
  refine g ?_
  repeat' refine st_ rfl (g ?_)
  rw [List.take_of_length_le (by omega)] at ht
  rw [hBF,ht]
end Go.Proofs.YtahgkllhbggmgaaGreatDoor
namespace Go.Proofs.YtahgkllhbggmgaaGreatDoor
open Go.ChangeShapes Go.WideShapes Go.ChangeAt Go.RowKit
def Xb (w:World):Prop:=∀ j,j < 16->w.cell? ⟨0,j,none⟩=some (.int .u32 (B52.getD j 0:Nat))
theorem Xb.next {w w1:World} (h:Xb w) (hb:Below w.heap.size w w1):Xb w1:=fun j hj=>Al hb (h j hj)
def Kf (w:World):Prop:=A8 w/\Xb w
theorem Kf.later {w w':World} (h:Kf w) (hb:Below w.heap.size w w'):Kf w':=⟨h.1.next hb,h.2.next hb⟩
section
variable {P : Program} {G : World -> Prop} {σ : Ab} {V w0 : World} {n : Nd} {ro : Option Nat} {K : Exit -> Ab -> Prop}
end
theorem A7.nd {f:FuncId} {args:List AV} {r:AV} {nb:List BA} (h:A7 Tryz.prog A8 f args r nb):A7 Tryz.prog Kf f args r nb:=⟨h.1,fun V w E vs a b c=>h.2 V w E vs a b.1 c⟩
section
variable {L : Operand -> AV} {K K' : List (List IV) -> Prop} {x0 x1 x2 x3 : Operand} {a b c d : Int}
end
attribute [local irreducible] AW AWY Bd As vop B4 Ap Aw qop Bc Bs Ai Ag Ay A7 Av
attribute [local go_sem] Be3 Ae Af
end Go.Proofs.YtahgkllhbggmgaaGreatDoor
namespace Go.Proofs.YtahgkllhbggmgaaGreatDoor
open Go.ChangeShapes Go.WideShapes Go.ChangeAt Go.RowKit
def Bb1 (cs:Array Value):Obj->Obj
 | .cells _ t frozen=>.cells cs t frozen
 | o=>o
def Bh3:Array Value:=#[.int .u8 0,.int .u8 1,.int .u8 56,.int .u8 2,.int .u8 57,.int .u8 49,.int .u8 28,.int .u8 3,.int .u8 61,.int .u8 58,.int .u8 42,.int .u8 50,.int .u8 38,.int .u8 29,.int .u8 17,.int .u8 4,.int .u8 62,.int .u8 47,.int .u8 59,.int .u8 36,.int .u8 45,.int .u8 43,.int .u8 51,.int .u8 22,.int .u8 53,.int .u8 39,.int .u8 33,.int .u8 30,.int .u8 24,.int .u8 18,.int .u8 12,.int .u8 5,.int .u8 63,.int .u8 55,.int .u8 48,.int .u8 27,.int .u8 60,.int .u8 41,.int .u8 37,.int .u8 16,.int .u8 46,.int .u8 35,.int .u8 44,.int .u8 21,.int .u8 52,.int .u8 32,.int .u8 23,.int .u8 11,.int .u8 54,.int .u8 26,.int .u8 40,.int .u8 15,.int .u8 34,.int .u8 20,.int .u8 31,.int .u8 10,.int .u8 25,.int .u8 14,.int .u8 19,.int .u8 9,.int .u8 13,.int .u8 8,.int .u8 7,.int .u8 6]
noncomputable def Ar1 (os:Os):World :=
 { World.holding Tryz.prog os ⟨#[],#[],[]⟩ with heap:=(World.holding Tryz.prog os ⟨#[],#[],[]⟩).heap.modify 1 (Bb1 Bh3) }
theorem B47 : Tryz.prog.globalNamed "math/bits.deBruijn64tab" = some 1 := by kernel_rfl
theorem Bt7:(Tryz.prog.globals[1]?).map (·.type)=some 513:=by kernel_rfl
theorem Uv {laid : List (String × DataW Unit)} {W : World} (e : (laid.filter fun x => x.1 == "math/bits.deBruijn64tab") = [("math/bits.deBruijn64tab", Lib.tabData .u8 (Lib.deBruijn64tab.map Int.ofNat))]) (h : laidMetH Tryz.prog laid W) : A8 W := by
 have h1 := h.filter (fun x => x.1 == "math/bits.deBruijn64tab")
 rw [e] at h1
 have h2:=Lib.tabIs_of_head (rest:=[]) B47 Bt7 Tryz.underlying513 Tryz.underlying5 (by kernel_rfl) (by kernel_rfl) h1
 intro j hj
 have h3:=h2.cell B47 j (by simpa using hj)
 rw [h3]
 simp [List.getD,hj]
theorem V3 {H:Type} {l:List (DataW H)} (h:Rows.uptoSmall H l=true):∀ d,d∈l->Rows.uptoBulk d<=1048576:=by
 have h2:Rows.uptoBulkAll l<=1048576:=of_decide_eq_true h
 intro d hd
 have:=Sy hd
 omega
def Bd1:Array Value:=#[.int .u32 0,.int .u32 498536548,.int .u32 997073096,.int .u32 651767980,.int .u32 1994146192,.int .u32 1802195444,.int .u32 1303535960,.int .u32 1342533948,.int .u32 3988292384,.int .u32 4027552580,.int .u32 3604390888,.int .u32 3412177804,.int .u32 2607071920,.int .u32 2262029012,.int .u32 2685067896,.int .u32 3183342108]
noncomputable def P7 (os:Os):World:={ Ar1 os with heap:=(Ar1 os).heap.modify 0 (Bb1 Bd1) }
theorem Au4 : Tryz.prog.globalNamed "telltale/frame.table" = some 0 := by kernel_rfl
theorem Bl9:(Tryz.prog.globals[0]?).map (·.type)=some 345:=by kernel_rfl
theorem Tr {laid : List (String × DataW Unit)} {W : World} (e : (laid.filter fun x => x.1 == "telltale/frame.table") = [("telltale/frame.table", Lib.tabData .u32 (B52.map Int.ofNat))]) (h : laidMetH Tryz.prog laid W) : Xb W := by
 have h1 := h.filter (fun x => x.1 == "telltale/frame.table")
 rw [e] at h1
 have h2:=Lib.tabIs_of_head (rest:=[]) Au4 Bl9 Tryz.underlying345 Tryz.underlying228 (by kernel_rfl) (by kernel_rfl) h1
 intro j hj
 have hj':j < B52.length:=hj
 have h3:=h2.cell Au4 j (by simpa using hj')
 rw [h3]
 simp [List.getD,hj']
end Go.Proofs.YtahgkllhbggmgaaGreatDoor
