/- An object is read (the program's). -/
import Derived.Test.YthlgnjlpakimaaaGreatDoorRows
import Derived.Shelf.SlGeneric
import Derived.Shelf.SlSortCmp.WholeK
import Derived.Ground.SlsfProg
import Derived.Test.YthlgnjlpakimaaaGreatDoorQCacheForm
import Derived.Test.YthlgnjlpakimaaaGreatDoorQTakeLaw
import Derived.Test.YthlgnjlpakimaaaGreatDoorQTurnRow
import Derived.Test.YthlgnjlpakimaaaGreatDoorQTidy
import Derived.Test.YthlgnjlpakimaaaGreatDoorQSpanLess
import Derived.Test.YthlgnjlpakimaaaGreatDoorQPutLaw
import Derived.Test.YthlgnjlpakimaaaGreatDoorQRefThr
import Derived.Test.YthlgnjlpakimaaaGreatDoorQSinceSame
import Derived.Test.YthlgnjlpakimaaaGreatDoorQTouch
import Derived.Test.YthlgnjlpakimaaaGreatDoorQBodies
import Derived.Test.YthlgnjlpakimaaaGreatDoorQViewLaw3
set_option linter.all false
set_option linter.unnecessarySimpa false
set_option linter.unusedSimpArgs false
set_option linter.unusedVariables false
namespace Go.Proofs.YthlgnjlpakimaaaGreatDoor
open Go.Proofs Go.Shelf
def T6:Go.Shelf.Ren:=⟨fun | 6=>192 | 15=>219 | 14=>218 | 28=>235 | 29=>236 | 20=>227 | 21=>228 | 22=>229 | 23=>230 | 24=>231 | 25=>232 | 26=>233 | 27=>234 | 46=>247 | 47=>248 | 48=>249 | 49=>250 | 50=>251 | 57=>256 | n=>n,fun | 22=>26 | 24=>122 | 25=>232 | 3=>3 | 39=>34 | 0=>0 | 53=>265 | 55=>223 | 4=>4 | 46=>259 | 45=>258 | 50=>187 | 5=>5 | 9=>9 | 66=>273 | 70=>277 | 76=>281 | 77=>282 | n=>n,fun | n=>n⟩
theorem B47:Go.Proofs.SlLaysF0.n6 Tryz.prog T6:={
 mixed:=by kernel_rfl
 f6:=⟨Tryz.f192.name,by decide,Tryz.func192.trans (congrArg some (by kernel_rfl))⟩
 f14:=⟨Tryz.f218.name,by decide,Tryz.func218.trans (congrArg some (by kernel_rfl))⟩
 f15:=Tryz.func219.trans (congrArg some (by kernel_rfl))
 f20:=⟨Tryz.f227.name,by decide,Tryz.func227.trans (congrArg some (by kernel_rfl))⟩
 f21:=⟨Tryz.f228.name,by decide,Tryz.func228.trans (congrArg some (by kernel_rfl))⟩
 f22:=⟨Tryz.f229.name,by decide,Tryz.func229.trans (congrArg some (by kernel_rfl))⟩
 f23:=⟨Tryz.f230.name,by decide,Tryz.func230.trans (congrArg some (by kernel_rfl))⟩
 f24:=⟨Tryz.f231.name,by decide,Tryz.func231.trans (congrArg some (by kernel_rfl))⟩
 f25:=⟨Tryz.f232.name,by decide,Tryz.func232.trans (congrArg some (by kernel_rfl))⟩
 f26:=⟨Tryz.f233.name,by decide,Tryz.func233.trans (congrArg some (by kernel_rfl))⟩
 f27:=⟨Tryz.f234.name,by decide,Tryz.func234.trans (congrArg some (by kernel_rfl))⟩
 f28:=Tryz.func235.trans (congrArg some (by kernel_rfl))
 f29:=Tryz.func236.trans (congrArg some (by kernel_rfl))
 f46:=⟨Tryz.f247.name,by decide,Tryz.func247.trans (congrArg some (by kernel_rfl))⟩
 f47:=Tryz.func248.trans (congrArg some (by kernel_rfl))
 f48:=Tryz.func249.trans (congrArg some (by kernel_rfl))
 f49:=⟨Tryz.f250.name,by decide,Tryz.func250.trans (congrArg some (by kernel_rfl))⟩
 f50:=⟨Tryz.f251.name,by decide,Tryz.func251.trans (congrArg some (by kernel_rfl))⟩
 f57:=⟨Tryz.f256.name,by decide,Tryz.func256.trans (congrArg some (by kernel_rfl))⟩
 t0:=Tryz.underlying0
 a0:=Tryz.isAgg0
 z0:=Tryz.sizeOf0
 v0:=Tryz.zeroValue0
 t3:=Tryz.underlying3
 a3:=Tryz.isAgg3
 z3:=Tryz.sizeOf3
 v3:=Tryz.zeroValue3
 t4:=Tryz.underlying4
 a4:=Tryz.isAgg4
 z4:=Tryz.sizeOf4
 v4:=Tryz.zeroValue4
 t5:=Tryz.underlying5
 a5:=Tryz.isAgg5
 z5:=Tryz.sizeOf5
 v5:=Tryz.zeroValue5
 t9:=Tryz.underlying9
 a9:=Tryz.isAgg9
 z9:=Tryz.sizeOf9
 v9:=Tryz.zeroValue9
 t22:=Tryz.underlying26
 a22:=Tryz.isAgg26
 z22:=Tryz.sizeOf26
 v22:=Tryz.zeroValue26
 t25:=Tryz.underlying232
 a25:=Tryz.isAgg232
 z25:=Tryz.sizeOf232
 v25:=Tryz.zeroValue232
 t39:=Tryz.underlying34
 a39:=Tryz.isAgg34
 z39:=Tryz.sizeOf34
 v39:=Tryz.zeroValue34
 t45:=Tryz.underlying258
 a45:=Tryz.isAgg258
 z45:=Tryz.sizeOf258
 v45:=Tryz.zeroValue258
 t46:=Tryz.underlying259
 a46:=Tryz.isAgg259
 z46:=Tryz.sizeOf259
 v46:=Tryz.zeroValue259
 t50:=Tryz.underlying187
 a50:=Tryz.isAgg187
 z50:=Tryz.sizeOf187
 v50:=Tryz.zeroValue187
 t53:=Tryz.underlying265
 a53:=Tryz.isAgg265
 z53:=Tryz.sizeOf265
 v53:=Tryz.zeroValue265
 t55:=Tryz.underlying223
 a55:=Tryz.isAgg223
 z55:=Tryz.sizeOf223
 v55:=Tryz.zeroValue223
 t66:=Tryz.underlying273
 a66:=Tryz.isAgg273
 z66:=Tryz.sizeOf273
 v66:=Tryz.zeroValue273
 t70:=Tryz.underlying277
 a70:=Tryz.isAgg277
 z70:=Tryz.sizeOf277
 v70:=Tryz.zeroValue277
 t76:=Tryz.underlying281
 a76:=Tryz.isAgg281
 z76:=Tryz.sizeOf281
 v76:=Tryz.zeroValue281
 t77:=Tryz.underlying282
 a77:=Tryz.isAgg282
 z77:=Tryz.sizeOf282
 v77:=Tryz.zeroValue282 }
end Go.Proofs.YthlgnjlpakimaaaGreatDoor
namespace Go.Proofs.YthlgnjlpakimaaaGreatDoor
open Go.ChangeShapes Go.WideShapes Go.ChangeAt Go.RowKit
attribute [local irreducible] AW AWY Cd Bk vop C5 Bl Bz qop Cj Cv B4 Aw C4 A7 Bq Pu
attribute [local go_sem] Ao As
def Cs1 (f:Nat->Int) (M n:Nat):Int:=if M.testBit n=true then f n else 0
end Go.Proofs.YthlgnjlpakimaaaGreatDoor
namespace Go.Proofs.YthlgnjlpakimaaaGreatDoor
open Go.ChangeShapes Go.WideShapes Go.ChangeAt Go.RowKit
attribute [local irreducible] Cd Bk vop C5 Bl Bz qop Cj Cv B4 Aw C4 A7 Bq
attribute [local go_sem] Ao As
section
variable {V w0 : World} {n : Nd} {ro : Option Nat} {σ : Am} {K : Exit -> Am -> Prop}
end
def enX (x:Fin 64):List AV:=[.val (.int .i64 (x.1:Nat)),.any]
attribute [local irreducible] Pu AW
section
variable {V w0 : World} {n : Nd} {K : Exit -> Am -> Prop}
end
def E16 (f d:Nat->Int) (pre:List (Fin 64)) (n:Nat):Int:=if pre.any (fun x=>decide (x.1=n))=true then min (f n) (d n) else f n
structure E68 (ls:List (List Ab)) where
 i:Nat
 f:Nat->Int
 M:Nat
 h0:0 < i
 hi:i<=ls.length
 hM:M < 18446744073709551616
 hf:∀ n,n < 64->I64 (f n)
 pos:∀ n,n < 64->M.testBit n=true->0 < f n
 is:∀ n,n < 64->Cs1 f M n=Cn9 (ls.take i) n
end Go.Proofs.YthlgnjlpakimaaaGreatDoor
namespace Go.Proofs.YthlgnjlpakimaaaGreatDoor
open Go.ChangeShapes Go.WideShapes Go.ChangeAt Go.RowKit
attribute [local irreducible] AW AWY Cd Bk vop C5 Bl Bz qop Cj Cv B4 Aw C4 A7 Bq Pu
attribute [local go_sem] Ce Ao As
def Si (v:List Ab) (n:At) (pre:List (Fin 64)) (o:Nat):Int:=if pre.any (fun x=>decide (x.1=o))=true then Ec v n o else Aa v o
theorem Aa4 (v:List Ab) (n:At) (o:Nat):0<=Ec v n o:=by
 have:=Di v o
 unfold Ec
 split<;>omega
theorem A97 (v:List Ab) (n:At) (pre:List (Fin 64)) (o:Nat):0<=Si v n pre o:=by
 have:=Di v o
 have:=Aa4 v n o
 unfold Si
 split<;>omega
theorem Au3 {v:List Ab} {n:At} {pre:List (Fin 64)} {x:Fin 64} {o:Nat} : Si v n (pre++[x]) o=if o=x.1 then Ec v n x.1 else Si v n pre o:=by
 unfold Si
 rw [List.any_append]
 simp only [List.any_cons,List.any_nil,Bool.or_false]
 by_cases e:o=x.1
 ·subst e;simp
 ·rw [if_neg e,decide_eq_false (fun h=>e h.symm),Bool.or_false]
theorem Bs9 {v:List Ab} {n:At} {pre:List (Fin 64)} {x:Fin 64} : Si v n pre x.1=Ec v n x.1\/Si v n pre x.1=Aa v x.1:=by
 unfold Si
 split
 ·exact .inl rfl
 ·exact .inr rfl
theorem Bs8 {v:List Ab} {n:At} {pre:List (Fin 64)} {x:Fin 64} (h:¬ (Aa v x.1 < Aa n.end_ x.1/\Aa n.start x.1<=Aa v x.1)):F6 (Si v n (pre++[x]))=F6 (Si v n pre) :=
 Fq fun o ho=>by
  rw [Au3]
  split
  ·rename_i e
   subst e
   have hs:Ec v n x.1=Aa v x.1:=by
    unfold Ec
    split<;>omega
   rcases Bs9 (v:=v) (n:=n) (pre:=pre) (x:=x) with e | e<;>omega
  ·rfl
theorem Bd9 {c:Int} {k:Nat} (h:C7 c k=true) (o:Nat):Aa [⟨c,k⟩] o=if o=k then c else 0:=by
 simp only [Aa,h,and_true]
 by_cases e:o=k
 ·subst e;simp
 ·rw [if_neg e,if_neg (by omega)]
theorem Ce0 {v:List Ab} {n:At} {pre:List (Fin 64)} {x:Fin 64} (h1:Aa v x.1 < Aa n.end_ x.1) (h2:Aa n.start x.1<=Aa v x.1) (hr:C7 (Aa n.end_ x.1) x.1=true):E4 [F6 (Si v n pre),[⟨Aa n.end_ x.1,(x.1:Nat)⟩]]=F6 (Si v n (pre++[x])) :=
 Fq fun o ho=>by
  rw [Gf,Nj _ ho (A97 _ _ _ _),Bd9 hr,Au3]
  have h3:=A97 v n pre o
  by_cases e:o=x.1
  ·subst e
   rw [if_pos rfl,if_pos rfl]
   have hs:Ec v n x.1=Aa n.end_ x.1:=by
    unfold Ec
    rw [if_pos h2];omega
   rcases Bs9 (v:=v) (n:=n) (pre:=pre) (x:=x) with e | e<;>omega
  ·rw [if_neg e,if_neg e];omega
theorem Ce1 {v:List Ab} (hv:Ak v=true) (n:At):F6 (Si v n [])=v:=by
 have:F6 (Si v n [])=F6 fun k=>Aa v k:=Fq fun o _=>by simp [Si]
 rw [this,Uh hv]
theorem Ce2 {v:List Ab} {n:At} {xs:List (Fin 64)} (h:xs.map (·.1)=Cy (D9 n.end_) 64):F6 (Si v n xs)=He v n :=
 Fq fun o ho=>by
  unfold Si
  split
  ·rfl
  ·rename_i hh
   have:o∉Cy (D9 n.end_) 64:=fun hm=>hh (by
    rw [<-h,List.mem_map] at hm
    obtain ⟨x,h1,h2⟩:=hm
    exact List.any_eq_true.2 ⟨x,h1,by simpa using h2⟩)
   rw [R9,Qn ho] at this
   have h0:Aa n.end_ o=0:=by
    by_cases e:Aa n.end_ o=0
    ·exact e
    ·exact absurd ⟨ho,by simp [e]⟩ this
   have:=Di v o
   unfold Ec
   rw [h0]
   split<;>omega
theorem C52 (l:List Ab) (s:Ab) (i1:I64 s.count) (i2:I64 s.node):A7 Tryz.prog A8 142 [.iv (stI l),.agg [.val (.int .i64 s.count),.val (.int .i64 s.node)]] (.iv (stI (E4 [l,[s]]))) []:=(Bg7 l s i1 i2).frz trivial
set_option maxRecDepth 100000 in
set_option maxHeartbeats 1600000 in
theorem Ae6 (v:List Ab) (n:At) (hv:Ak v=true):A7 Tryz.prog A8 123 [.iv (stI v),Ev n] (.iv (stI (He v n))) []:=by
 refine A7.ofS (n:=35) (rs:=[.tmp 4]) Tryz.func123 rfl (by kernel_rfl) Tryz.ntmps123 (by kernel_rfl) (by simp) (fun _ _=>A8.later) ?_
 intro hok V w0
 refine g ?_
 refine AW.seq ?_
 refine AW.reg rfl fun KK hKK=>?_
 refine g ?_
 repeat' (refine hKK _ (g ?_);clear hKK KK)
 refine AW.freeze 300 _ rfl ⟨trivial,trivial⟩ ?_
 simp only [go_sem,reduceIte,Nat.reduceEqDiff]
 refine AW.freeze 400 _ rfl ⟨trivial,trivial,trivial,trivial,trivial⟩ ?_
 simp only [go_sem,reduceIte,Nat.reduceEqDiff]
 refine g ?_
 repeat' (first | refine st_ rfl (g ?_) | refine A9 (Al7 _) rfl (g ?_))
 have hI:∀ k:Int,I64 (Aa n.end_ k):=fun k=>by
  refine Nw (fun s hs=>?_) k
  obtain ⟨-,h2,-⟩:=D7 hok.2.1.2.1.2 (Yf s) (List.mem_map_of_mem hs)
  exact h2
 refine AW.le (S:=⟨[(5,.bp 600 0),(2,.ip [stI v]),(3,.ip [stI n.start,stI n.end_,spI n.blur,wrI n.writes]),(12,.fn 221 [.ip [.pt (Pu (fun k=>Aa n.end_ k) (D9 n.end_))]])],[.box 600 [.iv (stI (F6 (Si v n [])))]]⟩) (ρ:=id) ⟨⟨rfl,rfl,rfl,rfl,trivial⟩,⟨by rw [Ce1 hv];rfl,trivial⟩,by simp [Aq,BA.id]⟩ ?_
 refine AW.range (A63 (fun k=>Aa n.end_ k) (D9 n.end_) (N3 _)) [(5,.bp 600 0)] [(2,.ip [stI v]),(3,.ip [stI n.start,stI n.end_,spI n.blur,wrI n.writes]),(12,.fn 221 [.ip [.pt (Pu (fun k=>Aa n.end_ k) (D9 n.end_))]])] (fun pre=>[.box 600 [.iv (stI (F6 (Si v n pre)))]]) (fun _=>True) rfl trivial rfl rfl rfl rfl (fun x=>⟨rfl,rfl⟩) (fun c pre x hsp _=>?_) (fun xs hS _=>?_)
 ·have hm:x.1∈Cy (D9 n.end_) 64:=hsp.subset (by simp)
  rw [R9,Qn x.2] at hm
  have hne:Aa n.end_ x.1≠0:=by simpa using hm.2
  have hpos:=Vm hne
  have hr:C7 (Aa n.end_ x.1) x.1=true:=decide_eq_true ⟨hpos,by omega,by have:=x.2;omega⟩
  have hx:=x.2
  simp only [V4,enE,List.cons_append,List.nil_append]
  refine g ?_
  refine g ?_
  repeat' (first | refine st_ rfl (g ?_) | refine Az (fun h=>g ?_) (fun h=>g ?_) | (refine Ci rfl rfl (fun h e=>?_) (fun h e=>?_)<;>simp only [e]<;>clear e<;>refine g ?_) | refine A9 (A74 _ _) rfl (g ?_) | refine A9 (C52 (F6 (Si v n pre)) ⟨Aa n.end_ x.1,(x.1:Nat)⟩ (hI _) (I64.of (by show (-9223372036854775808:Int)<=(x.1:Nat);omega) (by show ((x.1:Nat):Int)<=9223372036854775807;omega))) rfl (g ?_))
  ·rename_i h1
   exact ⟨trivial,id,⟨rfl,trivial⟩,⟨congrArg (fun l=>some (BA.box 600 [.iv (stI l)])) (Ce0 h1 h hr),trivial⟩,by simp [Aq,BA.id]⟩
  ·exact ⟨trivial,id,⟨rfl,trivial⟩,⟨congrArg (fun l=>some (BA.box 600 [.iv (stI l)])) (Bs8 (fun q=>h q.2)).symm,trivial⟩,by simp [Aq,BA.id]⟩
  ·exact ⟨trivial,id,⟨rfl,trivial⟩,⟨congrArg (fun l=>some (BA.box 600 [.iv (stI l)])) (Bs8 (fun q=>h q.1)).symm,trivial⟩,by simp [Aq,BA.id]⟩
 ·refine g ?_
  rw [Ce2 hS]
  refine g ?_
  repeat' refine st_ rfl (g ?_)
  exact Cm.rfl_ _
end Go.Proofs.YthlgnjlpakimaaaGreatDoor
namespace Go.Proofs.YthlgnjlpakimaaaGreatDoor
open Go.ChangeShapes Go.WideShapes Go.ChangeAt Go.RowKit
attribute [local irreducible] AW AWY Cd Bk vop C5 Bl Bz qop Cj Cv B4 Aw C4 A7 Bq
attribute [local go_sem] Gp Ao As
theorem Cq8 (l:List Ad):spI l=.sl 2 (l.map P9):=rfl
attribute [local go_sem] Cq8 Bt0
set_option maxRecDepth 100000 in
set_option maxHeartbeats 1600000 in
theorem B81 (l:List Ad) (reach now:List Ab) (z:List Av) (hl:l.length<=128) (hz:z.length<=1000000):Fa Tryz.prog A8 120 [.iv (spI l),.iv (stI reach),.ip [stI now],.bp 0 0] (.tup []) [.row 1 122 3 (z.map enZ),.box 0 [.own 1]] [.row 2 122 3 ((z++Wp now l reach).map enZ)] [(0,[.own 2])] []:=by
 refine Fa.of [(3,0)] (n:=25) (rs:=[]) Tryz.func120 rfl (by kernel_rfl) Tryz.ntmps120 (by kernel_rfl) (by simp) ⟨rfl,trivial⟩ rfl rfl fun hok V w0 F=>?_
 have hle:l.length<=1073741824:=by omega
 obtain ⟨C,hC⟩ : ∃ C,Wp now l reach=C:=⟨_,rfl⟩
 rw [hC]
 unfold Wp at hC
 have hcov:=T4 reach now
 obtain ⟨B,hB⟩ : ∃ B,Ay reach now=B:=⟨_,rfl⟩
 rw [hB] at hcov hC
 cases B with
 | true =>
  rw [if_pos rfl] at hC
  subst hC
  rw [List.append_nil]
  refine g ?_
  repeat' (first | refine st_ rfl (g ?_) | refine A9 (hcov) rfl (g ?_))
  exact ⟨fun b=>if b=2 then 1 else b,fun _ _ _ h=>h,⟨rfl,trivial⟩,⟨rfl,rfl,rfl⟩,by simp⟩
 | false =>
  rw [if_neg (by decide)] at hC
  refine g ?_
  repeat' (first | refine st_ rfl (g ?_) | refine A9 (hcov) rfl (g ?_))
  refine AW.loop (fun m:{m:Nat // m<=l.length}=>⟨[(1,.iv (stI reach)),(3,.bp 0 0),(11,.iv (spI l)),(12,.val (.int .i64 (l.length:Nat))),(13,.val (.int .i64 (m.1:Nat)))],[.row 1 122 3 ((z++(l.take m.1).map fun s=>(⟨s,reach⟩ : Av)).map enZ),.box 0 [.own 1],.opq 99 F]⟩) (fun m=>l.length - m.1) ⟨0,Nat.zero_le _⟩ id ⟨⟨rfl,rfl,rfl,?_,rfl,trivial⟩,⟨by simp;rfl,rfl,rfl,trivial⟩,by simp [Aq,BA.id]⟩ fun ⟨m,hm⟩=>?_
  ·simp [AV.ren,Cz]
  simp only
  repeat (refine AW.seq ?_)
  refine AW.reg rfl fun KK hKK=>?_
  refine g ?_
  repeat' (refine hKK _ (g ?_);clear hKK KK)
  repeat (refine AW.seq ?_)
  refine st_ rfl ?_
  refine g ?_
  refine C3 (fun h=>?_) (fun h=>?_)
  ·have hlt:m < l.length:=by have:=of_decide_eq_true h;omega
   obtain ⟨-,o1,o2,-⟩:=D7 (by simpa [spI] using hok.1.2) (P9 l[m]) (List.mem_map_of_mem (List.getElem_mem hlt))
   refine g ?_
   repeat' refine st_ rfl (g ?_)
   refine ⟨by omega,_,C0 (List.getElem?_eq_getElem hlt),?_⟩
   refine g ?_
   repeat' refine Ag (g ?_)
   refine AW.freeze 800 _ rfl ⟨o1,o2,trivial⟩ ?_
   simp only [go_sem,reduceIte,Nat.reduceEqDiff]
   refine AW.drawn (ds:=[17,18,19,20,21,22,23]) (fin:=[2,3,4,5]) (bs:=[3,3,3,3,3,3,4,5]) [⟨[],[],[0,1,2],[],0⟩,⟨[],[],[0,1,2],[],0⟩,⟨[],[],[],[],0⟩,⟨[(19,2)],[],[0,1,2],[],0⟩,⟨[(18,1),(20,3)],[],[],[],0⟩,⟨[(21,4)],[],[],[],1⟩,⟨[(17,0),(22,5)],[],[1,2,3],[0],1⟩,⟨[(23,6)],[],[],[1],1⟩] (by kernel_rfl) rfl (by kernel_rfl) rfl rfl rfl fun KD hKD=>?_
   refine g ?_
   repeat' refine A9 (Kb _) rfl (g ?_)
   refine bs1 (by omega) rfl rfl rfl ⟨o1,o2,trivial,trivial⟩ ?_
   refine g ?_
   refine Bo rfl (by kernel_rfl) (by omega) (by kernel_rfl) rfl (by simp;omega) ?_
   refine g ?_
   repeat' (first | refine st_ rfl (g ?_) | (refine hKD _ _ ⟨rfl,g ?_⟩;clear hKD KD))
   refine ⟨⟨m+1,hlt⟩,fun b=>if b=1 then 2400 else b,⟨⟨rfl,rfl,rfl,rfl,rfl,trivial⟩,⟨?_,rfl,rfl,trivial⟩,by simp [Aq,BA.id]⟩,by show l.length - (m+1) < l.length - m;omega⟩
   show some (BA.row _ _ _ _)=some (BA.row _ _ _ ((z++(l.take (m+1)).map fun s=>(⟨s,reach⟩ : Av)).map enZ))
   rw [List.take_succ_eq_append_getElem hlt]
   simp only [List.map_append,List.append_assoc]
   rfl
  ·obtain rfl:m=l.length:=by have:=of_decide_eq_false h;omega
   refine AW.exit ?_
   simp only [reduceIte]
   rw [List.take_length,hC]
   refine g ?_
   exact ⟨.inr trivial,fun b=>if b=2 then 1 else b,fun _ _ _ h=>h,⟨rfl,trivial⟩,⟨rfl,rfl,rfl⟩,by simp⟩
end Go.Proofs.YthlgnjlpakimaaaGreatDoor
namespace Go.Proofs.YthlgnjlpakimaaaGreatDoor
open Go.ChangeShapes Go.WideShapes Go.ChangeAt Go.RowKit Go.Sort Go.Shelf
structure ZB where
 lo:Nat
 hi:Int
 v:Value
 small:lo < 256
 one:v.oneCell'=true
instance:Inhabited ZB:=⟨⟨0,0,.bool false,by decide,rfl⟩⟩
def Xf (b:ZB):List Value:=[.int .i64 (b.lo:Nat),.int .i64 b.hi,b.v]
def Bp8 (a b:ZB):Int:=(a.lo:Int) - b.lo
theorem Cj7 (a b:ZB):ltOf Bp8 a b=decide (a.lo < b.lo):=by
 unfold ltOf Bp8
 rw [decide_eq_decide]
 omega
theorem Da3:SWO (ltOf Bp8) where
 irrefl x:=by rw [Cj7];simp
 trans x y z h1 h2:=by rw [Cj7] at *;simp at *;omega
 ntrans x y z h1 h2:=by rw [Cj7] at *;simp at *;omega
theorem Cj8 (x y:ZB) (W:World):Calls Tryz.prog 193 #[.agg #[.int .i64 (x.lo:Nat),.int .i64 x.hi,x.v],.agg #[.int .i64 (y.lo:Nat),.int .i64 y.hi,y.v]] W fun e w'=>e=.returned (.int .i64 (Bp8 x y))/\∃ q os',w'=grow (W.drewN q) os':=by
 obtain ⟨a,b,u,ha,hu⟩:=x
 obtain ⟨c,d,v,hc,hv⟩:=y
 unfold Bp8
 simp only
 go_enter Tryz.func193,Tryz.ntmps193
 go_wp2_with fail
 go_ret
 exact ⟨rfl,0,_,by rw [alloc_eq_grow,alloc_eq_grow,grow_grow];rfl⟩
def Bq1 (X:World):List Av->List ZB->Prop
 | [],[]=>True
 | z :: l,b :: d=>((b.lo:Int)=z.span.lo/\b.hi=z.span.hi/\I64 z.span.hi/\Da X b.v (stI z.vec))/\Bq1 X l d
 | _,_=>False
theorem Br4 {X:World} : ∀ {l:List Av} {xs:List Value},(∀ z∈l,0<=z.span.lo/\z.span.lo<=255)->Bw (Ba X) 3 xs (l.map enZ)->∃ d,Bw (Bg1 Xf) 3 xs d/\Bq1 X l d
 | [],xs,_,h=>⟨[],h,trivial⟩
 | z :: l,xs,hz,⟨cs,rest,e,hk,h1,h2⟩=>by
  obtain ⟨d,h3,h4⟩:=Br4 (fun y hy=>hz y (by simp [hy])) h2
  have hz0:=hz z (by simp)
  match cs,h1 with
  | [c0,c1,c2],⟨q0,q1,q2,_⟩ =>
   cases q0 with | val i0=>cases q1 with | val i1 =>
   refine ⟨⟨z.span.lo.toNat,z.span.hi,c2,by omega,q2.one⟩ :: d,⟨_,rest,e,hk,?_,h3⟩,⟨by show ((z.span.lo.toNat:Nat):Int)=_;omega,rfl,i1,q2⟩,h4⟩
   show _=Xf _
   unfold Xf
   simp only
   rw [show ((z.span.lo.toNat:Nat):Int)=z.span.lo by omega]
theorem Ar1 {X:World} : ∀ {l:List Av} {d:List ZB} {xs:List Value},Bq1 X l d->Bw (Bg1 Xf) 3 xs d->Bw (Ba X) 3 xs (l.map enZ)
 | [],[],_,_,h=>h
 | z :: l,b :: d,xs,⟨⟨e0,e1,i1,h3⟩,h4⟩,⟨cs,rest,e,hk,h1,h2⟩=>by
  refine ⟨cs,rest,e,hk,?_,Ar1 h4 h2⟩
  rw [show cs=Xf b from h1]
  unfold Xf
  refine ⟨?_,?_,h3,trivial⟩
  ·rw [e0];exact .val (by rw [<-e0];have:=b.small;exact I64.of (by omega) (by omega))
  ·rw [e1];exact .val i1
 | [],_ :: _,_,h,_=>h.elim
 | _ :: _,[],_,h,_=>h.elim
theorem Zk {X:World} : ∀ {l:List Av} {d:List ZB},Bq1 X l d->l.length=d.length
 | [],[],_=>rfl
 | _ :: _,_ :: _,h=>congrArg (·+1) (Zk h.2)
 | [],_ :: _,h=>h.elim
 | _ :: _,[],h=>h.elim
theorem Bx7 {X:World} {d d':List ZB} (hp:d.Perm d'):∀ {l:List Av},Bq1 X l d->∃ l',l.Perm l'/\Bq1 X l' d':=by
 induction hp with
 | nil=>exact fun {l} h=>⟨l,List.Perm.refl _,h⟩
 | cons x _ ih =>
  intro l h
  cases l with
  | nil=>exact h.elim
  | cons z l =>
   obtain ⟨l',h1,h2⟩:=ih h.2
   exact ⟨z :: l',h1.cons z,h.1,h2⟩
 | swap x y d =>
  intro l h
  match l,h with
  | z :: u :: l,⟨h1,h2,h3⟩=>exact ⟨u :: z :: l,List.Perm.swap _ _ _,h2,h1,h3⟩
 | trans _ _ ih1 ih2 =>
  intro l h
  obtain ⟨l',h1,h2⟩:=ih1 h
  obtain ⟨l'',h3,h4⟩:=ih2 h2
  exact ⟨l'',h1.trans h3,h4⟩
theorem Br5 {X:World} : ∀ {l:List Av} {d:List ZB},Bq1 X l d->d.map (fun b=>(b.lo:Int))=l.map fun z=>z.span.lo
 | [],[],_=>rfl
 | _ :: _,_ :: _,h=>by rw [List.map_cons,List.map_cons,h.1.1,Br5 h.2]
 | [],_ :: _,h=>h.elim
 | _ :: _,[],h=>h.elim
theorem Wy {α:Type} {k:α->Int} : ∀ {l m:List α},l.Pairwise (fun a b=>k a < k b)->m.Pairwise (fun a b=>k a < k b)->(∀ x,x∈l↔x∈m)->l=m
 | [],[],_,_,_=>rfl
 | [],y :: m,_,_,h=>by have:=(h y).2 (by simp);cases this
 | x :: l,[],_,_,h=>by have:=(h x).1 (by simp);cases this
 | x :: l,y :: m,h1,h2,h=>by
  obtain ⟨a1,a2⟩:=List.pairwise_cons.1 h1
  obtain ⟨b1,b2⟩:=List.pairwise_cons.1 h2
  have e:x=y:=by
   rcases List.mem_cons.1 ((h x).1 (by simp)) with e | hx
   ·exact e
   ·rcases List.mem_cons.1 ((h y).2 (by simp)) with e | hy
    ·exact e.symm
    ·have:=a1 y hy;have:=b1 x hx;omega
  subst e
  congr 1
  refine Wy a2 b2 fun w=>⟨fun hw=>?_,fun hw=>?_⟩
  ·rcases List.mem_cons.1 ((h w).1 (by simp [hw])) with e | h3
   ·have:=a1 w hw;rw [e] at this;omega
   ·exact h3
  ·rcases List.mem_cons.1 ((h w).2 (by simp [hw])) with e | h3
   ·have:=b1 w hw;rw [e] at this;omega
   ·exact h3
theorem Bi5 {l s:List Av} (hl:∀ z∈l,0<=z.span.lo/\z.span.lo<=255) (hp:s.Perm l) (hs:s.Pairwise fun a b=>a.span.lo < b.span.lo) :
  Fa Tryz.prog A8 192 [.own 1,.fn 193 []] (.tup []) [.row 1 122 3 (l.map enZ)] [] [] [.row 1 122 3 (s.map enZ)]:=by
 refine Fa.keep (r:=.tuple #[]) Tryz.func192 rfl (by kernel_rfl) (fun E X=>.tup rfl fun j v c a b=>by simp at a) fun X w E v vs base hX hbase hG h hvs=>?_
 obtain ⟨u,rfl,hu⟩ : ∃ u,vs=[u]/\Bp E X u (.fn 193 []):=by
  obtain ⟨u,vs',e,h1,h2⟩:=Au.cons_iff.1 hvs
  rw [Au.nil_iff.1 h2] at e
  exact ⟨u,e,h1⟩
 cases hu with
 | @fn _ fv _ p1 p2 =>
 obtain rfl:fv=#[]:=Array.eq_empty_of_size_eq_zero (by simpa using p1)
 obtain ⟨xs,hown,hch,hbig⟩:=id h
 obtain ⟨d,hd1,hd2⟩:=Br4 hl hch
 have hdl:=Zk hd2
 have hE:Ah (Bg1 Xf) 3 w base 122 v d:=⟨xs,by rw [List.length_map] at hown;rw [<-hdl];exact hown,hd1,by rw [<-hdl];simpa using hbig⟩
 rcases hE.forms with ⟨rfl,hd0⟩ | ⟨g,c,rfl,hg1,hg2⟩
 ·have:=AnyF.slices_SortFunc_none (P:=Tryz.prog) (ρ:=T6) { B47 with } none 0 (.func (.func 193) #[] #[]) w
  refine Calls.mono this ?_
  rintro e w' ⟨rfl,rfl⟩
  have hl0:l=[]:=List.eq_nil_of_length_eq_zero (by rw [hdl,hd0];rfl)
  subst hl0
  obtain rfl:s=[]:=List.Perm.eq_nil hp
  exact ⟨rfl,h,World.grownBy.refl _ _⟩
 ·have hcon:=AnyQ.slices_SortFunc (P:=Tryz.prog) (ρ:=T6) B47 3 Tryz.isAgg122 Tryz.sizeOf122 Xf (fun _=>rfl)
   (fun x v hv=>by simp [Xf] at hv;rcases hv with rfl | rfl | rfl<;>first | rfl | exact x.one) Bp8 Da3 193 #[] g 0 c d.toArray w (enters_of Tryz.func193 (by kernel_rfl) rfl)
   (fun _ _ _ _ x y=>Cj8 x y _) (At5 (k:=3) (fun _=>rfl) (by decide) hE) hg2 (by rw [List.length_map] at hbig;simp only [List.size_toArray];omega)
  refine Calls.mono hcon ?_
  rintro e w' ⟨rfl,d',n,os,hp',hs',rfl⟩
  obtain ⟨p1,p2⟩:=Ah4 hp'
  have hsz:d'.size=d.length:=by simpa using p2
  obtain ⟨o1,o2⟩:=Af1 (k:=3) (enc:=Xf) (fun _=>rfl) hE n d' os hsz
  have hpd:d.Perm d'.toList:=by simpa using p1.symm
  obtain ⟨l',q1,q2⟩:=Bx7 hpd hd2
  have hs2:SortedIn (ltOf Bp8) 0 d'.size d':=by rw [p2];exact hs'
  have hle:l'.Pairwise fun a b=>a.span.lo<=b.span.lo:=by
   have h1:(d'.toList.map fun b=>(b.lo:Int)).Pairwise (·<=·):=by
    rw [List.pairwise_map]
    refine (Z8 hs2).imp ?_
    intro a b hab
    rw [Cj7,decide_eq_false_iff_not] at hab
    omega
   rw [Br5 q2,List.pairwise_map] at h1
   exact h1
  have hne:l'.Pairwise fun a b=>a.span.lo≠b.span.lo:=by
   have:s.Pairwise fun a b=>a.span.lo≠b.span.lo:=hs.imp fun h=>by omega
   exact this.perm (hp.trans q1) fun h=>h.symm
  have hlt:l'.Pairwise fun a b=>a.span.lo < b.span.lo:=(hle.and hne).imp fun h=>by have:=h.1;have:=h.2;omega
  obtain rfl:s=l':=Wy (k:=fun z:Av=>z.span.lo) hs hlt fun x=>(hp.mem_iff).trans q1.mem_iff
  obtain ⟨xs',r1,r2,r3⟩:=o1
  refine ⟨rfl,⟨xs',?_,Ar1 q2 r2,by rw [List.length_map,Zk q2];exact r3⟩,o2⟩
  rw [List.length_map,Zk q2]
  exact r1
end Go.Proofs.YthlgnjlpakimaaaGreatDoor
namespace Go.Proofs.YthlgnjlpakimaaaGreatDoor
open Go.ChangeShapes Go.WideShapes Go.ChangeAt Go.RowKit
attribute [local irreducible] AW AWY Cd Bk vop C5 Bl Bz qop Cj Cv B4 Aw C4 A7 Bq
attribute [local go_sem] Gp Gv Ao As
theorem Cf9 {s:List Av} (h:Vt s):s.Pairwise fun a b=>a.span.lo < b.span.lo :=
 h.1.imp_of_mem fun {a b} ha _ hab=>by
  have:=(h.2 a ha).2
  simp only [Cu,Bool.and_eq_true,decide_eq_true_eq] at this
  omega
theorem Bf7 {s:List Av} (h:Vt s) {z:Av} (hz:z∈s):0<=z.span.lo/\z.span.lo<=z.span.hi/\z.span.hi<=255:=by
 have:=h.2 z hz
 simp only [Cu,Bool.and_eq_true,decide_eq_true_eq] at this
 omega
set_option maxRecDepth 100000 in
set_option maxHeartbeats 1600000 in
theorem Bb1 {l s:List Av} (hp:s.Perm l) (hA:Vt s) (hbig:s.length<=1000000):Fa Tryz.prog A8 129 [.own 1] (.own 0) [.row 1 122 3 (l.map enZ)] [.row 0 122 3 ((Mp s).map enZ)] [] []:=by
 refine Fa.of [] (n:=59) (rs:=[.tmp 2]) Tryz.func129 rfl (by kernel_rfl) Tryz.ntmps129 (by kernel_rfl) (by simp) trivial rfl rfl fun hok V w0 F=>?_
 have hl:∀ z∈l,0<=z.span.lo/\z.span.lo<=255:=fun z hz=>by have:=Bf7 hA (hp.mem_iff.2 hz);omega
 refine g ?_
 refine AW.seq ?_
 refine AW.reg rfl fun KK hKK=>?_
 refine g ?_
 repeat' (refine hKK _ (g ?_);clear hKK KK)
 refine AW.seq ?_
 refine AW.reg rfl fun KK hKK=>?_
 refine g ?_
 refine Yk [] [.opq 99 F] id (Bi5 hl hp (Cf9 hA)) rfl rfl rfl ?_
 refine g ?_
 repeat' (refine hKK _ (g ?_);clear hKK KK)
 refine AW.freeze 1 _ rfl trivial ?_
 simp only [go_sem,reduceIte,Nat.reduceEqDiff]
 refine g ?_
 repeat' refine st_ rfl (g ?_)
 refine AW.adopt 3 9900 122 3 rfl rfl ?_
 refine AW.loop (fun m:{m:Nat // m<=s.length}=>⟨[(3,.own 9900),(9,.iv (znI s)),(10,.val (.int .i64 (s.length:Nat))),(11,.val (.int .i64 (m.1:Nat)))],[.row 9900 122 3 ((Mp (s.take m.1)).map enZ),.opq 99 F]⟩) (fun m=>s.length - m.1) ⟨0,Nat.zero_le _⟩ id ⟨⟨rfl,rfl,?_,rfl,trivial⟩,⟨rfl,rfl,trivial⟩,by simp [Aq,BA.id]⟩ fun ⟨m,hm⟩=>?_
 ·simp [AV.ren,Cz]
 simp only
 repeat (refine AW.seq ?_)
 refine AW.reg rfl fun KK hKK=>?_
 refine g ?_
 repeat' (refine hKK _ (g ?_);clear hKK KK)
 repeat (refine AW.seq ?_)
 refine st_ rfl ?_
 refine g ?_
 refine C3 (fun h=>?_) (fun h=>?_)
 ·have hlt:m < s.length:=by have:=of_decide_eq_true h;omega
  have hin:=Bf7 hA (List.getElem_mem hlt)
  have hj:=At0 hA m hm
  have hs:=Aj2 (s.take m) s[m]
  rw [<-List.take_succ_eq_append_getElem hlt] at hs
  obtain ⟨x,hx⟩ : ∃ x,s[m]=x:=⟨_,rfl⟩
  have hget:=C0 (f:=enZ) (List.getElem?_eq_getElem hlt)
  rw [hx] at hin hs hget
  obtain ⟨J,hJ⟩ : ∃ J,Mp (s.take m)=J:=⟨_,rfl⟩
  rw [hJ] at hj hs ⊢
  have hJl:J.length<=m:=by have:=hj.len;rw [List.length_take] at this;omega
  refine g ?_
  repeat' refine st_ rfl (g ?_)
  refine ⟨by omega,_,hget,?_⟩
  refine g ?_
  repeat' (first | refine st_ rfl (g ?_) | refine Ag (g ?_))
  have w1:I64 x.span.lo:=I64.of (by omega) (by omega)
  have w2:I64 x.span.hi:=I64.of (by omega) (by omega)
  refine AW.freeze 600 _ rfl ⟨w1,w2,trivial,trivial⟩ ?_
  simp only [go_sem,reduceIte,Nat.reduceEqDiff]
  refine AW.drawn (ds:=[17,18,19,20,21,22,23,24,25,26,27,28,29,30,31,32,33,34,35,36,37,38,39,40,41,42,43]) (fin:=[0,1]) (bs:=[2,2,2,2,2,2,2,2,2,2,2,2,2,2,2,2,2,2,2,2,2,2,2,2,2,2,2]) [⟨[],[],[],[],0⟩,⟨[(17,0)],[],[],[],0⟩,⟨[(18,1)],[],[],[],0⟩,⟨[],[],[],[],0⟩,⟨[],[],[],[],0⟩,⟨[(21,4)],[],[],[],0⟩,⟨[(20,3),(22,5)],[],[0,1],[],0⟩,⟨[(23,6)],[],[],[],0⟩,⟨[(24,7)],[],[],[],0⟩,⟨[(25,8)],[],[0,1],[],0⟩,⟨[(26,9)],[],[],[],0⟩,⟨[],[],[],[],0⟩,⟨[(28,11)],[],[],[],0⟩,⟨[(29,12)],[],[0,1],[],0⟩,⟨[(27,10),(30,13)],[],[],[],0⟩,⟨[(19,2),(31,14)],[],[],[],0⟩,⟨[(32,15)],[],[],[],0⟩,⟨[],[],[],[],0⟩,⟨[],[],[],[],0⟩,⟨[(35,18)],[],[],[],0⟩,⟨[(34,17),(36,19)],[],[0,1],[],0⟩,⟨[(37,20)],[],[],[],0⟩,⟨[(38,21)],[],[0,1],[],0⟩,⟨[],[],[],[],0⟩,⟨[(40,23)],[],[0,1],[],0⟩,⟨[(39,22),(41,24)],[],[0,1],[],0⟩,⟨[(33,16),(42,25)],[],[],[],0⟩] (by kernel_rfl) rfl (by kernel_rfl) rfl rfl rfl fun KD hKD=>?_
  cases hy:J.getLast? with
  | none =>
   have hJ0:J=[]:=List.getLast?_eq_none_iff.1 hy
   subst hJ0
   simp only [Se,List.getLast?_nil] at hs
   refine g ?_
   repeat' (first | refine st_ rfl (g ?_) | (refine hKD _ _ ⟨rfl,g ?_⟩;clear hKD KD))
   refine bs1 (by omega) rfl rfl rfl ⟨w1,w2,trivial,trivial⟩ ?_
   refine g ?_
   refine Bo rfl (by kernel_rfl) (by omega) (by kernel_rfl) rfl (by simp) ?_
   refine g ?_
   repeat' refine st_ rfl (g ?_)
   refine ⟨⟨m+1,hlt⟩,fun b=>if b=9900 then 5700 else b,⟨⟨rfl,rfl,rfl,rfl,trivial⟩,⟨?_,rfl,trivial⟩,by simp [Aq,BA.id]⟩,by show s.length - (m+1) < s.length - m;omega⟩
   show some (BA.row _ _ _ _)=some (BA.row _ _ _ ((Mp (s.take (m+1))).map enZ))
   rw [hs]
   rfl
  | some y =>
   obtain ⟨D,hD⟩ : ∃ D,J.dropLast=D:=⟨_,rfl⟩
   have hl2:=Sd hy
   rw [hD] at hl2
   have hyF:=F3 hj.formed y (List.mem_of_getLast? hy)
   simp only [Cu,Bool.and_eq_true,decide_eq_true_eq] at hyF
   have hye:=Sw hj.formed ⟨by decide,by decide⟩
   rw [Option.or_none,hy] at hye
   simp only [Bu] at hye
   simp only [Se,hy,hD] at hs
   have hlen:J.length=D.length+1:=by rw [<-hl2];simp
   have hJget:J[D.length]? = some y:=by rw [<-hl2];simp
   have hget2:=C0 (f:=enZ) hJget
   have hcast:((J.length:Nat):Int) - 1=(D.length:Nat):=by omega
   have hi:((J.length:Int) - 1).toNat=D.length:=by omega
   refine g ?_
   repeat' (refine Kf rfl rfl (fun h e=>?_) (fun h e=>?_)<;>simp only [e]<;>clear e<;>refine g ?_)
   ·refine ⟨by omega,by omega,?_⟩
    rw [hi]
    refine g ?_
    repeat' refine Ag (g ?_)
    refine ⟨_,hget2,?_⟩
    refine g ?_
    repeat' (first | refine st_ rfl (g ?_) | refine Ag (g ?_) | (refine hKD _ _ ⟨rfl,g ?_⟩;clear hKD KD) | (refine Kf rfl rfl (fun h e=>?_) (fun h e=>?_)<;>simp only [e]<;>clear e<;>refine g ?_))
    ·refine ⟨by omega,by omega,?_⟩
     rw [hi]
     refine g ?_
     repeat' refine Ag (g ?_)
     refine ⟨_,hget2,?_⟩
     refine g ?_
     repeat' (first | refine st_ rfl (g ?_) | refine Ag (g ?_) | refine Az (fun h=>g ?_) (fun h=>g ?_) | (refine hKD _ _ ⟨rfl,g ?_⟩;clear hKD KD) | refine A9 (Wj _ _) rfl (g ?_))
     ·refine ⟨by omega,by omega,?_⟩
      rw [hi]
      refine g ?_
      repeat' refine Ag (g ?_)
      refine ⟨_,_,rfl,⟨w2,trivial⟩,hget2,?_⟩
      refine g ?_
      repeat' (first | refine st_ rfl (g ?_) | refine Ag (g ?_))
      rename_i h1
      refine ⟨⟨m+1,hlt⟩,id,⟨⟨rfl,rfl,rfl,rfl,trivial⟩,⟨?_,rfl,trivial⟩,by simp [Aq,BA.id]⟩,by show s.length - (m+1) < s.length - m;omega⟩
      show some (BA.row _ _ _ _)=some (BA.row _ _ _ ((Mp (s.take (m+1))).map enZ))
      rw [hs,if_pos ⟨h1,h⟩,<-hl2,List.map_append,List.map_append,List.set_append_right _ _ (by simp)]
      simp
      rfl
     ·refine bs1 (by omega) rfl rfl rfl ⟨w1,w2,trivial,trivial⟩ ?_
      refine g ?_
      refine Bo rfl (by kernel_rfl) (by omega) (by kernel_rfl) rfl (by simp;omega) ?_
      refine g ?_
      repeat' refine st_ rfl (g ?_)
      refine ⟨⟨m+1,hlt⟩,fun b=>if b=9900 then 5700 else b,⟨⟨rfl,rfl,rfl,rfl,trivial⟩,⟨?_,rfl,trivial⟩,by simp [Aq,BA.id]⟩,by show s.length - (m+1) < s.length - m;omega⟩
      show some (BA.row _ _ _ _)=some (BA.row _ _ _ ((Mp (s.take (m+1))).map enZ))
      rw [hs,if_neg (fun q=>h q.2),List.map_append]
      rfl
    ·refine bs1 (by omega) rfl rfl rfl ⟨w1,w2,trivial,trivial⟩ ?_
     refine g ?_
     refine Bo rfl (by kernel_rfl) (by omega) (by kernel_rfl) rfl (by simp;omega) ?_
     refine g ?_
     repeat' refine st_ rfl (g ?_)
     refine ⟨⟨m+1,hlt⟩,fun b=>if b=9900 then 5700 else b,⟨⟨rfl,rfl,rfl,rfl,trivial⟩,⟨?_,rfl,trivial⟩,by simp [Aq,BA.id]⟩,by show s.length - (m+1) < s.length - m;omega⟩
     show some (BA.row _ _ _ _)=some (BA.row _ _ _ ((Mp (s.take (m+1))).map enZ))
     rw [hs,if_neg (fun q=>h q.1),List.map_append]
     rfl
   ·omega
 ·obtain rfl:m=s.length:=by have:=of_decide_eq_false h;omega
  refine AW.exit ?_
  simp only [reduceIte]
  rw [List.take_length]
  refine g ?_
  repeat' refine st_ rfl (g ?_)
  exact ⟨fun b=>if b=0 then 9900 else b,fun _ _ _ h=>h,trivial,⟨rfl,rfl⟩,by simp⟩
end Go.Proofs.YthlgnjlpakimaaaGreatDoor
namespace Go.Proofs.YthlgnjlpakimaaaGreatDoor
open Go.ChangeShapes Go.WideShapes Go.ChangeAt Go.RowKit
attribute [local irreducible] AW AWY Cd Bk vop C5 Bl Bz qop Cj Cv B4 Aw C4 A7 Bq
attribute [local go_sem] Gp Gv Ce Eh Fc Ao As
theorem Cq2 (ls:List (List Ab)):A7 Tryz.prog A8 119 [.iv (Cq6 ls)] (.iv (stI (E4 ls))) []:=(Sy ls).frz trivial
theorem C75 (ls:List (List Ad)) (hs:F5 ls<=1073741824):A7 Tryz.prog A8 125 [.iv (Cq7 ls)] (.iv (spI (Br ls.flatten))) []:=(T8 ls hs).frz trivial
theorem Ak5 (now:List Ab) (l:List Ad) (v:List Ab):(Wp now l v).length<=l.length:=by unfold Wp;split<;>simp
theorem Bl1 (n:At) (now:List Ab) (x:Av):(Qh n now x).length<=256:=by
 unfold Qh
 rw [List.length_append]
 have h1:=Ak5 now (Cw [x.span] (K1 n (He x.vec n))) x.vec
 have h2:=Ak5 now (Gn [x.span] (K1 n (He x.vec n))) (He x.vec n)
 have h3:(Cw [x.span] (K1 n (He x.vec n))).length<=128:=Ez _
 have h4:(Gn [x.span] (K1 n (He x.vec n))).length<=128:=Ez _
 omega
theorem A31 (n:At) (now:List Ab):∀ l:List Av,(Lr n now l).length<=256*l.length
 | []=>Nat.le_refl _
 | x :: l=>by
  have h1:=A31 n now l
  have h2:=Bl1 n now x
  have:Lr n now (x :: l)=Qh n now x++Lr n now l:=by simp [Lr]
  rw [this,List.length_append,List.length_cons]
  omega
theorem C70 {n:At} (h:Ae n=true) (far:List Ab):∀ m,((n.writes.take m).foldl (K3 far) n.blur).length<=128:=by
 intro m
 have:∀ (l:List Ai) (s:List Ad),s.length<=128->(l.foldl (K3 far) s).length<=128:=by
  intro l
  induction l with
  | nil=>exact fun s hs=>hs
  | cons w l ih =>
   intro s hs
   refine ih _ ?_
   unfold K3
   split
   ·exact hs
   ·exact Ez _
 exact this _ _ ((El _).1 (Cs.1 h).2.2.2.1).1
theorem Ab7 {q:List Av×List Ab×Int} {e:Int} (h:q=([],[],e)):Cm (.tup [.val (.slice none 0 0),.val (.slice none 0 0),.val (.int .i64 e)]) (.tup [.iv (znI q.1),.iv (stI q.2.1),.val (.int .i64 q.2.2)]):=by
 subst h
 refine G6 rfl fun p hp=>?_
 simp only [List.zip_cons_cons,List.zip_nil_right,List.mem_cons,List.not_mem_nil,or_false] at hp
 rcases hp with rfl | rfl | rfl
 ·exact Bf 3
 ·exact Bf 2
 ·exact Cm.rfl_ _
set_option maxRecDepth 100000 in
set_option maxHeartbeats 3200000 in
theorem Bh1 (z:List Av) (known:List Ab) (n:At):A7 Tryz.prog A8 46 [.iv (znI z),.iv (stI known),Ev n] (.tup [.iv (znI (Kl z known n).1),.iv (stI (Kl z known n).2.1),.val (.int .i64 (Kl z known n).2.2)]) []:=by
 refine A7.ofS (n:=90) (rs:=[.tmp 6,.tmp 7,.tmp 8]) Tryz.func46 rfl (by kernel_rfl) Tryz.ntmps46 (by kernel_rfl) (by simp) (fun _ _=>A8.later) ?_
 intro hok V w0
 obtain ⟨R,hR⟩ : ∃ R,Kl z known n=R:=⟨_,rfl⟩
 rw [hR]
 unfold Kl T5 at hR
 have hwl:n.writes.length<=1073741824:=by simpa [wrI] using hok.2.2.1.2.2.2.1.1
 refine g ?_
 refine AW.seq ?_
 refine AW.reg rfl fun KK hKK=>?_
 refine g ?_
 repeat' (refine hKK _ (g ?_);clear hKK KK)
 refine AW.freeze 600 _ rfl ⟨trivial,trivial,trivial,trivial,trivial⟩ ?_
 simp only [go_sem,reduceIte,Nat.reduceEqDiff]
 refine g ?_
 repeat' (first | refine st_ rfl (g ?_) | refine C3 (fun h=>g ?_) (fun h=>g ?_) | (refine Ej rfl rfl (fun h=>?_) (fun h=>?_)<;>simp only [h]<;>refine g ?_) | refine A9 (Pj _) rfl (g ?_) | refine A9 (Ke _) rfl (g ?_) | refine A9 (Mc _) rfl (g ?_) | refine A9 (Ai2 _ _) rfl (g ?_))
 ·rw [if_neg (by simp at h;simp [h])] at hR
  exact Ab7 hR.symm
 ·rw [if_neg (by simp at h;simp [h])] at hR
  exact Ab7 hR.symm
 ·rw [if_neg (by simp at h;simp [h])] at hR
  exact Ab7 hR.symm
 ·rename_i h1 h2 h3
  rw [if_pos (by simp at *;simp [*]),if_neg (by simp at h;simp [h])] at hR
  exact Ab7 hR.symm
 rename_i h1 h2 h3
 have hz:B7 z=true:=by simpa using h1
 have hk:Ak known=true:=by simpa using h2
 have hn:Ae n=true:=by simpa using h3
 rw [if_pos (by simp [hz,hk,hn]),if_pos (by simpa using h)] at hR
 refine bd2 (by omega) rfl rfl rfl ⟨trivial,trivial⟩ rfl rfl rfl ⟨trivial,trivial⟩ ?_
 refine g ?_
 refine A9 (Cq2 [known,n.end_]) rfl ?_
 refine g ?_
 refine AW.freeze 1000 _ rfl ⟨trivial,trivial⟩ ?_
 simp only [go_sem,reduceIte,Nat.reduceEqDiff]
 refine g ?_
 repeat' (first | refine st_ rfl (g ?_) | refine A9 (B86 _ _) rfl (g ?_))
 obtain ⟨now,hnow⟩ : ∃ now,E4 [known,n.end_]=now:=⟨_,rfl⟩
 have hkt:Bi known n=now:=hnow
 rw [hnow]
 rw [hkt] at hR
 obtain ⟨Z,hZ⟩ : ∃ Z,Et (Ex z known n)=Z:=⟨_,rfl⟩
 rw [hZ] at hR
 subst hR
 simp only
 have hpin:=By4 hz hk
 have hzl:z.length<=256:=by
  have:(z.length:Int)<=255 - -1:=A21 hz (by decide)
  omega
 refine AW.adoptB 1100 9900 122 3 rfl rfl ?_
 refine AW.le (S:=⟨[(10,.bp 1100 0),(11,.bp 1200 0),(5,.ip [stI n.start,stI n.end_,spI n.blur,wrI n.writes]),(9,.ip [stI now]),(43,.fn 188 [.ip [znI z],.ip [stI known]])],[.row 9900 122 3 ((Lr n now []).map enZ),.box 1100 [.own 9900],.box 1200 [.fn 120 [.ip [stI now],.bp 1100 0]]]⟩) (ρ:=id) ⟨⟨rfl,rfl,rfl,rfl,rfl,trivial⟩,⟨rfl,rfl,rfl,trivial⟩,by simp [Aq,BA.id]⟩ ?_
 refine AW.range (B85 z known hz) [(10,.bp 1100 0),(11,.bp 1200 0)] [(5,.ip [stI n.start,stI n.end_,spI n.blur,wrI n.writes]),(9,.ip [stI now]),(43,.fn 188 [.ip [znI z],.ip [stI known]])] (fun pre=>[.row 9900 122 3 ((Lr n now pre).map enZ),.box 1100 [.own 9900],.box 1200 [.fn 120 [.ip [stI now],.bp 1100 0]]]) (fun _=>True) rfl trivial rfl rfl rfl rfl (fun x=>⟨rfl,rfl⟩) (fun c pre x hsp hI=>?_) (fun xs hS hI=>?_)
 ·have hl:=hsp.length_le
  have hl2:=Ah3 z known
  rw [List.length_append,List.length_singleton] at hl
  have hx:=hpin x (hsp.subset (by simp))
  have htl:=A31 n now pre
  have w1:I64 x.span.lo:=Bb9 (by simp;omega)
  have w2:I64 x.span.hi:=Bb9 (by simp;omega)
  have hsn:=Bh5 n now pre x
  simp only [V4,Df9,zoA,List.cons_append,List.nil_append]
  refine g ?_
  refine AW.reg rfl fun KK hKK=>?_
  refine g ?_
  repeat' (refine hKK _ (g ?_);clear hKK KK)
  refine AW.freeze 1300 _ rfl ⟨w1,w2,trivial,trivial⟩ ?_
  simp only [go_sem,reduceIte,Nat.reduceEqDiff]
  refine g ?_
  repeat' refine st_ rfl (g ?_)
  refine bd1 (by omega) rfl rfl rfl ⟨w1,w2,trivial⟩ ?_
  refine g ?_
  repeat' (first | refine st_ rfl (g ?_) | refine A9 (Ae6 x.vec n hx.2) rfl (g ?_))
  obtain ⟨far,hfar⟩ : ∃ far,He x.vec n=far:=⟨_,rfl⟩
  have hsl:=C70 hn far
  have hst:K1 n (He x.vec n)=(n.writes.take n.writes.length).foldl (K3 far) n.blur:=by rw [hfar,List.take_length];rfl
  rw [hfar]
  refine AW.loop (fun m:{m:Nat // m<=n.writes.length}=>⟨[(10,.bp 1100 0),(11,.bp 1200 0),(12,.ip [.val (.int .i64 x.span.lo),.val (.int .i64 x.span.hi),stI x.vec]),(13,.iv (spI [x.span])),(14,.iv (stI far)),(15,.iv (spI ((n.writes.take m.1).foldl (K3 far) n.blur))),(55,.iv (wrI n.writes)),(56,.val (.int .i64 (n.writes.length:Nat))),(57,.val (.int .i64 (m.1:Nat)))],[.row 9900 122 3 ((Lr n now pre).map enZ),.box 1100 [.own 9900],.box 1200 [.fn 120 [.ip [stI now],.bp 1100 0]]]⟩) (fun m=>n.writes.length - m.1) ⟨0,Nat.zero_le _⟩ id ⟨⟨rfl,rfl,rfl,rfl,rfl,rfl,rfl,?_,rfl,trivial⟩,⟨rfl,rfl,rfl,trivial⟩,by simp [Aq,BA.id]⟩ fun ⟨m,hm⟩=>?_
  ·simp [AV.ren,Cz]
  simp only
  repeat (refine AW.seq ?_)
  refine AW.reg rfl fun KK hKK=>?_
  refine g ?_
  repeat' (refine hKK _ (g ?_);clear hKK KK)
  repeat (refine AW.seq ?_)
  refine st_ rfl ?_
  refine g ?_
  refine C3 (fun h=>?_) (fun h=>?_)
  ·have hlt:m < n.writes.length:=by have:=of_decide_eq_true h;omega
   have hget:=C0 (f:=enW) (List.getElem?_eq_getElem hlt)
   obtain ⟨-,o1,o2,o3,-⟩:=D7 (by simpa [wrI] using hok.2.2.1.2.2.2.1.2) (enW n.writes[m]) (List.mem_map_of_mem (List.getElem_mem hlt))
   have hs:=List.foldl_append (f:=K3 far) (b:=n.blur) (l:=n.writes.take m) (l':=[n.writes[m]])
   rw [<-List.take_succ_eq_append_getElem hlt] at hs
   have hsm:=hsl m
   obtain ⟨S,hS⟩ : ∃ S,(n.writes.take m).foldl (K3 far) n.blur=S:=⟨_,rfl⟩
   rw [hS] at hs hsm ⊢
   simp only [List.foldl_cons,List.foldl_nil,K3] at hs
   refine g ?_
   repeat' (first | refine st_ rfl (g ?_) | refine C3 (fun h=>g ?_) (fun h=>g ?_) | refine ix_ (by omega) (g ?_) | refine A9 (A23 far n.writes[m].stamp) rfl (g ?_))
   ·obtain ⟨o,ho⟩ : ∃ o,n.writes[m].object=o:=⟨_,rfl⟩
    rw [ho] at hs ⊢
    have o3:I64 o:=by rw [<-ho];exact o3
    refine bd1 (by omega) rfl rfl rfl ⟨o3,trivial⟩ ?_
    refine g ?_
    repeat' refine A9 (Cn4 [o]) rfl (g ?_)
    obtain ⟨T,hT⟩ : ∃ T,Br (Pa [o])=T:=⟨_,rfl⟩
    have hTl:T.length<=128:=by rw [<-hT];exact Ez _
    rw [hT] at hs ⊢
    refine bd2 (by omega) rfl rfl rfl ⟨trivial,trivial⟩ rfl rfl rfl ⟨trivial,trivial⟩ ?_
    refine g ?_
    repeat' (first | refine st_ rfl (g ?_) | refine A9 (C75 [S,T] (by simp [F5];omega)) rfl (g ?_))
    refine ⟨⟨m+1,hlt⟩,id,⟨⟨rfl,rfl,rfl,rfl,rfl,?_,rfl,rfl,rfl,trivial⟩,⟨rfl,rfl,rfl,trivial⟩,by simp [Aq,BA.id]⟩,by show n.writes.length - (m+1) < n.writes.length - m;omega⟩
    show _=AV.iv (spI _)
    rw [hs,if_neg (by simpa using h)]
    simp
    rfl
   ·refine ⟨⟨m+1,hlt⟩,id,⟨⟨rfl,rfl,rfl,rfl,rfl,?_,rfl,rfl,rfl,trivial⟩,⟨rfl,rfl,rfl,trivial⟩,by simp [Aq,BA.id]⟩,by show n.writes.length - (m+1) < n.writes.length - m;omega⟩
    show _=AV.iv (spI _)
    rw [hs,if_pos (by simpa using h)]
    rfl
  ·obtain rfl:m=n.writes.length:=by have:=of_decide_eq_false h;omega
   refine AW.exit ?_
   simp only [reduceIte]
   rw [<-hst]
   have hp1:=B81 (Cw [x.span] (K1 n (He x.vec n))) x.vec now (Lr n now pre) (Ez _) (by omega)
   obtain ⟨Z1,hZ1⟩ : ∃ Z1,Lr n now pre++Wp now (Cw [x.span] (K1 n (He x.vec n))) x.vec=Z1:=⟨_,rfl⟩
   have hZl:Z1.length<=256*pre.length+128:=by
    rw [<-hZ1,List.length_append]
    have h1:=Ak5 now (Cw [x.span] (K1 n (He x.vec n))) x.vec
    have h2:(Cw [x.span] (K1 n (He x.vec n))).length<=128:=Ez _
    omega
   rw [hZ1] at hp1
   have hp2:=B81 (Gn [x.span] (K1 n (He x.vec n))) far now Z1 (Ez _) (by omega)
   have hend:Z1++Wp now (Gn [x.span] (K1 n (He x.vec n))) far=Lr n now (pre++[x]):=by
    rw [hsn,<-hZ1,List.append_assoc,<-hfar]
    rfl
   rw [hend] at hp2
   generalize K1 n (He x.vec n)=stays at hp1 hp2 ⊢
   refine AW.seq ?_
   refine AW.drawn (ds:=[74,75,76,77,78,79,80]) (fin:=[2,3,4]) (bs:=[3,3,3,3,3,3,3]) [⟨[],[],[0,1,2],[],0⟩,⟨[],[],[],[],0⟩,⟨[],[],[],[],0⟩,⟨[(75,1),(76,2)],[],[0,1,2],[],0⟩,⟨[],[],[],[],0⟩,⟨[(78,4)],[],[0,1,2],[],0⟩,⟨[(74,0),(77,3),(79,5)],[],[2],[0,1],2⟩] (by kernel_rfl) rfl (by kernel_rfl) rfl rfl rfl fun KD hKD=>?_
   refine g ?_
   repeat' refine A9 (Za _ _) rfl (g ?_)
   refine Yk [] [.box 1200 [.fn 120 [.ip [stI now],.bp 1100 0]]] (fun b=>if b=0 then 1100 else 9900) hp1 rfl rfl rfl (g ?_)
   refine g ?_
   repeat' (refine hKD _ _ ⟨rfl,g ?_⟩;clear hKD KD)
   refine AW.drawn (ds:=[81,82,83,84,85,86]) (fin:=[0,3,4]) (bs:=[3,3,3,3,3,3]) [⟨[],[],[0,1,2],[],0⟩,⟨[],[],[],[],0⟩,⟨[],[],[],[],0⟩,⟨[(82,1),(83,2)],[],[0,1,2],[],0⟩,⟨[],[],[],[],0⟩,⟨[(81,0),(84,3),(85,4)],[],[0],[1,2],2⟩] (by kernel_rfl) rfl (by kernel_rfl) rfl rfl rfl fun KD hKD=>?_
   refine g ?_
   repeat' refine A9 (Av9 _ _) rfl (g ?_)
   refine Yk [] [.box 1200 [.fn 120 [.ip [stI now],.bp 1100 0]]] (fun b=>if b=0 then 1100 else 8102) hp2 rfl rfl rfl (g ?_)
   refine g ?_
   repeat' (refine hKD _ _ ⟨rfl,g ?_⟩;clear hKD KD)
   exact ⟨trivial,fun b=>if b=9900 then 8702 else b,⟨rfl,rfl,trivial⟩,⟨rfl,rfl,rfl,trivial⟩,by simp [Aq,BA.id]⟩
 ·subst hS
  obtain ⟨s,hs⟩ : ∃ s,(Lr n now (Ef z known)).mergeSort (fun a b=>decide (a.span.lo<=b.span.lo))=s:=⟨_,rfl⟩
  have hp:s.Perm (Lr n now (Ef z known)):=by rw [<-hs];exact List.mergeSort_perm _ _
  have hle:s.Pairwise fun a b=>a.span.lo<=b.span.lo:=by
   have h1:=List.pairwise_mergeSort (le:=fun a b:Av=>decide (a.span.lo<=b.span.lo)) (fun a b c h1 h2=>by simp at *;omega) (fun a b=>by simp;omega) (Lr n now (Ef z known))
   rw [hs] at h1
   exact h1.imp fun h=>by simpa using h
  have hpf:=Xa hz hk
  have hA:Vt s:=Z9 hp hle (A30 hpf.2 hpf.1) fun x hx=>Ap3 hpf.1 hx
  have hT:=Bv5 (z:=z) (known:=known) (n:=n) (by simp [T5,hz,hk,hn]) (by rw [hkt];exact hp) hle
  have hsl:s.length<=1000000:=by
   have h1:=A31 n now (Ef z known)
   have h2:=Ah3 z known
   rw [hp.length_eq]
   omega
  have hj:=Bb1 hp hA hsl
  rw [hT,hZ] at hj
  refine g ?_
  refine AW.seq ?_
  refine AW.drawn (ds:=[87,88,89,6,7,8]) (fin:=[1,2,3]) (bs:=[3,3,4,4,4,4]) [⟨[],[],[0,1,2],[],0⟩,⟨[(87,0)],[],[1,2],[0],1⟩,⟨[],[],[1,2],[],0⟩,⟨[(88,1)],[],[],[],0⟩,⟨[(89,2)],[],[],[],0⟩,⟨[],[],[],[],0⟩] (by kernel_rfl) rfl (by kernel_rfl) rfl rfl rfl fun KD hKD=>?_
  refine g ?_
  refine Yk [] [.box 1100 [.own 9900],.box 1200 [.fn 120 [.ip [stI now],.bp 1100 0]]] (fun _=>9900) hj rfl rfl rfl (g ?_)
  refine g ?_
  repeat' (refine hKD _ _ ⟨rfl,g ?_⟩;clear hKD KD)
  refine AW.freeze 8900 _ rfl trivial ?_
  simp only [go_sem,reduceIte,Nat.reduceEqDiff]
  refine g ?_
  repeat' refine st_ rfl (g ?_)
  exact Cm.rfl_ _
end Go.Proofs.YthlgnjlpakimaaaGreatDoor
namespace Go.Proofs.YthlgnjlpakimaaaGreatDoor
open Go.ChangeShapes Go.WideShapes Go.ChangeAt Go.RowKit
attribute [local irreducible] AW AWY Cd Bk vop C5 Bl Bz qop Cj Cv B4 Aw C4 A7 Bq Ct
attribute [local go_sem] Ei Ao As
def Dn6 (v:B8) (it:List Ad):List Ab:=if Af v=true then Cr0 v.zones v.known it else []
end Go.Proofs.YthlgnjlpakimaaaGreatDoor
namespace Go.Proofs.YthlgnjlpakimaaaGreatDoor
open Go.ChangeShapes Go.WideShapes Go.ChangeAt Go.RowKit
attribute [local irreducible] AW AWY Cd Bk vop C5 Bl Bz qop Cj Cv B4 Aw C4 A7 Bq Ct
theorem Jv (v:B8) (iR:I64 v.room):A7 Tryz.prog A8 45 [vwA v] (.val (.bool (Af v))) []:=Ch5 (fun l r h=>Tz l r h) v iR
end Go.Proofs.YthlgnjlpakimaaaGreatDoor
namespace Go.Proofs.YthlgnjlpakimaaaGreatDoor
open Go.ChangeShapes Go.WideShapes Go.ChangeAt Go.RowKit
attribute [local irreducible] AW AWY Cd Bk vop C5 Bl Bz qop Cj Cv B4 Aw C4 A7 Bq
attribute [local go_sem] Gp Gv K9 Kc H8 J8 Fc Eh Jn Ei Ce Ao As
theorem Bn3 (z:List Av) (k:List Ab) (w:Ai):A7 Tryz.prog A8 49 [wA w,.ip [znI z],.ip [stI k]] (.val (.bool (!Df z k w))) []:=by
 refine A7.of (n:=10) (rs:=[.tmp 4]) Tryz.func49 rfl (by kernel_rfl) Tryz.ntmps49 (by kernel_rfl) (by simp) (fun _ _=>A8.later) ?_
 intro hok V w0
 refine g ?_
 repeat' (first | refine st_ rfl (g ?_) | exact trivial | refine A9 (Zm _ _ _) rfl (g ?_))
theorem Bi9 (w:Ai) (x:Cg):A7 Tryz.prog A8 54 [boA x,.ip (enW w)] (.val (.bool (decide (x.object=w.object)))) []:=by
 refine A7.of (n:=9) (rs:=[.tmp 3]) Tryz.func54 rfl (by kernel_rfl) Tryz.ntmps54 (by kernel_rfl) (by simp) (fun _ _=>A8.later) ?_
 intro hok V w0
 refine g ?_
 repeat' (first | refine st_ rfl (g ?_) | exact trivial)
theorem Vu {q:B8×Int} {e:Int} (h:q=(Ql,e)):Cm (.tup [.agg [.val (.slice none 0 0),.val (.slice none 0 0),.val (.slice none 0 0),.val (.slice none 0 0),.val (.int .i64 0)],.val (.int .i64 e)]) (.tup [vwA q.1,.val (.int .i64 q.2)]):=by
 subst h
 refine G6 rfl fun p hp=>?_
 simp only [List.zip_cons_cons,List.zip_nil_right,List.mem_cons,List.not_mem_nil,or_false] at hp
 rcases hp with rfl | rfl
 ·refine Mn rfl fun p hp=>?_
  simp only [List.zip_cons_cons,List.zip_nil_right,List.mem_cons,List.not_mem_nil,or_false] at hp
  rcases hp with rfl | rfl | rfl | rfl | rfl
  ·exact Bf 2
  ·exact Bf 3
  ·exact Bf 4
  ·exact Bf 4
  ·exact Cm.rfl_ _
 ·exact Cm.rfl_ _
set_option maxRecDepth 100000 in
set_option maxHeartbeats 3200000 in
theorem Gl (v:B8) (n:At) (iR:I64 v.room):A7 Tryz.prog A8 12 [vwA v,Ev n] (.tup [vwA (Bd v n).1,.val (.int .i64 (Bd v n).2)]) []:=by
 refine A7.ofS (n:=85) (rs:=[.cell 4 30,.tmp 5]) Tryz.func12 rfl (by kernel_rfl) Tryz.ntmps12 (by kernel_rfl) (by simp) (fun _ _=>A8.later) ?_
 intro hok V w0
 obtain ⟨R,hR⟩ : ∃ R,Bd v n=R:=⟨_,rfl⟩
 rw [hR]
 unfold Bd at hR
 have hwl:n.writes.length<=1073741824:=by simpa [wrI] using hok.2.1.2.2.2.1.1
 refine g ?_
 refine AW.seq ?_
 refine AW.reg rfl fun KK hKK=>?_
 refine g ?_
 repeat' (refine hKK _ (g ?_);clear hKK KK)
 refine AW.freeze 300 _ rfl ⟨trivial,trivial,trivial,trivial,iR,trivial⟩ ?_
 simp only [go_sem,reduceIte,Nat.reduceEqDiff]
 refine AW.freeze 400 _ rfl ⟨trivial,trivial,trivial,trivial,trivial⟩ ?_
 simp only [go_sem,reduceIte,Nat.reduceEqDiff]
 refine g ?_
 repeat' (first | refine st_ rfl (g ?_) | refine C3 (fun h=>g ?_) (fun h=>g ?_) | refine A9 (Jv v iR) rfl (g ?_))
 ·rw [if_neg (by simpa using h)] at hR
  exact Vu hR.symm
 have hF:Af v=true:=by simpa using h
 rw [if_pos hF] at hR
 obtain ⟨T,hT⟩ : ∃ T,Kl v.zones v.known n=T:=⟨_,rfl⟩
 have htk:=Bh1 v.zones v.known n
 rw [hT] at htk hR
 obtain ⟨Z,K,e⟩:=T
 simp only at htk hR
 refine A9 htk rfl (g ?_)
 refine g ?_
 refine AW.freeze 700 _ rfl ⟨trivial,trivial⟩ ?_
 simp only [go_sem,reduceIte,Nat.reduceEqDiff]
 refine AW.freeze 800 _ rfl ⟨trivial,trivial⟩ ?_
 simp only [go_sem,reduceIte,Nat.reduceEqDiff]
 refine g ?_
 repeat' (first | refine st_ rfl (g ?_) | refine Az (fun h=>g ?_) (fun h=>g ?_) | refine A9 (Vo _) rfl (g ?_))
 ·rw [if_neg h] at hR
  exact Vu hR.symm
 obtain rfl:e=0:=by simpa using h
 rw [if_pos rfl] at hR
 have hfl:(n.writes.filter fun x=>!!Df Z K x)=Gh Z K n:=by simp [Gh]
 have hdel:=C33 49 [znI Z] [stI K] (fun w=>!Df Z K w) (Bn3 Z K) n.writes hwl fun x hx=>by
  obtain ⟨-,o1,o2,o3,-⟩:=D7 (by simpa [wrI] using hok.2.1.2.2.2.1.2) (enW x) (List.mem_map_of_mem hx)
  exact ⟨o1,o2,o3⟩
 simp only [hfl] at hdel
 have hoI:∀ x∈Gh Z K n,I64 x.stamp.count/\I64 x.stamp.node/\I64 x.object:=fun x hx=>by
  obtain ⟨-,o1,o2,o3,-⟩:=D7 (by simpa [wrI] using hok.2.1.2.2.2.1.2) (enW x) (List.mem_map_of_mem (List.mem_filter.1 hx).1)
  exact ⟨o1,o2,o3⟩
 refine Yk [] [.box 500 [.val (.slice none 0 0),.val (.slice none 0 0),.val (.slice none 0 0),.val (.slice none 0 0),.val (.int .i64 0)]] (fun _=>3600) hdel rfl rfl rfl (g ?_)
 have htr:(Gh Z K n).all Do=true:=List.all_eq_true.2 Hw
 have hend:=Bv9 (z:=Z) (k:=K) (n:=n) hF
 have honce:=Bv0 hF
 have hhf:Bv v.held=true:=by
  simp only [Af,F9,Bool.and_eq_true] at hF
  exact hF.1.1.1.1.2
 have hput:=Bi7 v.held (Gh Z K n)
 unfold C95 at hput
 rw [if_pos ⟨hhf,htr⟩] at hput
 have hHf:Bv (Kr v.held (Gh Z K n))=true:=Ge.2 (Ll (Ge.1 hhf) Hw)
 obtain ⟨told,htold⟩ : ∃ told,Gh Z K n=told:=⟨_,rfl⟩
 rw [htold] at hput hend hHf hR hoI ⊢
 obtain ⟨H,hH⟩ : ∃ H,Kr v.held told=H:=⟨_,rfl⟩
 rw [hH] at hput hend hHf hR
 have htl:told.length<=1073741824:=by rw [<-htold];exact Nat.le_trans (List.length_filter_le _ _) hwl
 refine g ?_
 refine AW.freeze 3800 _ rfl trivial ?_
 simp only [go_sem,reduceIte,Nat.reduceEqDiff]
 have hfg:=A96 v.bodies (-1)
 rw [B30 hF] at hfg
 refine g ?_
 repeat' (first | refine st_ rfl (g ?_) | refine A9 (hput) rfl (g ?_) | refine A9 (hfg) rfl (g ?_))
 refine AW.loop (fun m:{m:Nat // m<=told.length}=>⟨[(2,.ip [stI v.known,znI v.zones,wrI v.held,boI v.bodies,.val (.int .i64 v.room)]),(4,.bp 500 0),(6,.ip [znI Z]),(7,.ip [stI K]),(10,.iv (wrI H)),(11,.own 5200),(52,.iv (wrI told)),(53,.val (.int .i64 (told.length:Nat))),(54,.val (.int .i64 (m.1:Nat)))],[.row 5200 44 4 ((Z7 H (told.take m.1) v.bodies).map enB),.box 500 [.val (.slice none 0 0),.val (.slice none 0 0),.val (.slice none 0 0),.val (.slice none 0 0),.val (.int .i64 0)]]⟩) (fun m=>told.length - m.1) ⟨0,Nat.zero_le _⟩ id ⟨⟨rfl,rfl,rfl,rfl,rfl,rfl,rfl,?_,rfl,trivial⟩,⟨?_,rfl,trivial⟩,by simp [Aq,BA.id]⟩ fun ⟨m,hm⟩=>?_
 ·simp [AV.ren,Cz]
 ·rw [List.take_zero,Bv8]
  rfl
 simp only
 repeat (refine AW.seq ?_)
 refine AW.reg rfl fun KK hKK=>?_
 refine g ?_
 repeat' (refine hKK _ (g ?_);clear hKK KK)
 repeat (refine AW.seq ?_)
 refine st_ rfl ?_
 refine g ?_
 refine C3 (fun h=>?_) (fun h=>?_)
 ·have hlt:m < told.length:=by have:=of_decide_eq_true h;omega
  have hs:=Bi0 H (told.take m) told[m] v.bodies
  rw [<-List.take_succ_eq_append_getElem hlt] at hs
  have hon:=Bi1 (H:=H) (t:=told.take m) honce
  have hLl:(Z7 H (told.take m) v.bodies).length<=256:=Nat.le_trans (List.length_filter_le _ _) (C57 hF)
  obtain ⟨L,hL⟩ : ∃ L,Z7 H (told.take m) v.bodies=L:=⟨_,rfl⟩
  rw [hL] at hs hon hLl ⊢
  obtain ⟨w,hw⟩ : ∃ w,told[m]=w:=⟨_,rfl⟩
  have hget:=C0 (f:=enW) (List.getElem?_eq_getElem hlt)
  rw [hw] at hs hget
  have hidx:=At3 L 54 (enW w) (fun x=>decide (x.object=w.object)) fun x=>Bi9 w x
  obtain ⟨o1,o2,o3⟩:=hoI w (hw ▸ List.getElem_mem hlt)
  refine st_ rfl (g ?_)
  refine AW.seq ?_
  refine AW.block ?_
  repeat (refine AW.seq ?_)
  refine AW.reg rfl fun KK hKK=>?_
  refine g ?_
  refine ⟨by omega,_,hget,?_⟩
  refine g ?_
  repeat' (first | refine Ag (g ?_) | (refine hKK _ (g ?_);clear hKK KK))
  refine AW.freeze 1400 _ rfl ⟨o1,o2,o3,trivial,trivial⟩ ?_
  simp only [go_sem,reduceIte,Nat.reduceEqDiff]
  cases ha:L.any fun x=>decide (x.object=w.object) with
  | false =>
   rw [C11 ha] at hs
   rw [ha,if_neg (by decide)] at hidx
   refine g ?_
   repeat' refine st_ rfl (g ?_)
   refine Pb hidx (by simp [Wn,J3];exact ⟨trivial,rfl⟩) rfl (fun _ h=>by cases h) (Sbs.rfl_ _) rfl (g ?_)
   refine g ?_
   repeat' refine st_ rfl (g ?_)
   refine ⟨⟨m+1,hlt⟩,id,⟨⟨rfl,rfl,rfl,rfl,rfl,rfl,rfl,rfl,rfl,trivial⟩,⟨?_,rfl,trivial⟩,by simp [Aq,BA.id]⟩,by show told.length - (m+1) < told.length - m;omega⟩
   rw [hs]
   rfl
  | true =>
   obtain ⟨hl,hp1,hf⟩:=Bs7 ha
   rw [ha,if_pos rfl] at hidx
   generalize L.findIdx (fun x=>decide (x.object=w.object))=i at hl hp1 hf hidx
   rw [Cc4 (q:=Dm H) hon hl (of_decide_eq_true hp1)] at hs
   have hgi:=C0 (f:=enB) (List.getElem?_eq_getElem hl)
   refine g ?_
   repeat' refine st_ rfl (g ?_)
   refine Pb hidx (by simp [Wn,J3];exact ⟨trivial,rfl⟩) rfl (fun _ h=>by cases h) (Sbs.rfl_ _) rfl (g ?_)
   refine g ?_
   repeat' refine st_ rfl (g ?_)
   refine ⟨by omega,hl,?_⟩
   refine g ?_
   repeat' refine Ag (g ?_)
   refine ⟨_,hgi,?_⟩
   refine g ?_
   repeat' (first | refine st_ rfl (g ?_) | refine Ag (g ?_) | refine C3 (fun h=>g ?_) (fun h=>g ?_) | refine A9 (Uf H L[i] hHf) rfl (g ?_))
   ·have hq:¬ Dm H L[i]=true:=by simpa using h
    rw [if_neg hq] at hs
    refine Yk [] [.box 500 [.val (.slice none 0 0),.val (.slice none 0 0),.val (.slice none 0 0),.val (.slice none 0 0),.val (.int .i64 0)]] (fun _=>5200) (C34 L i hl) rfl rfl rfl (g ?_)
    refine g ?_
    repeat' refine st_ rfl (g ?_)
    refine ⟨⟨m+1,hlt⟩,fun b=>if b=5200 then 7700 else b,⟨⟨rfl,rfl,rfl,rfl,rfl,rfl,rfl,rfl,rfl,trivial⟩,⟨?_,rfl,trivial⟩,by simp [Aq,BA.id]⟩,by show told.length - (m+1) < told.length - m;omega⟩
    rw [hs]
    rfl
   ·have hq:Dm H L[i]=true:=by simpa using h
    rw [if_pos hq] at hs
    refine ⟨⟨m+1,hlt⟩,id,⟨⟨rfl,rfl,rfl,rfl,rfl,rfl,rfl,rfl,rfl,trivial⟩,⟨?_,rfl,trivial⟩,by simp [Aq,BA.id]⟩,by show told.length - (m+1) < told.length - m;omega⟩
    rw [hs]
    rfl
 ·obtain rfl:m=told.length:=by have:=of_decide_eq_false h;omega
  rw [List.take_length,hend]
  refine AW.exit ?_
  simp only [reduceIte]
  refine AW.freeze 5200 _ rfl trivial ?_
  simp only [go_sem,reduceIte,Nat.reduceEqDiff]
  refine g ?_
  repeat' refine st_ rfl (g ?_)
  subst hR
  exact Cm.rfl_ _
end Go.Proofs.YthlgnjlpakimaaaGreatDoor
namespace Go.Proofs.YthlgnjlpakimaaaGreatDoor
open Go.ChangeShapes Go.WideShapes Go.ChangeAt Go.RowKit
attribute [local irreducible] AW AWY Cd Bk vop C5 Bl Bz qop Cj Cv B4 Aw C4 A7 Bq
attribute [local go_sem] K9 Kc H8 J8 Fc Eh Jn Gp Gv Ei Ce Ao As
theorem Cj4 (room:Int):Cm (.tup [.agg [.val (.slice none 0 0),.val (.slice none 0 0),.val (.slice none 0 0),.val (.slice none 0 0),.val (.int .i64 room)],.val (.int .i64 0)]) (.tup [vwA ⟨[],[],[],[],room⟩,.val (.int .i64 0)]):=by
 refine G6 rfl fun p hp=>?_
 simp only [List.zip_cons_cons,List.zip_nil_right,List.mem_cons,List.not_mem_nil,or_false] at hp
 rcases hp with rfl | rfl
 ·refine Mn rfl fun p hp=>?_
  simp only [List.zip_cons_cons,List.zip_nil_right,List.mem_cons,List.not_mem_nil,or_false] at hp
  rcases hp with rfl | rfl | rfl | rfl | rfl
  ·exact Bf 2
  ·exact Bf 3
  ·exact Bf 4
  ·exact Bf 4
  ·exact Cm.rfl_ _
 ·exact Cm.rfl_ _
theorem Ai3 (room:Int) (iR:I64 room):A7 Tryz.prog A8 11 [.val (.int .i64 room)] (.tup [vwA (Bm3 room).1,.val (.int .i64 (Bm3 room).2)]) []:=by
 refine A7.ofS (n:=10) (rs:=[.cell 2 30,.tmp 3]) Tryz.func11 rfl (by kernel_rfl) Tryz.ntmps11 (by kernel_rfl) (by simp) (fun _ _=>A8.later) ?_
 intro hok V w0
 obtain ⟨R,hR⟩ : ∃ R,Bm3 room=R:=⟨_,rfl⟩
 rw [hR]
 unfold Bm3 at hR
 have hc:=Tz [] room iR
 have e:Cb [] room=S2 room:=by
  simp only [Cb,Hm,Jb]
  cases h:S2 room with
  | false=>simp
  | true =>
   simp only [S2,Bool.and_eq_true,decide_eq_true_eq] at h
   simp [h.1]
 rw [e] at hc
 refine g ?_
 repeat' refine st_ rfl (g ?_)
 refine Yl hc (by exact Sbs.of_ (Bf 4) (Sbs.rfl_ _)) rfl (g ?_)
 refine g ?_
 repeat' (first | refine st_ rfl (g ?_) | refine C3 (fun h=>g ?_) (fun h=>g ?_))
 ·rw [if_neg (by simpa using h)] at hR
  exact Vu hR.symm
 ·rw [if_pos (by simpa using h)] at hR
  subst hR
  exact Cj4 room
theorem Bz9 (c n s:Int) (ic:c<=9223372036854775807) (is:s<=9223372036854775807):A7 Tryz.prog A8 62 [.val (.int .i64 c),.val (.int .i64 n),.val (.int .i64 s)] (.tup [.agg [.val (.int .i64 (Gt c n s).1.count),.val (.int .i64 (Gt c n s).1.node)],.val (.int .i64 (Gt c n s).2)]) []:=by
 refine A7.of (n:=36) (rs:=[.cell 6 42,.tmp 7]) Tryz.func62 rfl (by kernel_rfl) Tryz.ntmps62 (by kernel_rfl) (by simp) (fun _ _=>A8.later) ?_
 intro hok V w0
 obtain ⟨R,hR⟩ : ∃ R,Gt c n s=R:=⟨_,rfl⟩
 rw [hR]
 unfold Gt at hR
 refine g ?_
 repeat' (first | refine st_ rfl (g ?_) | refine Az (fun h=>g ?_) (fun h=>g ?_) | (refine Ci rfl rfl (fun h e=>?_) (fun h e=>?_)<;>simp only [e]<;>clear e<;>refine g ?_))
 all_goals first
  | (rw [if_pos (by omega)] at hR;subst hR;rfl)
  | (rw [if_neg (by omega),if_pos (by omega)] at hR;subst hR;rfl)
  | (rw [if_neg (by omega),if_neg (by omega)] at hR;subst hR;rfl)
theorem C18 (l:List Ab) (hI:∀ k:Int,I64 (Aa l k)):I64 (G3 l):=by
 unfold G3
 suffices H:∀ (ks:List Nat) (m:Int),I64 m->I64 (ks.foldl (fun m k=>max m (Aa l (k:Nat))) m) from H _ 0 (I64.of (by decide) (by decide))
 intro ks
 induction ks with
 | nil=>exact fun m h=>h
 | cons k ks ih =>
  intro m h
  refine ih _ ?_
  show I64 (max m (Aa l (k:Nat)))
  rw [Int.max_def]
  split
  ·exact hI _
  ·exact h
set_option maxRecDepth 100000 in
theorem Aj7 (l:List Ab):A7 Tryz.prog A8 63 [.iv (stI l)] (.val (.int .i64 (G3 l))) []:=by
 refine A7.ofS (n:=14) (rs:=[.tmp 2]) Tryz.func63 rfl (by kernel_rfl) Tryz.ntmps63 (by kernel_rfl) (by simp) (fun _ _=>A8.later) ?_
 intro hok V w0
 have hI:∀ k:Int,I64 (Aa l k):=fun k=>by
  refine Nw (fun s hs=>?_) k
  obtain ⟨-,h2,-⟩:=D7 (by simpa [stI] using hok.1.2) (Yf s) (List.mem_map_of_mem hs)
  exact h2
 refine g ?_
 repeat' (first | refine st_ rfl (g ?_) | refine A9 (Al7 _) rfl (g ?_))
 refine AW.le (S:=⟨[(3,.bp 400 0),(7,.fn 221 [.ip [.pt (Pu (fun k=>Aa l k) (D9 l))]])],[.box 400 [.val (.int .i64 0)]]⟩) (ρ:=id) ⟨⟨rfl,rfl,trivial⟩,⟨rfl,trivial⟩,by simp [Aq,BA.id]⟩ ?_
 refine AW.range (A63 (fun k=>Aa l k) (D9 l) (N3 _)) [(3,.bp 400 0)] [(7,.fn 221 [.ip [.pt (Pu (fun k=>Aa l k) (D9 l))]])] (fun pre=>[.box 400 [.val (.int .i64 ((pre.map (·.1)).foldl (fun m k=>max m (Aa l (k:Nat))) 0))]]) (fun _=>True) rfl trivial rfl rfl rfl rfl (fun x=>⟨rfl,rfl⟩) (fun c pre x hsp _=>?_) (fun xs hS _=>?_)
 ·simp only [V4,enE,List.cons_append,List.nil_append]
  refine g ?_
  refine g ?_
  repeat' refine st_ rfl (g ?_)
  refine ⟨_,rfl,?_⟩
  refine g ?_
  repeat' refine Ag (g ?_)
  exact ⟨trivial,id,⟨rfl,trivial⟩,⟨by rw [List.map_append,List.foldl_append];rfl,trivial⟩,by simp [Aq,BA.id]⟩
 ·refine g ?_
  refine g ?_
  repeat' refine st_ rfl (g ?_)
  rw [hS]
  exact Cm.rfl_ _
theorem Bz8 (o:Int):A7 Tryz.prog A8 141 [.val (.int .i64 o)] (.val (.bool (E9 o))) []:=by
 refine A7.of (n:=9) (rs:=[.tmp 2]) Tryz.func141 rfl (by kernel_rfl) Tryz.ntmps141 (by kernel_rfl) (by simp) (fun _ _=>A8.later) ?_
 intro hok V w0
 obtain ⟨B,hB⟩ : ∃ B,E9 o=B:=⟨_,rfl⟩
 rw [hB]
 unfold E9 at hB
 refine g ?_
 repeat' (first | refine st_ rfl (g ?_) | (refine Ci rfl rfl (fun h e=>?_) (fun h e=>?_)<;>simp only [e]<;>clear e<;>refine g ?_))
 all_goals (rw [<-hB,Bool.eq_iff_iff];simp [*];try omega)
theorem Ac3 {q:At×Int} {e:Int} (h:q=(Ay1,e)):Cm (.tup [.agg [.val (.slice none 0 0),.val (.slice none 0 0),.val (.slice none 0 0),.val (.slice none 0 0)],.val (.int .i64 e)]) (.tup [Ev q.1,.val (.int .i64 q.2)]):=by
 subst h
 refine G6 rfl fun p hp=>?_
 simp only [List.zip_cons_cons,List.zip_nil_right,List.mem_cons,List.not_mem_nil,or_false] at hp
 rcases hp with rfl | rfl
 ·refine Mn rfl fun p hp=>?_
  simp only [List.zip_cons_cons,List.zip_nil_right,List.mem_cons,List.not_mem_nil,or_false] at hp
  rcases hp with rfl | rfl | rfl | rfl
  ·exact Bf 2
  ·exact Bf 2
  ·exact Bf 2
  ·exact Bf 4
 ·exact Cm.rfl_ _
set_option maxRecDepth 100000 in
theorem B99 (known:List Ab) (w:Ai) (i1:I64 w.stamp.count) (i2:I64 w.stamp.node) (i3:I64 w.object):A7 Tryz.prog A8 64 [.iv (stI known),wA w] (.tup [Ev (ofN known w).1,.val (.int .i64 (ofN known w).2)]) []:=by
 refine A7.ofS (n:=37) (rs:=[.cell 4 37,.tmp 5]) Tryz.func64 rfl (by kernel_rfl) Tryz.ntmps64 (by kernel_rfl) (by simp) (fun _ _=>A8.later) ?_
 intro hok V w0
 obtain ⟨R,hR⟩ : ∃ R,ofN known w=R:=⟨_,rfl⟩
 rw [hR]
 unfold ofN at hR
 refine g ?_
 refine AW.seq ?_
 refine AW.reg rfl fun KK hKK=>?_
 refine g ?_
 repeat' (refine hKK _ (g ?_);clear hKK KK)
 refine AW.freeze 400 _ rfl ⟨i1,i2,i3,trivial,trivial⟩ ?_
 simp only [go_sem,reduceIte,Nat.reduceEqDiff]
 refine g ?_
 repeat' (first | refine st_ rfl (g ?_) | refine C3 (fun h=>g ?_) (fun h=>g ?_) | (refine Ej rfl rfl (fun h=>?_) (fun h=>?_)<;>simp only [h]<;>refine g ?_) | refine A9 (Ke _) rfl (g ?_) | refine A9 (Y5 _ _) rfl (g ?_) | refine A9 (Bz8 _) rfl (g ?_) | refine A9 (A23 _ w.stamp) rfl (g ?_))
 ·rw [if_neg (by rintro ⟨a,_⟩;simp [a] at h)] at hR
  exact Ac3 hR.symm
 ·rw [if_neg (by rintro ⟨_,a,_⟩;simp [a] at h)] at hR
  exact Ac3 hR.symm
 ·rw [if_neg (by rintro ⟨_,_,a,_⟩;simp [a] at h)] at hR
  exact Ac3 hR.symm
 ·rw [if_neg (by rintro ⟨_,_,_,a⟩;simp [a] at h)] at hR
  exact Ac3 hR.symm
 rename_i h1 h2 h3
 rw [if_pos (by simp at *;simp [*])] at hR
 subst hR
 refine AW.drawn (ds:=[28,29,30,31,32,33,34,35,36,5]) (fin:=[1,2]) (bs:=[1,1,1,1,1,1,1,1,2,2,3]) [⟨[],[],[],[],0⟩,⟨[(28,0)],[],[0],[],0⟩,⟨[],[],[],[],0⟩,⟨[],[],[],[],0⟩,⟨[(31,3)],[],[0],[],0⟩,⟨[(30,2),(32,4)],[],[0],[],0⟩,⟨[],[],[0],[],0⟩,⟨[(34,6)],[],[],[],1⟩,⟨[(29,1),(33,5),(35,7)],[],[],[],0⟩,⟨[(36,8)],[],[],[0],1⟩,⟨[],[],[],[],0⟩] (by kernel_rfl) rfl (by kernel_rfl) rfl rfl rfl fun KD hKD=>?_
 refine g ?_
 repeat' (first | refine A9 (Kb _) rfl (g ?_) | refine A9 (C52 known w.stamp i1 i2) rfl (g ?_))
 refine bs1 (by omega) rfl rfl rfl ⟨i1,i2,i3,trivial,trivial⟩ ?_
 refine g ?_
 repeat' (refine hKD _ _ ⟨rfl,g ?_⟩;clear hKD KD)
 refine AW.freeze 3600 _ rfl trivial ?_
 simp only [go_sem,reduceIte,Nat.reduceEqDiff]
 refine g ?_
 repeat' refine st_ rfl (g ?_)
 refine G6 rfl fun p hp=>?_
 simp only [List.zip_cons_cons,List.zip_nil_right,List.mem_cons,List.not_mem_nil,or_false] at hp
 rcases hp with rfl | rfl
 ·refine Mn rfl fun p hp=>?_
  simp only [List.zip_cons_cons,List.zip_nil_right,List.mem_cons,List.not_mem_nil,or_false] at hp
  rcases hp with rfl | rfl | rfl | rfl
  ·exact Cm.rfl_ _
  ·exact Cm.rfl_ _
  ·exact Bf 2
  ·exact Cm.rfl_ _
 ·exact Cm.rfl_ _
end Go.Proofs.YthlgnjlpakimaaaGreatDoor
namespace Go.Proofs.YthlgnjlpakimaaaGreatDoor
open Go.ChangeShapes Go.WideShapes Go.ChangeAt Go.RowKit
attribute [local irreducible] AW AWY Cd Bk vop C5 Bl Bz qop Cj Cv B4 Aw C4 A7 Bq
attribute [local go_sem] K9 Kc H8 Fc Eh Jn Gp Gv Ei Ce Ao As
set_option maxRecDepth 100000 in
set_option maxHeartbeats 3200000 in
theorem Xs (v:B8) (x:Cg) (iR:I64 v.room) (i0:I64 x.object) (i1:I64 x.stamp.count) (i2:I64 x.stamp.node):A7 Tryz.prog A8 16 [vwA v,boA x] (.tup [vwA (Ji v x).1,.val (.int .i64 (Ji v x).2)]) []:=by
 refine A7.ofS (n:=64) (rs:=[.cell 4 30,.tmp 5]) Tryz.func16 rfl (by kernel_rfl) Tryz.ntmps16 (by kernel_rfl) (by simp) (fun _ _=>A8.later) ?_
 intro hok V w0
 obtain ⟨R,hR⟩ : ∃ R,Ji v x=R:=⟨_,rfl⟩
 rw [hR]
 unfold Ji at hR
 refine g ?_
 refine AW.seq ?_
 refine AW.reg rfl fun KK hKK=>?_
 refine g ?_
 repeat' (refine hKK _ (g ?_);clear hKK KK)
 refine AW.freeze 300 _ rfl ⟨trivial,trivial,trivial,trivial,iR,trivial⟩ ?_
 simp only [go_sem,reduceIte,Nat.reduceEqDiff]
 refine AW.freeze 400 _ rfl ⟨i0,i1,i2,trivial,trivial⟩ ?_
 simp only [go_sem,reduceIte,Nat.reduceEqDiff]
 refine g ?_
 repeat' (first | refine st_ rfl (g ?_) | refine C3 (fun h=>g ?_) (fun h=>g ?_) | refine A9 (Jv v iR) rfl (g ?_))
 ·rw [if_neg (by rintro ⟨a,_⟩;simp [a] at h)] at hR
  exact Vu hR.symm
 have hF:Af v=true:=by simpa using h
 have hcf:Cb v.bodies v.room=true:=by
  simp only [Af,F9,Bool.and_eq_true] at hF
  exact hF.1.1.1.2
 have hhf:Bv v.held=true:=by
  simp only [Af,F9,Bool.and_eq_true] at hF
  exact hF.1.1.1.1.2
 have hput:=C36 v.bodies v.room x iR i0 i1 i2
 unfold C96 at hput
 cases hr:Dd x with
 | false =>
  rw [if_neg (by simp [hr])] at hput
  rw [if_neg (by simp [hr])] at hR
  refine g ?_
  repeat' (first | refine st_ rfl (g ?_) | refine A9 (hput) rfl (g ?_))
  exact Vu hR.symm
 | true =>
 rw [if_pos ⟨hcf,hr⟩] at hput
 rw [if_pos ⟨hF,hr⟩] at hR
 obtain ⟨B,hB⟩ : ∃ B,Rr v.room (G7 v.bodies x.object++[x])=B:=⟨_,rfl⟩
 rw [hB] at hput hR
 simp only at hput
 refine g ?_
 repeat' (first | refine st_ rfl (g ?_) | refine C3 (fun h=>g ?_) (fun h=>g ?_) | refine A9 (hput) rfl (g ?_) | refine A9 (Uf v.held x hhf) rfl (g ?_))
 ·rw [if_neg (by simpa using h)] at hR
  exact Vu hR.symm
 rw [if_pos (by simpa using h)] at hR
 subst hR
 refine AW.drawn (ds:=[34,35,36,37,38,39,40,41,42,43,8]) (fin:=[0,2]) (bs:=[1,1,1,1,1,1,1,1,1,1,1,2]) [⟨[],[],[],[],0⟩,⟨[(34,0)],[],[0],[],0⟩,⟨[(35,1)],[],[0],[],0⟩,⟨[],[],[],[],0⟩,⟨[(37,3)],[],[0],[],0⟩,⟨[(38,4)],[],[0],[],0⟩,⟨[],[],[],[],0⟩,⟨[],[],[],[],0⟩,⟨[(41,7)],[],[0],[],0⟩,⟨[(36,2),(39,5),(40,6),(42,8)],[],[],[],0⟩,⟨[],[],[],[],1⟩,⟨[(8,10),(43,9)],[],[],[1],1⟩] (by kernel_rfl) rfl (by kernel_rfl) rfl rfl rfl fun KD hKD=>?_
 refine g ?_
 repeat' (first | refine st_ rfl (g ?_) | (refine hKD _ _ ⟨rfl,g ?_⟩;clear hKD KD) | refine A9 (Kb _) rfl (g ?_) | refine A9 (Bt4 _) rfl (g ?_))
 have hzl:v.zones.length<=256:=Ad4 hF
 refine AW.adoptC 900 1 9900 122 3 rfl rfl rfl ?_
 refine AW.loop (fun m:{m:Nat // m<=v.zones.length}=>⟨[(2,.ip [stI v.known,znI v.zones,wrI v.held,boI v.bodies,.val (.int .i64 v.room)]),(4,.bp 500 0),(8,.bp 900 0),(45,.iv (znI v.zones)),(46,.val (.int .i64 (v.zones.length:Nat))),(47,.val (.int .i64 (m.1:Nat)))],[.row 9900 122 3 ((v.zones.take m.1).map enZ),.box 900 [.iv (stI v.known),.own 9900,.iv (wrI v.held),.iv (boI B),.val (.int .i64 v.room)],.box 500 [.val (.slice none 0 0),.val (.slice none 0 0),.val (.slice none 0 0),.val (.slice none 0 0),.val (.int .i64 0)]]⟩) (fun m=>v.zones.length - m.1) ⟨0,Nat.zero_le _⟩ id ⟨⟨rfl,rfl,rfl,rfl,?_,rfl,trivial⟩,⟨rfl,rfl,rfl,trivial⟩,by simp [Aq,BA.id]⟩ fun ⟨m,hm⟩=>?_
 ·simp [AV.ren,Cz]
 simp only
 repeat (refine AW.seq ?_)
 refine AW.reg rfl fun KK hKK=>?_
 refine g ?_
 repeat' (refine hKK _ (g ?_);clear hKK KK)
 repeat (refine AW.seq ?_)
 refine st_ rfl ?_
 refine g ?_
 refine C3 (fun h=>?_) (fun h=>?_)
 ·have hlt:m < v.zones.length:=by have:=of_decide_eq_true h;omega
  have hget:=C0 (f:=enZ) (List.getElem?_eq_getElem hlt)
  obtain ⟨-,o1,o2,-⟩:=D7 (by simpa [znI] using hok.1.2.1.2) (enZ v.zones[m]) (List.mem_map_of_mem (List.getElem_mem hlt))
  obtain ⟨z,hz⟩ : ∃ z,v.zones[m]=z:=⟨_,rfl⟩
  have htk:=List.take_succ_eq_append_getElem hlt
  rw [hz] at hget o1 o2 htk
  refine st_ rfl (g ?_)
  refine AW.seq ?_
  refine AW.block ?_
  repeat (refine AW.seq ?_)
  refine AW.reg rfl fun KK hKK=>?_
  refine g ?_
  refine ⟨by omega,_,hget,?_⟩
  refine g ?_
  repeat' (first | refine Ag (g ?_) | (refine hKK _ (g ?_);clear hKK KK))
  refine AW.freeze 1100 _ rfl ⟨o1,o2,trivial,trivial⟩ ?_
  simp only [go_sem,reduceIte,Nat.reduceEqDiff]
  refine AW.drawn (ds:=[51,52,53,54,55,56,57,58,59,60,61]) (fin:=[2,3,4,5]) (bs:=[3,3,3,3,3,3,3,3,3,4,5,5]) [⟨[],[],[],[],0⟩,⟨[(51,0)],[],[0,1,2],[],0⟩,⟨[],[],[],[],0⟩,⟨[(53,2)],[],[0,1,2],[],0⟩,⟨[],[],[],[],0⟩,⟨[(55,4)],[],[0,1,2],[],0⟩,⟨[(56,5)],[],[0,1,2],[],0⟩,⟨[(54,3),(57,6)],[],[],[],0⟩,⟨[(58,7)],[],[],[],1⟩,⟨[(52,1),(59,8)],[],[1,2,3],[0],1⟩,⟨[],[],[],[],0⟩,⟨[(61,10),(60,9)],[],[],[1],1⟩] (by kernel_rfl) rfl (by kernel_rfl) rfl rfl rfl fun KD hKD=>?_
  refine g ?_
  repeat' refine A9 (Kb _) rfl (g ?_)
  refine bs1 (by omega) rfl rfl rfl ⟨o1,o2,trivial,trivial⟩ ?_
  refine g ?_
  refine Bo rfl (by kernel_rfl) (by omega) (by kernel_rfl) rfl (by simp;omega) ?_
  refine g ?_
  repeat' (first | refine st_ rfl (g ?_) | (refine hKD _ _ ⟨rfl,g ?_⟩;clear hKD KD))
  refine ⟨⟨m+1,hlt⟩,fun b=>if b=9900 then 6100 else b,⟨⟨rfl,rfl,rfl,rfl,rfl,rfl,trivial⟩,⟨?_,rfl,rfl,trivial⟩,by simp [Aq,BA.id]⟩,by show v.zones.length - (m+1) < v.zones.length - m;omega⟩
  rw [htk,List.map_append]
  rfl
 ·obtain rfl:m=v.zones.length:=by have:=of_decide_eq_false h;omega
  rw [List.take_length]
  refine AW.exit ?_
  simp only [reduceIte]
  refine AW.freeze 9900 _ rfl trivial ?_
  simp only [go_sem,reduceIte,Nat.reduceEqDiff]
  refine g ?_
  repeat' refine st_ rfl (g ?_)
  exact Cm.rfl_ _
end Go.Proofs.YthlgnjlpakimaaaGreatDoor
namespace Go.Proofs.YthlgnjlpakimaaaGreatDoor
open Go.ChangeShapes Go.WideShapes Go.ChangeAt Go.RowKit
attribute [local irreducible] AW AWY Cd Bk vop C5 Bl Bz qop Cj Cv B4 Aw C4 A7 Bq
attribute [local go_sem] K9 Kc H8 Fc Eh Jn Gp Gv Ei Ce Ao As
theorem Zl {q:List Nat×Ai×Int} {e:Int} (h:q=([],noW,e)):Cm (.tup [.val (.slice none 0 0),.agg [.val (.int .i64 0),.val (.int .i64 0),.val (.int .i64 0),.val (.bool false)],.val (.int .i64 e)]) (.tup [.iv (byI q.1),wA q.2.1,.val (.int .i64 q.2.2)]):=by
 subst h
 refine G6 rfl fun p hp=>?_
 simp only [List.zip_cons_cons,List.zip_nil_right,List.mem_cons,List.not_mem_nil,or_false] at hp
 rcases hp with rfl | rfl | rfl
 ·exact Bf 1
 ·exact Cm.rfl_ _
 ·exact Cm.rfl_ _
theorem Bo3 {l:List Ai} {o:Int} {w:Ai} (h:D5 l o=some w) (hI:∀ x∈l,I64 x.stamp.count/\I64 x.stamp.node/\I64 x.object):I64 w.stamp.count/\I64 w.stamp.node/\I64 w.object:=hI w (List.mem_of_find?_eq_some h)
set_option maxRecDepth 100000 in
set_option maxHeartbeats 3200000 in
theorem Mu (v:B8) (o:Int) (iR:I64 v.room) (iO:I64 o):A7 Tryz.prog A8 17 [vwA v,.val (.int .i64 o)] (.tup [.iv (byI (De v o).1),wA (De v o).2.1,.val (.int .i64 (De v o).2.2)]) []:=by
 refine A7.ofS (n:=55) (rs:=[.tmp 4,.cell 5 49,.tmp 6]) Tryz.func17 rfl (by kernel_rfl) Tryz.ntmps17 (by kernel_rfl) (by simp) (fun _ _=>A8.later) ?_
 intro hok V w0
 obtain ⟨R,hR⟩ : ∃ R,De v o=R:=⟨_,rfl⟩
 rw [hR]
 unfold De at hR
 have hI:∀ x∈v.held,I64 x.stamp.count/\I64 x.stamp.node/\I64 x.object:=fun x hx=>by
  obtain ⟨-,o1,o2,o3,-⟩:=D7 (by simpa [wrI] using hok.1.2.2.1.2) (enW x) (List.mem_map_of_mem hx)
  exact ⟨o1,o2,o3⟩
 refine g ?_
 refine AW.seq ?_
 refine AW.reg rfl fun KK hKK=>?_
 refine g ?_
 repeat' (refine hKK _ (g ?_);clear hKK KK)
 refine AW.freeze 300 _ rfl ⟨trivial,trivial,trivial,trivial,iR,trivial⟩ ?_
 simp only [go_sem,reduceIte,Nat.reduceEqDiff]
 refine g ?_
 repeat' (first | refine st_ rfl (g ?_) | refine Az (fun h=>g ?_) (fun h=>g ?_) | refine C3 (fun h=>g ?_) (fun h=>g ?_) | (refine Ci rfl rfl (fun h e=>?_) (fun h e=>?_)<;>simp only [e]<;>clear e<;>refine g ?_) | (refine Ej rfl rfl (fun h=>?_) (fun h=>?_)<;>simp only [h]<;>refine g ?_) | refine A9 (Jv v iR) rfl (g ?_) | refine A9 (Ad0 _) rfl (g ?_) | refine A9 (A37 _ _) rfl (g ?_))
 ·rw [if_neg (by rintro ⟨a,_⟩;simp [a] at h)] at hR
  exact Zl hR.symm
 ·rw [if_neg (by rintro ⟨_,a⟩;simp [E9] at a;omega)] at hR
  exact Zl hR.symm
 ·rw [if_neg (by rintro ⟨_,a⟩;simp [E9] at a;omega)] at hR
  exact Zl hR.symm
 ·rw [if_pos ⟨by simpa using (by assumption:(!Af v)=false),by simp [E9];omega⟩,if_pos h] at hR
  exact Zl hR.symm
 rename_i h1 h2 h3
 have hF:Af v=true:=by simpa using h1
 have hO:E9 o=true:=by simp [E9];omega
 rw [if_pos ⟨hF,hO⟩,if_neg (by simp [h])] at hR
 have hhf:Bv v.held=true:=by
  simp only [Af,F9,Bool.and_eq_true] at hF
  exact hF.1.1.1.1.2
 have hget:=Af4 v.held o
 unfold Ao0 at hget
 rw [if_pos hhf] at hget
 cases hg:D5 v.held o with
 | none =>
  rw [hg] at hget hR
  simp only at hget hR
  refine A9 hget rfl (g ?_)
  refine g ?_
  refine AW.freeze 800 _ rfl ⟨rfl,rfl,rfl,trivial,trivial⟩ ?_
  simp only [go_sem,reduceIte,Nat.reduceEqDiff]
  refine g ?_
  repeat' refine st_ rfl (g ?_)
  refine AW.drawn (ds:=[41,42,4,6]) (fin:=[1]) (bs:=[1,1,1,1,2]) [⟨[],[],[0],[],0⟩,⟨[],[],[],[],0⟩,⟨[],[],[],[],0⟩,⟨[(41,0)],[],[],[0],1⟩,⟨[(42,1)],[],[],[],0⟩] (by kernel_rfl) rfl (by kernel_rfl) rfl rfl rfl fun KD hKD=>?_
  refine g ?_
  repeat' (first | refine st_ rfl (g ?_) | (refine hKD _ _ ⟨rfl,g ?_⟩;clear hKD KD))
  exact Zl hR.symm
 | some w =>
  rw [hg] at hget hR
  simp only at hget hR
  obtain ⟨w1,w2,w3⟩:=Bo3 hg hI
  refine A9 hget rfl (g ?_)
  refine g ?_
  refine AW.freeze 800 _ rfl ⟨w1,w2,w3,trivial,trivial⟩ ?_
  simp only [go_sem,reduceIte,Nat.reduceEqDiff]
  refine g ?_
  repeat' (first | refine st_ rfl (g ?_) | refine C3 (fun h=>g ?_) (fun h=>g ?_) | refine A9 (C41 v.bodies o w.stamp iO w1 w2) rfl (g ?_))
  ·rw [if_pos h] at hR
   subst hR
   refine AW.drawn (ds:=[41,42,4,6]) (fin:=[1]) (bs:=[1,1,1,1,2]) [⟨[],[],[0],[],0⟩,⟨[],[],[],[],0⟩,⟨[],[],[],[],0⟩,⟨[(41,0)],[],[],[0],1⟩,⟨[(42,1)],[],[],[],0⟩] (by kernel_rfl) rfl (by kernel_rfl) rfl rfl rfl fun KD hKD=>?_
   refine g ?_
   repeat' (first | refine st_ rfl (g ?_) | (refine hKD _ _ ⟨rfl,g ?_⟩;clear hKD KD))
   refine G6 rfl fun p hp=>?_
   simp only [List.zip_cons_cons,List.zip_nil_right,List.mem_cons,List.not_mem_nil,or_false] at hp
   rcases hp with rfl | rfl | rfl
   ·exact Bf 1
   ·exact Cm.rfl_ _
   ·exact Cm.rfl_ _
  ·rw [if_neg (by simp [h])] at hR
   subst hR
   refine AW.drawn (ds:=[52,53,54,4,6]) (fin:=[1]) (bs:=[1,1,1,1,1,2]) [⟨[],[],[],[],0⟩,⟨[],[],[0],[],0⟩,⟨[],[],[],[],0⟩,⟨[(52,0)],[],[],[],0⟩,⟨[(53,1)],[],[],[0],1⟩,⟨[(54,2)],[],[],[],0⟩] (by kernel_rfl) rfl (by kernel_rfl) rfl rfl rfl fun KD hKD=>?_
   refine g ?_
   repeat' (first | refine st_ rfl (g ?_) | (refine hKD _ _ ⟨rfl,g ?_⟩;clear hKD KD))
   exact Cm.rfl_ _
end Go.Proofs.YthlgnjlpakimaaaGreatDoor
