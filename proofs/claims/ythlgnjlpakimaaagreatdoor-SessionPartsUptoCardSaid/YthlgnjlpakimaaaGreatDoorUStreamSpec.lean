/- Logs, and what a stream tells of them: plain specifications and laws. No program is known here. -/
import Derived.Test.YthlgnjlpakimaaaGreatDoorUNoteSmall
import Derived.Test.YthlgnjlpakimaaaGreatDoorUTidyLaw
import Derived.Test.YthlgnjlpakimaaaGreatDoorUSpanIn
import Derived.Test.YthlgnjlpakimaaaGreatDoorUNoteWalk
import Derived.Test.YthlgnjlpakimaaaGreatDoorUVecLaw
set_option linter.all false
set_option linter.unnecessarySimpa false
set_option linter.unusedSimpArgs false
set_option linter.unusedVariables false
namespace Go.Proofs.YthlgnjlpakimaaaGreatDoor
open Go.ChangeShapes Go.WideShapes Go.ChangeAt Go.RowKit
def Vm (it:List Ad) (l:List Aq):List Aq:=l.filter fun y=>Bv it y.object
def Em (it:List Ad) (l:List Aq):List Int:=(l.filter fun y=>!Bv it y.object).map (·.object)
theorem Xq (it:List Ad) (l:List Aq) (y:Aq):Vm it (l++[y])=if Bv it y.object=true then Vm it l++[y] else Vm it l:=by
 unfold Vm;rw [List.filter_append];split<;>simp [*]
theorem Sq (it:List Ad) (l:List Aq) (y:Aq):Em it (l++[y])=if Bv it y.object=true then Em it l else Em it l++[y.object]:=by
 unfold Em;rw [List.filter_append,List.map_append];split<;>simp [*]
theorem A08 (it:List Ad) (l:List Aq):(Vm it l).length<=l.length:=List.length_filter_le _ _
theorem Ac5 (it:List Ad) (l:List Aq):(Em it l).length<=l.length:=by unfold Em;rw [List.length_map];exact List.length_filter_le _ _
def Hj (x:B7) (it:List Ad):List Ad:=B9 (x.blur++B9 (Ng (Em it x.writes)))
def G1 (x:B7) (it:List Ad):B7:=⟨x.start,x.end_,Hj x it,Vm it x.writes⟩
def Aq8:B7:=⟨[],[],[],[]⟩
def C65 (x:B7) (it:List Ad):B7×Int:=if Al x=true then (G1 x it,0) else (Aq8,1)
theorem B30 (os:List Int) (o:Int):Ak (Ng os) o=os.any fun p=>decide (p=o):=by
 unfold Ak Ng
 rw [List.any_map]
 congr 1
 funext p
 rw [Bool.eq_iff_iff]
 simp only [Function.comp,Bool.and_eq_true,decide_eq_true_eq]
 omega
theorem Km (x:B7) (it:List Ad):Hj x it=C1 fun o=>Ak x.blur o || (Em it x.writes).any fun p=>decide (p=(o:Int)):=by
 unfold Hj
 rw [B9]
 refine Dd fun o ho=>?_
 rw [Cm,B9,Cc _ ho,B30]
end Go.Proofs.YthlgnjlpakimaaaGreatDoor
namespace Go.Proofs.YthlgnjlpakimaaaGreatDoor
structure Log where
 base:List Ab
 notes:List B7
 sure:Int
def Cp:List Ab->List B7->Bool
 | _,[]=>true
 | k,n :: l=>(Al n&&Ba k n.start)&&Cp (Eb [k,n.end_]) l
def Ra (l:Log):Bool:=decide (0<=l.sure)&&decide (l.sure<=l.notes.length)
def B4 (l:Log):Bool:=Av l.base&&Ra l&&Cp l.base l.notes
def Db (k:List Ab) (l:List B7):List Ab:=l.foldl (fun k n=>Eb [k,n.end_]) k
theorem B35 {a:List Ab} (h:Av a=true):Eb [a]=a:=by
 unfold Eb
 rw [Ac1 (d:=fun n=>A9 a n) fun n _=>B37 a n]
 exact Vd h
theorem A81 (ls:List (List Ab)):Av (Eb ls)=true:=Sm _
theorem F1:∀ (l m:List B7) (k:List Ab),Cp k (l++m)=(Cp k l&&Cp (Db k l) m)
 | [],m,k=>by simp [Cp,Db]
 | n :: l,m,k=>by
  rw [List.cons_append,Cp,Cp,F1 l m,Bool.and_assoc,Bool.and_assoc,Bool.and_assoc]
  rfl
theorem Qc (k:List Ab) (l:List B7) (n:B7):Db k (l++[n])=Eb [Db k l,n.end_]:=by simp [Db]
theorem Mr:∀ {l:List B7} {k:List Ab},Cp k l=true->∀ n∈l,Al n=true
 | [],_,_,n,hn=>by cases hn
 | m :: l,k,h,n,hn=>by
  simp only [Cp,Bool.and_eq_true] at h
  rcases List.mem_cons.1 hn with rfl | hn
  ·exact h.1.1
  ·exact Mr h.2 n hn
theorem Ye (l:Log):B4 l=(Cp (Eb [l.base]) l.notes&&(Av l.base&&Ra l)):=by
 unfold B4
 cases h:Av l.base with
 | false=>simp
 | true=>rw [B35 h,Bool.and_comm]
theorem Ms {l:Log} (h:B4 l=true):∀ n∈l.notes,Al n=true:=by
 simp only [B4,Bool.and_eq_true] at h
 exact Mr h.2
theorem G7 {l:Log} (h:B4 l=true):0<=l.sure/\l.sure<=l.notes.length:=by
 simp only [B4,Ra,Bool.and_eq_true,decide_eq_true_eq] at h
 exact h.1.2
-- where to begin
def B46 (v:List Ab) (l:List B7):Nat:=l.findIdx fun n=>!Ba v n.end_
def Ba3 (l:Log) (v:List Ab):Int×Int:=if B4 l=true then (if Ba v l.base=true then ((B46 v l.notes:Nat),0) else (0,12)) else (0,1)
def Cz0 (l:Log) (v:List Ab):Int×Int:=if (Ba3 l v).2=12 then (-1,0) else Ba3 l v
-- a batch
def D1 (a b:List Ad):List Ad:=C1 fun o=>Ak a o&&Ak b o
def Mj (it:List Ad) (a b:B7):Bool:=decide (a.writes=[])&&decide (b.writes=[])&&decide (a.end_=b.start)&&decide (D1 a.blur it=D1 b.blur it)
def Yc (a b:B7):B7:=⟨a.start,Eb [a.end_,b.end_],B9 (a.blur++b.blur),[]⟩
def Hm (it:List Ad) (out:List B7) (x:B7):List B7 :=
 match out.getLast? with
 | some a=>if Mj it a x=true then out.dropLast++[Yc a x] else out++[x]
 | none=>out++[x]
def Ll (it:List Ad) (most:Int) (out:List B7) (x:B7):Bool :=
 match out.getLast? with
 | some a=>!Mj it a x&&decide ((out.length:Int)=most)
 | none=>decide ((out.length:Int)=most)
def El (it:List Ad) (most:Int):List B7->Nat->List B7->List B7×Nat
 | out,i,[]=>(out,i)
 | out,i,x :: l=>if Ll it most out x=true then (out,i) else El it most (Hm it out x) (i+1) l
def Dq (l:Log) (it:List Ad):List B7:=(l.notes.take l.sure.toNat).map fun n=>G1 n it
def Aa4 (l:Log) (at_ most:Int):Bool:=B4 l&&decide (0<=at_)&&decide (at_<=l.sure)&&decide (1<=most)
def Qo (l:Log) (at_:Int) (it:List Ad) (most:Int):List B7×Nat:=El it most [] at_.toNat ((Dq l it).drop at_.toNat)
def K3 (l:Log) (at_:Int) (it:List Ad) (most:Int):List B7×Int×Int :=
 if Aa4 l at_ most=true then ((Qo l at_ it most).1,((Qo l at_ it most).2:Nat),0) else ([],0,1)
-- what is told is formed
theorem J3 {a b:List Ab} : Ba a b=true↔∀ n:Nat,n < 64->A9 b n<=A9 a n:=by unfold Ba;exact decide_eq_true_iff
theorem G0 {x:B7} : ∀ {l:List Aq} {e:Int},Dt x e l=true↔(∀ y∈l,e < y.object/\0<=y.object/\y.object<=255/\Bv x.blur y.object=false/\Fs x.end_ y.stamp=true)/\l.Pairwise fun a b=>a.object < b.object
 | [],e=>by simp [Dt]
 | y :: l,e=>by
  simp only [Dt,Bool.and_eq_true,decide_eq_true_eq,Bool.not_eq_true',G0 (l:=l),List.mem_cons,List.pairwise_cons]
  constructor
  ·rintro ⟨⟨⟨⟨h1,h2,h3⟩,h4⟩,h5⟩,h6,h7⟩
   refine ⟨fun z hz=>?_,fun z hz=>(h6 z hz).1,h7⟩
   rcases hz with rfl | hz
   ·exact ⟨h1,h2,h3,h4,h5⟩
   ·have:=h6 z hz
    exact ⟨by omega,this.2⟩
  ·rintro ⟨h1,h2,h3⟩
   have:=h1 y (.inl rfl)
   exact ⟨⟨⟨⟨this.1,this.2.1,this.2.2.1⟩,this.2.2.2.1⟩,this.2.2.2.2⟩,fun z hz=>⟨h2 z hz,(h1 z (.inr hz)).2⟩,h3⟩
theorem D5 {x:B7} : Al x=true↔Av x.start=true/\Av x.end_=true/\Ba x.end_ x.start=true/\Ci x.blur=true/\Dt x (-1) x.writes=true:=by
 simp only [Al,Bool.and_eq_true,and_assoc]
theorem Z9 (f:Nat->Bool) {o:Int} (h0:0<=o) (h1:o<=255):Bv (C1 f) o=f o.toNat:=by
 have:=Cc f (o:=o.toNat) (by omega)
 rw [show ((o.toNat:Nat):Int)=o by omega] at this
 unfold Bv
 rw [this]
 simp [h0,h1]
theorem Lj {x:B7} (it:List Ad) (h:Al x=true):Al (G1 x it)=true:=by
 obtain ⟨h1,h2,h3,h4,h5⟩:=D5.1 h
 obtain ⟨h6,h7⟩:=G0.1 h5
 refine D5.2 ⟨h1,h2,h3,?_,G0.2 ⟨fun y hy=>?_,h7.sublist List.filter_sublist⟩⟩
 ·rw [show (G1 x it).blur=Hj x it from rfl,Km]
  exact Bg _
 ·have hm:y∈x.writes:=(List.mem_filter.1 hy).1
  have hs:Bv it y.object=true:=by have:=(List.mem_filter.1 hy).2;exact this
  obtain ⟨a1,a2,a3,a4,a5⟩:=h6 y hm
  refine ⟨a1,a2,a3,?_,a5⟩
  rw [show (G1 x it).blur=Hj x it from rfl,Km,Z9 _ a2 a3]
  have e:((y.object.toNat:Nat):Int)=y.object:=by omega
  rw [e,Bool.or_eq_false_iff]
  refine ⟨?_,?_⟩
  ·unfold Bv at a4
   simpa [a2,a3] using a4
  ·rw [Bool.eq_false_iff]
   intro hh
   obtain ⟨p,hp,he⟩:=List.any_eq_true.1 hh
   have he:=of_decide_eq_true he
   unfold Em at hp
   obtain ⟨z,hz,hz2⟩:=List.mem_map.1 hp
   have:=(List.mem_filter.1 hz).2
   rw [hz2,he,hs] at this
   simp at this
theorem A78 {a b:B7} (ha:Al a=true) (hb:Al b=true):Al (Yc a b)=true:=by
 obtain ⟨h1,h2,h3,h4,h5⟩:=D5.1 ha
 have hb:Ci (B9 (a.blur++b.blur))=true:=by unfold B9;exact Bg _
 refine D5.2 ⟨h1,A81 _,J3.2 fun n hn=>?_,hb,rfl⟩
 show A9 a.start n<=A9 (Eb [a.end_,b.end_]) n
 rw [Zl _ hn,B36]
 have:=J3.1 h3 n hn
 omega
theorem Sw {it:List Ad} {out:List B7} {x:B7} (h:∀ n∈out,Al n=true) (hx:Al x=true):∀ n∈Hm it out x,Al n=true:=by
 unfold Hm
 have hap:∀ n∈out++[x],Al n=true:=fun n hn=>by
  rcases List.mem_append.1 hn with hn | hn
  ·exact h n hn
  ·rw [List.mem_singleton.1 hn];exact hx
 split
 ·rename_i a ha
  split
  ·intro n hn
   rcases List.mem_append.1 hn with hn | hn
   ·exact h n (List.dropLast_subset _ hn)
   ·rw [List.mem_singleton.1 hn]
    exact A78 (h a (List.mem_of_getLast? ha)) hx
  ·exact hap
 ·exact hap
-- batches one after the other
section
variable {it : List Ad} {most : Int}
def Pj (it:List Ad) (out:List B7) (l:List B7):List B7:=l.foldl (Hm it) out
theorem Zy (out:List B7) (x:B7):out.length<=(Hm it out x).length/\(Hm it out x).length<=out.length+1/\(Ll it most out x=false->(out.length:Int)<=most->((Hm it out x).length:Int)<=most):=by
 unfold Hm Ll
 split
 ·rename_i a ha
  have hne:out≠[]:=by rintro rfl;simp at ha
  have:=List.length_pos_iff.2 hne
  split
  ·simp only [List.length_append,List.length_dropLast,List.length_cons,List.length_nil]
   exact ⟨by omega,by omega,fun _ _=>by omega⟩
  ·rename_i hg
   simp only [List.length_append,List.length_cons,List.length_nil,Bool.and_eq_false_iff,decide_eq_false_iff_not]
   refine ⟨by omega,by omega,fun h1 h2=>?_⟩
   rcases h1 with h1 | h1
   ·simp [hg] at h1
   ·omega
 ·simp only [List.length_append,List.length_cons,List.length_nil,decide_eq_false_iff_not]
  exact ⟨by omega,by omega,fun _ _=>by omega⟩
theorem L6:∀ (l out:List B7) (i:Nat),∃ k,k<=l.length/\El it most out i l=(Pj it out (l.take k),i+k)/\(∀ x,l[k]? = some x->Ll it most (Pj it out (l.take k)) x=true)/\((out.length:Int)<=most->((Pj it out (l.take k)).length:Int)<=most) /\
  out.length<=(Pj it out (l.take k)).length/\(Pj it out (l.take k)).length<=out.length+k
 | [],out,i=>⟨0,Nat.le_refl _,rfl,fun x h=>by simp at h,fun h=>h,Nat.le_refl _,Nat.le_refl _⟩
 | x :: l,out,i=>by
  unfold El
  by_cases h:Ll it most out x=true
  ·rw [if_pos h]
   exact ⟨0,Nat.zero_le _,rfl,fun y hy=>by simp at hy;subst hy;exact h,fun h=>h,Nat.le_refl _,Nat.le_refl _⟩
  ·rw [if_neg h]
   obtain ⟨k,h1,h2,h3,h4,h5,h6⟩:=L6 l (Hm it out x) (i+1)
   obtain ⟨s1,s2,s3⟩:=Zy (it:=it) (most:=most) out x
   exact ⟨k+1,by simp;omega,by rw [h2,List.take_succ_cons];exact Prod.ext rfl (by simp only;omega),fun y hy=>h3 y (by simpa using hy),fun h0=>h4 (s3 (by simpa using h) h0),Nat.le_trans s1 h5,by
    show (Pj it (Hm it out x) (l.take k)).length<=_
    omega⟩
end
end Go.Proofs.YthlgnjlpakimaaaGreatDoor
