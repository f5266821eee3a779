/- Logs, and what a stream tells of them: plain specifications and laws. No program is known here. -/
import Derived.Test.YthlgnjlpakimaaaGreatDoorVNoteSmall
import Derived.Test.YthlgnjlpakimaaaGreatDoorVTidyLaw
import Derived.Test.YthlgnjlpakimaaaGreatDoorVSpanIn
import Derived.Test.YthlgnjlpakimaaaGreatDoorVNoteWalk
import Derived.Test.YthlgnjlpakimaaaGreatDoorVVecLaw
set_option linter.all false
set_option linter.unnecessarySimpa false
set_option linter.unusedSimpArgs false
set_option linter.unusedVariables false
namespace Go.Proofs.YthlgnjlpakimaaaGreatDoor
open Go.ChangeShapes Go.WideShapes Go.ChangeAt Go.RowKit
def Ya (it:List Ad) (l:List Ai):List Ai:=l.filter fun y=>By it y.object
def F6 (it:List Ad) (l:List Ai):List Int:=(l.filter fun y=>!By it y.object).map (·.object)
theorem A01 (it:List Ad) (l:List Ai) (y:Ai):Ya it (l++[y])=if By it y.object=true then Ya it l++[y] else Ya it l:=by
 unfold Ya;rw [List.filter_append];split<;>simp [*]
theorem V2 (it:List Ad) (l:List Ai) (y:Ai):F6 it (l++[y])=if By it y.object=true then F6 it l else F6 it l++[y.object]:=by
 unfold F6;rw [List.filter_append,List.map_append];split<;>simp [*]
theorem A85 (it:List Ad) (l:List Ai):(Ya it l).length<=l.length:=List.length_filter_le _ _
theorem Ai6 (it:List Ad) (l:List Ai):(F6 it l).length<=l.length:=by unfold F6;rw [List.length_map];exact List.length_filter_le _ _
def Gv (x:Aq) (it:List Ad):List Ad:=Ba (x.blur++Ba (Ln (F6 it x.writes)))
def Dl (x:Aq) (it:List Ad):Aq:=⟨x.start,x.end_,Gv x it,Ya it x.writes⟩
def Ay4:Aq:=⟨[],[],[],[]⟩
def Cd6 (x:Aq) (it:List Ad):Aq×Int:=if Ag x=true then (Dl x it,0) else (Ay4,1)
theorem Aa7 (os:List Int) (o:Int):Ae (Ln os) o=os.any fun p=>decide (p=o):=by
 unfold Ae Ln
 rw [List.any_map]
 congr 1
 funext p
 rw [Bool.eq_iff_iff]
 simp only [Function.comp,Bool.and_eq_true,decide_eq_true_eq]
 omega
theorem Jf (x:Aq) (it:List Ad):Gv x it=C8 fun o=>Ae x.blur o || (F6 it x.writes).any fun p=>decide (p=(o:Int)):=by
 unfold Gv
 rw [Ba]
 refine E4 fun o ho=>?_
 rw [Cn,Ba,C3 _ ho,Aa7]
end Go.Proofs.YthlgnjlpakimaaaGreatDoor
namespace Go.Proofs.YthlgnjlpakimaaaGreatDoor
structure Log where
 base:List Aa
 notes:List Aq
 sure:Int
def C7:List Aa->List Aq->Bool
 | _,[]=>true
 | k,n :: l=>(Ag n&&At k n.start)&&C7 (Dq [k,n.end_]) l
def Y5 (l:Log):Bool:=decide (0<=l.sure)&&decide (l.sure<=l.notes.length)
def C0 (l:Log):Bool:=Ak l.base&&Y5 l&&C7 l.base l.notes
def Db (k:List Aa) (l:List Aq):List Aa:=l.foldl (fun k n=>Dq [k,n.end_]) k
theorem Ba9 {a:List Aa} (h:Ak a=true):Dq [a]=a:=by
 unfold Dq
 rw [G5 (d:=fun n=>A8 a n) fun n _=>Bb0 a n]
 exact Rg h
theorem Af6 (ls:List (List Aa)):Ak (Dq ls)=true:=Ff _
theorem Dp:∀ (l m:List Aq) (k:List Aa),C7 k (l++m)=(C7 k l&&C7 (Db k l) m)
 | [],m,k=>by simp [C7,Db]
 | n :: l,m,k=>by
  rw [List.cons_append,C7,C7,Dp l m,Bool.and_assoc,Bool.and_assoc,Bool.and_assoc]
  rfl
theorem S3 (k:List Aa) (l:List Aq) (n:Aq):Db k (l++[n])=Dq [Db k l,n.end_]:=by simp [Db]
theorem Nv:∀ {l:List Aq} {k:List Aa},C7 k l=true->∀ n∈l,Ag n=true
 | [],_,_,n,hn=>by cases hn
 | m :: l,k,h,n,hn=>by
  simp only [C7,Bool.and_eq_true] at h
  rcases List.mem_cons.1 hn with rfl | hn
  ·exact h.1.1
  ·exact Nv h.2 n hn
theorem A25 (l:Log):C0 l=(C7 (Dq [l.base]) l.notes&&(Ak l.base&&Y5 l)):=by
 unfold C0
 cases h:Ak l.base with
 | false=>simp
 | true=>rw [Ba9 h,Bool.and_comm]
theorem Nw {l:Log} (h:C0 l=true):∀ n∈l.notes,Ag n=true:=by
 simp only [C0,Bool.and_eq_true] at h
 exact Nv h.2
theorem H8 {l:Log} (h:C0 l=true):0<=l.sure/\l.sure<=l.notes.length:=by
 simp only [C0,Y5,Bool.and_eq_true,decide_eq_true_eq] at h
 exact h.1.2
-- where to begin
def Bb9 (v:List Aa) (l:List Aq):Nat:=l.findIdx fun n=>!At v n.end_
def Bi3 (l:Log) (v:List Aa):Int×Int:=if C0 l=true then (if At v l.base=true then ((Bb9 v l.notes:Nat),0) else (0,12)) else (0,1)
def D62 (l:Log) (v:List Aa):Int×Int:=if (Bi3 l v).2=12 then (-1,0) else Bi3 l v
-- a batch
def Ci (a b:List Ad):List Ad:=C8 fun o=>Ae a o&&Ae b o
def Lr (it:List Ad) (a b:Aq):Bool:=decide (a.writes=[])&&decide (b.writes=[])&&decide (a.end_=b.start)&&decide (Ci a.blur it=Ci b.blur it)
def Kx (a b:Aq):Aq:=⟨a.start,Dq [a.end_,b.end_],Ba (a.blur++b.blur),[]⟩
def G6 (it:List Ad) (out:List Aq) (x:Aq):List Aq :=
 match out.getLast? with
 | some a=>if Lr it a x=true then out.dropLast++[Kx a x] else out++[x]
 | none=>out++[x]
def Mj (it:List Ad) (most:Int) (out:List Aq) (x:Aq):Bool :=
 match out.getLast? with
 | some a=>!Lr it a x&&decide ((out.length:Int)=most)
 | none=>decide ((out.length:Int)=most)
def Ez (it:List Ad) (most:Int):List Aq->Nat->List Aq->List Aq×Nat
 | out,i,[]=>(out,i)
 | out,i,x :: l=>if Mj it most out x=true then (out,i) else Ez it most (G6 it out x) (i+1) l
def Fg (l:Log) (it:List Ad):List Aq:=(l.notes.take l.sure.toNat).map fun n=>Dl n it
def Bn3 (l:Log) (at_ most:Int):Bool:=C0 l&&decide (0<=at_)&&decide (at_<=l.sure)&&decide (1<=most)
def N0 (l:Log) (at_:Int) (it:List Ad) (most:Int):List Aq×Nat:=Ez it most [] at_.toNat ((Fg l it).drop at_.toNat)
def Mz (l:Log) (at_:Int) (it:List Ad) (most:Int):List Aq×Int×Int :=
 if Bn3 l at_ most=true then ((N0 l at_ it most).1,((N0 l at_ it most).2:Nat),0) else ([],0,1)
-- what is told is formed
theorem Cx {a b:List Aa} : At a b=true↔∀ n:Nat,n < 64->A8 b n<=A8 a n:=by unfold At;exact decide_eq_true_iff
theorem Fv {x:Aq} : ∀ {l:List Ai} {e:Int},Eo x e l=true↔(∀ y∈l,e < y.object/\0<=y.object/\y.object<=255/\By x.blur y.object=false/\Dv x.end_ y.stamp=true)/\l.Pairwise fun a b=>a.object < b.object
 | [],e=>by simp [Eo]
 | y :: l,e=>by
  simp only [Eo,Bool.and_eq_true,decide_eq_true_eq,Bool.not_eq_true',Fv (l:=l),List.mem_cons,List.pairwise_cons]
  constructor
  ·rintro ⟨⟨⟨⟨h1,h2,h3⟩,h4⟩,h5⟩,h6,h7⟩
   refine ⟨fun z hz=>?_,fun z hz=>(h6 z hz).1,h7⟩
   rcases hz with rfl | hz
   ·exact ⟨h1,h2,h3,h4,h5⟩
   ·have:=h6 z hz
    exact ⟨by omega,this.2⟩
  ·rintro ⟨h1,h2,h3⟩
   have:=h1 y (.inl rfl)
   exact ⟨⟨⟨⟨this.1,this.2.1,this.2.2.1⟩,this.2.2.2.1⟩,this.2.2.2.2⟩,fun z hz=>⟨h2 z hz,(h1 z (.inr hz)).2⟩,h3⟩
theorem Cl {x:Aq} : Ag x=true↔Ak x.start=true/\Ak x.end_=true/\At x.end_ x.start=true/\E9 x.blur=true/\Eo x (-1) x.writes=true:=by
 simp only [Ag,Bool.and_eq_true,and_assoc]
theorem A53 (f:Nat->Bool) {o:Int} (h0:0<=o) (h1:o<=255):By (C8 f) o=f o.toNat:=by
 have:=C3 f (o:=o.toNat) (by omega)
 rw [show ((o.toNat:Nat):Int)=o by omega] at this
 unfold By
 rw [this]
 simp [h0,h1]
theorem K5 {x:Aq} (it:List Ad) (h:Ag x=true):Ag (Dl x it)=true:=by
 obtain ⟨h1,h2,h3,h4,h5⟩:=Cl.1 h
 obtain ⟨h6,h7⟩:=Fv.1 h5
 refine Cl.2 ⟨h1,h2,h3,?_,Fv.2 ⟨fun y hy=>?_,h7.sublist List.filter_sublist⟩⟩
 ·rw [show (Dl x it).blur=Gv x it from rfl,Jf]
  exact Be _
 ·have hm:y∈x.writes:=(List.mem_filter.1 hy).1
  have hs:By it y.object=true:=by have:=(List.mem_filter.1 hy).2;exact this
  obtain ⟨a1,a2,a3,a4,a5⟩:=h6 y hm
  refine ⟨a1,a2,a3,?_,a5⟩
  rw [show (Dl x it).blur=Gv x it from rfl,Jf,A53 _ a2 a3]
  have e:((y.object.toNat:Nat):Int)=y.object:=by omega
  rw [e,Bool.or_eq_false_iff]
  refine ⟨?_,?_⟩
  ·unfold By at a4
   simpa [a2,a3] using a4
  ·rw [Bool.eq_false_iff]
   intro hh
   obtain ⟨p,hp,he⟩:=List.any_eq_true.1 hh
   have he:=of_decide_eq_true he
   unfold F6 at hp
   obtain ⟨z,hz,hz2⟩:=List.mem_map.1 hp
   have:=(List.mem_filter.1 hz).2
   rw [hz2,he,hs] at this
   simp at this
theorem Qs {a b:Aq} (ha:Ag a=true) (hb:Ag b=true):Ag (Kx a b)=true:=by
 obtain ⟨h1,h2,h3,h4,h5⟩:=Cl.1 ha
 have hb:E9 (Ba (a.blur++b.blur))=true:=by unfold Ba;exact Be _
 refine Cl.2 ⟨h1,Af6 _,Cx.2 fun n hn=>?_,hb,rfl⟩
 show A8 a.start n<=A8 (Dq [a.end_,b.end_]) n
 rw [La _ hn,Kz]
 have:=Cx.1 h3 n hn
 omega
theorem Ad3 {it:List Ad} {out:List Aq} {x:Aq} (h:∀ n∈out,Ag n=true) (hx:Ag x=true):∀ n∈G6 it out x,Ag n=true:=by
 unfold G6
 have hap:∀ n∈out++[x],Ag n=true:=fun n hn=>by
  rcases List.mem_append.1 hn with hn | hn
  ·exact h n hn
  ·rw [List.mem_singleton.1 hn];exact hx
 split
 ·rename_i a ha
  split
  ·intro n hn
   rcases List.mem_append.1 hn with hn | hn
   ·exact h n (List.dropLast_subset _ hn)
   ·rw [List.mem_singleton.1 hn]
    exact Qs (h a (List.mem_of_getLast? ha)) hx
  ·exact hap
 ·exact hap
-- batches one after the other
section
variable {it : List Ad} {most : Int}
def Ha (it:List Ad) (out:List Aq) (l:List Aq):List Aq:=l.foldl (G6 it) out
theorem A78 (out:List Aq) (x:Aq):out.length<=(G6 it out x).length/\(G6 it out x).length<=out.length+1/\(Mj it most out x=false->(out.length:Int)<=most->((G6 it out x).length:Int)<=most):=by
 unfold G6 Mj
 split
 ·rename_i a ha
  have hne:out≠[]:=by rintro rfl;simp at ha
  have:=List.length_pos_iff.2 hne
  split
  ·simp only [List.length_append,List.length_dropLast,List.length_cons,List.length_nil]
   exact ⟨by omega,by omega,fun _ _=>by omega⟩
  ·rename_i hg
   simp only [List.length_append,List.length_cons,List.length_nil,Bool.and_eq_false_iff,decide_eq_false_iff_not]
   refine ⟨by omega,by omega,fun h1 h2=>?_⟩
   rcases h1 with h1 | h1
   ·simp [hg] at h1
   ·omega
 ·simp only [List.length_append,List.length_cons,List.length_nil,decide_eq_false_iff_not]
  exact ⟨by omega,by omega,fun _ _=>by omega⟩
theorem Wg:∀ (l out:List Aq) (i:Nat),∃ k,k<=l.length/\Ez it most out i l=(Ha it out (l.take k),i+k)/\(∀ x,l[k]? = some x->Mj it most (Ha it out (l.take k)) x=true)/\((out.length:Int)<=most->((Ha it out (l.take k)).length:Int)<=most) /\
  out.length<=(Ha it out (l.take k)).length/\(Ha it out (l.take k)).length<=out.length+k
 | [],out,i=>⟨0,Nat.le_refl _,rfl,fun x h=>by simp at h,fun h=>h,Nat.le_refl _,Nat.le_refl _⟩
 | x :: l,out,i=>by
  unfold Ez
  by_cases h:Mj it most out x=true
  ·rw [if_pos h]
   exact ⟨0,Nat.zero_le _,rfl,fun y hy=>by simp at hy;subst hy;exact h,fun h=>h,Nat.le_refl _,Nat.le_refl _⟩
  ·rw [if_neg h]
   obtain ⟨k,h1,h2,h3,h4,h5,h6⟩:=Wg l (G6 it out x) (i+1)
   obtain ⟨s1,s2,s3⟩:=A78 (it:=it) (most:=most) out x
   exact ⟨k+1,by simp;omega,by rw [h2,List.take_succ_cons];exact Prod.ext rfl (by simp only;omega),fun y hy=>h3 y (by simpa using hy),fun h0=>h4 (s3 (by simpa using h) h0),Nat.le_trans s1 h5,by
    show (Ha it (G6 it out x) (l.take k)).length<=_
    omega⟩
theorem A67 {l out:List Aq} {i:Nat} (h:((out.length+l.length:Nat):Int) < most):Ez it most out i l=(Ha it out l,i+l.length):=by
 obtain ⟨k,h1,h2,h3,h4,h5,h6⟩:=Wg (it:=it) (most:=most) l out i
 by_cases hk:k < l.length
 ·exfalso
  have:=h3 _ (List.getElem?_eq_getElem hk)
  unfold Mj at this
  split at this
  ·simp only [Bool.and_eq_true,decide_eq_true_eq] at this;omega
  ·simp only [decide_eq_true_eq] at this;omega
 ·obtain rfl:k=l.length:=by omega
  rw [h2,List.take_length]
end
end Go.Proofs.YthlgnjlpakimaaaGreatDoor
