/- Logs, and what a stream tells of them: plain specifications and laws. No program is known here. -/
import Derived.Test.YthlgnjlpakimaaaGreatDoorQNoteSmall
import Derived.Test.YthlgnjlpakimaaaGreatDoorQTidyLaw
import Derived.Test.YthlgnjlpakimaaaGreatDoorQNoteWalk
import Derived.Test.YthlgnjlpakimaaaGreatDoorQVecLaw
set_option linter.all false
set_option linter.unnecessarySimpa false
set_option linter.unusedSimpArgs false
set_option linter.unusedVariables false
namespace Go.Proofs.YthlgnjlpakimaaaGreatDoor
open Go.ChangeShapes Go.WideShapes Go.ChangeAt Go.RowKit
def A81 (it:List Ad) (l:List Ai):List Ai:=l.filter fun y=>By it y.object
def G5 (it:List Ad) (l:List Ai):List Int:=(l.filter fun y=>!By it y.object).map (·.object)
theorem Af9 (it:List Ad) (l:List Ai) (y:Ai):A81 it (l++[y])=if By it y.object=true then A81 it l++[y] else A81 it l:=by
 unfold A81;rw [List.filter_append];split<;>simp [*]
theorem Yz (it:List Ad) (l:List Ai) (y:Ai):G5 it (l++[y])=if By it y.object=true then G5 it l else G5 it l++[y.object]:=by
 unfold G5;rw [List.filter_append,List.map_append];split<;>simp [*]
theorem Aq2 (it:List Ad) (l:List Ai):(A81 it l).length<=l.length:=List.length_filter_le _ _
theorem B33 (it:List Ad) (l:List Ai):(G5 it l).length<=l.length:=by unfold G5;rw [List.length_map];exact List.length_filter_le _ _
def Jy (x:At) (it:List Ad):List Ad:=Br (x.blur++Br (Pa (G5 it x.writes)))
def Eb (x:At) (it:List Ad):At:=⟨x.start,x.end_,Jy x it,A81 it x.writes⟩
def Ay1:At:=⟨[],[],[],[]⟩
def Da2 (x:At) (it:List Ad):At×Int:=if Ae x=true then (Eb x it,0) else (Ay1,1)
theorem As7 (os:List Int) (o:Int):Al (Pa os) o=os.any fun p=>decide (p=o):=by
 unfold Al Pa
 rw [List.any_map]
 congr 1
 funext p
 rw [Bool.eq_iff_iff]
 simp only [Function.comp,Bool.and_eq_true,decide_eq_true_eq]
 omega
theorem La (x:At) (it:List Ad):Jy x it=Ch fun o=>Al x.blur o || (G5 it x.writes).any fun p=>decide (p=(o:Int)):=by
 unfold Jy
 rw [Br]
 refine Er fun o ho=>?_
 rw [D2,Br,Cc _ ho,As7]
theorem Zq {x:At} (h:Ae x=true):x.writes.length<=256/\x.blur.length<=128/\∀ y∈x.writes,0<=y.object/\y.object<=255:=by
 simp only [Ae,Bool.and_eq_true] at h
 have key:∀ (l:List Ai) (e:Int),-1<=e->e<=255->Eg x e l=true->(l.length:Int)+e<=255/\∀ y∈l,0<=y.object/\y.object<=255:=by
  intro l
  induction l with
  | nil=>exact fun e h1 h2 _=>⟨by simpa using h2,fun y hy=>by cases hy⟩
  | cons y l ih =>
   intro e h1 h2 hw
   simp only [Eg,Bool.and_eq_true,decide_eq_true_eq] at hw
   obtain ⟨i1,i2⟩:=ih y.object (by omega) (by omega) hw.2
   refine ⟨by simp only [List.length_cons];omega,fun z hz=>?_⟩
   rcases List.mem_cons.1 hz with rfl | hz
   ·omega
   ·exact i2 z hz
 have:=key x.writes (-1) (by omega) (by omega) h.2
 exact ⟨by omega,((El _).1 h.1.2).1,this.2⟩
end Go.Proofs.YthlgnjlpakimaaaGreatDoor
namespace Go.Proofs.YthlgnjlpakimaaaGreatDoor
structure Log where
 base:List Ab
 notes:List At
 sure:Int
def Cl:List Ab->List At->Bool
 | _,[]=>true
 | k,n :: l=>(Ae n&&Ay k n.start)&&Cl (E4 [k,n.end_]) l
def U9 (l:Log):Bool:=decide (0<=l.sure)&&decide (l.sure<=l.notes.length)
def Bh (l:Log):Bool:=Ak l.base&&U9 l&&Cl l.base l.notes
def Dx (k:List Ab) (l:List At):List Ab:=l.foldl (fun k n=>E4 [k,n.end_]) k
theorem C12 {a:List Ab} (h:Ak a=true):E4 [a]=a:=by
 unfold E4
 rw [Fq (d:=fun n=>Aa a n) fun n _=>C13 a n]
 exact Uh h
theorem Ay7 (ls:List (List Ab)):Ak (E4 ls)=true:=E7 _
theorem Ee:∀ (l m:List At) (k:List Ab),Cl k (l++m)=(Cl k l&&Cl (Dx k l) m)
 | [],m,k=>by simp [Cl,Dx]
 | n :: l,m,k=>by
  rw [List.cons_append,Cl,Cl,Ee l m,Bool.and_assoc,Bool.and_assoc,Bool.and_assoc]
  rfl
theorem Vb (k:List Ab) (l:List At) (n:At):Dx k (l++[n])=E4 [Dx k l,n.end_]:=by simp [Dx]
theorem Ng:∀ {l:List At} {k:List Ab},Cl k l=true->∀ n∈l,Ae n=true
 | [],_,_,n,hn=>by cases hn
 | m :: l,k,h,n,hn=>by
  simp only [Cl,Bool.and_eq_true] at h
  rcases List.mem_cons.1 hn with rfl | hn
  ·exact h.1.1
  ·exact Ng h.2 n hn
theorem Aj0 (l:Log):Bh l=(Cl (E4 [l.base]) l.notes&&(Ak l.base&&U9 l)):=by
 unfold Bh
 cases h:Ak l.base with
 | false=>simp
 | true=>rw [C12 h,Bool.and_comm]
theorem Ro {l:Log} (h:Bh l=true):∀ n∈l.notes,Ae n=true:=by
 simp only [Bh,Bool.and_eq_true] at h
 exact Ng h.2
theorem K7 {l:Log} (h:Bh l=true):0<=l.sure/\l.sure<=l.notes.length:=by
 simp only [Bh,U9,Bool.and_eq_true,decide_eq_true_eq] at h
 exact h.1.2
-- where to begin
def C26 (v:List Ab) (l:List At):Nat:=l.findIdx fun n=>!Ay v n.end_
def C99 (l:Log) (v:List Ab):Int×Int:=if Bh l=true then (if Ay v l.base=true then ((C26 v l.notes:Nat),0) else (0,12)) else (0,1)
def E37 (l:Log) (v:List Ab):Int×Int:=if (C99 l v).2=12 then (-1,0) else C99 l v
-- a batch
def Cw (a b:List Ad):List Ad:=Ch fun o=>Al a o&&Al b o
def Ph (it:List Ad) (a b:At):Bool:=decide (a.writes=[])&&decide (b.writes=[])&&decide (a.end_=b.start)&&decide (Cw a.blur it=Cw b.blur it)
def N1 (a b:At):At:=⟨a.start,E4 [a.end_,b.end_],Br (a.blur++b.blur),[]⟩
def Hf (it:List Ad) (out:List At) (x:At):List At :=
 match out.getLast? with
 | some a=>if Ph it a x=true then out.dropLast++[N1 a x] else out++[x]
 | none=>out++[x]
def Pg (it:List Ad) (most:Int) (out:List At) (x:At):Bool :=
 match out.getLast? with
 | some a=>!Ph it a x&&decide ((out.length:Int)=most)
 | none=>decide ((out.length:Int)=most)
def Fy (it:List Ad) (most:Int):List At->Nat->List At->List At×Nat
 | out,i,[]=>(out,i)
 | out,i,x :: l=>if Pg it most out x=true then (out,i) else Fy it most (Hf it out x) (i+1) l
def Eu (l:Log) (it:List Ad):List At:=(l.notes.take l.sure.toNat).map fun n=>Eb n it
def Al6 (l:Log) (at_ most:Int):Bool:=Bh l&&decide (0<=at_)&&decide (at_<=l.sure)&&decide (1<=most)
def Lp (l:Log) (at_:Int) (it:List Ad) (most:Int):List At×Nat:=Fy it most [] at_.toNat ((Eu l it).drop at_.toNat)
def Kw (l:Log) (at_:Int) (it:List Ad) (most:Int):List At×Int×Int :=
 if Al6 l at_ most=true then ((Lp l at_ it most).1,((Lp l at_ it most).2:Nat),0) else ([],0,1)
-- what is told is formed
theorem Ca {a b:List Ab} : Ay a b=true↔∀ n:Nat,n < 64->Aa b n<=Aa a n:=by unfold Ay;exact decide_eq_true_iff
theorem Fz {x:At} : ∀ {l:List Ai} {e:Int},Eg x e l=true↔(∀ y∈l,e < y.object/\0<=y.object/\y.object<=255/\By x.blur y.object=false/\Dr x.end_ y.stamp=true)/\l.Pairwise fun a b=>a.object < b.object
 | [],e=>by simp [Eg]
 | y :: l,e=>by
  simp only [Eg,Bool.and_eq_true,decide_eq_true_eq,Bool.not_eq_true',Fz (l:=l),List.mem_cons,List.pairwise_cons]
  constructor
  ·rintro ⟨⟨⟨⟨h1,h2,h3⟩,h4⟩,h5⟩,h6,h7⟩
   refine ⟨fun z hz=>?_,fun z hz=>(h6 z hz).1,h7⟩
   rcases hz with rfl | hz
   ·exact ⟨h1,h2,h3,h4,h5⟩
   ·have:=h6 z hz
    exact ⟨by omega,this.2⟩
  ·rintro ⟨h1,h2,h3⟩
   have:=h1 y (.inl rfl)
   exact ⟨⟨⟨⟨this.1,this.2.1,this.2.2.1⟩,this.2.2.2.1⟩,this.2.2.2.2⟩,fun z hz=>⟨h2 z hz,(h1 z (.inr hz)).2⟩,h3⟩
theorem Cs {x:At} : Ae x=true↔Ak x.start=true/\Ak x.end_=true/\Ay x.end_ x.start=true/\D8 x.blur=true/\Eg x (-1) x.writes=true:=by
 simp only [Ae,Bool.and_eq_true,and_assoc]
theorem Am7 (f:Nat->Bool) {o:Int} (h0:0<=o) (h1:o<=255):By (Ch f) o=f o.toNat:=by
 have:=Cc f (o:=o.toNat) (by omega)
 rw [show ((o.toNat:Nat):Int)=o by omega] at this
 unfold By
 rw [this]
 simp [h0,h1]
theorem Jw {x:At} (it:List Ad) (h:Ae x=true):Ae (Eb x it)=true:=by
 obtain ⟨h1,h2,h3,h4,h5⟩:=Cs.1 h
 obtain ⟨h6,h7⟩:=Fz.1 h5
 refine Cs.2 ⟨h1,h2,h3,?_,Fz.2 ⟨fun y hy=>?_,h7.sublist List.filter_sublist⟩⟩
 ·rw [show (Eb x it).blur=Jy x it from rfl,La]
  exact Bt _
 ·have hm:y∈x.writes:=(List.mem_filter.1 hy).1
  have hs:By it y.object=true:=by have:=(List.mem_filter.1 hy).2;exact this
  obtain ⟨a1,a2,a3,a4,a5⟩:=h6 y hm
  refine ⟨a1,a2,a3,?_,a5⟩
  rw [show (Eb x it).blur=Jy x it from rfl,La,Am7 _ a2 a3]
  have e:((y.object.toNat:Nat):Int)=y.object:=by omega
  rw [e,Bool.or_eq_false_iff]
  refine ⟨?_,?_⟩
  ·unfold By at a4
   simpa [a2,a3] using a4
  ·rw [Bool.eq_false_iff]
   intro hh
   obtain ⟨p,hp,he⟩:=List.any_eq_true.1 hh
   have he:=of_decide_eq_true he
   unfold G5 at hp
   obtain ⟨z,hz,hz2⟩:=List.mem_map.1 hp
   have:=(List.mem_filter.1 hz).2
   rw [hz2,he,hs] at this
   simp at this
theorem Tm {a b:At} (ha:Ae a=true) (hb:Ae b=true):Ae (N1 a b)=true:=by
 obtain ⟨h1,h2,h3,h4,h5⟩:=Cs.1 ha
 have hb:D8 (Br (a.blur++b.blur))=true:=by unfold Br;exact Bt _
 refine Cs.2 ⟨h1,Ay7 _,Ca.2 fun n hn=>?_,hb,rfl⟩
 show Aa a.start n<=Aa (E4 [a.end_,b.end_]) n
 rw [Gq _ hn,Gf]
 have:=Ca.1 h3 n hn
 omega
theorem Z6 {it:List Ad} {out:List At} {x:At} (h:∀ n∈out,Ae n=true) (hx:Ae x=true):∀ n∈Hf it out x,Ae n=true:=by
 unfold Hf
 have hap:∀ n∈out++[x],Ae n=true:=fun n hn=>by
  rcases List.mem_append.1 hn with hn | hn
  ·exact h n hn
  ·rw [List.mem_singleton.1 hn];exact hx
 split
 ·rename_i a ha
  split
  ·intro n hn
   rcases List.mem_append.1 hn with hn | hn
   ·exact h n (List.dropLast_subset _ hn)
   ·rw [List.mem_singleton.1 hn]
    exact Tm (h a (List.mem_of_getLast? ha)) hx
  ·exact hap
 ·exact hap
-- batches one after the other
section
variable {it : List Ad} {most : Int}
def Hu (it:List Ad) (out:List At) (l:List At):List At:=l.foldl (Hf it) out
theorem Ap5 (out:List At) (x:At):out.length<=(Hf it out x).length/\(Hf it out x).length<=out.length+1/\(Pg it most out x=false->(out.length:Int)<=most->((Hf it out x).length:Int)<=most):=by
 unfold Hf Pg
 split
 ·rename_i a ha
  have hne:out≠[]:=by rintro rfl;simp at ha
  have:=List.length_pos_iff.2 hne
  split
  ·simp only [List.length_append,List.length_dropLast,List.length_cons,List.length_nil]
   exact ⟨by omega,by omega,fun _ _=>by omega⟩
  ·rename_i hg
   simp only [List.length_append,List.length_cons,List.length_nil,Bool.and_eq_false_iff,decide_eq_false_iff_not]
   refine ⟨by omega,by omega,fun h1 h2=>?_⟩
   rcases h1 with h1 | h1
   ·simp [hg] at h1
   ·omega
 ·simp only [List.length_append,List.length_cons,List.length_nil,decide_eq_false_iff_not]
  exact ⟨by omega,by omega,fun _ _=>by omega⟩
theorem Ml:∀ (l out:List At) (i:Nat),∃ k,k<=l.length/\Fy it most out i l=(Hu it out (l.take k),i+k)/\(∀ x,l[k]? = some x->Pg it most (Hu it out (l.take k)) x=true)/\((out.length:Int)<=most->((Hu it out (l.take k)).length:Int)<=most) /\
  out.length<=(Hu it out (l.take k)).length/\(Hu it out (l.take k)).length<=out.length+k
 | [],out,i=>⟨0,Nat.le_refl _,rfl,fun x h=>by simp at h,fun h=>h,Nat.le_refl _,Nat.le_refl _⟩
 | x :: l,out,i=>by
  unfold Fy
  by_cases h:Pg it most out x=true
  ·rw [if_pos h]
   exact ⟨0,Nat.zero_le _,rfl,fun y hy=>by simp at hy;subst hy;exact h,fun h=>h,Nat.le_refl _,Nat.le_refl _⟩
  ·rw [if_neg h]
   obtain ⟨k,h1,h2,h3,h4,h5,h6⟩:=Ml l (Hf it out x) (i+1)
   obtain ⟨s1,s2,s3⟩:=Ap5 (it:=it) (most:=most) out x
   exact ⟨k+1,by simp;omega,by rw [h2,List.take_succ_cons];exact Prod.ext rfl (by simp only;omega),fun y hy=>h3 y (by simpa using hy),fun h0=>h4 (s3 (by simpa using h) h0),Nat.le_trans s1 h5,by
    show (Hu it (Hf it out x) (l.take k)).length<=_
    omega⟩
theorem Ao1 {l out:List At} {i:Nat} (h:((out.length+l.length:Nat):Int) < most):Fy it most out i l=(Hu it out l,i+l.length):=by
 obtain ⟨k,h1,h2,h3,h4,h5,h6⟩:=Ml (it:=it) (most:=most) l out i
 by_cases hk:k < l.length
 ·exfalso
  have:=h3 _ (List.getElem?_eq_getElem hk)
  unfold Pg at this
  split at this
  ·simp only [Bool.and_eq_true,decide_eq_true_eq] at this;omega
  ·simp only [decide_eq_true_eq] at this;omega
 ·obtain rfl:k=l.length:=by omega
  rw [h2,List.take_length]
end
end Go.Proofs.YthlgnjlpakimaaaGreatDoor
