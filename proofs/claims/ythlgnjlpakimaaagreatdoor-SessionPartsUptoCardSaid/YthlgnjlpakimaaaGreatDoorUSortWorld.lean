/- A library function that turns a row of the caller's: the elder contract told so. No program is known here. -/
import Derived.Test.YthlgnjlpakimaaaGreatDoorUMarks
import Derived.Laws.CopyRow
import Derived.Laws.Externs
import Derived.Lib.Overlaps
import Derived.Lib.AppendZerosOnto
import Derived.Deep.RegionLaw
import Derived.Test.YthlgnjlpakimaaaGreatDoorUFlat
import Derived.Shelf.SlSortCmp.WholeK
import Derived.Test.YthlgnjlpakimaaaGreatDoorUAbsFrz
set_option linter.all false
set_option linter.unnecessarySimpa false
set_option linter.unusedSimpArgs false
set_option linter.unusedVariables false
namespace Go.Proofs.YthlgnjlpakimaaaGreatDoor
open Go.ChangeShapes Go.WideShapes Go.ChangeAt Go.RowKit
section
variable {P : Program}
end
section
variable {α : Type} {R : List Value -> α -> Prop} {k : Nat}
theorem Ae.open_ {w:World} {base:Nat} {e:TypeId} {g n c:Nat} {l:List α} (h:Ae R k w base e (.slice (some ⟨g,0,none⟩) n c) l) :
  ∃ cur:Array Value,n=l.length/\base<=g/\Blk w g e cur/\l.length<=c/\c<=maxLen/\cur.size=c*k/\l.length<=1073741824/\Bu R k (cur.toList.take (l.length*k)) l:=by
 obtain ⟨xs,hown,hch,hbig⟩:=h
 rcases hown.2 with ⟨h1,_⟩ | ⟨g',cap,cur,h1,hb,hg,hnc,hcm,hcs,ht⟩
 ·cases h1
 ·injection h1 with h1 h2 h3
  injection h1 with h1
  injection h1 with h1
  subst h1 h2 h3
  rw [<-ht] at hch
  exact ⟨cur,rfl,hb,hg,hnc,hcm,hcs,hbig,hch⟩
theorem Ae.shut {w:World} {base:Nat} {e:TypeId} {g n c:Nat} {cur:Array Value} {l:List α} (hb:base<=g) (hg:Blk w g e cur) (hn:n=l.length) (hnc:l.length<=c) (hcm:c<=maxLen) (hcs:cur.size=c*k) (hbig:l.length<=1073741824) (hch:Bu R k (cur.toList.take (l.length*k)) l) :
  Ae R k w base e (.slice (some ⟨g,0,none⟩) n c) l:=by
 subst hn
 exact ⟨_,⟨by rw [hch.length],.inr ⟨g,c,cur,rfl,hb,hg,hnc,hcm,hcs,rfl⟩⟩,hch,hbig⟩
end
def Cf5 {α:Type} (R:List Value->α->Prop) (k:Nat) (T:TypeId) (base:Nat) (v:Value) (l:List α) (w:World) (e:Ending) (w':World):Prop :=
 ∃ v',e=.returned v'/\Ae R k w' base T v' l/\w.grownBy w' v.ownBlock/\(v'.ownBlock=v.ownBlock\/∃ g,v'.ownBlock=some g/\w.heap.size<=g)
end Go.Proofs.YthlgnjlpakimaaaGreatDoor
namespace Go.Proofs.YthlgnjlpakimaaaGreatDoor
open Go.ChangeShapes Go.WideShapes Go.ChangeAt Go.RowKit Go.Sort
def Be9 {β:Type} (enc:β->List Value) (cs:List Value) (x:β):Prop:=cs=enc x
section
variable {β : Type} {enc : β -> List Value} {k : Nat}
theorem Bu.of_at (hk:∀ x,(enc x).length=k):∀ (l:List β) (xs:List Value),xs.length=l.length*k->(∀ i x,l[i]? = some x->∀ j u,(enc x)[j]? = some u->xs[i*k+j]? = some u)->Bu (Be9 enc) k xs l
 | [],xs,h,_=>by
  have:xs=[]:=List.eq_nil_of_length_eq_zero (by simpa using h)
  exact this
 | y :: l,xs,h,hall=>by
  have hlen:xs.length=k+l.length*k:=by rw [h,List.length_cons,Nat.add_mul];omega
  have h0:xs.take k=enc y:=by
   apply List.ext_getElem?
   intro j
   rw [List.getElem?_take]
   split
   ·rename_i hj
    have hj2:j < (enc y).length:=by rw [hk];exact hj
    rw [List.getElem?_eq_getElem hj2]
    have:=hall 0 y rfl j _ (List.getElem?_eq_getElem hj2)
    simpa using this
   ·rw [List.getElem?_eq_none (by rw [hk];omega)]
  refine ⟨enc y,xs.drop k,by rw [<-h0,List.take_append_drop],hk y,rfl,Bu.of_at hk l _ (by rw [List.length_drop];omega) fun i x hx j u hu=>?_⟩
  have:=hall (i+1) x (by simpa using hx) j u hu
  rw [List.getElem?_drop,show k+(i*k+j)=(i+1)*k+j by rw [Nat.add_mul];omega]
  exact this
end
section
variable {β : Type} [Inhabited β] {enc : β -> List Value} {k : Nat}
theorem Aw7 (hk:∀ x,(enc x).length=k) (d:Array β) {i:Nat} {x:β} (hx:d.toList[i]? = some x) {j:Nat} {u:Value} (hu:(enc x)[j]? = some u):i*k+j < (flatK enc k d).size/\(flatK enc k d)[i*k+j]! = u:=by
 have hi:i < d.size:=by simpa using (List.getElem?_eq_some_iff.1 hx).1
 have hj:j < k:=by rw [<-hk x];exact (List.getElem?_eq_some_iff.1 hu).1
 have hlt:i*k+j < d.size*k:=by
  have:(i+1)*k<=d.size*k:=Nat.mul_le_mul_right k hi
  rw [Nat.add_mul] at this
  omega
 refine ⟨by rw [size_flatK];exact hlt,?_⟩
 have e1:(i*k+j) / k=i:=by rw [Nat.add_comm,Nat.add_mul_div_right _ _ (by omega),Nat.div_eq_of_lt hj];omega
 have e2:(i*k+j) % k=j:=by rw [Nat.add_comm,Nat.add_mul_mod_self_right,Nat.mod_eq_of_lt hj]
 have hdx:d[i]! = x:=by
  rw [getElem!_pos d i hi]
  have:=(List.getElem?_eq_some_iff.1 hx).2
  simpa using this
 rw [get_flatK _ _ _ _ hlt,e1,e2,hdx]
 have hj2:=List.getElem?_eq_some_iff.1 hu
 rw [getElem!_pos _ j hj2.1]
 exact hj2.2
theorem B40 (hk:∀ x,(enc x).length=k) (hk0:0 < k) {w:World} {base:Nat} {T:TypeId} {g c:Nat} {l:List β} (h:Ae (Be9 enc) k w base T (.slice (some ⟨g,0,none⟩) l.length c) l):HoldsK enc k w g 0 l.toArray:=by
 intro t ht
 rw [size_flatK] at ht
 have hi:t / k < l.length:=by
  rw [Nat.div_lt_iff_lt_mul hk0]
  simpa only [List.size_toArray] using ht
 have hx:l[t / k]? = some l[t / k]:=List.getElem?_eq_getElem hi
 obtain ⟨cs,he,hcs,hat⟩:=Ae.at_ h hx
 have hm:=Nat.mod_lt t hk0
 have hu:(enc l[t / k])[t % k]? = some (enc l[t / k])[t % k]! := by
  rw [List.getElem?_eq_getElem (by rw [hk];exact hm),getElem!_pos _ _ (by rw [hk];exact hm)]
 have hf:=Aw7 hk l.toArray (i:=t / k) (x:=l[t / k]) (by simpa using hx) hu
 have e:t / k*k+t % k=t:=by rw [Nat.mul_comm];exact Nat.div_add_mod t k
 rw [e] at hf
 refine ⟨?_,?_⟩
 ·rw [hf.2,Nat.zero_add]
  have:=hat (t % k) (enc l[t / k])[t % k]! (by rw [he];exact hu)
  rw [e] at this
  exact this
 ·rw [Nat.zero_add]
  exact Ae.frozen h t
theorem An4 (hk:∀ x,(enc x).length=k) {w:World} {base:Nat} {T:TypeId} {g c:Nat} {l:List β} (h:Ae (Be9 enc) k w base T (.slice (some ⟨g,0,none⟩) l.length c) l) (n:Nat) (d:Array β) (os:Array Obj) (hs:d.size=l.length) :
  Ae (Be9 enc) k (sortWorldK enc k w g 0 n d os) base T (.slice (some ⟨g,0,none⟩) l.length c) d.toList/\w.grownBy (sortWorldK enc k w g 0 n d os) (some g):=by
 obtain ⟨cur,_,hb,hB,hnc,hcm,hcs,hbig,hch⟩:=h.open_
 have hlt:=hB.lt
 have hsz:(sortWorldK enc k w g 0 n d os).heap.size=w.heap.size+os.size:=by simp [sortWorldK,putRowK,putRow,mapBlock,Sort.ahead]
 have hblk:∀ i,i < w.heap.size->(sortWorldK enc k w g 0 n d os).heap[i]? = if g=i then (w.heap[i]?).map (onCells (putCells id 0 (flatK enc k d))) else w.heap[i]? := by
  intro i hi
  simp only [sortWorldK,putRowK,putRow,mapBlock,Sort.ahead,Sort.grow,Array.getElem?_append,Array.size_modify,hi,if_true,Array.getElem?_modify]
 refine ⟨?_,⟨rfl,rfl,rfl,by rw [hsz];omega,fun i hi hne=>by rw [hblk i hi,if_neg (fun e=>hne (by rw [e]))]⟩⟩
 have hB2:Blk (sortWorldK enc k w g 0 n d os) g T (putCells id 0 (flatK enc k d) cur):=by
  unfold Blk
  rw [hblk g hlt,if_pos rfl,show w.heap[g]? = some (.cells cur T (0,0)) from hB]
  rfl
 have hps:(putCells id 0 (flatK enc k d) cur).size=c*k:=by rw [putCells,Array.size_mapIdx,hcs]
 have hdl:d.toList.length=l.length:=by simpa using hs
 refine Ae.shut hb hB2 hdl.symm (by omega) hcm hps (by omega) ?_
 have hle:l.length*k<=c*k:=Nat.mul_le_mul_right k hnc
 refine Bu.of_at hk _ _ (by simp only [List.length_take,Array.length_toList];rw [hps,hs];exact Nat.min_eq_left hle) fun i x hx j u hu=>?_
 obtain ⟨f1,f2⟩:=Aw7 hk d hx hu
 rw [size_flatK] at f1
 rw [List.getElem?_take,if_pos (by rw [hdl,<-hs];exact f1),Array.getElem?_toList,putCells,Array.getElem?_mapIdx]
 have hcl:i*k+j < cur.size:=by rw [hcs];rw [hs] at f1;omega
 rw [Array.getElem?_eq_getElem hcl]
 simp only [Option.map_some,Nat.zero_le,true_and,Nat.zero_add,size_flatK,Nat.sub_zero,id]
 rw [if_pos f1,f2]
theorem Ap5 {d d':Array β} (h:PermIn 0 d.size d d'):d'.toList.Perm d.toList/\d'.size=d.size:=by
 obtain ⟨h1,_,h3⟩:=h
 refine ⟨?_,h1⟩
 have e1:(d'.extract 0 d.size)=d':=by rw [<-h1];simp
 have e2:(d.extract 0 d.size)=d:=by simp
 rwa [e1,e2] at h3
theorem A56 {lt:β->β->Bool} {d:Array β} (h:SortedIn lt 0 d.size d):d.toList.Pairwise fun a b=>lt b a=false:=by
 rw [List.pairwise_iff_getElem]
 intro i j hi hj hij
 have hi':i < d.size:=by simpa using hi
 have hj':j < d.size:=by simpa using hj
 have:=h i j (Nat.zero_le _) hij hj'
 rw [getElem!_pos d i hi',getElem!_pos d j hj'] at this
 simpa using this
end
end Go.Proofs.YthlgnjlpakimaaaGreatDoor
namespace Go.Proofs.YthlgnjlpakimaaaGreatDoor
open Go.ChangeShapes Go.WideShapes Go.ChangeAt Go.RowKit
section
variable {P : Program} {G : World -> Prop}
def Cv8:List (Nat×Nat)->List (Nat×AV)
 | []=>[]
 | (i,b) :: r=>(i,.bp b 0) :: Cv8 r
def Bp5 (args:List AV):List (Nat×Nat)->Prop
 | []=>True
 | (i,b) :: r=>args[i]? = some (.bp b 0)/\Bp5 args r
def pinned (b:Nat) (pins:List (Nat×Nat)):Bool:=pins.any fun p=>Nat.beq p.2 b
def Bd9 (pins:List (Nat×Nat)):List (Nat×List AV)->Bool
 | []=>true
 | (b,_) :: r=>pinned b pins&&Bd9 pins r
end
@[go_sem] theorem C81 {ρ:Nat->Nat} : J7 ρ []=[]:=rfl
@[go_sem] theorem Bv9 {ρ:Nat->Nat} {b:BA} {r:List BA} : J7 ρ (b :: r)=b.ren ρ :: J7 ρ r:=rfl
@[go_sem] theorem Cn2 {ρ:Nat->Nat} {c:Nat} : bxS ρ c []=[]:=rfl
@[go_sem] theorem Cd9 {ρ:Nat->Nat} {c b:Nat} {cs:List AV} {r:List (Nat×List AV)} : bxS ρ c ((b,cs) :: r)=.box (ρ b) (AV.sh.shs c cs) :: bxS ρ c r:=rfl
@[go_sem] theorem Cn3:bxB []=[]:=rfl
@[go_sem] theorem Ce0 {b:Nat} {cs:List AV} {r:List (Nat×List AV)} : bxB ((b,cs) :: r)=.box b cs :: bxB r:=rfl
attribute [go_sem] id_eq
@[go_sem] theorem Ca6 {b:Nat} {F:Far} {x:BA} {r:List BA} : Gv x (.opq b F :: r)=.opq b F :: Gv x r:=rfl
section
variable {P : Program} {G : World -> Prop}
structure Cf3 (X:World) (k:Nat) (T:TypeId) (base:Nat) (v:Value) (l':List (List IV)) (w:World) (v':Value) (w':World):Prop where
 own:Ae (Bl X) k w' base T v' l'
 grown:w.grownBy w' v.ownBlock
 blk:v'.ownBlock=v.ownBlock\/v'.ownBlock=none\/∃ g,v'.ownBlock=some g/\w.heap.size<=g
end
end Go.Proofs.YthlgnjlpakimaaaGreatDoor
