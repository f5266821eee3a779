/- Contract of the sort of spans by their first objects. -/
import Derived.Test.YtblfjaedaijfoaaGreatDoorQConcatSpan
import Derived.Test.YtblfjaedaijfoaaGreatDoorQMarks
import Derived.Shelf.SlSortCmp.WholeK
import Derived.Test.YtblfjaedaijfoaaGreatDoorRows
import Derived.Shelf.SlGeneric
import Derived.Ground.SlsfProg
import Derived.Test.YtblfjaedaijfoaaGreatDoorQSpanSet
import Derived.Test.YtblfjaedaijfoaaGreatDoorQTidyLaw
import Derived.Test.YtblfjaedaijfoaaGreatDoorQVec
import Derived.Shelf.SlSortCmp.NoneTotal
set_option linter.all false
set_option linter.unnecessarySimpa false
set_option linter.unusedSimpArgs false
set_option linter.unusedVariables false
namespace Go.Proofs.YtblfjaedaijfoaaGreatDoor
open Go.ChangeShapes Go.WideShapes Go.ChangeAt Go.RowKit Go.Sort
def B21 {β:Type} (enc:β->List Value) (cs:List Value) (x:β):Prop:=cs=enc x
section
variable {β : Type} {enc : β -> List Value} {k : Nat}
theorem Bx.of_at (hk:∀ x,(enc x).length=k):∀ (l:List β) (xs:List Value),xs.length=l.length*k->(∀ i x,l[i]? = some x->∀ j u,(enc x)[j]? = some u->xs[i*k+j]? = some u)->Bx (B21 enc) k xs l
 | [],xs,h,_=>by
  have:xs=[]:=List.eq_nil_of_length_eq_zero (by simpa using h)
  exact this
 | y :: l,xs,h,hall=>by
  have hlen:xs.length=k+l.length*k:=by rw [h,List.length_cons,Nat.add_mul];omega
  have h0:xs.take k=enc y:=by
   apply List.ext_getElem?
   intro j
   rw [List.getElem?_take]
   split
   ·rename_i hj
    have hj2:j < (enc y).length:=by rw [hk];exact hj
    rw [List.getElem?_eq_getElem hj2]
    have:=hall 0 y rfl j _ (List.getElem?_eq_getElem hj2)
    simpa using this
   ·rw [List.getElem?_eq_none (by rw [hk];omega)]
  refine ⟨enc y,xs.drop k,by rw [<-h0,List.take_append_drop],hk y,rfl,Bx.of_at hk l _ (by rw [List.length_drop];omega) fun i x hx j u hu=>?_⟩
  have:=hall (i+1) x (by simpa using hx) j u hu
  rw [List.getElem?_drop,show k+(i*k+j)=(i+1)*k+j by rw [Nat.add_mul];omega]
  exact this
end
section
variable {β : Type} [Inhabited β] {enc : β -> List Value} {k : Nat}
theorem Bh6 (hk:∀ x,(enc x).length=k) (d:Array β) {i:Nat} {x:β} (hx:d.toList[i]? = some x) {j:Nat} {u:Value} (hu:(enc x)[j]? = some u):i*k+j < (flatK enc k d).size/\(flatK enc k d)[i*k+j]! = u:=by
 have hi:i < d.size:=by simpa using (List.getElem?_eq_some_iff.1 hx).1
 have hj:j < k:=by rw [<-hk x];exact (List.getElem?_eq_some_iff.1 hu).1
 have hlt:i*k+j < d.size*k:=by
  have:(i+1)*k<=d.size*k:=Nat.mul_le_mul_right k hi
  rw [Nat.add_mul] at this
  omega
 refine ⟨by rw [size_flatK];exact hlt,?_⟩
 have e1:(i*k+j) / k=i:=by rw [Nat.add_comm,Nat.add_mul_div_right _ _ (by omega),Nat.div_eq_of_lt hj];omega
 have e2:(i*k+j) % k=j:=by rw [Nat.add_comm,Nat.add_mul_mod_self_right,Nat.mod_eq_of_lt hj]
 have hdx:d[i]! = x:=by
  rw [getElem!_pos d i hi]
  have:=(List.getElem?_eq_some_iff.1 hx).2
  simpa using this
 rw [get_flatK _ _ _ _ hlt,e1,e2,hdx]
 have hj2:=List.getElem?_eq_some_iff.1 hu
 rw [getElem!_pos _ j hj2.1]
 exact hj2.2
theorem Ae0 (hk:∀ x,(enc x).length=k) (hk0:0 < k) {w:World} {base:Nat} {T:TypeId} {g c:Nat} {l:List β} (h:Ah (B21 enc) k w base T (.slice (some ⟨g,0,none⟩) l.length c) l):HoldsK enc k w g 0 l.toArray:=by
 intro t ht
 rw [size_flatK] at ht
 have hi:t / k < l.length:=by
  rw [Nat.div_lt_iff_lt_mul hk0]
  simpa only [List.size_toArray] using ht
 have hx:l[t / k]? = some l[t / k]:=List.getElem?_eq_getElem hi
 obtain ⟨cs,he,hcs,hat⟩:=Ah.at_ h hx
 have hm:=Nat.mod_lt t hk0
 have hu:(enc l[t / k])[t % k]? = some (enc l[t / k])[t % k]! := by
  rw [List.getElem?_eq_getElem (by rw [hk];exact hm),getElem!_pos _ _ (by rw [hk];exact hm)]
 have hf:=Bh6 hk l.toArray (i:=t / k) (x:=l[t / k]) (by simpa using hx) hu
 have e:t / k*k+t % k=t:=by rw [Nat.mul_comm];exact Nat.div_add_mod t k
 rw [e] at hf
 refine ⟨?_,?_⟩
 ·rw [hf.2,Nat.zero_add]
  have:=hat (t % k) (enc l[t / k])[t % k]! (by rw [he];exact hu)
  rw [e] at this
  exact this
 ·rw [Nat.zero_add]
  exact Ah.frozen h t
theorem Zs (hk:∀ x,(enc x).length=k) {w:World} {base:Nat} {T:TypeId} {g c:Nat} {l:List β} (h:Ah (B21 enc) k w base T (.slice (some ⟨g,0,none⟩) l.length c) l) (n:Nat) (d:Array β) (os:Array Obj) (hs:d.size=l.length) :
  Ah (B21 enc) k (sortWorldK enc k w g 0 n d os) base T (.slice (some ⟨g,0,none⟩) l.length c) d.toList/\w.grownBy (sortWorldK enc k w g 0 n d os) (some g):=by
 obtain ⟨cur,_,hb,hB,hnc,hcm,hcs,hbig,hch⟩:=h.open_
 have hlt:=hB.lt
 have hsz:(sortWorldK enc k w g 0 n d os).heap.size=w.heap.size+os.size:=by simp [sortWorldK,putRowK,putRow,mapBlock,Sort.ahead]
 have hblk:∀ i,i < w.heap.size->(sortWorldK enc k w g 0 n d os).heap[i]? = if g=i then (w.heap[i]?).map (onCells (putCells id 0 (flatK enc k d))) else w.heap[i]? := by
  intro i hi
  simp only [sortWorldK,putRowK,putRow,mapBlock,Sort.ahead,Sort.grow,Array.getElem?_append,Array.size_modify,hi,if_true,Array.getElem?_modify]
 refine ⟨?_,⟨rfl,rfl,rfl,by rw [hsz];omega,fun i hi hne=>by rw [hblk i hi,if_neg (fun e=>hne (by rw [e]))]⟩⟩
 have hB2:Blk (sortWorldK enc k w g 0 n d os) g T (putCells id 0 (flatK enc k d) cur):=by
  unfold Blk
  rw [hblk g hlt,if_pos rfl,show w.heap[g]? = some (.cells cur T (0,0)) from hB]
  rfl
 have hps:(putCells id 0 (flatK enc k d) cur).size=c*k:=by rw [putCells,Array.size_mapIdx,hcs]
 have hdl:d.toList.length=l.length:=by simpa using hs
 refine Ah.shut hb hB2 hdl.symm (by omega) hcm hps (by omega) ?_
 have hle:l.length*k<=c*k:=Nat.mul_le_mul_right k hnc
 refine Bx.of_at hk _ _ (by simp only [List.length_take,Array.length_toList];rw [hps,hs];exact Nat.min_eq_left hle) fun i x hx j u hu=>?_
 obtain ⟨f1,f2⟩:=Bh6 hk d hx hu
 rw [size_flatK] at f1
 rw [List.getElem?_take,if_pos (by rw [hdl,<-hs];exact f1),Array.getElem?_toList,putCells,Array.getElem?_mapIdx]
 have hcl:i*k+j < cur.size:=by rw [hcs];rw [hs] at f1;omega
 rw [Array.getElem?_eq_getElem hcl]
 simp only [Option.map_some,Nat.zero_le,true_and,Nat.zero_add,size_flatK,Nat.sub_zero,id]
 rw [if_pos f1,f2]
theorem A15 {d d':Array β} (h:PermIn 0 d.size d d'):d'.toList.Perm d.toList/\d'.size=d.size:=by
 obtain ⟨h1,_,h3⟩:=h
 refine ⟨?_,h1⟩
 have e1:(d'.extract 0 d.size)=d':=by rw [<-h1];simp
 have e2:(d.extract 0 d.size)=d:=by simp
 rwa [e1,e2] at h3
theorem Ur {lt:β->β->Bool} {d:Array β} (h:SortedIn lt 0 d.size d):d.toList.Pairwise fun a b=>lt b a=false:=by
 rw [List.pairwise_iff_getElem]
 intro i j hi hj hij
 have hi':i < d.size:=by simpa using hi
 have hj':j < d.size:=by simpa using hj
 have:=h i j (Nat.zero_le _) hij hj'
 rw [getElem!_pos d i hi',getElem!_pos d j hj'] at this
 simpa using this
end
end Go.Proofs.YtblfjaedaijfoaaGreatDoor
namespace Go.Proofs.YtblfjaedaijfoaaGreatDoor
open Go.Proofs Go.Shelf
def Pr:Go.Shelf.Ren:=⟨fun | 6=>327 | 15=>176 | 14=>334 | 28=>255 | 29=>256 | 20=>344 | 21=>345 | 22=>346 | 23=>347 | 24=>348 | 25=>349 | 26=>350 | 27=>351 | 46=>355 | 47=>311 | 48=>312 | 49=>356 | 50=>357 | 57=>359 | n=>n,fun | 22=>48 | 24=>121 | 25=>322 | 3=>3 | 39=>195 | 0=>0 | 53=>241 | 55=>263 | 4=>4 | 46=>256 | 45=>255 | 50=>243 | 5=>5 | 9=>9 | 66=>307 | 70=>311 | 76=>324 | 77=>325 | n=>n,fun | n=>n⟩
theorem Aq7:Go.Proofs.SlLaysF0.n6 Tryz.prog Pr:={
 mixed:=by kernel_rfl
 f6:=⟨Tryz.f327.name,by decide,Tryz.func327.trans (congrArg some (by kernel_rfl))⟩
 f14:=⟨Tryz.f334.name,by decide,Tryz.func334.trans (congrArg some (by kernel_rfl))⟩
 f15:=Tryz.func176.trans (congrArg some (by kernel_rfl))
 f20:=⟨Tryz.f344.name,by decide,Tryz.func344.trans (congrArg some (by kernel_rfl))⟩
 f21:=⟨Tryz.f345.name,by decide,Tryz.func345.trans (congrArg some (by kernel_rfl))⟩
 f22:=⟨Tryz.f346.name,by decide,Tryz.func346.trans (congrArg some (by kernel_rfl))⟩
 f23:=⟨Tryz.f347.name,by decide,Tryz.func347.trans (congrArg some (by kernel_rfl))⟩
 f24:=⟨Tryz.f348.name,by decide,Tryz.func348.trans (congrArg some (by kernel_rfl))⟩
 f25:=⟨Tryz.f349.name,by decide,Tryz.func349.trans (congrArg some (by kernel_rfl))⟩
 f26:=⟨Tryz.f350.name,by decide,Tryz.func350.trans (congrArg some (by kernel_rfl))⟩
 f27:=⟨Tryz.f351.name,by decide,Tryz.func351.trans (congrArg some (by kernel_rfl))⟩
 f28:=Tryz.func255.trans (congrArg some (by kernel_rfl))
 f29:=Tryz.func256.trans (congrArg some (by kernel_rfl))
 f46:=⟨Tryz.f355.name,by decide,Tryz.func355.trans (congrArg some (by kernel_rfl))⟩
 f47:=Tryz.func311.trans (congrArg some (by kernel_rfl))
 f48:=Tryz.func312.trans (congrArg some (by kernel_rfl))
 f49:=⟨Tryz.f356.name,by decide,Tryz.func356.trans (congrArg some (by kernel_rfl))⟩
 f50:=⟨Tryz.f357.name,by decide,Tryz.func357.trans (congrArg some (by kernel_rfl))⟩
 f57:=⟨Tryz.f359.name,by decide,Tryz.func359.trans (congrArg some (by kernel_rfl))⟩
 t0:=Tryz.underlying0
 a0:=Tryz.isAgg0
 z0:=Tryz.sizeOf0
 v0:=Tryz.zeroValue0
 t3:=Tryz.underlying3
 a3:=Tryz.isAgg3
 z3:=Tryz.sizeOf3
 v3:=Tryz.zeroValue3
 t4:=Tryz.underlying4
 a4:=Tryz.isAgg4
 z4:=Tryz.sizeOf4
 v4:=Tryz.zeroValue4
 t5:=Tryz.underlying5
 a5:=Tryz.isAgg5
 z5:=Tryz.sizeOf5
 v5:=Tryz.zeroValue5
 t9:=Tryz.underlying9
 a9:=Tryz.isAgg9
 z9:=Tryz.sizeOf9
 v9:=Tryz.zeroValue9
 t22:=Tryz.underlying48
 a22:=Tryz.isAgg48
 z22:=Tryz.sizeOf48
 v22:=Tryz.zeroValue48
 t25:=Tryz.underlying322
 a25:=Tryz.isAgg322
 z25:=Tryz.sizeOf322
 v25:=Tryz.zeroValue322
 t39:=Tryz.underlying195
 a39:=Tryz.isAgg195
 z39:=Tryz.sizeOf195
 v39:=Tryz.zeroValue195
 t45:=Tryz.underlying255
 a45:=Tryz.isAgg255
 z45:=Tryz.sizeOf255
 v45:=Tryz.zeroValue255
 t46:=Tryz.underlying256
 a46:=Tryz.isAgg256
 z46:=Tryz.sizeOf256
 v46:=Tryz.zeroValue256
 t50:=Tryz.underlying243
 a50:=Tryz.isAgg243
 z50:=Tryz.sizeOf243
 v50:=Tryz.zeroValue243
 t53:=Tryz.underlying241
 a53:=Tryz.isAgg241
 z53:=Tryz.sizeOf241
 v53:=Tryz.zeroValue241
 t55:=Tryz.underlying263
 a55:=Tryz.isAgg263
 z55:=Tryz.sizeOf263
 v55:=Tryz.zeroValue263
 t66:=Tryz.underlying307
 a66:=Tryz.isAgg307
 z66:=Tryz.sizeOf307
 v66:=Tryz.zeroValue307
 t70:=Tryz.underlying311
 a70:=Tryz.isAgg311
 z70:=Tryz.sizeOf311
 v70:=Tryz.zeroValue311
 t76:=Tryz.underlying324
 a76:=Tryz.isAgg324
 z76:=Tryz.sizeOf324
 v76:=Tryz.zeroValue324
 t77:=Tryz.underlying325
 a77:=Tryz.isAgg325
 z77:=Tryz.sizeOf325
 v77:=Tryz.zeroValue325 }
end Go.Proofs.YtblfjaedaijfoaaGreatDoor
namespace Go.Proofs.YtblfjaedaijfoaaGreatDoor
open Go.ChangeShapes Go.WideShapes Go.ChangeAt Go.RowKit Go.Sort Go.Shelf
theorem Bx.mono_mem {α:Type} {R R':List Value->α->Prop} {k:Nat} : ∀ {xs:List Value} {l:List α},Bx R k xs l->(∀ x∈l,∀ cs,R cs x->R' cs x)->Bx R' k xs l
 | _,[],h,_=>h
 | _,y :: _,⟨cs,rest,e,hk,h1,h⟩,hR=>⟨cs,rest,e,hk,hR y (List.mem_cons_self ..) _ h1,h.mono_mem fun x hx=>hR x (List.mem_cons_of_mem _ hx)⟩
theorem Ah.mono_mem {α:Type} {R R':List Value->α->Prop} {k:Nat} {w:World} {base:Nat} {e:TypeId} {v:Value} {l:List α} (h:Ah R k w base e v l) (hR:∀ x∈l,∀ cs,R cs x->R' cs x):Ah R' k w base e v l:=by
 obtain ⟨xs,hown,hch,hbig⟩:=h
 exact ⟨xs,hown,hch.mono_mem hR,hbig⟩
instance:Inhabited Ao:=⟨⟨0,0⟩⟩
def Z6 (s:Ao):List Value:=[.int .i64 s.lo,.int .i64 s.hi]
def U9 (a b:Ao):Int:=Xd a.lo b.lo
theorem Ak6 (a b:Ao):ltOf U9 a b=decide (a.lo < b.lo):=by
 unfold ltOf U9
 rw [decide_eq_decide]
 exact Vt
theorem C70:SWO (ltOf U9) where
 irrefl x:=by rw [Ak6];simp
 trans x y z h1 h2:=by rw [Ak6] at *;simp at *;omega
 ntrans x y z h1 h2:=by rw [Ak6] at *;simp at *;omega
theorem D36 (x y:Ao) (W:World):Calls Tryz.prog 328 #[.agg #[.int .i64 x.lo,.int .i64 x.hi],.agg #[.int .i64 y.lo,.int .i64 y.hi]] W fun e w'=>e=.returned (.int .i64 (U9 x y))/\∃ q os',w'=grow (W.drewN q) os':=by
 have hC:=fun W'=>A60 x.lo y.lo W'
 unfold U9
 generalize Xd x.lo y.lo=r at hC ⊢
 go_enter Tryz.func328,Tryz.ntmps328
 go_wp2_with fail
 refine BW.same (hC _) ?_
 go_wp2_with fail
 go_ret
 exact ⟨rfl,0,_,by rw [alloc_eq_grow,alloc_eq_grow,grow_grow];rfl⟩
theorem Bl1 (d:List Ao) (v:Value) (w:World) (base:Nat) (h:Ah Ei 2 w base 121 v d) :
  Calls Tryz.prog 327 #[v,.func (.func 328) #[] #[]] w fun e w'=>e=.returned (.tuple #[])/\(∃ d',d'.Perm d/\d'.Pairwise (fun a b=>a.lo<=b.lo)/\Ah Ei 2 w' base 121 v d')/\w.grownBy w' v.ownBlock:=by
 rcases h.forms with ⟨rfl,rfl⟩ | ⟨g,c,rfl,hg1,hg2⟩
 ·have:=AnyF.slices_SortFunc_none (P:=Tryz.prog) (ρ:=Pr) { Aq7 with } none 0 (.func (.func 328) #[] #[]) w
  refine Calls.mono this ?_
  rintro e w' ⟨rfl,rfl⟩
  exact ⟨rfl,⟨[],List.Perm.refl _,List.Pairwise.nil,h⟩,World.grownBy.refl _ _⟩
 ·have hbig:d.length<=1073741824:=by obtain ⟨_,_,_,hb⟩:=h;exact hb
  have hI:∀ x∈d,I64 x.lo/\I64 x.hi:=fun x hx=>by
   obtain ⟨i,hi⟩:=List.mem_iff_getElem?.1 hx
   obtain ⟨cs,⟨_,i1,i2⟩,_⟩:=Ah.at_ h hi
   exact ⟨i1,i2⟩
  have hE:Ah (B21 Z6) 2 w base 121 (.slice (some ⟨g,0,none⟩) d.length c) d:=h.mono fun cs x hx=>hx.1
  have hH:=Ae0 (k:=2) (fun _=>rfl) (by decide) hE
  have hcon:=AnyQ.slices_SortFunc (P:=Tryz.prog) (ρ:=Pr) Aq7 2 Tryz.isAgg121 Tryz.sizeOf121 Z6 (fun _=>rfl)
   (fun x v hv=>by simp [Z6] at hv;rcases hv with rfl | rfl<;>rfl) U9 C70 328 #[] g 0 c d.toArray w (enters_of Tryz.func328 (by kernel_rfl) rfl)
   (fun _ _ _ _ x y=>D36 x y _) hH hg2 (by simp only [List.size_toArray];omega)
  refine Calls.mono hcon ?_
  rintro e w' ⟨rfl,d',n,os,hp,hs,rfl⟩
  obtain ⟨p1,p2⟩:=A15 hp
  have hsz:d'.size=d.length:=by simpa using p2
  obtain ⟨o1,o2⟩:=Zs (k:=2) (enc:=Z6) (fun _=>rfl) hE n d' os hsz
  refine ⟨rfl,⟨d'.toList,by simpa using p1,?_,o1.mono_mem fun x hx cs hc=>?_⟩,o2⟩
  ·have hs2:SortedIn (ltOf U9) 0 d'.size d':=by rw [p2];exact hs
   refine (Ur hs2).imp ?_
   intro a b hab
   rw [Ak6,decide_eq_false_iff_not] at hab
   omega
  ·have:=hI x (by have:=p1.mem_iff.1 hx;simpa using this)
   exact ⟨hc,this.1,this.2⟩
end Go.Proofs.YtblfjaedaijfoaaGreatDoor
