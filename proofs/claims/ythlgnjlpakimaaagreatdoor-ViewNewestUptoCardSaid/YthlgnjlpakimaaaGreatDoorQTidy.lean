/- Contract of the program's tidy list of spans. -/
import Derived.Test.YthlgnjlpakimaaaGreatDoorQVecRef
import Derived.Test.YthlgnjlpakimaaaGreatDoorQConcatSpan
import Derived.Shelf.SlSortCmp.WholeK
import Derived.Test.YthlgnjlpakimaaaGreatDoorRows
import Derived.Shelf.SlGeneric
import Derived.Ground.SlsfProg
import Derived.Test.YthlgnjlpakimaaaGreatDoorQSpanSet
import Derived.Test.YthlgnjlpakimaaaGreatDoorQTidyLaw
import Derived.Test.YthlgnjlpakimaaaGreatDoorQVec
import Derived.Shelf.SlSortCmp.NoneTotal
set_option linter.all false
set_option linter.unnecessarySimpa false
set_option linter.unusedSimpArgs false
set_option linter.unusedVariables false
namespace Go.Proofs.YthlgnjlpakimaaaGreatDoor
open Go.ChangeShapes Go.WideShapes Go.ChangeAt Go.RowKit Go.Sort
def Bg1 {β:Type} (enc:β->List Value) (cs:List Value) (x:β):Prop:=cs=enc x
section
variable {β : Type} {enc : β -> List Value} {k : Nat}
theorem Bw.of_at (hk:∀ x,(enc x).length=k):∀ (l:List β) (xs:List Value),xs.length=l.length*k->(∀ i x,l[i]? = some x->∀ j u,(enc x)[j]? = some u->xs[i*k+j]? = some u)->Bw (Bg1 enc) k xs l
 | [],xs,h,_=>by
  have:xs=[]:=List.eq_nil_of_length_eq_zero (by simpa using h)
  exact this
 | y :: l,xs,h,hall=>by
  have hlen:xs.length=k+l.length*k:=by rw [h,List.length_cons,Nat.add_mul];omega
  have h0:xs.take k=enc y:=by
   apply List.ext_getElem?
   intro j
   rw [List.getElem?_take]
   split
   ·rename_i hj
    have hj2:j < (enc y).length:=by rw [hk];exact hj
    rw [List.getElem?_eq_getElem hj2]
    have:=hall 0 y rfl j _ (List.getElem?_eq_getElem hj2)
    simpa using this
   ·rw [List.getElem?_eq_none (by rw [hk];omega)]
  refine ⟨enc y,xs.drop k,by rw [<-h0,List.take_append_drop],hk y,rfl,Bw.of_at hk l _ (by rw [List.length_drop];omega) fun i x hx j u hu=>?_⟩
  have:=hall (i+1) x (by simpa using hx) j u hu
  rw [List.getElem?_drop,show k+(i*k+j)=(i+1)*k+j by rw [Nat.add_mul];omega]
  exact this
end
section
variable {β : Type} [Inhabited β] {enc : β -> List Value} {k : Nat}
theorem Bs5 (hk:∀ x,(enc x).length=k) (d:Array β) {i:Nat} {x:β} (hx:d.toList[i]? = some x) {j:Nat} {u:Value} (hu:(enc x)[j]? = some u):i*k+j < (flatK enc k d).size/\(flatK enc k d)[i*k+j]! = u:=by
 have hi:i < d.size:=by simpa using (List.getElem?_eq_some_iff.1 hx).1
 have hj:j < k:=by rw [<-hk x];exact (List.getElem?_eq_some_iff.1 hu).1
 have hlt:i*k+j < d.size*k:=by
  have:(i+1)*k<=d.size*k:=Nat.mul_le_mul_right k hi
  rw [Nat.add_mul] at this
  omega
 refine ⟨by rw [size_flatK];exact hlt,?_⟩
 have e1:(i*k+j) / k=i:=by rw [Nat.add_comm,Nat.add_mul_div_right _ _ (by omega),Nat.div_eq_of_lt hj];omega
 have e2:(i*k+j) % k=j:=by rw [Nat.add_comm,Nat.add_mul_mod_self_right,Nat.mod_eq_of_lt hj]
 have hdx:d[i]! = x:=by
  rw [getElem!_pos d i hi]
  have:=(List.getElem?_eq_some_iff.1 hx).2
  simpa using this
 rw [get_flatK _ _ _ _ hlt,e1,e2,hdx]
 have hj2:=List.getElem?_eq_some_iff.1 hu
 rw [getElem!_pos _ j hj2.1]
 exact hj2.2
theorem At5 (hk:∀ x,(enc x).length=k) (hk0:0 < k) {w:World} {base:Nat} {T:TypeId} {g c:Nat} {l:List β} (h:Ah (Bg1 enc) k w base T (.slice (some ⟨g,0,none⟩) l.length c) l):HoldsK enc k w g 0 l.toArray:=by
 intro t ht
 rw [size_flatK] at ht
 have hi:t / k < l.length:=by
  rw [Nat.div_lt_iff_lt_mul hk0]
  simpa only [List.size_toArray] using ht
 have hx:l[t / k]? = some l[t / k]:=List.getElem?_eq_getElem hi
 obtain ⟨cs,he,hcs,hat⟩:=Ah.at_ h hx
 have hm:=Nat.mod_lt t hk0
 have hu:(enc l[t / k])[t % k]? = some (enc l[t / k])[t % k]! := by
  rw [List.getElem?_eq_getElem (by rw [hk];exact hm),getElem!_pos _ _ (by rw [hk];exact hm)]
 have hf:=Bs5 hk l.toArray (i:=t / k) (x:=l[t / k]) (by simpa using hx) hu
 have e:t / k*k+t % k=t:=by rw [Nat.mul_comm];exact Nat.div_add_mod t k
 rw [e] at hf
 refine ⟨?_,?_⟩
 ·rw [hf.2,Nat.zero_add]
  have:=hat (t % k) (enc l[t / k])[t % k]! (by rw [he];exact hu)
  rw [e] at this
  exact this
 ·rw [Nat.zero_add]
  exact Ah.frozen h t
theorem Af1 (hk:∀ x,(enc x).length=k) {w:World} {base:Nat} {T:TypeId} {g c:Nat} {l:List β} (h:Ah (Bg1 enc) k w base T (.slice (some ⟨g,0,none⟩) l.length c) l) (n:Nat) (d:Array β) (os:Array Obj) (hs:d.size=l.length) :
  Ah (Bg1 enc) k (sortWorldK enc k w g 0 n d os) base T (.slice (some ⟨g,0,none⟩) l.length c) d.toList/\w.grownBy (sortWorldK enc k w g 0 n d os) (some g):=by
 obtain ⟨cur,_,hb,hB,hnc,hcm,hcs,hbig,hch⟩:=h.open_
 have hlt:=hB.lt
 have hsz:(sortWorldK enc k w g 0 n d os).heap.size=w.heap.size+os.size:=by simp [sortWorldK,putRowK,putRow,mapBlock,Sort.ahead]
 have hblk:∀ i,i < w.heap.size->(sortWorldK enc k w g 0 n d os).heap[i]? = if g=i then (w.heap[i]?).map (onCells (putCells id 0 (flatK enc k d))) else w.heap[i]? := by
  intro i hi
  simp only [sortWorldK,putRowK,putRow,mapBlock,Sort.ahead,Sort.grow,Array.getElem?_append,Array.size_modify,hi,if_true,Array.getElem?_modify]
 refine ⟨?_,⟨rfl,rfl,rfl,by rw [hsz];omega,fun i hi hne=>by rw [hblk i hi,if_neg (fun e=>hne (by rw [e]))]⟩⟩
 have hB2:Blk (sortWorldK enc k w g 0 n d os) g T (putCells id 0 (flatK enc k d) cur):=by
  unfold Blk
  rw [hblk g hlt,if_pos rfl,show w.heap[g]? = some (.cells cur T (0,0)) from hB]
  rfl
 have hps:(putCells id 0 (flatK enc k d) cur).size=c*k:=by rw [putCells,Array.size_mapIdx,hcs]
 have hdl:d.toList.length=l.length:=by simpa using hs
 refine Ah.shut hb hB2 hdl.symm (by omega) hcm hps (by omega) ?_
 have hle:l.length*k<=c*k:=Nat.mul_le_mul_right k hnc
 refine Bw.of_at hk _ _ (by simp only [List.length_take,Array.length_toList];rw [hps,hs];exact Nat.min_eq_left hle) fun i x hx j u hu=>?_
 obtain ⟨f1,f2⟩:=Bs5 hk d hx hu
 rw [size_flatK] at f1
 rw [List.getElem?_take,if_pos (by rw [hdl,<-hs];exact f1),Array.getElem?_toList,putCells,Array.getElem?_mapIdx]
 have hcl:i*k+j < cur.size:=by rw [hcs];rw [hs] at f1;omega
 rw [Array.getElem?_eq_getElem hcl]
 simp only [Option.map_some,Nat.zero_le,true_and,Nat.zero_add,size_flatK,Nat.sub_zero,id]
 rw [if_pos f1,f2]
theorem Ah4 {d d':Array β} (h:PermIn 0 d.size d d'):d'.toList.Perm d.toList/\d'.size=d.size:=by
 obtain ⟨h1,_,h3⟩:=h
 refine ⟨?_,h1⟩
 have e1:(d'.extract 0 d.size)=d':=by rw [<-h1];simp
 have e2:(d.extract 0 d.size)=d:=by simp
 rwa [e1,e2] at h3
theorem Z8 {lt:β->β->Bool} {d:Array β} (h:SortedIn lt 0 d.size d):d.toList.Pairwise fun a b=>lt b a=false:=by
 rw [List.pairwise_iff_getElem]
 intro i j hi hj hij
 have hi':i < d.size:=by simpa using hi
 have hj':j < d.size:=by simpa using hj
 have:=h i j (Nat.zero_le _) hij hj'
 rw [getElem!_pos d i hi',getElem!_pos d j hj'] at this
 simpa using this
end
end Go.Proofs.YthlgnjlpakimaaaGreatDoor
namespace Go.Proofs.YthlgnjlpakimaaaGreatDoor
open Go.Proofs Go.Shelf
def T7:Go.Shelf.Ren:=⟨fun | 6=>215 | 15=>219 | 14=>226 | 28=>235 | 29=>236 | 20=>239 | 21=>240 | 22=>241 | 23=>242 | 24=>243 | 25=>244 | 26=>245 | 27=>246 | 46=>253 | 47=>248 | 48=>249 | 49=>254 | 50=>255 | 57=>257 | n=>n,fun | 22=>35 | 24=>66 | 25=>248 | 3=>3 | 39=>34 | 0=>0 | 53=>265 | 55=>223 | 4=>4 | 46=>259 | 45=>258 | 50=>187 | 5=>5 | 9=>9 | 66=>273 | 70=>277 | 76=>281 | 77=>282 | n=>n,fun | n=>n⟩
theorem B48:Go.Proofs.SlLaysF0.n6 Tryz.prog T7:={
 mixed:=by kernel_rfl
 f6:=⟨Tryz.f215.name,by decide,Tryz.func215.trans (congrArg some (by kernel_rfl))⟩
 f14:=⟨Tryz.f226.name,by decide,Tryz.func226.trans (congrArg some (by kernel_rfl))⟩
 f15:=Tryz.func219.trans (congrArg some (by kernel_rfl))
 f20:=⟨Tryz.f239.name,by decide,Tryz.func239.trans (congrArg some (by kernel_rfl))⟩
 f21:=⟨Tryz.f240.name,by decide,Tryz.func240.trans (congrArg some (by kernel_rfl))⟩
 f22:=⟨Tryz.f241.name,by decide,Tryz.func241.trans (congrArg some (by kernel_rfl))⟩
 f23:=⟨Tryz.f242.name,by decide,Tryz.func242.trans (congrArg some (by kernel_rfl))⟩
 f24:=⟨Tryz.f243.name,by decide,Tryz.func243.trans (congrArg some (by kernel_rfl))⟩
 f25:=⟨Tryz.f244.name,by decide,Tryz.func244.trans (congrArg some (by kernel_rfl))⟩
 f26:=⟨Tryz.f245.name,by decide,Tryz.func245.trans (congrArg some (by kernel_rfl))⟩
 f27:=⟨Tryz.f246.name,by decide,Tryz.func246.trans (congrArg some (by kernel_rfl))⟩
 f28:=Tryz.func235.trans (congrArg some (by kernel_rfl))
 f29:=Tryz.func236.trans (congrArg some (by kernel_rfl))
 f46:=⟨Tryz.f253.name,by decide,Tryz.func253.trans (congrArg some (by kernel_rfl))⟩
 f47:=Tryz.func248.trans (congrArg some (by kernel_rfl))
 f48:=Tryz.func249.trans (congrArg some (by kernel_rfl))
 f49:=⟨Tryz.f254.name,by decide,Tryz.func254.trans (congrArg some (by kernel_rfl))⟩
 f50:=⟨Tryz.f255.name,by decide,Tryz.func255.trans (congrArg some (by kernel_rfl))⟩
 f57:=⟨Tryz.f257.name,by decide,Tryz.func257.trans (congrArg some (by kernel_rfl))⟩
 t0:=Tryz.underlying0
 a0:=Tryz.isAgg0
 z0:=Tryz.sizeOf0
 v0:=Tryz.zeroValue0
 t3:=Tryz.underlying3
 a3:=Tryz.isAgg3
 z3:=Tryz.sizeOf3
 v3:=Tryz.zeroValue3
 t4:=Tryz.underlying4
 a4:=Tryz.isAgg4
 z4:=Tryz.sizeOf4
 v4:=Tryz.zeroValue4
 t5:=Tryz.underlying5
 a5:=Tryz.isAgg5
 z5:=Tryz.sizeOf5
 v5:=Tryz.zeroValue5
 t9:=Tryz.underlying9
 a9:=Tryz.isAgg9
 z9:=Tryz.sizeOf9
 v9:=Tryz.zeroValue9
 t22:=Tryz.underlying35
 a22:=Tryz.isAgg35
 z22:=Tryz.sizeOf35
 v22:=Tryz.zeroValue35
 t25:=Tryz.underlying248
 a25:=Tryz.isAgg248
 z25:=Tryz.sizeOf248
 v25:=Tryz.zeroValue248
 t39:=Tryz.underlying34
 a39:=Tryz.isAgg34
 z39:=Tryz.sizeOf34
 v39:=Tryz.zeroValue34
 t45:=Tryz.underlying258
 a45:=Tryz.isAgg258
 z45:=Tryz.sizeOf258
 v45:=Tryz.zeroValue258
 t46:=Tryz.underlying259
 a46:=Tryz.isAgg259
 z46:=Tryz.sizeOf259
 v46:=Tryz.zeroValue259
 t50:=Tryz.underlying187
 a50:=Tryz.isAgg187
 z50:=Tryz.sizeOf187
 v50:=Tryz.zeroValue187
 t53:=Tryz.underlying265
 a53:=Tryz.isAgg265
 z53:=Tryz.sizeOf265
 v53:=Tryz.zeroValue265
 t55:=Tryz.underlying223
 a55:=Tryz.isAgg223
 z55:=Tryz.sizeOf223
 v55:=Tryz.zeroValue223
 t66:=Tryz.underlying273
 a66:=Tryz.isAgg273
 z66:=Tryz.sizeOf273
 v66:=Tryz.zeroValue273
 t70:=Tryz.underlying277
 a70:=Tryz.isAgg277
 z70:=Tryz.sizeOf277
 v70:=Tryz.zeroValue277
 t76:=Tryz.underlying281
 a76:=Tryz.isAgg281
 z76:=Tryz.sizeOf281
 v76:=Tryz.zeroValue281
 t77:=Tryz.underlying282
 a77:=Tryz.isAgg282
 z77:=Tryz.sizeOf282
 v77:=Tryz.zeroValue282 }
end Go.Proofs.YthlgnjlpakimaaaGreatDoor
namespace Go.Proofs.YthlgnjlpakimaaaGreatDoor
open Go.ChangeShapes Go.WideShapes Go.ChangeAt Go.RowKit Go.Sort Go.Shelf
theorem Bw.mono_mem {α:Type} {R R':List Value->α->Prop} {k:Nat} : ∀ {xs:List Value} {l:List α},Bw R k xs l->(∀ x∈l,∀ cs,R cs x->R' cs x)->Bw R' k xs l
 | _,[],h,_=>h
 | _,y :: _,⟨cs,rest,e,hk,h1,h⟩,hR=>⟨cs,rest,e,hk,hR y (List.mem_cons_self ..) _ h1,h.mono_mem fun x hx=>hR x (List.mem_cons_of_mem _ hx)⟩
theorem Ah.mono_mem {α:Type} {R R':List Value->α->Prop} {k:Nat} {w:World} {base:Nat} {e:TypeId} {v:Value} {l:List α} (h:Ah R k w base e v l) (hR:∀ x∈l,∀ cs,R cs x->R' cs x):Ah R' k w base e v l:=by
 obtain ⟨xs,hown,hch,hbig⟩:=h
 exact ⟨xs,hown,hch.mono_mem hR,hbig⟩
instance:Inhabited Ad:=⟨⟨0,0⟩⟩
def Ac6 (s:Ad):List Value:=[.int .i64 s.lo,.int .i64 s.hi]
def Yi (a b:Ad):Int:=Ty a.lo b.lo
theorem Ay6 (a b:Ad):ltOf Yi a b=decide (a.lo < b.lo):=by
 unfold ltOf Yi
 rw [decide_eq_decide]
 exact B04
theorem Ch8:SWO (ltOf Yi) where
 irrefl x:=by rw [Ay6];simp
 trans x y z h1 h2:=by rw [Ay6] at *;simp at *;omega
 ntrans x y z h1 h2:=by rw [Ay6] at *;simp at *;omega
theorem Da1 (x y:Ad) (W:World):Calls Tryz.prog 216 #[.agg #[.int .i64 x.lo,.int .i64 x.hi],.agg #[.int .i64 y.lo,.int .i64 y.hi]] W fun e w'=>e=.returned (.int .i64 (Yi x y))/\∃ q os',w'=grow (W.drewN q) os':=by
 have hC:=fun W'=>Yh x.lo y.lo W'
 unfold Yi
 generalize Ty x.lo y.lo=r at hC ⊢
 go_enter Tryz.func216,Tryz.ntmps216
 go_wp2_with fail
 refine BW.same (hC _) ?_
 go_wp2_with fail
 go_ret
 exact ⟨rfl,0,_,by rw [alloc_eq_grow,alloc_eq_grow,grow_grow];rfl⟩
theorem Bw0 (d:List Ad) (v:Value) (w:World) (base:Nat) (h:Ah Es 2 w base 66 v d) :
  Calls Tryz.prog 215 #[v,.func (.func 216) #[] #[]] w fun e w'=>e=.returned (.tuple #[])/\(∃ d',d'.Perm d/\d'.Pairwise (fun a b=>a.lo<=b.lo)/\Ah Es 2 w' base 66 v d')/\w.grownBy w' v.ownBlock:=by
 rcases h.forms with ⟨rfl,rfl⟩ | ⟨g,c,rfl,hg1,hg2⟩
 ·have:=AnyF.slices_SortFunc_none (P:=Tryz.prog) (ρ:=T7) { B48 with } none 0 (.func (.func 216) #[] #[]) w
  refine Calls.mono this ?_
  rintro e w' ⟨rfl,rfl⟩
  exact ⟨rfl,⟨[],List.Perm.refl _,List.Pairwise.nil,h⟩,World.grownBy.refl _ _⟩
 ·have hbig:d.length<=1073741824:=by obtain ⟨_,_,_,hb⟩:=h;exact hb
  have hI:∀ x∈d,I64 x.lo/\I64 x.hi:=fun x hx=>by
   obtain ⟨i,hi⟩:=List.mem_iff_getElem?.1 hx
   obtain ⟨cs,⟨_,i1,i2⟩,_⟩:=Ah.at_ h hi
   exact ⟨i1,i2⟩
  have hE:Ah (Bg1 Ac6) 2 w base 66 (.slice (some ⟨g,0,none⟩) d.length c) d:=h.mono fun cs x hx=>hx.1
  have hH:=At5 (k:=2) (fun _=>rfl) (by decide) hE
  have hcon:=AnyQ.slices_SortFunc (P:=Tryz.prog) (ρ:=T7) B48 2 Tryz.isAgg66 Tryz.sizeOf66 Ac6 (fun _=>rfl)
   (fun x v hv=>by simp [Ac6] at hv;rcases hv with rfl | rfl<;>rfl) Yi Ch8 216 #[] g 0 c d.toArray w (enters_of Tryz.func216 (by kernel_rfl) rfl)
   (fun _ _ _ _ x y=>Da1 x y _) hH hg2 (by simp only [List.size_toArray];omega)
  refine Calls.mono hcon ?_
  rintro e w' ⟨rfl,d',n,os,hp,hs,rfl⟩
  obtain ⟨p1,p2⟩:=Ah4 hp
  have hsz:d'.size=d.length:=by simpa using p2
  obtain ⟨o1,o2⟩:=Af1 (k:=2) (enc:=Ac6) (fun _=>rfl) hE n d' os hsz
  refine ⟨rfl,⟨d'.toList,by simpa using p1,?_,o1.mono_mem fun x hx cs hc=>?_⟩,o2⟩
  ·have hs2:SortedIn (ltOf Yi) 0 d'.size d':=by rw [p2];exact hs
   refine (Z8 hs2).imp ?_
   intro a b hab
   rw [Ay6,decide_eq_false_iff_not] at hab
   omega
  ·have:=hI x (by have:=p1.mem_iff.1 hx;simpa using this)
   exact ⟨hc,this.1,this.2⟩
end Go.Proofs.YthlgnjlpakimaaaGreatDoor
namespace Go.Proofs.YthlgnjlpakimaaaGreatDoor
open Go.ChangeShapes Go.WideShapes Go.ChangeAt Go.RowKit
theorem A22 {x:Int} (h1:-9223372036854775808<=x) (h2:x<=9223372036854775807):IntKind.i64.wrap x=x:=by
 rw [IntKind.wrap_i64];omega
theorem Sf:(Tryz.prog.info? 66).map (fun i=>(i.zero.map (·.cells.size),i.size,i.bytes))=some (some 2,2,16):=by kernel_rfl
set_option maxRecDepth 100000 in
set_option maxHeartbeats 1600000 in
theorem Un (l:List Ad) (v:Value) (w:World) (h:Dl w w.heap.size v l) :
  Calls Tryz.prog 189 #[v] w fun e w'=>(∃ v',e=.returned v'/\Ah Es 2 w' w.heap.size 66 v' (Br l))/\Below w.heap.size w w':=by
 have hle:=h.len_le
 have HH:=Lib.hid h
 obtain ⟨A,c,rfl,-⟩:=id h
 clear h
 go_enter Tryz.func189,Tryz.ntmps189
 go_wp2_with fail
 go_loopw [3,12] (fun v k wr=>∃ m:Nat,m<=l.length/\k=.int .i64 m/\Ah Es 2 wr w.heap.size 66 v (Vl (l.take m))/\Below w.heap.size w wr) (fun _ k _=>l.length - (intOf k).toNat)
 case atStart=>exact ⟨0,Nat.zero_le _,rfl,Ah.nil_ _ _ _,Below.refl _ _⟩
 case round =>
  rename_i v0 k0
  obtain ⟨m,hm,rfl,hown,hb⟩:=hrel
  by_cases hlt:m < l.length
  ·obtain ⟨x,hx⟩ : ∃ x,l[m]? = some x:=⟨l[m],List.getElem?_eq_getElem hlt⟩
   obtain ⟨b,off,c',hv',hbb,e0,e1,r1,r2⟩:=L0 (HH.out.next hb) hx
   injection hv' with hv1 hv2 hv3
   subst hv1
   obtain ⟨lo,hi⟩:=x
   simp only at e0 e1 r1 r2
   have HT:=Lib.hid (show Vl (l.take (m+1))=Vl (l.take m)++Vk ⟨lo,hi⟩ by rw [Dv hx,C35])
   have hcl:(Vl (l.take m)).length<=m:=Nat.le_trans (Bd7 _) (List.length_take_le _ _)
   have HO:=Lib.hid hown
   have Hb:=Lib.hid hb
   have hs:=hb.size
   have i1:(m:Int) < (l.length:Int):=by omega
   have i2:(0:Int)<=(m:Int):=by omega
   have j1:=r1.lo
   have j2:=r1.hi
   have j3:=r2.lo
   have j4:=r2.hi
   generalize Vl (l.take m)=L at *
   clear hv2 hv3 hx hb hown r1 r2
   go_upto_region 5 with fail
   go_cut [5] (fun p wx=>p=.pointer (some ⟨wr.heap.size,0,none⟩)/\∃ a b:Int,a=max lo 0/\b=min hi 255/\wx=wr.alloc (.cells #[.int .i64 a,.int .i64 b] 66))
   case first =>
    go_wp2_with fail
    all_goals
     go_meet
     exact ⟨rfl,_,_,by omega,by omega,rfl⟩
   case rest =>
    obtain ⟨rfl,a,b',ha,hb',rfl⟩:=hcut
    clear e0 e1
    have hb6:=Aj (o:=.cells #[.int .i64 a,.int .i64 b'] 66) (Below.refl _ wr)
    have ho6:=HO.out.next hb6
    have hB6:=Blk.new wr 66 #[.int .i64 a,.int .i64 b']
    have HB6:=Lib.hid (B9 Hb.out hb6)
    have hlt0:=HO.out.lt
    have hs6:=hb6.size
    generalize hW6:wr.alloc _=W6 at *
    have q0:=hB6.cell 0
    have q1:=hB6.cell 1
    simp only [List.getElem?_toArray,List.getElem?_cons_zero,List.getElem?_cons_succ] at q0 q1
    have HO6:=Lib.hid ho6
    have HTT:=Lib.hid (HT.out.trans (show L++(if max lo 0<=min hi 255 then [⟨max lo 0,min hi 255⟩] else [])=L++(if a<=b' then [⟨a,b'⟩] else []) by rw [ha,hb']))
    have k1:0<=a:=by omega
    have k2:a<=9223372036854775807:=by omega
    have k3:b'<=255:=by omega
    have k4:-9223372036854775808<=b':=by omega
    clear hb6 ho6 hB6 hW6 HO HT ha hb'
    by_cases hab:a<=b'
    ·have HT2:=Lib.hid (HTT.out.trans (show _=L++[⟨a,b'⟩] by rw [if_pos hab]))
     have hf1:(decide (a<=b'))=true:=decide_eq_true hab
     clear HTT
     go_wp2_with (at_builtin;refine M1 Sf Tryz.underlying35 (by omega) (by omega) Ls rfl (.tmp 29) (.tmp 31) rfl w.heap.size _ _ rfl HO6.out #[.int .i64 a,.int .i64 b'] ⟨a,b'⟩ rfl ⟨rfl,I64.of (by simp only;omega) (by simp only;omega),I64.of (by simp only;omega) (by simp only;omega)⟩ rfl (by omega) (by omega) ?_;intro v1 w1 hap)
     have HA:=Lib.hid hap
     clear hap
     go_wp2_with fail
     exact ⟨⟨m+1,by omega,by go_num,by rw [HT2.out];exact HA.out.own,HA.out.low w (Nat.le_refl _) (Aj HB6.out)⟩,by simp [intOf];omega⟩
    ·have HT2:=Lib.hid (HTT.out.trans (show _=L by rw [if_neg hab,List.append_nil]))
     have hf1:(decide (a<=b'))=false:=decide_eq_false hab
     clear HTT
     go_wp2_with fail
     exact ⟨⟨m+1,by omega,by go_num,by rw [HT2.out];exact HO6.out,HB6.out⟩,by simp [intOf];omega⟩
  ·obtain rfl:m=l.length:=by omega
   rw [List.take_length] at hown
   have hcl:=Bd7 l
   have HCR:=Lib.hid (fun s (hs:s∈Vl l)=>Ak6 hs)
   have HMT:=Lib.hid (fun (d:List Ad) (hp:d.Perm (Vl l)) (hs:d.Pairwise fun a b=>a.lo<=b.lo)=>Bm5 hp hs)
   have HC:=Lib.hid (Bw0 _ _ _ _ hown)
   have Hb:=Lib.hid hb
   have hlt0:=hown.lt
   have hbs:=hb.size
   clear hown hb
   go_wp2_with fail
   refine HC.out.mono ?_
   rintro e w1 ⟨rfl,⟨d,hp,hsd,hown⟩,hgr⟩
   have hb1:Below w.heap.size w w1:=Hb.out.grown hgr hbs fun k hk=>(hlt0 k hk).1
   have hdl:d.length=(Vl l).length:=hp.length_eq
   obtain ⟨A1,c1,rfl⟩:=hown.form
   have HD:=Lib.hid (Sl.ext hown.sl (fun _ _ h=>h) (Ext.refl w1))
   have HR:=Lib.hid (fun s (hs:s∈d)=>HCR.out s (hp.mem_iff.1 hs))
   have HS:=Lib.hid hsd
   have HF:=Lib.hid (HMT.out d hp hsd)
   have hs1:=hb1.size
   clear HC HMT HCR hp hsd hgr hown hcl hlt0 HH
   have HM:=Lib.hid (fun n (hn:n<=d.length)=>A54 n d hn HR.out HS.out)
   have HSD:=Lib.hid (show Dl w1 w1.heap.size (.slice A1 d.length c1) d from HD.out)
   have hd30:d.length<=1073741824:=HD.out.len_le
   rw [<-hdl] at *
   clear HD HS hdl
   go_wp2_with fail
   go_loopw [6,38] (fun v k wx=>∃ n:Nat,n<=d.length/\k=.int .i64 n/\Ah Es 2 wx w1.heap.size 66 v (Me (d.take n))/\Below w1.heap.size w1 wx) (fun _ k _=>d.length - (intOf k).toNat)
   case atStart=>exact ⟨0,Nat.zero_le _,rfl,Ah.nil_ _ _ _,Below.refl _ _⟩
   case round =>
    rename_i v9 k9
    obtain ⟨n,hn,rfl,hown,hb2⟩:=hrel
    by_cases hlt2:n < d.length
    ·obtain ⟨x,hx⟩ : ∃ x,d[n]? = some x:=⟨d[n],List.getElem?_eq_getElem hlt2⟩
     obtain ⟨b,off,c',hv',hbb,e0,e1,r1,r2⟩:=L0 (HSD.out.next hb2) hx
     injection hv' with hv1 hv2 hv3
     subst hv1
     have hxr:=HR.out x (List.mem_of_getElem? hx)
     obtain ⟨lo,hi⟩:=x
     simp only at e0 e1 r1 r2 hxr
     obtain ⟨x1,x2,x3⟩:=hxr
     have HT:=Lib.hid (show Me (d.take (n+1))=Q1 (Me (d.take n)) ⟨lo,hi⟩ by rw [Dv hx,A92])
     have hml:(Me (d.take n)).length<=128:=((El _).1 (HM.out n hn).formed).1
     have hfm:=(HM.out n hn).formed
     generalize Me (d.take n)=L at *
     have HO:=Lib.hid hown
     have hlt0:=hown.lt
     have Hb2:=Lib.hid hb2
     have hs:=hb2.size
     have i1:(n:Int) < (d.length:Int):=by omega
     have i2:(0:Int)<=(n:Int):=by omega
     clear hv2 hv3 hx hb2 r1 r2
     cases hg:L.getLast? with
     | none =>
      obtain rfl:L=[]:=by simpa using hg
      have HT2:=Lib.hid (show Me (d.take (n+1))=[⟨lo,hi⟩] from HT.out)
      obtain ⟨A5,c5,rfl⟩:=hown.form
      simp only [List.length_nil] at *
      clear hown hg HT hfm
      have ha6:=Aj (o:=.cells #[.int .i64 lo,.int .i64 hi] 66) (Below.refl _ wr)
      have HO6:=Lib.hid (HO.out.next ha6)
      have hB6:=Blk.new wr 66 #[.int .i64 lo,.int .i64 hi]
      have HB6:=Lib.hid (B9 Hb2.out ha6)
      clear ha6
      go_wp2_with fail
      generalize hW6:wr.alloc _=W6 at *
      refine D4 (by kernel_rfl) (by kernel_rfl) ?_
      repeat (go_big_quiet_step (fail))
      refine wpQuiet_nil ?_
      intro w7 hb7
      have hB7:=hB6.next hb7
      have q0:=hB7.cell 0
      have q1:=hB7.cell 1
      simp only [List.getElem?_toArray,List.getElem?_cons_zero,List.getElem?_cons_succ] at q0 q1
      have HO7:=Lib.hid (HO6.out.next hb7)
      have HB7:=Lib.hid (B9 HB6.out hb7)
      have hs7:=HB7.out.size
      clear hB6 hB7 HO6 HB6 hb7
      go_wp2_with (at_builtin;refine M1 Sf Tryz.underlying35 (by omega) (by omega) Ls rfl (.tmp 72) (.tmp 74) rfl w1.heap.size _ _ rfl HO7.out #[.int .i64 lo,.int .i64 hi] ⟨lo,hi⟩ rfl ⟨rfl,I64.of (by simp only;omega) (by simp only;omega),I64.of (by simp only;omega) (by simp only;omega)⟩ rfl (by first | omega | (simp;omega) | simp) (by omega) ?_;intro v1 w8 hap)
      have HA:=Lib.hid hap
      clear hap
      go_wp2_with fail
      exact ⟨⟨n+1,by omega,by go_num,by rw [HT2.out];exact HA.out.own,HA.out.low w1 (Nat.le_refl _) (Aj HB7.out)⟩,by simp [intOf];omega⟩
     | some t =>
      obtain ⟨od,rfl⟩ : ∃ od,L=od++[t]:=⟨_,(Sd hg).symm⟩
      obtain ⟨f1,f2,f3,f4,f5⟩:=Hr.1 hfm
      rcases hown.forms with ⟨_,h0⟩ | ⟨g,c5,rfl,hg1,hg2⟩
      ·simp at h0
      have hstep:Q1 (od++[t]) ⟨lo,hi⟩=if lo<=t.hi+1 then od++[⟨t.lo,max t.hi hi⟩] else (od++[t])++[⟨lo,hi⟩]:=by
       unfold Q1
       rw [hg]
       simp only [List.dropLast_concat]
      have HT1:=Lib.hid (HT.out.trans hstep)
      have hat:(od++[t])[od.length]? = some t:=by simp
      have HAT:=Lib.hid hat
      have hlen:(od++[t]).length=od.length+1:=by simp
      rw [hlen] at hml
      have ha6:=Aj (o:=.cells #[.int .i64 lo,.int .i64 hi] 66) (Below.refl _ wr)
      have hO6:=HO.out.next ha6
      have hB6:=Blk.new wr 66 #[.int .i64 lo,.int .i64 hi]
      have HB6:=Lib.hid (B9 Hb2.out ha6)
      obtain ⟨cs,⟨rfl,j1,j2⟩,_,hcs⟩:=Ah.at_ hO6 hat
      have t1:=hcs 1 _ rfl
      have z1:=Ah.frozen hO6 (od.length*2+1)
      have HO6:=Lib.hid hO6
      have hge:g≠wr.heap.size:=by omega
      clear hown hg HT hfm f1 f2 hstep hat hlen ha6 hO6 hcs HO
      generalize hW6:wr.alloc _=W6 at *
      obtain ⟨tl,th⟩:=t
      simp only at t1 f3 f4 f5 j1 j2 HT1
      have hw1:IntKind.i64.wrap (th+1)=th+1:=A22 (by omega) (by omega)
      have T1:∀ z:BW W6,z.val.cell? ⟨g,od.length*2+1,none⟩=some (.int .i64 th):=fun z=>z.cell t1
      have q0:∀ z:BW W6,z.val.cell? ⟨wr.heap.size,0,none⟩=some (.int .i64 lo):=fun z=>z.cell (hB6.cell 0)
      have q1:∀ z:BW W6,z.val.cell? ⟨wr.heap.size,1,none⟩=some (.int .i64 hi):=fun z=>z.cell (hB6.cell 1)
      clear t1
      by_cases hcmp:lo<=th+1
      ·have hd1:decide (lo<=th+1)=true:=decide_eq_true hcmp
       have HT2:=Lib.hid (HT1.out.trans (if_pos hcmp))
       clear HT1
       go_wp2_with fail
       refine D4 (by kernel_rfl) (by kernel_rfl) ?_
       repeat (go_big_quiet_step (fail))
       refine wpQuiet_nil ?_
       intro w7 hb7
       have hO7:=HO6.out.next hb7
       have T2:=T1 ⟨w7,hb7⟩
       have q2:=q1 ⟨w7,hb7⟩
       have z2:=Ah.frozen hO7 (od.length*2+1)
       simp only at T2 q2
       have hset:=Ah.set_ (i:=od.length) (j:=1) (u:=.int .i64 (max th hi)) (x':=⟨tl,max th hi⟩) hO7 HAT.out (by omega) (by
        rintro cs ⟨rfl,k1,k2⟩ _
        exact ⟨rfl,k1,I64.of (by simp only;omega) (by simp only;omega)⟩)
       rw [List.set_append_right _ _ (Nat.le_refl _),Nat.sub_self,List.set_cons_zero] at hset
       have HSET:=Lib.hid hset
       have HB7:=Lib.hid (B9 HB6.out hb7)
       have hw2:IntKind.i64.wrap ((od.length:Int)+1 - 1)=(od.length:Int):=by rw [A22]<;>omega
       have hw3:IntKind.i64.wrap (od.length:Int)=(od.length:Int):=by rw [A22]<;>omega
       have hw4:(0:Int)<=(od.length:Int):=by omega
       have hw5:(od.length:Int) < (od.length:Int)+1:=by omega
       clear T1 q0 q1 z1 hset hO7 hb7 HO6 HB6 hB6 hW6
       go_wp2_with fail
       go_still_tail 14,(by kernel_rfl)
       go_wp2_with fail
       have hmx:(if th < hi then hi else th)=max th hi:=by split<;>omega
       try rw [hmx]
       refine ⟨⟨n+1,by omega,by go_num,?_,(Ym HB7.out (p:=⟨g,od.length*2+1,none⟩) (by simp only;omega)).drew⟩,by simp [intOf];omega⟩
       rw [HT2.out]
       have h9:=Ah.next HSET.out (Kv (Below.refl _ _) 1)
       simp only [List.length_append,List.length_singleton] at h9
       exact h9
      ·have hd1:decide (lo<=th+1)=false:=decide_eq_false hcmp
       have HT2:=Lib.hid (HT1.out.trans (if_neg hcmp))
       clear HT1
       go_wp2_with fail
       refine D4 (by kernel_rfl) (by kernel_rfl) ?_
       repeat (go_big_quiet_step (fail))
       refine wpQuiet_nil ?_
       intro w7 hb7
       have hB7:=hB6.next hb7
       have p0:=hB7.cell 0
       have p1:=hB7.cell 1
       simp only [List.getElem?_toArray,List.getElem?_cons_zero,List.getElem?_cons_succ] at p0 p1
       have hO7:=HO6.out.next hb7
       rw [show (od++[(⟨tl,th⟩ : Ad)]).length=od.length+1 by simp] at hO7
       have HO7:=Lib.hid hO7
       have HB7:=Lib.hid (B9 HB6.out hb7)
       have hs7:=HB7.out.size
       clear hB6 hB7 HO6 HB6 hb7 T1 q0 q1 z1 hO7
       go_wp2_with (at_builtin;refine M1 Sf Tryz.underlying35 (by omega) (by omega) Ls rfl (.tmp 72) (.tmp 74) rfl w1.heap.size _ _ rfl HO7.out #[.int .i64 lo,.int .i64 hi] ⟨lo,hi⟩ rfl ⟨rfl,I64.of (by simp only;omega) (by simp only;omega),I64.of (by simp only;omega) (by simp only;omega)⟩ rfl (by first | omega | (simp;omega) | simp) (by omega) ?_;intro v1 w8 hap)
       have HA:=Lib.hid hap
       clear hap
       go_wp2_with fail
       exact ⟨⟨n+1,by omega,by go_num,by rw [HT2.out];exact HA.out.own,HA.out.low w1 (Nat.le_refl _) (Aj HB7.out)⟩,by simp [intOf];omega⟩
    ·obtain rfl:n=d.length:=by omega
     rw [List.take_length] at hown
     rw [HF.out] at hown
     obtain ⟨A5,c5,rfl⟩:=hown.form
     have HO:=Lib.hid (hown.base hs1)
     clear hown
     go_wp2_with fail
     go_ret
     exact ⟨⟨_,rfl,HO.out⟩,B9 hb1 hb2⟩
end Go.Proofs.YthlgnjlpakimaaaGreatDoor
