/- Contract of the sort of spans by their first objects. -/
import Derived.Test.YthlgnjlpakimaaaGreatDoorRows
import Derived.Shelf.SlGeneric
import Derived.Shelf.SlSortCmp.WholeK
import Derived.Ground.SlsfProg
import Derived.Test.YthlgnjlpakimaaaGreatDoorUSpanSet
import Derived.Test.YthlgnjlpakimaaaGreatDoorUSortWorld
import Derived.Test.YthlgnjlpakimaaaGreatDoorUTidyLaw
import Derived.Test.YthlgnjlpakimaaaGreatDoorUArr
import Derived.Shelf.SlSortCmp.NoneTotal
set_option linter.all false
set_option linter.unnecessarySimpa false
set_option linter.unusedSimpArgs false
set_option linter.unusedVariables false
namespace Go.Proofs.YthlgnjlpakimaaaGreatDoor
open Go.Proofs Go.Shelf
def Nu:Go.Shelf.Ren:=⟨fun | 6=>215 | 15=>219 | 14=>226 | 28=>235 | 29=>236 | 20=>239 | 21=>240 | 22=>241 | 23=>242 | 24=>243 | 25=>244 | 26=>245 | 27=>246 | 46=>253 | 47=>248 | 48=>249 | 49=>254 | 50=>255 | 57=>257 | n=>n,fun | 22=>35 | 24=>66 | 25=>248 | 3=>3 | 39=>34 | 0=>0 | 53=>265 | 55=>223 | 4=>4 | 46=>259 | 45=>258 | 50=>187 | 5=>5 | 9=>9 | 66=>273 | 70=>277 | 76=>281 | 77=>282 | n=>n,fun | n=>n⟩
theorem Ad4:Go.Proofs.SlLaysF0.n6 Tryz.prog Nu:={
 mixed:=by kernel_rfl
 f6:=⟨Tryz.f215.name,by decide,Tryz.func215.trans (congrArg some (by kernel_rfl))⟩
 f14:=⟨Tryz.f226.name,by decide,Tryz.func226.trans (congrArg some (by kernel_rfl))⟩
 f15:=Tryz.func219.trans (congrArg some (by kernel_rfl))
 f20:=⟨Tryz.f239.name,by decide,Tryz.func239.trans (congrArg some (by kernel_rfl))⟩
 f21:=⟨Tryz.f240.name,by decide,Tryz.func240.trans (congrArg some (by kernel_rfl))⟩
 f22:=⟨Tryz.f241.name,by decide,Tryz.func241.trans (congrArg some (by kernel_rfl))⟩
 f23:=⟨Tryz.f242.name,by decide,Tryz.func242.trans (congrArg some (by kernel_rfl))⟩
 f24:=⟨Tryz.f243.name,by decide,Tryz.func243.trans (congrArg some (by kernel_rfl))⟩
 f25:=⟨Tryz.f244.name,by decide,Tryz.func244.trans (congrArg some (by kernel_rfl))⟩
 f26:=⟨Tryz.f245.name,by decide,Tryz.func245.trans (congrArg some (by kernel_rfl))⟩
 f27:=⟨Tryz.f246.name,by decide,Tryz.func246.trans (congrArg some (by kernel_rfl))⟩
 f28:=Tryz.func235.trans (congrArg some (by kernel_rfl))
 f29:=Tryz.func236.trans (congrArg some (by kernel_rfl))
 f46:=⟨Tryz.f253.name,by decide,Tryz.func253.trans (congrArg some (by kernel_rfl))⟩
 f47:=Tryz.func248.trans (congrArg some (by kernel_rfl))
 f48:=Tryz.func249.trans (congrArg some (by kernel_rfl))
 f49:=⟨Tryz.f254.name,by decide,Tryz.func254.trans (congrArg some (by kernel_rfl))⟩
 f50:=⟨Tryz.f255.name,by decide,Tryz.func255.trans (congrArg some (by kernel_rfl))⟩
 f57:=⟨Tryz.f257.name,by decide,Tryz.func257.trans (congrArg some (by kernel_rfl))⟩
 t0:=Tryz.underlying0
 a0:=Tryz.isAgg0
 z0:=Tryz.sizeOf0
 v0:=Tryz.zeroValue0
 t3:=Tryz.underlying3
 a3:=Tryz.isAgg3
 z3:=Tryz.sizeOf3
 v3:=Tryz.zeroValue3
 t4:=Tryz.underlying4
 a4:=Tryz.isAgg4
 z4:=Tryz.sizeOf4
 v4:=Tryz.zeroValue4
 t5:=Tryz.underlying5
 a5:=Tryz.isAgg5
 z5:=Tryz.sizeOf5
 v5:=Tryz.zeroValue5
 t9:=Tryz.underlying9
 a9:=Tryz.isAgg9
 z9:=Tryz.sizeOf9
 v9:=Tryz.zeroValue9
 t22:=Tryz.underlying35
 a22:=Tryz.isAgg35
 z22:=Tryz.sizeOf35
 v22:=Tryz.zeroValue35
 t25:=Tryz.underlying248
 a25:=Tryz.isAgg248
 z25:=Tryz.sizeOf248
 v25:=Tryz.zeroValue248
 t39:=Tryz.underlying34
 a39:=Tryz.isAgg34
 z39:=Tryz.sizeOf34
 v39:=Tryz.zeroValue34
 t45:=Tryz.underlying258
 a45:=Tryz.isAgg258
 z45:=Tryz.sizeOf258
 v45:=Tryz.zeroValue258
 t46:=Tryz.underlying259
 a46:=Tryz.isAgg259
 z46:=Tryz.sizeOf259
 v46:=Tryz.zeroValue259
 t50:=Tryz.underlying187
 a50:=Tryz.isAgg187
 z50:=Tryz.sizeOf187
 v50:=Tryz.zeroValue187
 t53:=Tryz.underlying265
 a53:=Tryz.isAgg265
 z53:=Tryz.sizeOf265
 v53:=Tryz.zeroValue265
 t55:=Tryz.underlying223
 a55:=Tryz.isAgg223
 z55:=Tryz.sizeOf223
 v55:=Tryz.zeroValue223
 t66:=Tryz.underlying273
 a66:=Tryz.isAgg273
 z66:=Tryz.sizeOf273
 v66:=Tryz.zeroValue273
 t70:=Tryz.underlying277
 a70:=Tryz.isAgg277
 z70:=Tryz.sizeOf277
 v70:=Tryz.zeroValue277
 t76:=Tryz.underlying281
 a76:=Tryz.isAgg281
 z76:=Tryz.sizeOf281
 v76:=Tryz.zeroValue281
 t77:=Tryz.underlying282
 a77:=Tryz.isAgg282
 z77:=Tryz.sizeOf282
 v77:=Tryz.zeroValue282 }
end Go.Proofs.YthlgnjlpakimaaaGreatDoor
namespace Go.Proofs.YthlgnjlpakimaaaGreatDoor
open Go.ChangeShapes Go.WideShapes Go.ChangeAt Go.RowKit Go.Sort Go.Shelf
theorem Bu.mono_mem {α:Type} {R R':List Value->α->Prop} {k:Nat} : ∀ {xs:List Value} {l:List α},Bu R k xs l->(∀ x∈l,∀ cs,R cs x->R' cs x)->Bu R' k xs l
 | _,[],h,_=>h
 | _,y :: _,⟨cs,rest,e,hk,h1,h⟩,hR=>⟨cs,rest,e,hk,hR y (List.mem_cons_self ..) _ h1,h.mono_mem fun x hx=>hR x (List.mem_cons_of_mem _ hx)⟩
theorem Ae.mono_mem {α:Type} {R R':List Value->α->Prop} {k:Nat} {w:World} {base:Nat} {e:TypeId} {v:Value} {l:List α} (h:Ae R k w base e v l) (hR:∀ x∈l,∀ cs,R cs x->R' cs x):Ae R' k w base e v l:=by
 obtain ⟨xs,hown,hch,hbig⟩:=h
 exact ⟨xs,hown,hch.mono_mem hR,hbig⟩
instance:Inhabited Ad:=⟨⟨0,0⟩⟩
def Ww (s:Ad):List Value:=[.int .i64 s.lo,.int .i64 s.hi]
def Sd (a b:Ad):Int:=Wj a.lo b.lo
theorem A80 (a b:Ad):ltOf Sd a b=decide (a.lo < b.lo):=by
 unfold ltOf Sd
 rw [decide_eq_decide]
 exact A98
theorem Bf8:SWO (ltOf Sd) where
 irrefl x:=by rw [A80];simp
 trans x y z h1 h2:=by rw [A80] at *;simp at *;omega
 ntrans x y z h1 h2:=by rw [A80] at *;simp at *;omega
theorem C64 (x y:Ad) (W:World):Calls Tryz.prog 216 #[.agg #[.int .i64 x.lo,.int .i64 x.hi],.agg #[.int .i64 y.lo,.int .i64 y.hi]] W fun e w'=>e=.returned (.int .i64 (Sd x y))/\∃ q os',w'=grow (W.drewN q) os':=by
 have hC:=fun W'=>Yx x.lo y.lo W'
 unfold Sd
 generalize Wj x.lo y.lo=r at hC ⊢
 go_enter Tryz.func216,Tryz.ntmps216
 go_wp2_with fail
 refine BW.same (hC _) ?_
 go_wp2_with fail
 go_ret
 exact ⟨rfl,0,_,by rw [alloc_eq_grow,alloc_eq_grow,grow_grow];rfl⟩
theorem Az1 (d:List Ad) (v:Value) (w:World) (base:Nat) (h:Ae Df 2 w base 66 v d) :
  Calls Tryz.prog 215 #[v,.func (.func 216) #[] #[]] w fun e w'=>e=.returned (.tuple #[])/\(∃ d',d'.Perm d/\d'.Pairwise (fun a b=>a.lo<=b.lo)/\Ae Df 2 w' base 66 v d')/\w.grownBy w' v.ownBlock:=by
 rcases h.forms with ⟨rfl,rfl⟩ | ⟨g,c,rfl,hg1,hg2⟩
 ·have:=AnyF.slices_SortFunc_none (P:=Tryz.prog) (ρ:=Nu) { Ad4 with } none 0 (.func (.func 216) #[] #[]) w
  refine Calls.mono this ?_
  rintro e w' ⟨rfl,rfl⟩
  exact ⟨rfl,⟨[],List.Perm.refl _,List.Pairwise.nil,h⟩,World.grownBy.refl _ _⟩
 ·have hbig:d.length<=1073741824:=by obtain ⟨_,_,_,hb⟩:=h;exact hb
  have hI:∀ x∈d,I64 x.lo/\I64 x.hi:=fun x hx=>by
   obtain ⟨i,hi⟩:=List.mem_iff_getElem?.1 hx
   obtain ⟨cs,⟨_,i1,i2⟩,_⟩:=Ae.at_ h hi
   exact ⟨i1,i2⟩
  have hE:Ae (Be9 Ww) 2 w base 66 (.slice (some ⟨g,0,none⟩) d.length c) d:=h.mono fun cs x hx=>hx.1
  have hH:=B40 (k:=2) (fun _=>rfl) (by decide) hE
  have hcon:=AnyQ.slices_SortFunc (P:=Tryz.prog) (ρ:=Nu) Ad4 2 Tryz.isAgg66 Tryz.sizeOf66 Ww (fun _=>rfl)
   (fun x v hv=>by simp [Ww] at hv;rcases hv with rfl | rfl<;>rfl) Sd Bf8 216 #[] g 0 c d.toArray w (enters_of Tryz.func216 (by kernel_rfl) rfl)
   (fun _ _ _ _ x y=>C64 x y _) hH hg2 (by simp only [List.size_toArray];omega)
  refine Calls.mono hcon ?_
  rintro e w' ⟨rfl,d',n,os,hp,hs,rfl⟩
  obtain ⟨p1,p2⟩:=Ap5 hp
  have hsz:d'.size=d.length:=by simpa using p2
  obtain ⟨o1,o2⟩:=An4 (k:=2) (enc:=Ww) (fun _=>rfl) hE n d' os hsz
  refine ⟨rfl,⟨d'.toList,by simpa using p1,?_,o1.mono_mem fun x hx cs hc=>?_⟩,o2⟩
  ·have hs2:SortedIn (ltOf Sd) 0 d'.size d':=by rw [p2];exact hs
   refine (A56 hs2).imp ?_
   intro a b hab
   rw [A80,decide_eq_false_iff_not] at hab
   omega
  ·have:=hI x (by have:=p1.mem_iff.1 hx;simpa using this)
   exact ⟨hc,this.1,this.2⟩
end Go.Proofs.YthlgnjlpakimaaaGreatDoor
