/- Contract of the sort of spans by their first objects. -/
import Derived.Test.YtahgkllhbggmgaaGreatDoorLSpanLaw
import Derived.Test.YtahgkllhbggmgaaGreatDoorRows
import Derived.Shelf.SlGeneric
import Derived.Shelf.SlSortCmp.WholeK
import Derived.Ground.SlsfProg
import Derived.Test.YtahgkllhbggmgaaGreatDoorLSpanSet
import Derived.Test.YtahgkllhbggmgaaGreatDoorLSortWorld
import Derived.Test.YtahgkllhbggmgaaGreatDoorLVec
import Derived.Shelf.SlSortCmp.NoneTotal
set_option linter.all false
set_option linter.unnecessarySimpa false
set_option linter.unusedSimpArgs false
set_option linter.unusedVariables false
namespace Go.Proofs.YtahgkllhbggmgaaGreatDoor
theorem Pn:∀ {l:List Ah} {e e':Int},e'<=e->Bg e l=true->Bg e' l=true
 | [],_,_,_,_=>rfl
 | s :: l,e,e',h,hf=>by
  obtain ⟨h1,h2⟩:=Bb.1 hf
  exact Bb.2 ⟨⟨by omega,h1.2⟩,h2⟩
def Cb (l:List Ah):List Ah:=Gb fun o=>Ba l o
theorem Pb {f g:Nat->Bool} (h:∀ o,o < 256->f o=g o):Gb f=Gb g:=by
 refine Lv (e:=-2) (Ck f) (Ck g) fun o=>?_
 have key:∀ {f g:Nat->Bool},(∀ o,o < 256->f o=g o)->Ba (Gb f) o=true->Ba (Gb g) o=true:=by
  intro f g h hm
  have b:=Cu (e:=-2) (Ck f) hm
  obtain ⟨n,rfl⟩ : ∃ n:Nat,o=n:=⟨o.toNat,by omega⟩
  obtain ⟨h1,h2⟩:=(Mg f n).1 hm
  exact (Mg g n).2 ⟨h1,by rw [<-h n h1];exact h2⟩
 exact ⟨key h,key fun o ho=>(h o ho).symm⟩
theorem Kv (f:Nat->Bool) {o:Nat} (ho:o < 256):Ba (Gb f) o=f o:=by
 rw [Bool.eq_iff_iff,Mg]
 exact ⟨fun h=>h.2,fun h=>⟨ho,h⟩⟩
theorem Sx {l:List Ah} {f:Nat->Bool} (hf:C1 l=true) (h:∀ o:Nat,o < 256->Ba l o=f o):l=Gb f:=by
 rw [((G0 l).1 hf).2]
 exact Pb h
theorem Tz (f:Nat->Bool):(Gb f).length<=128:=((G0 _).1 (Ck f)).1
def Ps (s:Ah):List Ah:=if max s.lo 0<=min s.hi 255 then [⟨max s.lo 0,min s.hi 255⟩] else []
def Pt (l:List Ah):List Ah:=l.flatMap Ps
theorem Bd2 (l:List Ah) (s:Ah):Pt (l++[s])=Pt l++Ps s:=by simp [Pt]
theorem An3 (l:List Ah):(Pt l).length<=l.length:=by
 induction l with
 | nil=>simp [Pt]
 | cons s l ih =>
  have:(Ps s).length<=1:=by unfold Ps;split<;>simp
  simp only [Pt,List.flatMap_cons,List.length_append,List.length_cons] at ih ⊢
  omega
theorem Yh {l:List Ah} {s:Ah} (h:s∈Pt l):0<=s.lo/\s.lo<=s.hi/\s.hi<=255:=by
 obtain ⟨t,_,ht⟩:=List.mem_flatMap.1 h
 unfold Ps at ht
 split at ht
 ·obtain rfl:=List.mem_singleton.1 ht
  simp only
  omega
 ·cases ht
theorem Sr {l:List Ah} {o:Int} : Ba l o=true↔∃ s∈l,s.lo<=o/\o<=s.hi:=by simp [Ba]
theorem Bp1 (l:List Ah) {o:Int} (h0:0<=o) (h1:o<=255):Ba (Pt l) o=Ba l o:=by
 rw [Bool.eq_iff_iff,Sr,Sr]
 constructor
 ·rintro ⟨s,hs,a,b⟩
  obtain ⟨t,ht,ht2⟩:=List.mem_flatMap.1 hs
  unfold Ps at ht2
  split at ht2
  ·obtain rfl:=List.mem_singleton.1 ht2
   exact ⟨t,ht,by simp only at a;omega,by simp only at b;omega⟩
  ·cases ht2
 ·rintro ⟨s,hs,a,b⟩
  refine ⟨⟨max s.lo 0,min s.hi 255⟩,List.mem_flatMap.2 ⟨s,hs,?_⟩,by simp only;omega,by simp only;omega⟩
  unfold Ps
  rw [if_pos (by omega)]
  exact List.mem_singleton.2 rfl
def Kd (out:List Ah) (s:Ah):List Ah :=
 match out.getLast? with
 | some t=>if s.lo<=t.hi+1 then out.dropLast++[⟨t.lo,max t.hi s.hi⟩] else out++[s]
 | none=>out++[s]
def Ha (l:List Ah):List Ah:=l.foldl Kd []
theorem V8 (l:List Ah) (s:Ah):Ha (l++[s])=Kd (Ha l) s:=by simp [Ha]
theorem A14 {α:Type} {l:List α} {t:α} (h:l.getLast? = some t):l.dropLast++[t]=l:=by
 cases l with
 | nil=>simp at h
 | cons x l =>
  have h2:=List.dropLast_concat_getLast (l:=x :: l) (by simp)
  rw [List.getLast?_eq_some_getLast (by simp)] at h
  injection h with h
  rw [<-h]
  exact h2
structure Bs6 (pre out:List Ah):Prop where
 formed:Bg (-2) out=true
 mem:∀ o:Int,Ba out o=Ba pre o
 low:∀ out' t,out=out'++[t]->∃ s∈pre,t.lo=s.lo
theorem U5:∀ (n:Nat) (l:List Ah),n<=l.length->(∀ s∈l,0<=s.lo/\s.lo<=s.hi/\s.hi<=255)->l.Pairwise (fun a b=>a.lo<=b.lo)->Bs6 (l.take n) (Ha (l.take n))
 | 0,l,_,_,_=>⟨rfl,fun _=>by simp [Ha],fun out' t h=>by simp [Ha] at h⟩
 | n+1,l,hn,hr,hs=>by
  have ih:=U5 n l (by omega) hr hs
  obtain ⟨s,hx⟩ : ∃ s,l[n]? = some s:=⟨l[n],List.getElem?_eq_getElem (by omega)⟩
  have ht:l.take (n+1)=l.take n++[s]:=by rw [List.take_add_one,hx];rfl
  have hle:∀ x∈l.take n,x.lo<=s.lo:=by
   intro x hxm
   obtain ⟨j,hj⟩:=List.mem_iff_getElem?.1 hxm
   rw [List.getElem?_take] at hj
   split at hj
   ·have hjl:=(List.getElem?_eq_some_iff.1 hj)
    have hnl:=(List.getElem?_eq_some_iff.1 hx)
    have:=List.pairwise_iff_getElem.1 hs j n hjl.1 hnl.1 (by omega)
    rw [hjl.2,hnl.2] at this
    exact this
   ·cases hj
  have hsr:=hr s (List.mem_of_getElem? hx)
  rw [ht,V8]
  generalize l.take n=pre at ih hle
  generalize Ha pre=out at ih
  obtain ⟨i1,i2,i3⟩:=ih
  unfold Kd
  cases hg:out.getLast? with
  | none =>
   have hnil:out=[]:=by simpa using hg
   subst hnil
   refine ⟨?_,fun o=>?_,fun out' t h=>?_⟩
   ·simp only [List.nil_append,Bg,Bool.and_true,decide_eq_true_eq];omega
   ·have:=i2 o
    simp only [List.nil_append,Db,<-this]
    simp [Ba]
   ·have:t=s:=by
     rw [List.nil_append] at h
     have:=congrArg List.getLast? h
     simpa using this.symm
    subst this
    exact ⟨t,by simp,rfl⟩
  | some t =>
   have hout:out=out.dropLast++[t]:=(A14 hg).symm
   generalize out.dropLast=od at hout
   subst hout
   simp only
   obtain ⟨u,hu,hul⟩:=i3 od t rfl
   have hts:=hle u hu
   obtain ⟨b1,b2,b3,b4,b5⟩:=Fa.1 i1
   have hmt:∀ o:Int,Ba (od++[t]) o=(Ba od o || (decide (t.lo<=o)&&decide (o<=t.hi))):=fun o=>by rw [Db];simp [Ba]
   have hms:∀ o:Int,Ba (pre++[s]) o=(Ba od o || (decide (t.lo<=o)&&decide (o<=t.hi)) || (decide (s.lo<=o)&&decide (o<=s.hi))):=fun o=>by rw [Db,<-i2 o,hmt];simp [Ba]
   split
   ·rename_i hc
    refine ⟨Fa.2 ⟨b1,b2,by simp only;omega,by simp only;omega,b5⟩,fun o=>?_,fun out' t' h=>?_⟩
    ·rw [hms,Db,Bool.or_assoc]
     congr 1
     simp only [Ba,List.any_cons,List.any_nil,Bool.or_false]
     rw [Bool.eq_iff_iff]
     simp only [Bool.or_eq_true,Bool.and_eq_true,decide_eq_true_eq]
     omega
    ·have:t'=⟨t.lo,max t.hi s.hi⟩:=by
      have:=congrArg List.getLast? h
      simpa using this.symm
     subst this
     exact ⟨u,List.mem_append_left _ hu,hul⟩
   ·rename_i hc
    refine ⟨Fa.2 ⟨i1,by simp only [List.getLast?_append,List.getLast?_singleton,Option.some_or,Option.map_some,Option.getD_some];omega,by omega,by omega,by omega⟩,fun o=>?_,fun out' t' h=>?_⟩
    ·rw [hms,Db,hmt]
     simp [Ba]
    ·have:t'=s:=by
      have:=congrArg List.getLast? h
      simpa using this.symm
     subst this
     exact ⟨t',List.mem_append_right _ (by simp),rfl⟩
theorem Aw4 {l d:List Ah} (hp:d.Perm (Pt l)) (hs:d.Pairwise fun a b=>a.lo<=b.lo):Ha d=Cb l:=by
 have h:=U5 d.length d (Nat.le_refl _) (fun s hs=>Yh (hp.mem_iff.1 hs)) hs
 rw [List.take_length] at h
 refine Sx h.formed fun o ho=>?_
 rw [h.mem,<-Bp1 l (by omega) (by omega),Bool.eq_iff_iff,Sr,Sr]
 exact ⟨fun ⟨s,h1,h2⟩=>⟨s,hp.mem_iff.1 h1,h2⟩,fun ⟨s,h1,h2⟩=>⟨s,hp.mem_iff.2 h1,h2⟩⟩
def C33:List Ah->List Ah->List Ah
 | [],_=>[]
 | _ :: _,[]=>[]
 | s :: x,t :: y=>(if max s.lo t.lo<=min s.hi t.hi then [⟨max s.lo t.lo,min s.hi t.hi⟩] else [])++(if s.hi < t.hi then C33 x (t :: y) else C33 (s :: x) y)
termination_by x y=>x.length+y.length
def P1:Int->List Ah->List Ah
 | n,[]=>if n<=255 then [⟨n,255⟩] else []
 | n,s :: l=>(if n < s.lo then [⟨n,s.lo - 1⟩] else [])++P1 (s.hi+1) l
theorem Sg:∀ (l:List Ah) (n e:Int),0<=n->n<=e+2->Bg e l=true->Bg (n - 2) (P1 n l)=true
 | [],n,e,h0,_,_=>by
  unfold P1
  split
  ·exact Bb.2 ⟨by simp only;omega,rfl⟩
  ·rfl
 | s :: l,n,e,h0,h1,h=>by
  obtain ⟨a1,a2⟩:=Bb.1 h
  have ih:=Sg l (s.hi+1) s.hi (by omega) (by omega) a2
  unfold P1
  split
  ·rw [List.singleton_append]
   exact Bb.2 ⟨by simp only;omega,Pn (by simp only;omega) ih⟩
  ·exact Pn (by omega) ih
theorem Zz:∀ (l:List Ah) (n e:Int),n<=e+2->Bg e l=true->∀ o:Int,Ba (P1 n l) o=(decide (n<=o/\o<=255)&&!Ba l o)
 | [],n,e,h1,_,o=>by
  unfold P1
  rw [Bool.eq_iff_iff]
  split
  ·simp [Ba]
  ·simp only [Ba,List.any_nil,Bool.false_eq_true,Bool.not_false,Bool.and_true,decide_eq_true_eq,false_iff];omega
 | s :: l,n,e,h1,h,o=>by
  obtain ⟨a1,a2⟩:=Bb.1 h
  have ih:=Zz l (s.hi+1) s.hi (by omega) a2 o
  have hb:Ba l o=true->s.hi+1 < o:=fun h=>(Cu a2 h).1
  have es:Ba (s :: l) o=(decide (s.lo<=o/\o<=s.hi) || Ba l o):=by simp [Ba]
  have e0:Ba (if n < s.lo then [(⟨n,s.lo - 1⟩ : Ah)] else []) o=decide (n<=o/\o < s.lo):=by
   rw [Bool.eq_iff_iff]
   split
   ·simp only [Ba,List.any_cons,List.any_nil,Bool.or_false,Bool.and_eq_true,decide_eq_true_eq];omega
   ·simp only [Ba,List.any_nil,Bool.false_eq_true,decide_eq_true_eq,false_iff];omega
  rw [P1,Db,ih,es,e0]
  cases hm:Ba l o with
  | true =>
   have:=hb hm
   simp only [Bool.not_true,Bool.and_false,Bool.or_false,Bool.or_true]
   exact decide_eq_false (by omega)
  | false =>
   rw [Bool.eq_iff_iff]
   simp only [Bool.not_false,Bool.and_true,Bool.or_false,Bool.or_eq_true,Bool.and_eq_true,decide_eq_true_eq,Bool.not_eq_true',decide_eq_false_iff_not]
   omega
theorem At2 (a:List Ah):P1 0 (Cb a)=Gb fun o=>!Ba a o:=by
 refine Sx (Pn (by omega) (Sg _ 0 (-2) (by omega) (by omega) (Ck _))) fun o ho=>?_
 rw [Zz (Cb a) 0 (-2) (by omega) (Ck _),Cb,Kv _ ho,decide_eq_true (by omega),Bool.true_and]
def D50 (os:List Int):List Ah:=os.map fun o=>⟨o,o⟩
end Go.Proofs.YtahgkllhbggmgaaGreatDoor
namespace Go.Proofs.YtahgkllhbggmgaaGreatDoor
open Go.Proofs Go.Shelf
def Mt:Go.Shelf.Ren:=⟨fun | 6=>290 | 15=>101 | 14=>363 | 28=>191 | 29=>192 | 20=>424 | 21=>425 | 22=>426 | 23=>427 | 24=>428 | 25=>429 | 26=>430 | 27=>431 | 46=>472 | 47=>294 | 48=>295 | 49=>473 | 50=>474 | 57=>496 | n=>n,fun | 22=>40 | 24=>89 | 25=>327 | 3=>3 | 39=>147 | 0=>0 | 53=>228 | 55=>230 | 4=>4 | 46=>221 | 45=>220 | 50=>225 | 5=>5 | 9=>9 | 66=>328 | 70=>332 | 76=>408 | 77=>409 | n=>n,fun | n=>n⟩
theorem Af2:Go.Proofs.SlLaysF0.n6 Tryz.prog Mt:={
 mixed:=by kernel_rfl
 f6:=⟨Tryz.f290.name,by decide,Tryz.func290.trans (congrArg some (by kernel_rfl))⟩
 f14:=⟨Tryz.f363.name,by decide,Tryz.func363.trans (congrArg some (by kernel_rfl))⟩
 f15:=Tryz.func101.trans (congrArg some (by kernel_rfl))
 f20:=⟨Tryz.f424.name,by decide,Tryz.func424.trans (congrArg some (by kernel_rfl))⟩
 f21:=⟨Tryz.f425.name,by decide,Tryz.func425.trans (congrArg some (by kernel_rfl))⟩
 f22:=⟨Tryz.f426.name,by decide,Tryz.func426.trans (congrArg some (by kernel_rfl))⟩
 f23:=⟨Tryz.f427.name,by decide,Tryz.func427.trans (congrArg some (by kernel_rfl))⟩
 f24:=⟨Tryz.f428.name,by decide,Tryz.func428.trans (congrArg some (by kernel_rfl))⟩
 f25:=⟨Tryz.f429.name,by decide,Tryz.func429.trans (congrArg some (by kernel_rfl))⟩
 f26:=⟨Tryz.f430.name,by decide,Tryz.func430.trans (congrArg some (by kernel_rfl))⟩
 f27:=⟨Tryz.f431.name,by decide,Tryz.func431.trans (congrArg some (by kernel_rfl))⟩
 f28:=Tryz.func191.trans (congrArg some (by kernel_rfl))
 f29:=Tryz.func192.trans (congrArg some (by kernel_rfl))
 f46:=⟨Tryz.f472.name,by decide,Tryz.func472.trans (congrArg some (by kernel_rfl))⟩
 f47:=Tryz.func294.trans (congrArg some (by kernel_rfl))
 f48:=Tryz.func295.trans (congrArg some (by kernel_rfl))
 f49:=⟨Tryz.f473.name,by decide,Tryz.func473.trans (congrArg some (by kernel_rfl))⟩
 f50:=⟨Tryz.f474.name,by decide,Tryz.func474.trans (congrArg some (by kernel_rfl))⟩
 f57:=⟨Tryz.f496.name,by decide,Tryz.func496.trans (congrArg some (by kernel_rfl))⟩
 t0:=Tryz.underlying0
 a0:=Tryz.isAgg0
 z0:=Tryz.sizeOf0
 v0:=Tryz.zeroValue0
 t3:=Tryz.underlying3
 a3:=Tryz.isAgg3
 z3:=Tryz.sizeOf3
 v3:=Tryz.zeroValue3
 t4:=Tryz.underlying4
 a4:=Tryz.isAgg4
 z4:=Tryz.sizeOf4
 v4:=Tryz.zeroValue4
 t5:=Tryz.underlying5
 a5:=Tryz.isAgg5
 z5:=Tryz.sizeOf5
 v5:=Tryz.zeroValue5
 t9:=Tryz.underlying9
 a9:=Tryz.isAgg9
 z9:=Tryz.sizeOf9
 v9:=Tryz.zeroValue9
 t22:=Tryz.underlying40
 a22:=Tryz.isAgg40
 z22:=Tryz.sizeOf40
 v22:=Tryz.zeroValue40
 t25:=Tryz.underlying327
 a25:=Tryz.isAgg327
 z25:=Tryz.sizeOf327
 v25:=Tryz.zeroValue327
 t39:=Tryz.underlying147
 a39:=Tryz.isAgg147
 z39:=Tryz.sizeOf147
 v39:=Tryz.zeroValue147
 t45:=Tryz.underlying220
 a45:=Tryz.isAgg220
 z45:=Tryz.sizeOf220
 v45:=Tryz.zeroValue220
 t46:=Tryz.underlying221
 a46:=Tryz.isAgg221
 z46:=Tryz.sizeOf221
 v46:=Tryz.zeroValue221
 t50:=Tryz.underlying225
 a50:=Tryz.isAgg225
 z50:=Tryz.sizeOf225
 v50:=Tryz.zeroValue225
 t53:=Tryz.underlying228
 a53:=Tryz.isAgg228
 z53:=Tryz.sizeOf228
 v53:=Tryz.zeroValue228
 t55:=Tryz.underlying230
 a55:=Tryz.isAgg230
 z55:=Tryz.sizeOf230
 v55:=Tryz.zeroValue230
 t66:=Tryz.underlying328
 a66:=Tryz.isAgg328
 z66:=Tryz.sizeOf328
 v66:=Tryz.zeroValue328
 t70:=Tryz.underlying332
 a70:=Tryz.isAgg332
 z70:=Tryz.sizeOf332
 v70:=Tryz.zeroValue332
 t76:=Tryz.underlying408
 a76:=Tryz.isAgg408
 z76:=Tryz.sizeOf408
 v76:=Tryz.zeroValue408
 t77:=Tryz.underlying409
 a77:=Tryz.isAgg409
 z77:=Tryz.sizeOf409
 v77:=Tryz.zeroValue409 }
end Go.Proofs.YtahgkllhbggmgaaGreatDoor
namespace Go.Proofs.YtahgkllhbggmgaaGreatDoor
open Go.ChangeShapes Go.WideShapes Go.ChangeAt Go.RowKit Go.Sort Go.Shelf
theorem Bh.mono_mem {α:Type} {R R':List Value->α->Prop} {k:Nat} : ∀ {xs:List Value} {l:List α},Bh R k xs l->(∀ x∈l,∀ cs,R cs x->R' cs x)->Bh R' k xs l
 | _,[],h,_=>h
 | _,y :: _,⟨cs,rest,e,hk,h1,h⟩,hR=>⟨cs,rest,e,hk,hR y (List.mem_cons_self ..) _ h1,h.mono_mem fun x hx=>hR x (List.mem_cons_of_mem _ hx)⟩
theorem Ai.mono_mem {α:Type} {R R':List Value->α->Prop} {k:Nat} {w:World} {base:Nat} {e:TypeId} {v:Value} {l:List α} (h:Ai R k w base e v l) (hR:∀ x∈l,∀ cs,R cs x->R' cs x):Ai R' k w base e v l:=by
 obtain ⟨xs,hown,hch,hbig⟩:=h
 exact ⟨xs,hown,hch.mono_mem hR,hbig⟩
instance:Inhabited Ah:=⟨⟨0,0⟩⟩
def Wb (s:Ah):List Value:=[.int .i64 s.lo,.int .i64 s.hi]
def Rw (a b:Ah):Int:=Vu a.lo b.lo
theorem A87 (a b:Ah):ltOf Rw a b=decide (a.lo < b.lo):=by
 unfold ltOf Rw
 rw [decide_eq_decide]
 exact Aa5
theorem Bu2:SWO (ltOf Rw) where
 irrefl x:=by rw [A87];simp
 trans x y z h1 h2:=by rw [A87] at *;simp at *;omega
 ntrans x y z h1 h2:=by rw [A87] at *;simp at *;omega
theorem Cw6 (x y:Ah) (W:World):Calls Tryz.prog 291 #[.agg #[.int .i64 x.lo,.int .i64 x.hi],.agg #[.int .i64 y.lo,.int .i64 y.hi]] W fun e w'=>e=.returned (.int .i64 (Rw x y))/\∃ q os',w'=grow (W.drewN q) os':=by
 have hC:=fun W'=>Yp x.lo y.lo W'
 unfold Rw
 generalize Vu x.lo y.lo=r at hC ⊢
 go_enter Tryz.func291,Tryz.ntmps291
 go_wp2_with fail
 refine BW.same (hC _) ?_
 go_wp2_with fail
 go_ret
 exact ⟨rfl,0,_,by rw [alloc_eq_grow,alloc_eq_grow,grow_grow];rfl⟩
theorem B73 (d:List Ah) (v:Value) (w:World) (base:Nat) (h:Ai Gc 2 w base 89 v d) :
  Calls Tryz.prog 290 #[v,.func (.func 291) #[] #[]] w fun e w'=>e=.returned (.tuple #[])/\(∃ d',d'.Perm d/\d'.Pairwise (fun a b=>a.lo<=b.lo)/\Ai Gc 2 w' base 89 v d')/\w.grownBy w' v.ownBlock:=by
 rcases h.forms with ⟨rfl,rfl⟩ | ⟨g,c,rfl,hg1,hg2⟩
 ·have:=AnyF.slices_SortFunc_none (P:=Tryz.prog) (ρ:=Mt) { Af2 with } none 0 (.func (.func 291) #[] #[]) w
  refine Calls.mono this ?_
  rintro e w' ⟨rfl,rfl⟩
  exact ⟨rfl,⟨[],List.Perm.refl _,List.Pairwise.nil,h⟩,World.grownBy.refl _ _⟩
 ·have hbig:d.length<=1073741824:=by obtain ⟨_,_,_,hb⟩:=h;exact hb
  have hI:∀ x∈d,I64 x.lo/\I64 x.hi:=fun x hx=>by
   obtain ⟨i,hi⟩:=List.mem_iff_getElem?.1 hx
   obtain ⟨cs,⟨_,i1,i2⟩,_⟩:=Ai.at_ h hi
   exact ⟨i1,i2⟩
  have hE:Ai (Bs9 Wb) 2 w base 89 (.slice (some ⟨g,0,none⟩) d.length c) d:=h.mono fun cs x hx=>hx.1
  have hH:=Bb6 (k:=2) (fun _=>rfl) (by decide) hE
  have hcon:=AnyQ.slices_SortFunc (P:=Tryz.prog) (ρ:=Mt) Af2 2 Tryz.isAgg89 Tryz.sizeOf89 Wb (fun _=>rfl)
   (fun x v hv=>by simp [Wb] at hv;rcases hv with rfl | rfl<;>rfl) Rw Bu2 291 #[] g 0 c d.toArray w (enters_of Tryz.func291 (by kernel_rfl) rfl)
   (fun _ _ _ _ x y=>Cw6 x y _) hH hg2 (by simp only [List.size_toArray];omega)
  refine Calls.mono hcon ?_
  rintro e w' ⟨rfl,d',n,os,hp,hs,rfl⟩
  obtain ⟨p1,p2⟩:=Au2 hp
  have hsz:d'.size=d.length:=by simpa using p2
  obtain ⟨o1,o2⟩:=Ar4 (k:=2) (enc:=Wb) (fun _=>rfl) hE n d' os hsz
  refine ⟨rfl,⟨d'.toList,by simpa using p1,?_,o1.mono_mem fun x hx cs hc=>?_⟩,o2⟩
  ·have hs2:SortedIn (ltOf Rw) 0 d'.size d':=by rw [p2];exact hs
   refine (A52 hs2).imp ?_
   intro a b hab
   rw [A87,decide_eq_false_iff_not] at hab
   omega
  ·have:=hI x (by have:=p1.mem_iff.1 hx;simpa using this)
   exact ⟨hc,this.1,this.2⟩
end Go.Proofs.YtahgkllhbggmgaaGreatDoor
