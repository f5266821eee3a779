/- An object is read (the program's). -/
import Derived.Test.YthlgnjlpakimaaaGreatDoorVViewLaw
import Derived.Test.YthlgnjlpakimaaaGreatDoorVTakeLaw
import Derived.Test.YthlgnjlpakimaaaGreatDoorVAbsFrz
import Derived.Test.YthlgnjlpakimaaaGreatDoorVConcatSpan
import Derived.Test.YthlgnjlpakimaaaGreatDoorVClone
import Derived.Test.YthlgnjlpakimaaaGreatDoorVEnc
import Derived.Test.YthlgnjlpakimaaaGreatDoorVPutLaw
import Derived.Test.YthlgnjlpakimaaaGreatDoorVLogAll
import Derived.Test.YthlgnjlpakimaaaGreatDoorVNoteMerge
import Derived.Test.YthlgnjlpakimaaaGreatDoorVShelfAll
import Derived.Test.YthlgnjlpakimaaaGreatDoorVRefTouch
import Derived.Test.YthlgnjlpakimaaaGreatDoorRows
import Derived.Shelf.SlGeneric
import Derived.Shelf.SlSortCmp.WholeK
import Derived.Ground.SlsfProg
import Derived.Test.YthlgnjlpakimaaaGreatDoorVPieces
import Derived.Test.YthlgnjlpakimaaaGreatDoorVSortSpan
import Derived.Test.YthlgnjlpakimaaaGreatDoorVSpanLess
import Derived.Test.YthlgnjlpakimaaaGreatDoorVNoteThrough
import Derived.Test.YthlgnjlpakimaaaGreatDoorVSinceSame
set_option linter.all false
set_option linter.unnecessarySimpa false
set_option linter.unusedSimpArgs false
set_option linter.unusedVariables false
namespace Go.Proofs.YthlgnjlpakimaaaGreatDoor
def Ms (c n s:Int):Aa×Int :=
 if c < 0\/n < 0\/64<=n\/s < 0 then (⟨0,0⟩,1)
 else if 9223372036854775807 - c<=s then (⟨0,0⟩,2)
 else (⟨c+s+1,n⟩,0)
def Jk (l:List Aa):Int:=(Ck (D6 l) 64).foldl (fun m k=>max m (A8 l (k:Nat))) 0
def ofN (known:List Aa) (w:Ai):Aq×Int :=
 if Ak known=true/\Bu w.stamp.count w.stamp.node=true/\Fo w.object=true/\Dv known w.stamp=false then (⟨known,Dq [known,[w.stamp]],[],[w]⟩,0) else (Ay4,1)
structure C11 where
 view:Br
 note:Aq
 err:Int
def A21 (e:Int):C11:=⟨Uf,Ay4,e⟩
def Cx1 (v : Br) (me object skip : Int) (value : List Nat) (gone : Bool) : C11 :=
  if Al v = true /\ Fo object = true /\ value.length <= 256 /\ (gone && decide (0 < value.length)) = false then
    (if (Ms (Jk v.known) me skip).2 = 0 then
      (if (ofN v.known ⟨(Ms (Jk v.known) me skip).1, object, gone⟩).2 = 0 then
        (if (Cu v (ofN v.known ⟨(Ms (Jk v.known) me skip).1, object, gone⟩).1).2 = 0 then
          (if gone = true then ⟨(Cu v (ofN v.known ⟨(Ms (Jk v.known) me skip).1, object, gone⟩).1).1, (ofN v.known ⟨(Ms (Jk v.known) me skip).1, object, gone⟩).1, 0⟩
           else (if (Bm9 (Cu v (ofN v.known ⟨(Ms (Jk v.known) me skip).1, object, gone⟩).1).1 ⟨object, (Ms (Jk v.known) me skip).1, value⟩).2 = 0 then
              ⟨(Bm9 (Cu v (ofN v.known ⟨(Ms (Jk v.known) me skip).1, object, gone⟩).1).1 ⟨object, (Ms (Jk v.known) me skip).1, value⟩).1, (ofN v.known ⟨(Ms (Jk v.known) me skip).1, object, gone⟩).1, 0⟩
            else A21 (Bm9 (Cu v (ofN v.known ⟨(Ms (Jk v.known) me skip).1, object, gone⟩).1).1 ⟨object, (Ms (Jk v.known) me skip).1, value⟩).2))
         else A21 (Cu v (ofN v.known ⟨(Ms (Jk v.known) me skip).1, object, gone⟩).1).2)
       else A21 (ofN v.known ⟨(Ms (Jk v.known) me skip).1, object, gone⟩).2)
     else A21 (Ms (Jk v.known) me skip).2)
  else A21 1
end Go.Proofs.YthlgnjlpakimaaaGreatDoor
namespace Go.Proofs.YthlgnjlpakimaaaGreatDoor
open Go.ChangeShapes Go.WideShapes Go.ChangeAt Go.RowKit
section
variable {P : Program} {G : World -> Prop}
def Bx8:List (Nat×Nat)->List (Nat×AV)
 | []=>[]
 | (i,b) :: r=>(i,.bp b 0) :: Bx8 r
def Ax0 (args:List AV):List (Nat×Nat)->Prop
 | []=>True
 | (i,b) :: r=>args[i]? = some (.bp b 0)/\Ax0 args r
def pinned (b:Nat) (pins:List (Nat×Nat)):Bool:=pins.any fun p=>Nat.beq p.2 b
def We (pins:List (Nat×Nat)):List (Nat×List AV)->Bool
 | []=>true
 | (b,_) :: r=>pinned b pins&&We pins r
theorem A99 {ρ:Nat->Nat} {fr:List (Nat×AV)} : ∀ {pins:List (Nat×Nat)},leF ρ fr (Bx8 pins)->∀ p∈pins,Co fr p.1=.bp (ρ p.2) 0
 | (i,b) :: r,h,p,hp=>by
  rcases List.mem_cons.1 hp with rfl | hp
  ·exact h.1
  ·exact A99 h.2 p hp
theorem A12 {args:List AV} : ∀ {pins:List (Nat×Nat)},Ax0 args pins->∀ p∈pins,args[p.1]? = some (.bp p.2 0)
 | (i,b) :: r,h,p,hp=>by
  rcases List.mem_cons.1 hp with rfl | hp
  ·exact h.1
  ·exact A12 h.2 p hp
theorem Wd {pins:List (Nat×Nat)} : ∀ {bx:List (Nat×List AV)},We pins bx=true->∀ x∈bx,∃ p∈pins,p.2=x.1
 | (b,cs) :: r,h,x,hx=>by
  simp only [We,Bool.and_eq_true] at h
  rcases List.mem_cons.1 hx with rfl | hx
  ·have:=h.1
   unfold pinned at this
   rw [List.any_eq_true] at this
   obtain ⟨p,h1,h2⟩:=this
   exact ⟨p,h1,Nat.eq_of_beq_eq_true h2⟩
  ·exact Wd h.2 x hx
theorem Bm7 {E:Env} {X:World} {v:Value} {b o:Nat} (h:B9 E X v (.bp b o)):v=.pointer (some ⟨E.blk b,o,none⟩):=by cases h;rfl
theorem El.of {f : FuncId} {fn : Func} {c : Code} {n : Nat} {rs : List ResultVar} {args : List AV} {r : AV} {B nb : List BA} {bx : List (Nat × List AV)} {kr : List BA} (pins : List (Nat × Nat)) (hf : P.funcs[f]? = some fn) (hb : fn.body = some c) (hname : (fn.name == "runtime.NumGoroutine") = false) (hn : fn.ntmps = n) (hres : fn.results.toList = rs) (hal : args.length <= n)
  (hpin:Ax0 args pins) (hbx:We pins bx=true) (hkr:kr=[])
  (h:AV.okd.okds args->∀ V w0 F,AW P G none V w0 ⟨n,pins.map (·.1),true⟩ c ⟨Us 0 args,B++[.opq 99 F]⟩ fun e σ=>(e=.ret\/e=.normal)/\Qn P σ rs fun l=>∃ ρ,(∀ (E:Env) (X:World) (v:Value),B9 E X v (A16 l)->B9 E X v (r.ren ρ))/\leF ρ σ.fr (Bx8 pins)/\leB ρ σ.bk ((nb++(bxB bx++kr))++[.opq 99 F])/\(Au ρ ((nb++(bxB bx++kr))++[.opq 99 F])).Nodup):El P G f args r B nb bx kr:=by
 subst hkr
 refine ⟨fun vs w=>?_,fun V w0 w E vs F hst hG hargs=>?_⟩
 ·have hname' : ¬ fn.name = "runtime.NumGoroutine" := by simpa using hname
  simp [callFunc,program,Sem.run,hf,hname',hb]
 have hok:AV.okd.okds args:=Sw fun j c hj=>(hargs.2 j _ c (List.getElem?_eq_getElem (by rw [hargs.1];exact (List.getElem?_eq_some_iff.1 hj).1)) hj).okd
 have hsz:vs.size=args.length:=by simpa using hargs.1
 obtain ⟨T0,hT0⟩ : ∃ T0,vs++Array.replicate (fn.ntmps - vs.size) undef=T0:=⟨_,rfl⟩
 obtain ⟨m0,hm0⟩ : ∃ m0:Fm,m0=⟨⟨n,pins.map (·.1),true⟩,fun i=>T0.getD i undef,[],Nl w (Ac E (B++[.opq 99 F])),w.heap.size⟩:=⟨_,rfl⟩
 have hT:∀ i (hi:i < args.length),∃ v,T0.getD i undef=v/\B9 E (vis V w0 w (Ac E (B++[.opq 99 F]))) v args[i]:=fun i hi=>by
  have:vs[i]? = some (vs[i]'(by omega)):=Array.getElem?_eq_getElem _
  have h2:=hargs.2 i (vs[i]'(by omega)) _ (by rw [Array.getElem?_toList];exact this) (List.getElem?_eq_getElem hi)
  refine ⟨_,rfl,?_⟩
  rw [<-hT0,Array.getD_eq_getD_getElem?,Array.getElem?_append_left (by omega),this]
  exact h2
 have hs:St V w0 m0 E ⟨Us 0 args,B++[.opq 99 F]⟩ { tmps:=T0,defers:=[] } w:=by
  rw [hm0]
  refine ⟨hst.ext,hst.low,hst.apart,hst.base,hst.holds,fun i=>?_,⟨(by rw [<-hT0];simp [hn,hsz];omega),fun i _=>rfl⟩,⟨rfl,List.nodup_nil,fun D hD=>by cases hD⟩,Nat.le_refl _,fun g o e=>Dx.1 e⟩
  rw [T7]
  simp only [Nat.zero_le,if_true,Nat.sub_zero]
  by_cases hi:i < args.length
  ·rw [List.getElem?_eq_getElem hi]
   obtain ⟨v,h1,h2⟩:=hT i hi
   rw [h1]
   exact h2
  ·rw [List.getElem?_eq_none (by omega)]
   exact .any
 refine (callsIn_wide (n:=0)).1 (callsIn_of_wp_marks (F:=FW none) hf hb trivial (wpIn_mono (h hok V w0 F hG m0 E _ w (by rw [hm0]) (by rw [hT0];exact hs)) ?_) rfl)
 rintro e a' w' ⟨m',E',σ',hle,⟨he,hr⟩,hs'⟩
 have hds:m'.ds=[]:=by rw [hle.ds (by rw [hm0]),hm0]
 have hmk:=hs'.marks
 have hdf:=hs'.defers.1
 obtain ⟨l,⟨ρ,h1,hpf,h2,h3⟩,vs',h4,h5⟩:=Rt hs' rs _ hr
 -- what is handed over
 have hfin:=hs'.le (S:=⟨[],(nb++(bxB bx++[]))++[.opq 99 F]⟩) (ρ:=ρ) ⟨trivial,h2,h3⟩
 have hsub:Ext (vis V w0 w' (Ac E' σ'.bk)) (vis V w0 w' (Ac (E'.ren ρ) ((nb++(bxB bx++[]))++[.opq 99 F]))):=D2 (Nat.le_refl _) fun p u _ _ q4 q5=>⟨fun hm=>q4 (by
  obtain ⟨b,hb,hg⟩:=Bz.1 hm
  rw [BA.ren_owned] at hg
  exact Bz.2 ⟨_,(G0 (Sz h2 b hb)).1,hg⟩),q5⟩
 have hv:∃ v,(results fn a'.tmps).run P w'=.ok v w'/\B9 E' (vis V w0 w' (Ac E' σ'.bk)) v (A16 l):=by
  have hmap:(fn.results.mapM (Al2 a'.tmps)).run P w'=.ok vs'.toArray w':=by
   rw [Array.mapM_eq_mapM_toList,hres]
   simp [h4]
  refine ⟨if h:vs'.toArray.size=1 then vs'.toArray[0] else .tuple vs'.toArray,?_,?_⟩
  ·have hfun:results fn a'.tmps=(fn.results.mapM (Al2 a'.tmps) >>= fun vs=>pure (if h:vs.size=1 then vs[0] else .tuple vs)):=by
    unfold results
    congr 1
   rw [hfun,Sem.run_bind,hmap]
   rfl
  ·have hlen:=h5.1
   match l,vs',h5,hlen with
   | [c],[v],h5,_=>exact h5.2 0 v c rfl rfl
   | [],[],h5,_=>exact .tup rfl fun j v c a b=>by simp at a
   | c :: d :: l,v :: u :: vs',h5,_ =>
    have:¬ (v :: u :: vs').toArray.size=1:=by simp
    rw [dif_neg this]
    exact .tup (by simpa using h5.1) fun j v c a b=>h5.2 j v c (by simpa using a) b
 obtain ⟨v,hv1,hv2⟩:=hv
 have hv3:=((h1 _ _ _ hv2).mono hsub).ren_
 have hh0:∀ g o,w.heap[g]? = some o->g∉Ac E (B++[.opq 99 F])->w'.heap[g]? = some o/\g∉Ac E' σ'.bk:=fun g o q1 q2=>hs'.hold.2 g o (hle.hold g o (by rw [hm0];exact Dx.2 ⟨q1,q2⟩))
 have hsz':w.heap.size<=w'.heap.size:=Nat.le_trans (by have:=hle.lo;rw [hm0] at this;exact this) hs'.hold.1
 have hopq:∀ p∈F.l,w'.heap[p.1]? = some p.2:=hfin.holds (.opq 99 F) (by simp)
 have hopq0:∀ p∈F.l,w.heap[p.1]? = some p.2:=hst.holds (.opq 99 F) (by simp)
 have hpost:(∀ x∈bx,(E'.ren ρ).blk x.1=E.blk x.1)/\w.heap.size<=w'.heap.size/\(∀ g,g∉Ac E B->g < w.heap.size->w'.heap[g]? = w.heap[g]?)/\(∀ g∈Ac (E'.ren ρ) (nb++(bxB bx++[])),g∈Ac E B\/w.heap.size<=g):=by
  refine ⟨fun x hx=>?_,hsz',fun g hg hlt=>?_,fun g hg=>?_⟩
  ·obtain ⟨p,hp,he⟩:=Wd hbx x hx
   have hl:=A99 hpf p hp
   have h6:=hs'.slots p.1
   rw [hl,hs'.size.2 p.1 (by rw [hle.nd,hm0];exact List.mem_map_of_mem hp),hle.fix,hm0] at h6
   have hai:=A12 hpin p hp
   obtain ⟨hi,e1⟩:=List.getElem?_eq_some_iff.1 hai
   obtain ⟨u,h7,h8⟩:=hT p.1 hi
   rw [e1] at h8
   simp only [h7] at h6
   have e2:=(Bm7 h6).symm.trans (Bm7 h8)
   rw [<-he]
   simpa [Env.ren] using e2
  ·by_cases hF:g∈F.l.map (·.1)
   ·obtain ⟨p,hp,rfl⟩:=List.mem_map.1 hF
    rw [hopq p hp,hopq0 p hp]
   ·rw [Array.getElem?_eq_getElem hlt]
    exact (hh0 g _ (Array.getElem?_eq_getElem hlt) (by simp only [Aj,List.mem_append,not_or];exact ⟨hg,by simpa [Ac,BA.owned] using hF⟩)).1
  ·rcases Nat.lt_or_ge g w.heap.size with hlt | hge
   ·refine .inl (Classical.byContradiction fun hg2=>?_)
    have hgf:g∉F.l.map (·.1):=fun hm=>by
     have hap:=hfin.apart
     simp only [Aj] at hap
     exact (List.nodup_append.1 hap).2.2 g (by simpa only [Aj] using hg) g (by simpa [Ac,BA.owned] using hm) rfl
    have h6:=(hh0 g _ (Array.getElem?_eq_getElem hlt) (by simp only [Aj,List.mem_append,not_or];exact ⟨hg2,by simpa [Ac,BA.owned] using hgf⟩)).2
    obtain ⟨b,hb,hgb⟩:=Bz.1 hg
    rw [BA.ren_owned] at hgb
    exact h6 (Bz.2 ⟨_,(G0 (Sz h2 b (List.mem_append_left _ hb))).1,hgb⟩)
   ·exact .inr hge
 have hend:=Lz (F:=FW none) (n:=0) (P:=P) (fn:=fn) (tmps:=a'.tmps) (R:=fun e w'=>∃ v E',e=.returned v/\StB V w0 E' ((nb++(bxB bx++[]))++[.opq 99 F]) w'/\(∀ x∈bx,E'.blk x.1=E.blk x.1)/\(∀ x∈([]:List BA),E'.row x.id=E.row x.id)/\B9 E' (vis V w0 w' (Ac E' ((nb++(bxB bx++[]))++[.opq 99 F]))) v r/\w.heap.size<=w'.heap.size /\
   (∀ g,g∉Ac E B->g < w.heap.size->w'.heap[g]? = w.heap[g]?)/\(∀ g∈Ac E' (nb++(bxB bx++[])),g∈Ac E B\/w.heap.size<=g)) m'.ds w' hmk (by
  rw [hds]
  exact ⟨v,hv1,v,_,rfl,⟨hfin.ext,hfin.low,hfin.apart,hfin.base,hfin.holds⟩,hpost.1,(fun x hx=>by cases hx),hv3,hpost.2⟩)
 rw [<-hdf] at hend
 rcases he with rfl | rfl
 ·exact hend
 ·exact hend
end
@[go_sem] theorem Cf2 {ρ:Nat->Nat} : J6 ρ []=[]:=rfl
@[go_sem] theorem C43 {ρ:Nat->Nat} {b:BA} {r:List BA} : J6 ρ (b :: r)=b.ren ρ :: J6 ρ r:=rfl
@[go_sem] theorem Cu6 {ρ:Nat->Nat} {c:Nat} : bxS ρ c []=[]:=rfl
@[go_sem] theorem Cl2 {ρ:Nat->Nat} {c b:Nat} {cs:List AV} {r:List (Nat×List AV)} : bxS ρ c ((b,cs) :: r)=.box (ρ b) (AV.sh.shs c cs) :: bxS ρ c r:=rfl
@[go_sem] theorem Cu7:bxB []=[]:=rfl
@[go_sem] theorem Cl3 {b:Nat} {cs:List AV} {r:List (Nat×List AV)} : bxB ((b,cs) :: r)=.box b cs :: bxB r:=rfl
attribute [go_sem] id_eq
@[go_sem] theorem Ch8 {b:Nat} {F:Far} {x:BA} {r:List BA} : J8 x (.opq b F :: r)=.opq b F :: J8 x r:=rfl
section
variable {P : Program} {G : World -> Prop}
structure At0 (X:World) (k:Nat) (T:TypeId) (base:Nat) (v:Value) (l':List (List IV)) (w:World) (v':Value) (w':World):Prop where
 own:Af (B8 X) k w' base T v' l'
 grown:w.grownBy w' v.ownBlock
 blk:v'.ownBlock=v.ownBlock\/v'.ownBlock=none\/∃ g,v'.ownBlock=some g/\w.heap.size<=g
theorem El.row {f : FuncId} {fn : Func} {c : Code} (hf : P.funcs[f]? = some fn) (hb : fn.body = some c) (hname : (fn.name == "runtime.NumGoroutine") = false) {args : List AV} {T k : Nat} {l l' : List (List IV)} {r : Value -> Value} {r' : AV}
  (hr:∀ (E:Env) (X:World) (v':Value),(∃ A n c,v'=.slice A n c)->E.row 0=v'->B9 E X (r v') r')
  (h:∀ (X w:World) (E:Env) (v:Value) (vs:List Value) (base:Nat),Ext X w->base<=w.heap.size->G w->Af (B8 X) k w base T v l->(∀ b,v.ownBlock=some b->∀ (p:Addr) u,X.cell? p=some u->p.block≠b)->As E X vs args ->
   Calls P f (v :: vs).toArray w fun e w'=>∃ v',e=.returned (r v')/\At0 X k T base v l' w v' w'):El P G f (.own 1 :: args) r' [.row 1 T k l] [.row 0 T k l'] [] []:=by
 refine ⟨fun vs w=>?_,fun V w0 w E vs F hst hG hargs=>?_⟩
 ·have hname' : ¬ fn.name = "runtime.NumGoroutine" := by simpa using hname
  simp [callFunc,program,Sem.run,hf,hname',hb]
 obtain ⟨v,vs',e1,hv,hvs⟩:=As.cons_iff.1 hargs
 obtain rfl:vs=(v :: vs').toArray:=by rw [<-e1]
 obtain ⟨X,hX⟩ : ∃ X,vis V w0 w (Ac E ([.row 1 T k l]++[.opq 99 F]))=X:=⟨_,rfl⟩
 rw [hX] at hvs hv
 have hXw:Ext X w:=by rw [<-hX];exact Ns hst.ext hst.low
 have hrow:=hst.holds (.row 1 T k l) (by simp)
 rw [hX] at hrow
 cases hv with
 | @own _ A n cc he =>
  obtain ⟨hO,hB⟩:=hrow
  rw [he] at hO hB
  obtain ⟨v,hv⟩ : ∃ v,Value.slice A n cc=v:=⟨_,rfl⟩
  rw [hv] at hO hB he ⊢
  have hown:Ac E [.row 1 T k l]=v.ownBlock.toList:=by simp [Ac,BA.owned,he]
  have hhide:∀ b,v.ownBlock=some b->∀ (p:Addr) u,X.cell? p=some u->p.block≠b:=fun b hb p u hp=>by
   rw [<-hX] at hp
   intro e
   refine B65 hst.base hp ?_
   rw [Aj,hown,hb,e]
   simp
  refine (h X w E v vs' w0.heap.size hXw hst.low.size (hG w hst.low) hO hhide hvs).mono ?_
  rintro e w' ⟨v',rfl,hown',hgr,hblk⟩
  obtain ⟨A',c',hv',-⟩:=hown'.sl
  have hsl:∃ A n c,v'=.slice A n c:=⟨_,_,_,hv'⟩
  obtain ⟨E',hE'⟩ : ∃ E':Env,E'=⟨fun b=>if b=0 then (v'.ownBlock).getD 0 else E.blk b,fun b=>if b=0 then v' else E.row b⟩:=⟨_,rfl⟩
  have ho1:Ac E' [.row 0 T k l']=v'.ownBlock.toList:=by rw [hE'];simp [Ac,BA.owned]
  have hoF:∀ E1:Env,Ac E1 [.opq 99 F]=F.l.map (·.1):=fun E1=>by simp [Ac,BA.owned]
  have hF0:∀ p∈F.l,w.heap[p.1]? = some p.2:=hst.holds (.opq 99 F) (by simp)
  have hap:=hst.apart
  rw [Aj,hown,hoF] at hap
  have hFv:∀ p∈F.l,v.ownBlock≠some p.1:=fun p hp e=>(List.nodup_append.1 hap).2.2 p.1 (by rw [e];simp) p.1 (List.mem_map_of_mem hp) rfl
  have hFlt:∀ p∈F.l,p.1 < w.heap.size:=fun p hp=>(Array.getElem?_eq_some_iff.1 (hF0 p hp)).1
  have hF1:∀ p∈F.l,w'.heap[p.1]? = some p.2:=fun p hp=>(hgr.block p.1 (hFlt p hp) (fun e=>hFv p hp e.symm)).trans (hF0 p hp)
  have hnew:∀ g∈v'.ownBlock.toList,g∈v.ownBlock.toList\/w.heap.size<=g:=fun g hg=>by
   rw [Option.mem_toList] at hg
   rcases hblk with e | e | ⟨g',e,hle⟩
   ·exact .inl (by rw [<-e,Option.mem_toList];exact hg)
   ·rw [e] at hg;cases hg
   ·rw [e] at hg
    obtain rfl:=Option.some.inj hg
    exact .inr hle
  have hbase:∀ g,v.ownBlock=some g->w0.heap.size<=g:=fun g hg=>(hO.lt g hg).1
  have hlow:Below w0.heap.size w0 w':=hst.low.grown hgr hst.low.size fun g hg=>hbase g hg
  have hof:Ac E' (([.row 0 T k l']++(bxB []++[]))++[.opq 99 F])=v'.ownBlock.toList++F.l.map (·.1):=by
   rw [Aj,hoF]
   simp only [bxB,List.append_nil,ho1]
  have hx:Ext X (vis V w0 w' (v'.ownBlock.toList++F.l.map (·.1))):=by
   rw [<-hX,Aj,hown,hoF]
   refine D2 hgr.size fun p u _ h2 h3 h4=>?_
   simp only [List.mem_append,not_or] at h3 ⊢
   refine ⟨⟨fun hm=>?_,h3.2⟩,?_⟩
   ·rcases hnew _ hm with hm | hm
    ·exact h3.1 hm
    ·omega
   ·rw [World.cell?_of_block (hgr.block p.block h2 fun e=>h3.1 (by rw [<-e];simp))]
    exact h4
  refine ⟨_,E',rfl,⟨hst.ext,hlow,?_,fun g hg=>?_,fun b hb=>?_⟩,(fun x hx=>by cases hx),(fun x hx=>by cases hx),?_,hgr.size,fun g hg hlt=>?_,fun g hg=>?_⟩
  ·rw [hof]
   refine List.nodup_append.2 ⟨by cases v'.ownBlock<;>simp,F.nd,fun g hg g' hg' e=>?_⟩
   subst e
   obtain ⟨p,hp,rfl⟩:=List.mem_map.1 hg'
   rcases hnew _ hg with hm | hm
   ·rw [Option.mem_toList] at hm;exact hFv p hp hm
   ·have:=hFlt p hp;omega
  ·rw [hof] at hg
   rcases List.mem_append.1 hg with hg | hg
   ·rcases hnew _ hg with hm | hm
    ·rw [Option.mem_toList] at hm;exact hbase g hm
    ·have:=hst.low.size;omega
   ·exact hst.base g (by rw [Aj,hoF];exact List.mem_append_right _ hg)
  ·rw [hof]
   simp only [bxB,List.append_nil,List.cons_append,List.nil_append,List.mem_cons,List.not_mem_nil,or_false] at hb
   rcases hb with rfl | rfl
   ·refine ⟨?_,fun g hg=>?_⟩
    ·rw [hE']
     exact hown'.mono fun cs x hx'=>B8.ext hx hx'
    ·rw [hE'] at hg ⊢
     simp only [if_true] at hg ⊢
     rw [hg];rfl
   ·exact hF1
  ·rw [hof]
   exact hr E' _ v' hsl (by rw [hE'];simp)
  ·rw [hown] at hg
   exact hgr.block g hlt fun e=>hg (by rw [<-e];simp)
  ·simp only [bxB,List.append_nil,ho1] at hg
   rw [hown]
   exact hnew g hg
theorem El.row2 {f : FuncId} {fn : Func} {c : Code} (hf : P.funcs[f]? = some fn) (hb : fn.body = some c) (hname : (fn.name == "runtime.NumGoroutine") = false) {args : List AV} {T k T2 k2 : Nat} {l l' m : List (List IV)} {r : Value -> Value} {r' : AV}
  (hr:∀ (E:Env) (X:World) (v':Value),(∃ A n c,v'=.slice A n c)->E.row 0=v'->B9 E X (r v') r')
  (h:∀ (X w:World) (E:Env) (v:Value) (vs:List Value) (base:Nat),Ext X w->base<=w.heap.size->G w->Af (B8 X) k w base T v l->Af (B8 X) k2 w base T2 (E.row 3) m->(∀ b,v.ownBlock=some b->(E.row 3).ownBlock≠some b)->As E X vs args ->
   Calls P f (v :: vs).toArray w fun e w'=>∃ v',e=.returned (r v')/\At0 X k T base v l' w v' w'):El P G f (.own 1 :: args) r' [.row 1 T k l,.row 3 T2 k2 m] [.row 0 T k l'] [] []:=by
 refine ⟨fun vs w=>?_,fun V w0 w E vs F hst hG hargs=>?_⟩
 ·have hname' : ¬ fn.name = "runtime.NumGoroutine" := by simpa using hname
  simp [callFunc,program,Sem.run,hf,hname',hb]
 obtain ⟨v,vs',e1,hv,hvs⟩:=As.cons_iff.1 hargs
 obtain rfl:vs=(v :: vs').toArray:=by rw [<-e1]
 obtain ⟨X,hX⟩ : ∃ X,vis V w0 w (Ac E ([.row 1 T k l,.row 3 T2 k2 m]++[.opq 99 F]))=X:=⟨_,rfl⟩
 rw [hX] at hvs hv
 have hXw:Ext X w:=by rw [<-hX];exact Ns hst.ext hst.low
 have hrow:=hst.holds (.row 1 T k l) (by simp)
 rw [hX] at hrow
 have hrow2:=hst.holds (.row 3 T2 k2 m) (by simp)
 rw [hX] at hrow2
 cases hv with
 | @own _ A n cc he =>
  obtain ⟨hO,hB⟩:=hrow
  rw [he] at hO hB
  obtain ⟨v,hv⟩ : ∃ v,Value.slice A n cc=v:=⟨_,rfl⟩
  rw [hv] at hO hB he ⊢
  have hown:Ac E [.row 1 T k l,.row 3 T2 k2 m]=v.ownBlock.toList++(E.row 3).ownBlock.toList:=by simp [Ac,BA.owned,he]
  have hap0:=hst.apart
  rw [Aj,hown] at hap0
  have hdis:∀ b,v.ownBlock=some b->(E.row 3).ownBlock≠some b:=fun b h1 h2=>(List.nodup_append.1 (List.nodup_append.1 hap0).1).2.2 b (by rw [h1];simp) b (by rw [h2];simp) rfl
  refine (h X w E v vs' w0.heap.size hXw hst.low.size (hG w hst.low) hO hrow2.1 hdis hvs).mono ?_
  rintro e w' ⟨v',rfl,hown',hgr,hblk⟩
  obtain ⟨A',c',hv',-⟩:=hown'.sl
  have hsl:∃ A n c,v'=.slice A n c:=⟨_,_,_,hv'⟩
  obtain ⟨E',hE'⟩ : ∃ E':Env,E'=⟨fun b=>if b=0 then (v'.ownBlock).getD 0 else E.blk b,fun b=>if b=0 then v' else E.row b⟩:=⟨_,rfl⟩
  have ho1:Ac E' [.row 0 T k l']=v'.ownBlock.toList:=by rw [hE'];simp [Ac,BA.owned]
  have hoF:∀ E1:Env,Ac E1 [.opq 99 F]=F.l.map (·.1):=fun E1=>by simp [Ac,BA.owned]
  have hF0:∀ p∈F.l,w.heap[p.1]? = some p.2:=hst.holds (.opq 99 F) (by simp)
  have hap:=hst.apart
  rw [Aj,hown,hoF] at hap
  have hFv:∀ p∈F.l,v.ownBlock≠some p.1:=fun p hp e=>(List.nodup_append.1 hap).2.2 p.1 (List.mem_append_left _ (by rw [e];simp)) p.1 (List.mem_map_of_mem hp) rfl
  have hFlt:∀ p∈F.l,p.1 < w.heap.size:=fun p hp=>(Array.getElem?_eq_some_iff.1 (hF0 p hp)).1
  have hF1:∀ p∈F.l,w'.heap[p.1]? = some p.2:=fun p hp=>(hgr.block p.1 (hFlt p hp) (fun e=>hFv p hp e.symm)).trans (hF0 p hp)
  have hnew:∀ g∈v'.ownBlock.toList,g∈v.ownBlock.toList\/w.heap.size<=g:=fun g hg=>by
   rw [Option.mem_toList] at hg
   rcases hblk with e | e | ⟨g',e,hle⟩
   ·exact .inl (by rw [<-e,Option.mem_toList];exact hg)
   ·rw [e] at hg;cases hg
   ·rw [e] at hg
    obtain rfl:=Option.some.inj hg
    exact .inr hle
  have hbase:∀ g,v.ownBlock=some g->w0.heap.size<=g:=fun g hg=>(hO.lt g hg).1
  have hlow:Below w0.heap.size w0 w':=hst.low.grown hgr hst.low.size fun g hg=>hbase g hg
  have hof:Ac E' (([.row 0 T k l']++(bxB []++[]))++[.opq 99 F])=v'.ownBlock.toList++F.l.map (·.1):=by
   rw [Aj,hoF]
   simp only [bxB,List.append_nil,ho1]
  have hx:Ext X (vis V w0 w' (v'.ownBlock.toList++F.l.map (·.1))):=by
   rw [<-hX,Aj,hown,hoF]
   refine D2 hgr.size fun p u _ h2 h3 h4=>?_
   simp only [List.mem_append,not_or] at h3 ⊢
   refine ⟨⟨fun hm=>?_,h3.2⟩,?_⟩
   ·rcases hnew _ hm with hm | hm
    ·exact h3.1.1 hm
    ·omega
   ·rw [World.cell?_of_block (hgr.block p.block h2 fun e=>h3.1.1 (by rw [<-e];simp))]
    exact h4
  refine ⟨_,E',rfl,⟨hst.ext,hlow,?_,fun g hg=>?_,fun b hb=>?_⟩,(fun x hx=>by cases hx),(fun x hx=>by cases hx),?_,hgr.size,fun g hg hlt=>?_,fun g hg=>?_⟩
  ·rw [hof]
   refine List.nodup_append.2 ⟨by cases v'.ownBlock<;>simp,F.nd,fun g hg g' hg' e=>?_⟩
   subst e
   obtain ⟨p,hp,rfl⟩:=List.mem_map.1 hg'
   rcases hnew _ hg with hm | hm
   ·rw [Option.mem_toList] at hm;exact hFv p hp hm
   ·have:=hFlt p hp;omega
  ·rw [hof] at hg
   rcases List.mem_append.1 hg with hg | hg
   ·rcases hnew _ hg with hm | hm
    ·rw [Option.mem_toList] at hm;exact hbase g hm
    ·have:=hst.low.size;omega
   ·exact hst.base g (by rw [Aj,hoF];exact List.mem_append_right _ hg)
  ·rw [hof]
   simp only [bxB,List.append_nil,List.cons_append,List.nil_append,List.mem_cons,List.not_mem_nil,or_false] at hb
   rcases hb with rfl | rfl
   ·refine ⟨?_,fun g hg=>?_⟩
    ·rw [hE']
     exact hown'.mono fun cs x hx'=>B8.ext hx hx'
    ·rw [hE'] at hg ⊢
     simp only [if_true] at hg ⊢
     rw [hg];rfl
   ·exact hF1
  ·rw [hof]
   exact hr E' _ v' hsl (by rw [hE'];simp)
  ·rw [hown] at hg
   exact hgr.block g hlt fun e=>hg (List.mem_append_left _ (by rw [<-e];simp))
  ·simp only [bxB,List.append_nil,ho1] at hg
   rw [hown]
   exact (hnew g hg).imp (List.mem_append_left _) id
theorem El.keep {f : FuncId} {fn : Func} {c : Code} (hf : P.funcs[f]? = some fn) (hb : fn.body = some c) (hname : (fn.name == "runtime.NumGoroutine") = false) {args : List AV} {T k : Nat} {l l' : List (List IV)} {r : Value} {r' : AV}
  (hr:∀ (E:Env) (X:World),B9 E X r r')
  (h:∀ (X w:World) (E:Env) (v:Value) (vs:List Value) (base:Nat),Ext X w->base<=w.heap.size->G w->Af (B8 X) k w base T v l->As E X vs args ->
   Calls P f (v :: vs).toArray w fun e w'=>e=.returned r/\Af (B8 X) k w' base T v l'/\w.grownBy w' v.ownBlock):El P G f (.own 1 :: args) r' [.row 1 T k l] [] [] [.row 1 T k l']:=by
 refine ⟨fun vs w=>?_,fun V w0 w E vs F hst hG hargs=>?_⟩
 ·have hname' : ¬ fn.name = "runtime.NumGoroutine" := by simpa using hname
  simp [callFunc,program,Sem.run,hf,hname',hb]
 obtain ⟨v,vs',e1,hv,hvs⟩:=As.cons_iff.1 hargs
 obtain rfl:vs=(v :: vs').toArray:=by rw [<-e1]
 obtain ⟨X,hX⟩ : ∃ X,vis V w0 w (Ac E ([.row 1 T k l]++[.opq 99 F]))=X:=⟨_,rfl⟩
 rw [hX] at hvs hv
 have hXw:Ext X w:=by rw [<-hX];exact Ns hst.ext hst.low
 have hrow:=hst.holds (.row 1 T k l) (by simp)
 rw [hX] at hrow
 cases hv with
 | @own _ A n cc he =>
  obtain ⟨hO,hB⟩:=hrow
  rw [he] at hO hB
  obtain ⟨v,hv⟩ : ∃ v,Value.slice A n cc=v:=⟨_,rfl⟩
  rw [hv] at hO hB he ⊢
  have hown:Ac E [.row 1 T k l]=v.ownBlock.toList:=by simp [Ac,BA.owned,he]
  have hown2:Ac E [.row 1 T k l']=v.ownBlock.toList:=by simp [Ac,BA.owned,he]
  refine (h X w E v vs' w0.heap.size hXw hst.low.size (hG w hst.low) hO hvs).mono ?_
  rintro e w' ⟨rfl,hown',hgr⟩
  have hoF:∀ E1:Env,Ac E1 [.opq 99 F]=F.l.map (·.1):=fun E1=>by simp [Ac,BA.owned]
  have hF0:∀ p∈F.l,w.heap[p.1]? = some p.2:=hst.holds (.opq 99 F) (by simp)
  have hap:=hst.apart
  rw [Aj,hown,hoF] at hap
  have hFv:∀ p∈F.l,v.ownBlock≠some p.1:=fun p hp e=>(List.nodup_append.1 hap).2.2 p.1 (by rw [e];simp) p.1 (List.mem_map_of_mem hp) rfl
  have hF1:∀ p∈F.l,w'.heap[p.1]? = some p.2:=fun p hp=>(hgr.block p.1 (Array.getElem?_eq_some_iff.1 (hF0 p hp)).1 (fun e=>hFv p hp e.symm)).trans (hF0 p hp)
  have hof:Ac E (([]++(bxB []++[.row 1 T k l']))++[.opq 99 F])=Ac E ([.row 1 T k l]++[.opq 99 F]):=by
   simp only [bxB,List.nil_append,Aj,hown,hown2]
  have hx:Ext X (vis V w0 w' (Ac E ([.row 1 T k l]++[.opq 99 F]))):=by
   rw [<-hX]
   refine D2 hgr.size fun p u _ h2 h3 h4=>⟨h3,?_⟩
   rw [World.cell?_of_block (hgr.block p.block h2 fun e=>h3 (by rw [Aj,hown,<-e];simp))]
   exact h4
  refine ⟨r,E,rfl,⟨hst.ext,hst.low.grown hgr hst.low.size fun g hg=>(hO.lt g hg).1,?_,fun g hg=>?_,fun b hb=>?_⟩,(fun x hx=>by cases hx),(fun x hx=>by simp only [List.mem_singleton] at hx;subst hx;rfl),hr _ _,hgr.size,fun g hg hlt=>?_,fun g hg=>?_⟩
  ·rw [hof];exact hst.apart
  ·rw [hof] at hg;exact hst.base g hg
  ·rw [hof]
   simp only [bxB,List.nil_append,List.cons_append,List.mem_cons,List.not_mem_nil,or_false] at hb
   rcases hb with rfl | rfl
   ·refine ⟨?_,by rw [he];exact hB⟩
    rw [he]
    exact hown'.mono fun cs x hx'=>B8.ext hx hx'
   ·exact hF1
  ·rw [hown] at hg
   exact hgr.block g hlt fun e=>hg (by rw [<-e];simp)
  ·simp only [bxB,List.nil_append,hown2] at hg
   rw [hown]
   exact .inl hg
theorem StB.perm {V w0:World} {E:Env} {bk bk':List BA} {w:World} (h:StB V w0 E bk w) (hp:bk.Perm bk'):StB V w0 E bk' w:=by
 have ho:=Su E hp
 have hx:Ext (vis V w0 w (Ac E bk)) (vis V w0 w (Ac E bk')):=D2 (Nat.le_refl _) fun p u _ _ h4 h5=>⟨fun hm=>h4 (ho.mem_iff.2 hm),h5⟩
 exact ⟨h.ext,h.low,ho.nodup_iff.1 h.apart,fun g hg=>h.base g (ho.mem_iff.2 hg),fun b hb=>BA.holds_ext (Env.same_refl 0 0 E) hx (fun _ _=>rfl) b.off_none (h.holds b (hp.mem_iff.2 hb))⟩
theorem El.perm {f:FuncId} {args:List AV} {r:AV} {B B' nb kr:List BA} {bx:List (Nat×List AV)} (h:El P G f args r B nb bx kr) (hp:B'.Perm B):El P G f args r B' nb bx kr :=
 ⟨h.1,fun V w0 w E vs F hst hG hargs=>by
  have hp2:(B'++[BA.opq 99 F]).Perm (B++[BA.opq 99 F]):=hp.append_right _
  have ho:=Su E hp2
  have ho1:=Su E hp
  have hx:Ext (vis V w0 w (Ac E (B'++[.opq 99 F]))) (vis V w0 w (Ac E (B++[.opq 99 F]))):=D2 (Nat.le_refl _) fun p u _ _ h4 h5=>⟨fun hm=>h4 (ho.mem_iff.2 hm),h5⟩
  refine (h.2 V w0 w E vs F (hst.perm hp2) hG (hargs.mono hx)).mono ?_
  rintro e w' ⟨v,E',h1,h2,h3,h4,h5,h6,h7,h8⟩
  exact ⟨v,E',h1,h2,h3,h4,h5,h6,fun g hg=>h7 g fun hm=>hg (ho1.mem_iff.2 hm),fun g hg=>(h8 g hg).imp ho1.mem_iff.2 id⟩⟩
end
theorem Bk4:(Tryz.prog.info? 49).map (fun i=>i.zero.map (fun z=>z.cells.all (·.oneCell')))=some (some true):=by kernel_rfl
theorem Jv {P:Program} {ro:Option Nat} {ops:Array Oper} {o:Oper} {rest:List Oper} {Q:Exit->Act->World->Prop} {a:Act} {w w':World} {v:Value} (hg:o.guard=none) (hd:∀ c,o.op≠.defer c) (hx:(execOp a.eval o).run P w=.ok (.value v) w') (h:wpListIn (FW ro) 0 P ops Q rest (a.put o.dst v) w'):wpListIn (FW ro) 0 P ops Q (o :: rest) a w:=by
 refine wpListIn_step fun K' hK'=>?_
 rw [if_pos (by unfold Region.wanted;rw [hg])]
 refine Lu hd ?_
 unfold Oper.wp
 rw [hx,Oper.upon_value]
 exact hK' _ _ h
section
variable {V w0 : World} {n : Nd} {ro : Option Nat} {σ : Ah} {K : Exit -> Ah -> Prop}
set_option maxHeartbeats 1600000 in
theorem AW.trimW {id1 id2 m b:Nat} {l:List (List IV)} {rest:Code} {y1 y2 y3 y4 y5 y6 y7 y8:TypeId} {p1 p2 p3 p4 p5 p6 p7 p8:String} {a1 a2 a3 a4 a5 a6 a7 a8:Array Edge}
  (h0:Co σ.fr 0=.own b) (h5:Co σ.fr 5=.val (.int .i64 (m:Nat))) (hb:Cm b σ.bk=some (.row b 49 4 l)) (hm:m < l.length) (hn42:n.n=42) (hfx:n.fx=[]) (hf:(Hv 4200 4300 σ.bk)=true)
  (h:AW Tryz.prog A9 ro V w0 n rest ⟨[(4,.own 4200)],.row 4200 49 4 (l.take m) :: Dg b [] σ.bk⟩ K) :
  AW Tryz.prog A9 ro V w0 n (.seq (.region id1 #[⟨some 36,.move (.tmp 0),y1,p1,a1,none⟩,⟨some 37,.move (.tmp 5),y2,p2,a2,none⟩,⟨some 38,.slice 27 (.tmp 36) (some (.tmp 37)) none none,y3,p3,a3,none⟩,⟨none,.call { callee:=.builtin .clear,args:=#[.tmp 38],argTypes:=#[27] },y4,p4,a4,none⟩] false)
   (.seq (.region id2 #[⟨some 39,.move (.tmp 0),y5,p5,a5,none⟩,⟨some 40,.move (.tmp 5),y6,p6,a6,none⟩,⟨some 41,.slice 27 (.tmp 39) none (some (.tmp 40)) none,y7,p7,a7,none⟩,⟨some 4,.assign (.tmp 41),y8,p8,a8,none⟩] false) rest)) σ K:=fun hG m0 E a w hn hs=>by
 obtain ⟨i0,z0,hi0,hz0,hzs,hz1,hz2⟩:=M0 Qw
 have hzone:∀ v∈z0.cells,v.oneCell'=true:=by
  have:=Bk4
  rw [hi0] at this
  simp only [Option.map_some,hz0,Option.some.injEq] at this
  intro v hv
  obtain ⟨j,hj,rfl⟩:=Array.mem_iff_getElem.1 hv
  exact (Array.all_eq_true.1 this) j hj
 have hsz:a.tmps.size=42:=by rw [hs.size.1,hn,hn42]
 have s0:=hs.slots 0
 have s5:=hs.slots 5
 rw [h0] at s0
 rw [h5] at s5
 have e5:a.tmps.getD 5 undef=.int .i64 (m:Nat):=by
  generalize a.tmps.getD 5 undef=u at s5
  cases s5;rfl
 obtain ⟨v,hv⟩ : ∃ v,a.tmps.getD 0 undef=v:=⟨_,rfl⟩
 rw [hv] at s0
 obtain ⟨pre,post,q1,q2,q3⟩:=D9 hb
 obtain ⟨hO,hB⟩:=hs.holds _ (G0 hb).1
 cases s0 with
 | @own _ A n0 cc he =>
 rw [he] at hO hB
 rcases hO.forms with ⟨_,h0'⟩ | ⟨g,c,hvv,hg1,hg2⟩
 ·rw [h0'] at hm;simp at hm
 injection hvv with r1 r2 r3
 subst r1 r2 r3
 obtain ⟨cur,_,_,hBk,hnc,hcm,hcs,hbig,hch⟩:=hO.open_
 have hgb:g=E.blk b:=hB g rfl
 have hzc:(Builtin.zeroCells z0.cells (l.length - m)).toList.length=(l.length - m)*4:=by simp [Builtin.zeroCells,hzs]
 obtain ⟨C2,hC2⟩ : ∃ C2:Array Value,C2=(cur.toList.take (m*4)++(Builtin.zeroCells z0.cells (l.length - m)).toList++cur.toList.drop (m*4+(l.length - m)*4)).toArray:=⟨_,rfl⟩
 have hC2s:C2.size=cc*4:=by
  rw [hC2]
  simp only [List.size_toArray,List.length_append,List.length_take,List.length_drop,Array.length_toList,hcs,hzc]
  omega
 have hcl:∀ ty' cp,(Builtin.clear_ #[27] ty' #[.slice (some ⟨g,m*4,none⟩) (l.length - m) cp]).run Tryz.prog w=.ok (.tuple #[]) (w.setRow g C2):=fun ty' cp=>by
  rw [hC2]
  exact Rq 4 w _ _ ty' i0 z0 g (m*4) (l.length - m) cp cur 49 Tryz.underlying27 hi0 hz0 hzs (by omega) hBk (by rw [hcs];omega) hzone
 unfold maxLen at hcm
 have tg:∀ (a:Act) (d i:Nat) (v:Value),a.tmps.size=42->d < 42->(a.put (some d) v).tmps.getD i undef=if i=d then v else a.tmps.getD i undef:=fun a d i v h hd=>A10 v i (by rw [h];exact hd)
 have ts:∀ (a:Act) (d:Nat) (v:Value),a.tmps.size=42->(a.put (some d) v).tmps.size=42:=fun a d v h=>by simpa [Act.put] using h
 obtain ⟨A1,hA1⟩ : ∃ A1,a.put (some 36) (.slice (some ⟨g,0,none⟩) l.length cc)=A1:=⟨_,rfl⟩
 obtain ⟨A2,hA2⟩ : ∃ A2,A1.put (some 37) (.int .i64 (m:Nat))=A2:=⟨_,rfl⟩
 obtain ⟨A3,hA3⟩ : ∃ A3,A2.put (some 38) (.slice (some ⟨g,m*4,none⟩) (l.length - m) (cc - m))=A3:=⟨_,rfl⟩
 obtain ⟨A4,hA4⟩ : ∃ A4,A3.put (some 39) (.slice (some ⟨g,0,none⟩) l.length cc)=A4:=⟨_,rfl⟩
 obtain ⟨A5,hA5⟩ : ∃ A5,A4.put (some 40) (.int .i64 (m:Nat))=A5:=⟨_,rfl⟩
 obtain ⟨A6,hA6⟩ : ∃ A6,A5.put (some 41) (.slice (some ⟨g,0,none⟩) m cc)=A6:=⟨_,rfl⟩
 have t1:A1.tmps.size=42:=by rw [<-hA1];exact ts _ _ _ hsz
 have t2:A2.tmps.size=42:=by rw [<-hA2];exact ts _ _ _ t1
 have t3:A3.tmps.size=42:=by rw [<-hA3];exact ts _ _ _ t2
 have t4:A4.tmps.size=42:=by rw [<-hA4];exact ts _ _ _ t3
 have t5:A5.tmps.size=42:=by rw [<-hA5];exact ts _ _ _ t4
 have t6:A6.tmps.size=42:=by rw [<-hA6];exact ts _ _ _ t5
 have g1:A1.tmps.getD 5 undef=.int .i64 (m:Nat):=by rw [<-hA1,tg _ _ _ _ hsz (by omega),if_neg (by omega)];exact e5
 have g2:A2.tmps.getD 36 undef=.slice (some ⟨g,0,none⟩) l.length cc:=by rw [<-hA2,tg _ _ _ _ t1 (by omega),if_neg (by omega),<-hA1,tg _ _ _ _ hsz (by omega),if_pos rfl]
 have g3:A2.tmps.getD 37 undef=.int .i64 (m:Nat):=by rw [<-hA2,tg _ _ _ _ t1 (by omega),if_pos rfl]
 have g4:A3.tmps.getD 38 undef=.slice (some ⟨g,m*4,none⟩) (l.length - m) (cc - m):=by rw [<-hA3,tg _ _ _ _ t2 (by omega),if_pos rfl]
 have g5:A3.tmps.getD 0 undef=.slice (some ⟨g,0,none⟩) l.length cc:=by rw [<-hA3,tg _ _ _ _ t2 (by omega),if_neg (by omega),<-hA2,tg _ _ _ _ t1 (by omega),if_neg (by omega),<-hA1,tg _ _ _ _ hsz (by omega),if_neg (by omega)];exact hv
 have g6:A4.tmps.getD 5 undef=.int .i64 (m:Nat):=by rw [<-hA4,tg _ _ _ _ t3 (by omega),if_neg (by omega),<-hA3,tg _ _ _ _ t2 (by omega),if_neg (by omega),<-hA2,tg _ _ _ _ t1 (by omega),if_neg (by omega)];exact g1
 have g7:A5.tmps.getD 39 undef=.slice (some ⟨g,0,none⟩) l.length cc:=by rw [<-hA5,tg _ _ _ _ t4 (by omega),if_neg (by omega),<-hA4,tg _ _ _ _ t3 (by omega),if_pos rfl]
 have g8:A5.tmps.getD 40 undef=.int .i64 (m:Nat):=by rw [<-hA5,tg _ _ _ _ t4 (by omega),if_pos rfl]
 have g9:A6.tmps.getD 41 undef=.slice (some ⟨g,0,none⟩) m cc:=by rw [<-hA6,tg _ _ _ _ t5 (by omega),if_pos rfl]
 have i1:(0:Int)<=(m:Int)/\(m:Int)<=(l.length:Int):=by omega
 have i2:(0:Int)<=(l.length:Int)/\(l.length:Int)<=(cc:Int):=by omega
 have i3:(0:Int)<=(m:Int)/\(m:Int)<=(cc:Int):=by omega
 have i4:m<=l.length:=by omega
 have i5:m<=cc:=by omega
 have i6:cc≠m:=by omega
 have i7:cc≠0:=by omega
 have b1:∀ w,(Instr.sliceBounds true l.length cc (some (.int .i64 (m:Nat))) none none).run Tryz.prog w=.ok (m,l.length,cc) w:=fun w=>by simp [Instr.sliceBounds,Instr.sliceBound,asIntOf,i1,i2,i3,i4,i5,hnc]
 have b2:∀ w,(Instr.sliceBounds true l.length cc none (some (.int .i64 (m:Nat))) none).run Tryz.prog w=.ok (0,m,cc) w:=fun w=>by simp [Instr.sliceBounds,Instr.sliceBound,asIntOf,i1,i2,i3,i4,i5,hnc]
 refine wpIn_seq (wpIn_region_lit (l:=[_,_,_,_]) ?_)
 refine Jv rfl (fun _ h=>by cases h) (v:=.slice (some ⟨g,0,none⟩) l.length cc) (w':=w) (by simp only [execOp,Act.eval,hv];rfl) ?_
 simp only [hA1]
 refine Jv rfl (fun _ h=>by cases h) (v:=.int .i64 (m:Nat)) (w':=w) (by simp only [execOp,Act.eval,g1];rfl) ?_
 simp only [hA2]
 refine Jv rfl (fun _ h=>by cases h) (v:=.slice (some ⟨g,m*4,none⟩) (l.length - m) (cc - m)) (w':=w) (by
  simp only [execOp,Act.eval,g2,Option.map_some,Option.map_none,g3]
  refine Gi ?_
  simp [Instr.sliceAt,Instr.slice,run_underlying Tryz.underlying27,b1,sizeOf,typeInfo,hi0,hz1,i6,Addr.add]
  exact fun h=>h.symm) ?_
 simp only [hA3]
 refine Jv rfl (fun _ h=>by cases h) (v:=.tuple #[]) (w':=w.setRow g C2) ?_ ?_
 ·have he:A3.eval (.tmp 38)=.slice (some ⟨g,m*4,none⟩) (l.length - m) (cc - m):=g4
  simp [execOp,resolve,invoke,builtin,he,hcl]
 refine wpListIn_nil ?_
 refine wpIn_seq (wpIn_region_lit (l:=[_,_,_,_]) ?_)
 refine Jv rfl (fun _ h=>by cases h) (v:=.slice (some ⟨g,0,none⟩) l.length cc) (w':=w.setRow g C2) (by
  show (execOp A3.eval _).run _ _=_
  simp only [execOp,Act.eval,g5];rfl) ?_
 show wpListIn _ _ _ _ _ _ (A3.put (some 39) _) _
 simp only [hA4]
 refine Jv rfl (fun _ h=>by cases h) (v:=.int .i64 (m:Nat)) (w':=w.setRow g C2) (by simp only [execOp,Act.eval,g6];rfl) ?_
 simp only [hA5]
 refine Jv rfl (fun _ h=>by cases h) (v:=.slice (some ⟨g,0,none⟩) m cc) (w':=w.setRow g C2) (by
  simp only [execOp,Act.eval,g7,Option.map_some,Option.map_none,g8]
  refine Gi ?_
  simp [Instr.sliceAt,Instr.slice,run_underlying Tryz.underlying27,b2,sizeOf,typeInfo,hi0,hz1,i7,Addr.add]) ?_
 simp only [hA6]
 refine Jv rfl (fun _ h=>by cases h) (v:=.slice (some ⟨g,0,none⟩) m cc) (w':=w.setRow g C2) (by simp only [execOp,Act.eval,g9];rfl) ?_
 refine wpListIn_nil ?_
 -- the state behind
 have hst0:St V w0 m0 E ⟨[],σ.bk⟩ a w:=hs.weak fun i=>.inr rfl
 rw [q1] at hst0
 have hch2:Bi (B8 (vis V w0 w (Ac E σ.bk))) 4 (C2.toList.take ((l.take m).length*4)) (l.take m):=by
  have e1:(l.take m).length=m:=by simp;omega
  obtain ⟨hA,-⟩:=hch.split m i4
  rw [List.take_take,Nat.min_eq_left (by omega)] at hA
  have e2:(cur.toList.take (m*4)).length=m*4:=by simp only [List.length_take,Array.length_toList,hcs];omega
  rw [e1,hC2]
  show Bi _ 4 (List.take _ (_++_++_)) _
  rw [List.append_assoc,List.take_left' e2]
  exact hA
 have hO2:Af (B8 (vis V w0 w (Ac E σ.bk))) 4 (w.setRow g C2) w0.heap.size 49 (.slice (some ⟨g,0,none⟩) m cc) (l.take m) :=
  Af.shut hg1 hBk.setRow' (by simp;omega) (by simp;omega) (by unfold maxLen;omega) hC2s (by simp;omega) hch2
 have hown:(BA.row b 49 4 l).owned E=[g]:=by simp [BA.owned,he,Value.ownBlock]
 have hE:Env.same 4200 4300 E ⟨fun x=>if x=4200 then g else E.blk x,fun x=>if x=4200 then .slice (some ⟨g,0,none⟩) m cc else E.row x⟩:=fun x hx=>by
  have:¬ x=4200:=by omega
  simp [this]
 have hoff:Hv 4200 4300 (pre++post)=true:=by
  have key:∀ {l:List BA},(∀ b∈l,b.off 4200 4300=true)->Hv 4200 4300 l=true:=fun {l}=>by
   induction l with
   | nil=>exact fun _=>rfl
   | cons b l ih=>exact fun h=>by simp only [Hv,Bool.and_eq_true];exact ⟨h b (by simp),ih fun x hx=>h x (List.mem_cons_of_mem _ hx)⟩
  exact key fun x hx=>Ka hf x (by
   rw [q1]
   rcases List.mem_append.1 hx with hx | hx
   ·exact List.mem_append_left _ hx
   ·exact List.mem_append_right _ (List.mem_cons_of_mem _ hx))
 have hnew:Ac (⟨fun x=>if x=4200 then g else E.blk x,fun x=>if x=4200 then .slice (some ⟨g,0,none⟩) m cc else E.row x⟩ : Env) [.row 4200 49 4 (l.take m)]=[g]:=by simp [Ac,BA.owned,Value.ownBlock]
 have hmid:Ac E [BA.row b 49 4 l]=[g]:=by simp [Ac,hown]
 have hsw:=St.swap (mid:=[.row b 49 4 l]) (nb:=[.row 4200 49 4 (l.take m)]) (w':=w.setRow g C2) (lo:=4200) (hi:=4300) (by simpa using hst0) (fun x hx hlt=>(Et w g C2).block x hlt fun e=>hx (by rw [hmid,<-Option.some.inj e];simp)) (by simp [World.setRow]) (hs.low.grown (Et w g C2) hs.low.size fun x hx=>by rw [<-Option.some.inj hx];exact hg1) hE rfl hoff (by rw [hnew];simp) (fun x hx=>.inl (by rw [hmid];rw [hnew] at hx;exact hx)) (fun x hx=>by
  simp only [List.mem_singleton] at hx
  subst hx
  refine ⟨?_,fun x hx=>by simpa [Value.ownBlock,eq_comm] using hx⟩
  simp only [if_true]
  refine hO2.mono fun cs y hy=>B8.ext ?_ hy
  rw [hnew]
  refine D2 (by simp [World.setRow]) fun p u _ h2 h3 h4=>?_
  rw [q1] at h3
  simp only [Aj,Ac,hown,List.mem_append,not_or] at h3 ⊢
  refine ⟨⟨h3.2.1,h3.1,h3.2.2⟩,?_⟩
  rw [World.cell?_of_block ((Et w g C2).block p.block h2 fun e=>h3.2.1 (by rw [<-Option.some.inj e];simp))]
  exact h4)
 have hd:∀ x,x < 42->∀ d,some x=some d->d < m0.nd.n/\d∉m0.nd.fx:=fun x hx d e=>by
  obtain rfl:=Option.some.inj e
  rw [hn,hn42,hfx]
  exact ⟨hx,by simp⟩
 have P1:=hsw.put (dst:=some 36) (hd 36 (by omega)) (v:=.slice (some ⟨g,0,none⟩) l.length cc) (r:=.any) .any
 rw [hA1] at P1
 have P2:=P1.put (dst:=some 37) (hd 37 (by omega)) (v:=.int .i64 (m:Nat)) (r:=.any) .any
 rw [hA2] at P2
 have P3:=P2.put (dst:=some 38) (hd 38 (by omega)) (v:=.slice (some ⟨g,m*4,none⟩) (l.length - m) (cc - m)) (r:=.any) .any
 rw [hA3] at P3
 have P4:=P3.put (dst:=some 39) (hd 39 (by omega)) (v:=.slice (some ⟨g,0,none⟩) l.length cc) (r:=.any) .any
 rw [hA4] at P4
 have P5:=P4.put (dst:=some 40) (hd 40 (by omega)) (v:=.int .i64 (m:Nat)) (r:=.any) .any
 rw [hA5] at P5
 have P6:=P5.put (dst:=some 41) (hd 41 (by omega)) (v:=.slice (some ⟨g,0,none⟩) m cc) (r:=.any) .any
 rw [hA6] at P6
 have P7:=P6.put (dst:=some 4) (hd 4 (by omega)) (v:=.slice (some ⟨g,0,none⟩) m cc) (r:=.own 4200) (.own (by simp))
 have P8:=P7.weak (fr':=[(4,.own 4200)]) fun i=>by
  simp only [H6,Co]
  by_cases e:i=4
  ·exact .inl (by simp [e])
  ·exact .inr (by simp [e])
 rw [q3] at h
 exact h hG m0 _ _ _ hn P8
end
set_option maxRecDepth 100000 in
set_option maxHeartbeats 1600000 in
theorem Ap0 {α:Type} {R:List Value->α->Prop} (h1:∀ cs x,R cs x->∀ u∈cs,u.oneCell'=true) (l:List α) (i:Nat) (y:α) (v:Value) (w:World) (base gx:Nat) (xs:Array Value) (cx:Nat) (ys:List Value) (h:Af R 4 w base 49 v l)
  (hbase:base<=w.heap.size) (hB:Blk w gx 49 xs) (hc:xs.size=cx*4) (hcx:1<=cx) (hcm2:cx<=maxLen) (hyl:ys.length=4) (hyx:∀ (j:Nat) u,ys[j]? = some u->xs[j]? = some u) (hR:R ys y) (hgx:v.ownBlock≠some gx) (hi:i<=l.length) (hbig:l.length < 1073741824) :
  Calls Tryz.prog 134 #[v,.int .i64 i,.slice (some ⟨gx,0,none⟩) 1 cx] w (Bn8 R 4 49 base v (l.take i++y :: l.drop i) w):=by
 obtain ⟨i0,z0,hi0,hz0,hzs,hz1,hz2⟩:=M0 Qw
 have hone:Sl R 4 w w.heap.size (.slice (some ⟨gx,0,none⟩) 1 cx) [y]:=⟨_,cx,rfl,⟨by simpa using hcx,by simp⟩,hcm2,fun _=>⟨gx,0,rfl,hB.lt,fun i x hx=>by
  match i,hx with
  | 0,hx =>
   simp at hx
   subst hx
   exact ⟨ys,hR,hyl,fun j u hj=>by rw [Nat.zero_mul,Nat.add_zero,Nat.zero_add,hB.cell];exact hyx j u hj⟩
  | i+1,hx=>simp at hx⟩⟩
 generalize hL:l.take i++y :: l.drop i=L
 have HL:=Lib.hid hL
 clear hL
 have H:=Lib.hid h
 have HONE:=Lib.hid hone
 have HB:=Lib.hid hB
 clear hone
 by_cases hend:i=l.length
 ·subst hend
  have HE:=Lib.hid (show L=l++[y] by rw [<-HL.out];simp)
  have hnn:(((l.length:Nat):Int)==(l.length:Int))=true:=by simp
  obtain ⟨A,c,rfl⟩:=h.form
  rcases h.forms with ⟨hv,rfl⟩ | ⟨g,c1,hv,hg1,hg2⟩
  ·injection hv with hv1 hv2 hv3
   subst hv1 hv3
   clear h hB hgx
   simp only [List.length_nil] at *
   go_enter Tryz.func134,Tryz.ntmps134
   go_wp2_with (at_builtin;refine E8 _ h1 rfl (.tmp 23) (.tmp 24) 27 rfl base 49 i0 _ 32 Tryz.underlying27 hi0 hz0 hz1 hz2 hzs (by omega) _ [] rfl H.out w.heap.size _ [y] rfl HONE.out (by simp) (by omega) hbase ?_;intro v1 w1 hown hgr hat)
   have H1:=Lib.hid hown
   have H2:=Lib.hid hgr
   have H3:=Lib.hid hat
   clear hown hgr hat hi0 hz0 hzs hz1 hz2
   go_wp2_with fail
   go_ret
   exact ⟨_,rfl,by rw [HE.out];exact H1.out,H2.out,H3.out.imp id fun h=>⟨_,h,Nat.le_refl _⟩⟩
  ·injection hv with hv1 hv2 hv3
   subst hv1 hv3
   obtain ⟨cur,-,-,-,hnc,hcm,-,-,-⟩:=h.open_
   unfold maxLen at hcm
   clear h hB hgx
   go_enter Tryz.func134,Tryz.ntmps134
   go_wp2_with (at_builtin;refine E8 _ h1 rfl (.tmp 23) (.tmp 24) 27 rfl base 49 i0 _ 32 Tryz.underlying27 hi0 hz0 hz1 hz2 hzs (by omega) _ l rfl H.out w.heap.size _ [y] rfl HONE.out (by simp;omega) (by omega) hbase ?_;intro v1 w1 hown hgr hat)
   all_goals
    have H1:=Lib.hid hown
    have H2:=Lib.hid hgr
    have H3:=Lib.hid hat
    clear hown hgr hat hi0 hz0 hzs hz1 hz2
    go_wp2_with fail
    go_ret
    exact ⟨_,rfl,by rw [HE.out];exact H1.out,H2.out,H3.out.imp id fun h=>⟨_,h,Nat.le_refl _⟩⟩
 ·rcases h.forms with ⟨rfl,rfl⟩ | ⟨g,c,rfl,hg1,hg2⟩
  ·simp only [List.length_nil] at hi hend;omega
  obtain ⟨cur,-,-,hBk,hnc,hcm,hcs,-,hch⟩:=h.open_
  obtain ⟨hA,hBm⟩:=hch.split i hi
  have hXl:=hch.length
  have hAl:=hA.length
  have hBl:=hBm.length
  rw [show (l.take i).length=i by simp;omega] at hAl
  rw [show (l.drop i).length=l.length - i by simp] at hBl
  have hcell:∀ j u,(cur.toList.take (l.length*4))[j]? = some u->w.cell? ⟨g,j,none⟩=some u:=fun j u hj=>by
   rw [hBk.cell j]
   rw [List.getElem?_take] at hj
   split at hj
   ·simpa using hj
   ·cases hj
  generalize hX:cur.toList.take (l.length*4)=X at hA hBm hXl hAl hBl hcell
  have hAc:∀ j u,(X.take (i*4))[j]? = some u->w.cell? ⟨g,j,none⟩=some u:=fun j u hj=>by
   rw [List.getElem?_take] at hj
   split at hj
   ·exact hcell j u hj
   ·cases hj
  have hBc:∀ j u,(X.drop (i*4))[j]? = some u->w.cell? ⟨g,i*4+j,none⟩=some u:=fun j u hj=>by
   rw [List.getElem?_drop] at hj
   exact hcell _ u hj
  have hgn:g≠gx:=fun e=>hgx (by rw [e];rfl)
  have hone1:∀ v∈ys,v.oneCell'=true:=h1 _ _ hR
  have hone2:∀ v∈X.drop (i*4),v.oneCell'=true:=hBm.one_cell h1
  have HCH:Hid (∀ Z:List Value,Bi R 4 ((X.take (i*4)++ys++X.drop (i*4)++Z).take ((l.length+1)*4)) L):=fun Z=>by
   have e:(X.take (i*4)++ys++X.drop (i*4)).length=(l.length+1)*4:=by simp only [List.length_append,hAl,hBl,hyl];omega
   rw [<-e,List.take_left',<-HL.out,List.append_assoc]
   ·exact hA.append ((Bi.one hyl hR:Bi R 4 ys [y]).append hBm)
   ·rfl
  have hszE:(Tryz.prog.info? 49).map (·.size)=some 4:=by rw [hi0];simp [hz1]
  generalize hAA:X.take (i*4)=A at hA hAl hAc HCH
  generalize hBB:X.drop (i*4)=Bm at hBm hBl hBc hone2 HCH
  have hilt:i < l.length:=by omega
  have hz2':¬ ((i:Int)=(l.length:Int)):=by omega
  have HLN:Hid (L.length=l.length+1):=by
   show L.length=l.length+1
   rw [<-HL.out];simp;omega
  unfold maxLen at hcm
  by_cases hroom:l.length+1<=c
  ·have hcurA:cur.toList.take (i*4)=A:=by
    rw [<-hAA,<-hX,List.take_take,Nat.min_eq_left (by omega)]
   obtain ⟨C1,hC1⟩ : ∃ C1:Array Value,C1=(cur.toList.take ((i+1)*4)++Bm++cur.toList.drop ((i+1)*4+Bm.length)).toArray:=⟨_,rfl⟩
   have hC1s:C1.size=c*4:=by
    rw [hC1]
    simp only [List.size_toArray,List.length_append,List.length_take,List.length_drop,Array.length_toList,hcs,hBl]
    omega
   obtain ⟨C2,hC2⟩ : ∃ C2:Array Value,C2=(C1.toList.take (i*4)++ys++C1.toList.drop (i*4+ys.length)).toArray:=⟨_,rfl⟩
   have hC2s:C2.size=c*4:=by
    rw [hC2]
    simp only [List.size_toArray,List.length_append,List.length_take,List.length_drop,Array.length_toList,hC1s,hyl]
    omega
   have hfin:Bi R 4 (C2.toList.take (L.length*4)) L:=by
    have e1:(cur.toList.take ((i+1)*4)).length=i*4+4:=by simp only [List.length_take,Array.length_toList,hcs];omega
    have e2:C1.toList.take (i*4)=A:=by
     rw [hC1,<-hcurA]
     show List.take (i*4) (_++_++_)=_
     rw [List.append_assoc,List.take_append_of_le_length (by omega),List.take_take,Nat.min_eq_left (by omega)]
    have e3:C1.toList.drop (i*4+ys.length)=Bm++cur.toList.drop ((i+1)*4+Bm.length):=by
     rw [hC1,hyl]
     show List.drop (i*4+4) (_++_++_)=_
     rw [List.append_assoc,List.drop_left' e1]
    rw [hC2,HLN.out]
    show Bi R 4 (List.take _ (_++_++_)) L
    rw [e2,e3,<-List.append_assoc]
    exact HCH.out _
   have hov:∀ lb cb,(callFunc 196 #[.slice (some ⟨gx,0,none⟩) 1 cx,.slice (some ⟨g,(i+1)*4,none⟩) lb cb]).run Tryz.prog w=.ok (.value (.bool false)) w:=fun lb cb=>by
    rw [run_callFunc_extern Tryz.func196 (by kernel_rfl) (by kernel_rfl) (by kernel_rfl) (e:=Extern.SlicesOverlaps.overlaps #[27,27] #[4]) (by kernel_rfl),
     Lib.run_overlaps_apart w 27 4 49 Tryz.underlying27 4 (fun w=>by simp [sizeOf,typeInfo,hi0,hz1]) ⟨gx,0,none⟩ ⟨g,(i+1)*4,none⟩ 1 cx lb cb (Ne.symm hgn) 49 49 (cx*4) (c*4)
      (by have:=HB.out;unfold Blk at this;simp [World.shape?,this,hc]) (by have:=hBk;unfold Blk at this;simp [World.shape?,this,hcs]) (by omega) (HB.out.frozen 0) (HB.out.frozen (cx*4))]
    rfl
   have hcp1:∀ W:World,Blk W g 49 cur->∀ ty' dc sc,(Builtin.copy_ #[27,27] ty' #[.slice (some ⟨g,(i+1)*4,none⟩) (l.length+1 - (i+1)) dc,.slice (some ⟨g,i*4,none⟩) (l.length+1 - i) sc]).run Tryz.prog W=.ok (goInt (l.length - i:Nat)) (W.setRow g C1):=fun W hN ty' dc sc=>by
    rw [hC1]
    exact L5 4 W _ _ ty' 49 g ((i+1)*4) (l.length+1 - (i+1)) dc ⟨g,i*4,none⟩ (l.length+1 - i) sc cur 49 Bm (l.length - i) Tryz.underlying27 hszE hN (by simp only [Nat.min_def];split<;>omega) hBl
     (fun j u hj=>by rw [Fq,hN.cell,<-hBk.cell];exact hBc j u hj) (by rw [hBl,hcs];omega) hone2
   have hcp2:∀ W:World,Blk W g 49 C1->Blk W gx 49 xs->∀ ty' dc,(Builtin.copy_ #[27,27] ty' #[.slice (some ⟨g,i*4,none⟩) (l.length+1 - i) dc,.slice (some ⟨gx,0,none⟩) 1 cx]).run Tryz.prog W=.ok (goInt 1) (W.setRow g C2):=fun W hN hx ty' dc=>by
    rw [hC2]
    exact L5 4 W _ _ ty' 49 g (i*4) (l.length+1 - i) dc ⟨gx,0,none⟩ 1 cx C1 49 ys 1 Tryz.underlying27 hszE hN (by simp only [Nat.min_def];split<;>omega) (by simp [hyl])
     (fun j u hj=>by rw [Fq,Nat.zero_add,hx.cell j];exact hyx j u hj) (by simp only [hyl,hC1s];omega) hone1
   have hcp1:=Lib.hid hcp1
   have hcp2:=Lib.hid hcp2
   have hfin:=Lib.hid hfin
   have B1:=hBk.drew.setRow' (cs':=C1)
   have X1:=(HB.out.drew).farRow' (cs':=C1) (Ne.symm hgn)
   clear hC1 hC2 hcurA hX hAA hBB
   have hw1:IntKind.i64.wrap ((i:Int)+1)=(i:Int)+1:=IntWalk.i64_in _ (by omega)
   have hb1:(0:Int)<=(i:Int)+1:=by omega
   have htn:((i:Int)+1).toNat=i+1:=by omega
   have hGim:¬ (c=i+1):=by omega
   have hcin:¬ (c=i):=by omega
   have hb3:(i:Int)<=(l.length:Int)+1:=by omega
   have hb4:(i:Int)+1<=(l.length:Int)+1:=by omega
   have hb5:(l.length:Int)+1<=(c:Int):=by omega
   go_enter Tryz.func134,Tryz.ntmps134
   go_wp2_with (simp only [hov])
   go_region_law (refine Rn rfl _ _ 27 27 rfl (.slice (some ⟨g,(i+1)*4,none⟩) (l.length+1 - (i+1)) (c - (i+1))) (.slice (some ⟨g,i*4,none⟩) (l.length+1 - i) (c - i)) (by simp [Act.eval,Act.put]) (by simp [Act.eval,Act.put]) (hcp1.out _ hBk.drew _ _ _) ?_)
   go_wp2_with (refine P0 _ rfl (.tmp 80) (.tmp 81) 27 27 rfl _ _ rfl rfl (hcp2.out _ B1 X1 _ _) ?_)
   go_ret
   exact ⟨.slice (some ⟨g,0,none⟩) (l.length+1) c,rfl,Af.shut hg1 (B1.setRow' (cs':=C2)) HLN.out.symm (by rw [HLN.out];exact hroom) (by unfold maxLen;omega) hC2s (by rw [HLN.out];omega) hfin.out,
    (Jw (Jw (Uk w _) (Et _ g C1)) (Et _ g C2)),.inl rfl⟩
  ·obtain rfl:c=l.length:=by omega
   have hhold:(Builtin.firstCells i0.size i (.slice (some ⟨g,0,none⟩) i l.length)).run Tryz.prog w.drew=.ok A.toArray w.drew:=by
    rw [hz1]
    exact run_firstCells_some w.drew 4 i ⟨g,0,none⟩ i l.length A (by omega) (fun j u hj=>by rw [Fq,Nat.zero_add];exact hAc j u hj)
   have hkk:(l.length:Int)+1 - (i:Int)=((l.length+1 - i:Nat):Int):=by omega
   have hik:i+(l.length+1 - i)=l.length+1:=by omega
   have hrz:∀ ty',(Builtin.append_ #[27,3] ty' #[.slice (some ⟨g,0,none⟩) i l.length,.int .i64 ((l.length+1 - i:Nat):Int)]).run Tryz.prog w =
     .ok (.slice (some ⟨w.heap.size,0,none⟩) (l.length+1) (grownCap w (l.length+1) l.length 49)) (w.drew.alloc (.cells (A.toArray++Builtin.zeroCells z0.cells (l.length+1 - i)++Builtin.zeroCells z0.cells (grownCap w (l.length+1) l.length 49 - (l.length+1))) 49)):=fun ty'=>by
    have h:=Lib.run_append_grow_zeros w 27 3 ty' 49 i0 z0 .i64 .i64 Tryz.underlying27 Tryz.underlying3 hi0 hz0 (some ⟨g,0,none⟩) i l.length A hhold (l.length+1 - i) (by omega) (by omega) (by omega) (by omega) (by rw [hz2];omega) (by rw [hz2,hik];exact growslice_fits (by omega) (by omega))
    rw [hik] at h
    exact h
   obtain ⟨G,hG⟩ : ∃ G,G=grownCap w (l.length+1) l.length 49:=⟨_,rfl⟩
   have hGn:l.length+1<=G:=by rw [hG];exact grownCap_ge w _ _ _
   have hG63:G<=maxLen:=by rw [hG];exact grownCap_le_maxLen w _ _ _ (by unfold maxLen;omega)
   have hG64:G<=9223372036854775807:=by unfold maxLen at hG63;omega
   simp only [<-hG] at hrz
   obtain ⟨ROW,hROW⟩ : ∃ ROW:Array Value,ROW=A.toArray++Builtin.zeroCells z0.cells (l.length+1 - i)++Builtin.zeroCells z0.cells (G - (l.length+1)):=⟨_,rfl⟩
   simp only [<-hROW] at hrz
   have hRs:ROW.size=G*4:=by
    rw [hROW]
    simp only [Array.size_append,List.size_toArray,Builtin.zeroCells,Array.size_map,Array.size_range,hzs,hAl]
    omega
   have hRA:ROW.toList.take (i*4)=A:=by
    rw [hROW,<-hAl]
    simp
   obtain ⟨R1,hR1⟩ : ∃ R1:Array Value,R1=(ROW.toList.take (i*4)++ys++ROW.toList.drop (i*4+ys.length)).toArray:=⟨_,rfl⟩
   have hR1s:R1.size=G*4:=by
    rw [hR1]
    simp only [List.size_toArray,List.length_append,List.length_take,List.length_drop,Array.length_toList,hRs,hyl]
    omega
   have hR1A:R1.toList.take ((i+1)*4)=A++ys:=by
    rw [hR1,hRA]
    have e:(A++ys).length=(i+1)*4:=by simp only [List.length_append,hAl,hyl];omega
    exact List.take_left' e
   have hcpA:∀ W:World,Blk W w.heap.size 49 ROW->Blk W gx 49 xs->∀ ty' dc,(Builtin.copy_ #[27,27] ty' #[.slice (some ⟨w.heap.size,i*4,none⟩) (l.length+1 - i) dc,.slice (some ⟨gx,0,none⟩) 1 cx]).run Tryz.prog W=.ok (goInt 1) (W.setRow w.heap.size R1):=fun W hN hx ty' dc=>by
    rw [hR1]
    exact L5 4 W _ _ ty' 49 w.heap.size (i*4) (l.length+1 - i) dc ⟨gx,0,none⟩ 1 cx ROW 49 ys 1 Tryz.underlying27 hszE hN (by simp only [Nat.min_def];split<;>omega) (by simp [hyl])
     (fun j u hj=>by rw [Fq,Nat.zero_add,hx.cell j];exact hyx j u hj) (by simp only [hyl,hRs];omega) hone1
   obtain ⟨R2,hR2⟩ : ∃ R2:Array Value,R2=(R1.toList.take ((i+1)*4)++Bm++R1.toList.drop ((i+1)*4+Bm.length)).toArray:=⟨_,rfl⟩
   have hR2s:R2.size=G*4:=by
    rw [hR2]
    simp only [List.size_toArray,List.length_append,List.length_take,List.length_drop,Array.length_toList,hR1s,hBl]
    omega
   have hfin:Bi R 4 (R2.toList.take (L.length*4)) L:=by
    rw [hR2,hR1A,HLN.out]
    exact HCH.out _
   have hcpB:∀ W:World,Blk W w.heap.size 49 R1->(∀ j u,Bm[j]? = some u->W.cell? ⟨g,i*4+j,none⟩=some u)->∀ ty' dc sc,(Builtin.copy_ #[27,27] ty' #[.slice (some ⟨w.heap.size,(i+1)*4,none⟩) (l.length+1 - (i+1)) dc,.slice (some ⟨g,i*4,none⟩) (l.length - i) sc]).run Tryz.prog W=.ok (goInt (l.length - i:Nat)) (W.setRow w.heap.size R2):=fun W hN hx ty' dc sc=>by
    rw [hR2]
    exact L5 4 W _ _ ty' 49 w.heap.size ((i+1)*4) (l.length+1 - (i+1)) dc ⟨g,i*4,none⟩ (l.length - i) sc R1 49 Bm (l.length - i) Tryz.underlying27 hszE hN (by simp only [Nat.min_def];split<;>omega) hBl
     (fun j u hj=>by rw [Fq];exact hx j u hj) (by rw [hBl,hR1s];omega) hone2
   have hcpA:=Lib.hid hcpA
   have hcpB:=Lib.hid hcpB
   have hfin:=Lib.hid hfin
   have hrz:=Lib.hid hrz
   clear hhold hROW hG hR1 hR2 hR1A hRA
   go_enter Tryz.func134,Tryz.ntmps134
   have BN:=(Blk.new w 49 ROW).drew
   have BX:=((HB.out).alloc (o:=.cells ROW 49)).drew
   go_wp2_with (first
    | (at_builtin;refine Lib.wpList_append_run _ rfl _ _ _ _ rfl _ _ rfl rfl _ _ (hrz.out _) ?_)
    | (refine P0 _ rfl (.tmp 43) (.tmp 44) 27 27 rfl _ _ rfl rfl (hcpA.out _ BN BX _ _) ?_))
   have B1:=BN.setRow' (cs':=R1)
   have Bg:∀ j u,Bm[j]? = some u->((w.alloc (.cells ROW 49)).drew.setRow w.heap.size R1).cell? ⟨g,i*4+j,none⟩=some u:=fun j u hj=>by
    have:=((hBk.alloc (o:=.cells ROW 49)).drew).farRow' (cs':=R1) (show g≠w.heap.size by omega)
    rw [this.cell,<-hBk.cell]
    exact hBc j u hj
   have hw1:IntKind.i64.wrap ((i:Int)+1)=(i:Int)+1:=IntWalk.i64_in _ (by omega)
   have hb1:(0:Int)<=(i:Int)+1:=by omega
   have htn:((i:Int)+1).toNat=i+1:=by omega
   have hGim:¬ (G=i+1):=by omega
   have hcin:¬ (l.length=i):=by omega
   have hb3:(i:Int)<=(l.length:Int):=by omega
   have hb4:(i:Int)+1<=(l.length:Int)+1:=by omega
   go_region_law (refine Rn rfl _ _ 27 27 rfl (.slice (some ⟨w.heap.size,(i+1)*4,none⟩) (l.length+1 - (i+1)) (G - (i+1))) (.slice (some ⟨g,i*4,none⟩) (l.length - i) (l.length - i)) (by simp [Act.eval,Act.put]) (by simp [Act.eval,Act.put]) (hcpB.out _ B1.drew (fun j u hj=>Bg j u hj) _ _ _) ?_)
   go_wp2_with fail
   go_ret
   exact ⟨.slice (some ⟨w.heap.size,0,none⟩) (l.length+1) G,rfl,Af.shut hbase (B1.drew.setRow' (cs':=R2)) HLN.out.symm (by rw [HLN.out];exact hGn) hG63 hR2s (by rw [HLN.out];omega) hfin.out,
    Vx (Yj (Vx (Yj (World.grownBy_alloc w _ _)) (Nat.le_refl _) _)) (Nat.le_refl _) _,.inr ⟨w.heap.size,rfl,Nat.le_refl _⟩⟩
set_option maxRecDepth 100000 in
theorem Bb2 (l:List Ai) (i:Nat) (y:Ai) (hi:i<=l.length) (hbig:l.length < 1073741824):El Tryz.prog A9 134 [.own 1,.val (.int .i64 i),.own 3] (.own 0) [.row 3 49 4 [enW y],.row 1 49 4 (l.map enW)] [.row 0 49 4 ((l.take i++y :: l.drop i).map enW)] [] []:=by
 refine El.perm ?_ (List.Perm.swap _ _ _)
 refine El.row2 (r:=id) Tryz.func134 rfl (by kernel_rfl) (fun E X v' ⟨A,n,c,hv⟩ he=>by subst hv;exact .own he) fun X w E v vs base hX hb hG h h3 hdis hvs=>?_
 obtain ⟨u0,u1,rfl,q0,q1⟩ : ∃ u0 u1,vs=[u0,u1]/\B9 E X u0 (.val (.int .i64 i))/\B9 E X u1 (.own 3):=by
  obtain ⟨u0,vs',e,h1,h2⟩:=As.cons_iff.1 hvs
  obtain ⟨u1,vs'',e',h1',h2'⟩:=As.cons_iff.1 h2
  rw [As.nil_iff.1 h2'] at e'
  exact ⟨u0,u1,by rw [e,e'],h1,h1'⟩
 cases q0
 cases q1 with
 | @own _ A n cc he =>
  rw [he] at h3 hdis
  rcases h3.forms with ⟨_,h0⟩ | ⟨gx,cx,hv,hg1,hg2⟩
  ·cases h0
  obtain ⟨cur,_,_,hB,hnc,hcm,hcs,_,hch⟩:=(hv ▸ h3).open_
  injection hv with e1 e2 e3
  subst e1 e2 e3
  obtain ⟨cs,rest,e,hk,hR,hr⟩:=hch
  obtain rfl:rest=[]:=hr
  rw [List.append_nil] at e
  have hlen:cs.length=4:=hk
  have hcall:=Ap0 (R:=B8 X) (fun cs x h=>B8.one h) (l.map enW) i (enW y) v w base gx cur cc cs h hb hB hcs (by simpa using hnc) hcm hlen (fun j u hj=>by
   rw [<-e,List.getElem?_take] at hj
   split at hj
   ·simpa using hj
   ·cases hj) hR (fun e=>hdis gx e rfl) (by simpa using hi) (by simpa using hbig)
  refine hcall.mono ?_
  rintro e w' ⟨v',rfl,r1,r2,r3⟩
  refine ⟨v',rfl,?_,r2,r3.imp id .inr⟩
  have:(l.take i++y :: l.drop i).map enW=(l.map enW).take i++enW y :: (l.map enW).drop i:=by simp [List.map_take,List.map_drop]
  rw [this]
  exact r1
attribute [local irreducible] AW AWY Cf Bf vop Bw Bh Bx qop Cg Cz Az Aw C5 A7 Bl
attribute [local go_sem] Ee Fa Jp Ap Ar
theorem Y8 (f:Nat->Option Ai):∀ n,(L3 f n).length<=n
 | 0=>Nat.le_refl _
 | n+1=>by
  have:=Y8 f n
  have h2:(f n).toList.length<=1:=by cases f n<;>simp
  rw [L3,List.length_append]
  omega
theorem Wx {l:List Ai} (h:Shelf l):l.length<=256:=by
 rw [<-Aj7 h]
 exact Y8 _ _
theorem B83 (a b:Aa):A7 Tryz.prog A9 135 [.agg [.val (.int .i64 a.count),.val (.int .i64 a.node)],.agg [.val (.int .i64 b.count),.val (.int .i64 b.node)]] (.val (.int .i64 (C01 a.count a.node b.count b.node))) [] :=
 Cd Tryz.func135 rfl (by kernel_rfl) fun V w E vs hV hG hr=>by
  obtain ⟨v0,v1,rfl,h0,h1⟩:=K1 hr
  obtain rfl:=R6 h0
  obtain rfl:=R6 h1
  exact Ad5 _ _ _ _ w
theorem C02 (l:List Ai):A7 Tryz.prog A9 136 [.iv (wrI l)] (.iv (wrI l)) []:=by
 refine A7.of (n:=9) (rs:=[.tmp 2]) Tryz.func136 rfl (by kernel_rfl) Tryz.ntmps136 (by kernel_rfl) (by simp) (fun _ _=>A9.later) ?_
 intro hok V w0
 refine g ?_
 repeat' refine st_ rfl (g ?_)
 refine ⟨0,l.length,rfl,rfl,by omega,by omega,l.length,rfl,by omega,by omega,?_⟩
 refine g ?_
 repeat' (first | refine st_ rfl (g ?_) | refine Am (g ?_))
 rw [List.take_of_length_le (by simp)]
theorem Bh9:D1 (.tup [.val (.slice none 0 0),.val (.int .i64 1)]) (.tup [.iv (.sl 4 []),.val (.int .i64 1)]):=by
 refine Je rfl fun p hp=>?_
 simp only [List.zip_cons_cons,List.zip_nil_right,List.mem_cons,List.not_mem_nil,or_false] at hp
 rcases hp with rfl | rfl
 ·exact Cs 4
 ·exact D1.rfl_ _
set_option maxRecDepth 100000 in
set_option maxHeartbeats 1600000 in
theorem Av4 (l list:List Ai):A7 Tryz.prog A9 51 [.iv (wrI l),.iv (wrI list)] (.tup [.iv (wrI (Bi0 l list).1),.val (.int .i64 (Bi0 l list).2)]) []:=by
 refine A7.ofS (n:=57) (rs:=[.tmp 4,.tmp 5]) Tryz.func51 rfl (by kernel_rfl) Tryz.ntmps51 (by kernel_rfl) (by simp) (fun _ _=>A9.later) ?_
 intro hok V w0
 have hlen:l.length<=1073741824:=by simpa [wrI] using hok.1.1
 have hlen2:list.length<=1073741824:=by simpa [wrI] using hok.2.1.1
 obtain ⟨R,hR⟩ : ∃ R,Bi0 l list=R:=⟨_,rfl⟩
 rw [hR]
 unfold Bi0 at hR
 refine g ?_
 repeat' (first | refine st_ rfl (g ?_) | refine C9 (fun h=>g ?_) (fun h=>g ?_) | refine Ab (Gl _) rfl (g ?_) | refine Ab (Sd _) rfl (g ?_))
 ·rw [if_neg (by rintro ⟨a,_⟩;simp [a] at h)] at hR
  subst hR
  exact Bh9
 have hF:Bk l=true:=by simpa using h
 have hSh:=Fd.1 hF
 refine AW.loop (fun m:{m:Nat // m<=list.length/\∀ w∈list.take m,Di w=true}=>⟨[(6,.own 1600),(16,.iv (wrI list)),(17,.val (.int .i64 (list.length:Nat))),(18,.val (.int .i64 (m.1:Nat)))],[.row 1600 49 4 ((Mo l (list.take m.1)).map enW)]⟩) (fun m=>list.length - m.1) ⟨0,Nat.zero_le _,fun w hw=>by simp at hw⟩ id ⟨⟨rfl,rfl,?_,rfl,trivial⟩,⟨rfl,trivial⟩,by simp [Au,BA.id]⟩ fun ⟨m,hm,hr⟩=>?_
 ·simp [AV.ren,Co]
 simp only
 have hQ:=Qp (list:=list.take m) hSh hr
 have hQl:=Wx hQ
 repeat (refine AW.seq ?_)
 refine AW.reg rfl fun KK hKK=>?_
 refine g ?_
 repeat' (refine hKK _ (g ?_);clear hKK KK)
 repeat (refine AW.seq ?_)
 refine st_ rfl ?_
 refine g ?_
 refine C9 (fun h=>?_) (fun h=>?_)
 ·have hlt:m < list.length:=by have:=of_decide_eq_true h;omega
  have hget:=Cb (f:=enW) (List.getElem?_eq_getElem hlt)
  obtain ⟨-,o1,o2,o3,-⟩:=En (by simpa [wrI] using hok.2.1.2) (enW list[m]) (List.mem_map_of_mem (List.getElem_mem hlt))
  have hsn:=B93 l (list.take m) list[m]
  have htk:=List.take_succ_eq_append_getElem hlt
  rw [<-htk] at hsn
  obtain ⟨w,hw⟩ : ∃ w,list[m]=w:=⟨_,rfl⟩
  rw [hw] at hsn hget o1 o2 o3 htk
  have hmem:w∈list:=hw ▸ List.getElem_mem hlt
  obtain ⟨Q,hQe⟩ : ∃ Q,Mo l (list.take m)=Q:=⟨_,rfl⟩
  rw [hQe] at hsn hQ hQl ⊢
  have hnext:∀ hrw:Di w=true,∀ x∈list.take (m+1),Di x=true:=fun hrw x hx=>by
   rw [htk] at hx
   rcases List.mem_append.1 hx with hx | hx
   ·exact hr x hx
   ·rw [List.mem_singleton.1 hx];exact hrw
  refine st_ rfl (g ?_)
  refine AW.seq ?_
  refine AW.block ?_
  repeat (refine AW.seq ?_)
  refine AW.reg rfl fun KK hKK=>?_
  refine g ?_
  refine ⟨by omega,_,hget,?_⟩
  refine g ?_
  repeat' (first | refine Am (g ?_) | (refine hKK _ (g ?_);clear hKK KK))
  refine AW.freeze 900 _ rfl ⟨o1,o2,o3,trivial,trivial⟩ ?_
  simp only [go_sem,reduceIte,Nat.reduceEqDiff]
  refine g ?_
  repeat' (first | refine st_ rfl (g ?_) | refine C9 (fun h=>g ?_) (fun h=>g ?_) | refine Ab (Xv _) rfl (g ?_))
  ·rw [if_neg (by
    rintro ⟨_,b⟩
    rw [List.all_eq_true.1 b w hmem] at h
    cases h)] at hR
   subst hR
   exact Bh9
  have hrw:Di w=true:=by simpa using h
  have hin:=M7 hrw
  have hrise:=(N7 (Fd.2 hQ)).1
  unfold Jg at hsn
  refine Lo (Qj Q w.object hrise) (by simp [Ta]) rfl (fun _ h=>by cases h) (Sbs.rfl_ _) rfl ?_
  cases hg:E6 Q w.object with
  | none =>
   rw [hg] at hsn
   simp only at hsn
   have hpl:Ep Q w.object<=Q.length:=List.findIdx_le_length
   refine g ?_
   repeat' refine st_ rfl (g ?_)
   refine bs1 (by omega) rfl rfl rfl ⟨o1,o2,o3,trivial,trivial⟩ ?_
   refine g ?_
   refine Uo [] [] (fun b=>if b=1 then 1600 else 3900) (Bb2 Q (Ep Q w.object) w hpl (by omega)) rfl rfl rfl (g ?_)
   refine g ?_
   repeat' refine st_ rfl (g ?_)
   refine ⟨⟨m+1,hlt,hnext hrw⟩,fun b=>if b=1600 then 4000 else b,⟨⟨rfl,rfl,rfl,rfl,trivial⟩,⟨?_,trivial⟩,by simp [Au,BA.id]⟩,by show list.length - (m+1) < list.length - m;omega⟩
   rw [hsn]
   rfl
  | some u =>
   rw [hg] at hsn
   simp only at hsn
   obtain ⟨hpl,hpe⟩:=Am5 hQ hg
   have hget2:=Cb (f:=enW) (List.getElem?_eq_getElem hpl)
   rw [hpe] at hget2
   refine g ?_
   repeat' refine st_ rfl (g ?_)
   refine AW.drawn (ds:=[41,42,43,44,45,46,47,48,49,40]) (fin:=[0]) (bs:=[1,1,1,1,1,1,1,1,1,1]) [⟨[],[],[],[],0⟩,⟨[],[],[],[],0⟩,⟨[(41,0),(42,1)],[],[0],[],0⟩,⟨[(43,2)],[],[],[],0⟩,⟨[(44,3)],[],[0],[],0⟩,⟨[],[],[],[],0⟩,⟨[(46,5)],[],[0],[],0⟩,⟨[(45,4),(47,6)],[],[0],[],0⟩,⟨[(48,7)],[],[],[],0⟩,⟨[(49,8)],[],[],[],0⟩] (by kernel_rfl) rfl (by kernel_rfl) rfl rfl rfl fun KD hKD=>?_
   refine g ?_
   refine ⟨by omega,by simpa using hpl,?_⟩
   refine g ?_
   repeat' refine Am (g ?_)
   refine ⟨_,hget2,?_⟩
   refine g ?_
   repeat' (first | refine st_ rfl (g ?_) | refine Am (g ?_) | refine Bq (fun h=>g ?_) (fun h=>g ?_) | (refine hKD _ _ ⟨rfl,g ?_⟩;clear hKD KD) | refine Ab (B83 u.stamp w.stamp) rfl (g ?_))
   ·refine ⟨by omega,hpl,?_⟩
    refine g ?_
    repeat' refine Am (g ?_)
    refine ⟨_,_,rfl,⟨o1,o2,o3,trivial,trivial⟩,hget2,?_⟩
    refine g ?_
    repeat' (first | refine st_ rfl (g ?_) | refine Am (g ?_))
    refine ⟨⟨m+1,hlt,hnext hrw⟩,id,⟨⟨rfl,rfl,rfl,rfl,trivial⟩,⟨?_,trivial⟩,by simp [Au,BA.id]⟩,by show list.length - (m+1) < list.length - m;omega⟩
    have hnw:A23 u w=true:=decide_eq_true h
    rw [hsn,if_pos hnw]
    simp only [List.map_set]
    rfl
   ·refine ⟨⟨m+1,hlt,hnext hrw⟩,id,⟨⟨rfl,rfl,rfl,rfl,trivial⟩,⟨?_,trivial⟩,by simp [Au,BA.id]⟩,by show list.length - (m+1) < list.length - m;omega⟩
    rw [hsn,if_neg (by rw [A23,decide_eq_false h];decide)]
    rfl
 ·obtain rfl:m=list.length:=by have:=of_decide_eq_false h;omega
  rw [List.take_length] at *
  rw [if_pos ⟨hF,List.all_eq_true.2 hr⟩] at hR
  refine AW.exit ?_
  simp only [reduceIte]
  refine AW.freeze 1600 _ rfl trivial ?_
  simp only [go_sem,reduceIte,Nat.reduceEqDiff]
  refine g ?_
  repeat' (first | refine st_ rfl (g ?_) | refine Ab (C02 _) rfl (g ?_))
  subst hR
  exact D1.rfl_ _
end Go.Proofs.YthlgnjlpakimaaaGreatDoor
namespace Go.Proofs.YthlgnjlpakimaaaGreatDoor
open Go.ChangeShapes Go.WideShapes Go.ChangeAt Go.RowKit
attribute [local irreducible] AW AWY Cf Bf vop Bw Bh Bx qop Cg Cz Az Aw C5 A7 Bl
attribute [local go_sem] Ee Fa Jp Ap Ar
section
variable (f : FuncId) (C D : List IV) (p : Ai -> Bool) (hp : ∀ x, A7 Tryz.prog A9 f [wA x, .ip C, .ip D] (.val (.bool (p x))) [])
include hp
theorem Bb3 (l:List Ai):A7 Tryz.prog A9 130 [.iv (wrI l),.fn f [.ip C,.ip D]] (.val (.int .i64 (if l.any p=true then ((l.findIdx p:Nat):Int) else -1))) []:=by
 refine A7.of (n:=19) (rs:=[.tmp 4]) Tryz.func130 rfl (by kernel_rfl) Tryz.ntmps130 (by kernel_rfl) (by simp) (fun _ _=>A9.later) ?_
 intro hok V w0
 have hlen:l.length<=1073741824:=by simpa [wrI] using hok.1.1
 refine g ?_
 repeat' refine st_ rfl (g ?_)
 refine AW.loop (fun m:{m:Nat // m<=l.length/\∀ x∈l.take m,p x=false}=>⟨[(0,.iv (wrI l)),(1,.fn f [.ip C,.ip D]),(7,.val (.int .i64 (l.length:Nat))),(8,.val (.int .i64 (m.1:Nat)))],[]⟩) (fun m=>l.length - m.1) ⟨0,Nat.zero_le _,fun x hx=>by simp at hx⟩ id ⟨⟨rfl,rfl,rfl,rfl,trivial⟩,trivial,List.nodup_nil⟩ fun ⟨m,hm,ht⟩=>?_
 refine g ?_
 repeat' (first | refine st_ rfl (g ?_) | refine Bq (fun h=>g ?_) (fun h=>g ?_) | refine C9 (fun h=>g ?_) (fun h=>g ?_) | refine ix_ (by omega) (g ?_) | refine Ab (hp _) rfl (g ?_))
 ·have hlt:m < l.length:=by omega
  rw [if_pos (List.any_eq_true.2 ⟨_,List.getElem_mem hlt,h⟩),(List.findIdx_eq hlt).2 ⟨h,fun j hj=>ht _ (List.mem_take_iff_getElem.2 ⟨j,by omega,rfl⟩)⟩]
 ·refine ⟨⟨m+1,by omega,fun x hx=>?_⟩,id,⟨⟨rfl,rfl,rfl,rfl,trivial⟩,trivial,List.nodup_nil⟩,by show l.length - (m+1) < l.length - m;omega⟩
  rw [List.take_succ_eq_append_getElem (by omega)] at hx
  rcases List.mem_append.1 hx with h1 | h1
  ·exact ht x h1
  ·rw [List.mem_singleton.1 h1];exact h
 ·obtain rfl:m=l.length:=by omega
  rw [List.take_length] at ht
  rw [if_neg]
  rw [List.any_eq_true]
  rintro ⟨x,hx,hp⟩
  rw [ht x hx] at hp
  cases hp
structure D74 (p:Ai->Bool) (l:List Ai) where
 i:Nat
 j:Nat
 M:List Ai
 hj:j<=l.length
 hij:i < j
 hl:M.length=l.length
 ht:M.take i=(l.take j).filter fun x=>!p x
 hd:M.drop j=l.drop j
set_option maxRecDepth 100000 in
set_option maxHeartbeats 1600000 in
theorem Bc6 (l : List Ai) (hbig : l.length <= 1073741824) (hI : ∀ x ∈ l, I64 x.stamp.count /\ I64 x.stamp.node /\ I64 x.object) : El Tryz.prog A9 47 [.own 1, .fn f [.ip C, .ip D]] (.own 0) [.row 1 49 4 (l.map enW)] [.row 0 49 4 ((l.filter fun x => !p x).map enW)] [] [] := by
  refine El.of [] (n := 42) (rs := [.tmp 4]) Tryz.func47 rfl (by kernel_rfl) Tryz.ntmps47 (by kernel_rfl) (by simp) trivial rfl rfl fun hok V w0 F => ?_
  have hidx := Bb3 f C D p hp l
  refine g ?_
  repeat' refine st_ rfl (g ?_)
  refine Lo hidx (by simp [Ta]) rfl (fun _ h => by cases h) (Sbs.rfl_ _) rfl (g ?_)
  cases ha : l.any p with
  | false =>
    have hfil : (l.filter fun x => !p x) = l := List.filter_eq_self.2 fun x hx => by
      have := List.any_eq_false.1 ha x hx
      simpa using this
    rw [hfil, if_neg (by decide)]
    refine g ?_
    repeat' refine st_ rfl (g ?_)
    exact ⟨fun b => if b = 0 then 1 else b, fun _ _ _ h => h, trivial, ⟨rfl, rfl⟩, by simp⟩
  | true =>
    obtain ⟨i0, hi0⟩ : ∃ i0, l.findIdx p = i0 := ⟨_, rfl⟩
    have hlt0 : i0 < l.length := by rw [<- hi0]; exact List.findIdx_lt_length.2 (List.any_eq_true.1 ha)
    have hp0 : p l[i0] = true := by
      have := List.findIdx_getElem (p := p) (xs := l) (w := by rw [hi0]; exact hlt0)
      simpa only [hi0] using this
    have hbef : ∀ x ∈ l.take i0, p x = false := fun x hx => by
      obtain ⟨j, hj, rfl⟩ := List.mem_take_iff_getElem.1 hx
      have := List.not_of_lt_findIdx (p := p) (xs := l) (i := j) (by omega)
      simpa using this
    have hstart : l.take i0 = (l.take (i0 + 1)).filter fun x => !p x := by
      rw [List.take_succ_eq_append_getElem hlt0, List.filter_append, List.filter_eq_self.2 fun x hx => by simp [hbef x hx]]
      simp [hp0]
    rw [if_pos rfl, hi0]
    refine g ?_
    repeat' refine st_ rfl (g ?_)
    refine AW.loop (fun x : D74 p l => ⟨[(0, .own 1), (1, .fn f [.ip C, .ip D]), (5, .val (.int .i64 (x.i : Nat))), (6, .val (.int .i64 (x.j : Nat)))], [.row 1 49 4 (x.M.map enW), .opq 99 F]⟩) (fun x => l.length - x.j) ⟨i0, i0 + 1, l, hlt0, by omega, rfl, hstart, rfl⟩ id ⟨⟨rfl, rfl, rfl, rfl, trivial⟩, ⟨rfl, rfl, trivial⟩, by simp [Au, BA.id]⟩ fun ⟨i, j, M, hj, hij, hl, ht, hd⟩ => ?_
    simp only
    repeat (refine AW.seq ?_)
    refine AW.reg rfl fun KK hKK => ?_
    refine g ?_
    repeat' (refine hKK _ (g ?_); clear hKK KK)
    repeat (refine AW.seq ?_)
    refine st_ rfl ?_
    refine g ?_
    refine C9 (fun h => ?_) (fun h => ?_)
    · have hlt : j < M.length := by simpa using h
      have hltl : j < l.length := by omega
      obtain ⟨x, hx⟩ : ∃ x, l[j] = x := ⟨_, rfl⟩
      have hMj : M[j]? = some x := by
        have := congrArg (fun L => L[0]?) hd
        simp only [List.getElem?_drop, Nat.add_zero] at this
        rw [this, <- hx]
        exact List.getElem?_eq_getElem hltl
      have hgj := Cb (f := enW) hMj
      have hMi : M[i]? = some M[i] := List.getElem?_eq_getElem (by omega)
      have hgi := Cb (f := enW) hMi
      obtain ⟨o1, o2, o3⟩ := hI x (hx ▸ List.getElem_mem hltl)
      have hnext : M.drop (j + 1) = l.drop (j + 1) := by
        have := congrArg (List.drop 1) hd
        rwa [List.drop_drop, List.drop_drop] at this
      refine g ?_
      repeat' refine st_ rfl (g ?_)
      refine ⟨by omega, by omega, ?_⟩
      refine g ?_
      repeat' refine Am (g ?_)
      refine ⟨_, hgj, ?_⟩
      refine g ?_
      repeat' (first | refine st_ rfl (g ?_) | refine Am (g ?_) | refine C9 (fun h => g ?_) (fun h => g ?_) | refine Ab (hp x) rfl (g ?_))
      · have hq : p x = false := by simpa using h
        refine ⟨by omega, by omega, ?_⟩
        refine g ?_
        repeat' refine Am (g ?_)
        refine ⟨_, _, rfl, ⟨o1, o2, o3, trivial, trivial⟩, hgi, ?_⟩
        refine g ?_
        repeat' (first | refine st_ rfl (g ?_) | refine Am (g ?_))
        refine ⟨⟨i + 1, j + 1, M.set i x, hltl, by omega, by simp [hl], ?_, ?_⟩, id, ⟨⟨rfl, rfl, rfl, rfl, trivial⟩, ⟨?_, rfl, trivial⟩, by simp [Au, BA.id]⟩, by show l.length - (j + 1) < l.length - j; omega⟩
        · rw [List.take_succ_eq_append_getElem hltl, List.filter_append, <- ht, hx, List.take_succ_eq_append_getElem (by simp; omega), List.getElem_set_self, List.take_set_of_le (Nat.le_refl _)]
          simp [hq]
        · rw [List.drop_set_of_lt (by omega)]; exact hnext
        · simp only [List.map_set]
          rfl
      · have hq : p x = true := by simpa using h
        refine ⟨⟨i, j + 1, M, hltl, by omega, hl, ?_, hnext⟩, id, ⟨⟨rfl, rfl, rfl, rfl, trivial⟩, ⟨rfl, rfl, trivial⟩, by simp [Au, BA.id]⟩, by show l.length - (j + 1) < l.length - j; omega⟩
        rw [List.take_succ_eq_append_getElem hltl, List.filter_append, <- ht, hx]
        simp [hq]
    · obtain rfl : j = l.length := by have : ¬ j < M.length := by simpa using h
                                      omega
      refine AW.exit ?_
      simp only [reduceIte]
      rw [List.take_length] at ht
      refine AW.trimW (b := 1) (m := i) (l := M.map enW) rfl rfl rfl (by simp; omega) rfl rfl rfl ?_
      rw [<- List.map_take, ht]
      refine g ?_
      repeat' refine st_ rfl (g ?_)
      exact ⟨fun b => if b = 0 then 4200 else b, fun _ _ _ h => h, trivial, ⟨rfl, rfl⟩, by simp⟩
end
end Go.Proofs.YthlgnjlpakimaaaGreatDoor
namespace Go.Proofs.YthlgnjlpakimaaaGreatDoor
open Go.ChangeShapes Go.WideShapes Go.ChangeAt Go.RowKit
theorem Ap3:(Tryz.prog.info? 44).map (fun i=>(i.zero.map (·.cells.size),i.size,i.bytes))=some (some 4,4,48):=by kernel_rfl
theorem Ai1:(Tryz.prog.info? 44).map (fun i=>i.zero.map (fun z=>z.cells.all (·.oneCell')))=some (some true):=by kernel_rfl
set_option maxRecDepth 100000 in
set_option maxHeartbeats 1600000 in
theorem B08 {α:Type} {R:List Value->α->Prop} (h1:∀ cs x,R cs x->∀ u∈cs,u.oneCell'=true) (l:List α) (i n c g:Nat) (w:World) (base:Nat) (h:Af R 4 w base 44 (.slice (some ⟨g,0,none⟩) n c) l) (hi:i < l.length) :
  Calls Tryz.prog 56 #[.slice (some ⟨g,0,none⟩) n c,.int .i64 i,.int .i64 ((i:Int)+1)] w fun e w'=>e=.returned (.slice (some ⟨g,0,none⟩) (n - 1) c)/\Af R 4 w' base 44 (.slice (some ⟨g,0,none⟩) (n - 1) c) (l.take i++l.drop (i+1))/\w.grownBy w' (some g):=by
 obtain ⟨i0,z0,hi0,hz0,hzs,hz1,hz2⟩:=M0 Ap3
 have hzone:∀ v∈z0.cells,v.oneCell'=true:=by
  have:=Ai1
  rw [hi0] at this
  simp only [Option.map_some,hz0,Option.some.injEq] at this
  intro v hv
  obtain ⟨j,hj,rfl⟩:=Array.mem_iff_getElem.1 hv
  exact (Array.all_eq_true.1 this) j hj
 obtain ⟨cur,rfl,hg1,hBk,hnc,hcm,hcs,hbig,hch⟩:=h.open_
 obtain ⟨hA,-⟩:=hch.split i (by omega)
 obtain ⟨-,hBm⟩:=hch.split (i+1) hi
 have hAl:=hA.length
 have hBl:=hBm.length
 rw [show (l.take i).length=i by simp;omega] at hAl
 rw [show (l.drop (i+1)).length=l.length - (i+1) by simp] at hBl
 generalize hL:l.take i++l.drop (i+1)=L
 have hLn:L.length=l.length - 1:=by rw [<-hL];simp;omega
 have HL:=Lib.hid hL
 have HLn:=Lib.hid hLn
 have hBc:∀ j u,((cur.toList.take (l.length*4)).drop ((i+1)*4))[j]? = some u->w.cell? ⟨g,(i+1)*4+j,none⟩=some u:=fun j u hj=>by
  rw [hBk.cell]
  rw [List.getElem?_drop,List.getElem?_take] at hj
  split at hj
  ·simpa using hj
  ·cases hj
 have hone2:∀ v∈(cur.toList.take (l.length*4)).drop ((i+1)*4),v.oneCell'=true:=hBm.one_cell h1
 have hcurA:cur.toList.take (i*4)=(cur.toList.take (l.length*4)).take (i*4):=by rw [List.take_take,Nat.min_eq_left (by omega)]
 rw [<-hcurA] at hA hAl
 generalize hBB:(cur.toList.take (l.length*4)).drop ((i+1)*4)=Bm at hBm hBl hBc hone2
 have hchain:=hA.append hBm
 rw [hL] at hchain
 obtain ⟨C1,hC1⟩ : ∃ C1:Array Value,C1=(cur.toList.take (i*4)++Bm++cur.toList.drop (i*4+Bm.length)).toArray:=⟨_,rfl⟩
 have hC1s:C1.size=c*4:=by
  rw [hC1]
  simp only [List.size_toArray,List.length_append,List.length_take,List.length_drop,Array.length_toList,hcs,hBl]
  omega
 obtain ⟨C2,hC2⟩ : ∃ C2:Array Value,C2=(C1.toList.take ((l.length - 1)*4)++(Builtin.zeroCells z0.cells 1).toList++C1.toList.drop ((l.length - 1)*4+1*4)).toArray:=⟨_,rfl⟩
 have hC2s:C2.size=c*4:=by
  rw [hC2]
  have:(Builtin.zeroCells z0.cells 1).toList.length=4:=by simp [Builtin.zeroCells,hzs]
  simp only [List.size_toArray,List.length_append,List.length_take,List.length_drop,Array.length_toList,hC1s] at this ⊢
  omega
 have hfin:Bi R 4 (C2.toList.take (L.length*4)) L:=by
  have e0:(cur.toList.take (i*4)++Bm).length=(l.length - 1)*4:=by rw [List.length_append,hAl,hBl];omega
  have e1:C1.toList.take ((l.length - 1)*4)=cur.toList.take (i*4)++Bm:=by
   rw [hC1]
   exact List.take_left' e0
  rw [hC2,hLn]
  show Bi R 4 (List.take _ (_++_++_)) L
  rw [e1,List.append_assoc,List.take_left' e0]
  exact hchain
 have hap:∀ W:World,Blk W g 44 cur->∀ ty' cp sc (ad:Addr),(i+1 < l.length->ad=⟨g,(i+1)*4,none⟩)->cp=c->(Builtin.append_ #[28,28] ty' #[.slice (some ⟨g,0,none⟩) i cp,.slice (some ad) (l.length - (i+1)) sc]).run Tryz.prog W=.ok (.slice (some ⟨g,0,none⟩) (l.length - 1) c) (W.setRow g C1):=fun W hN ty' cp sc ad had hcp=>by
  subst hcp
  have hr:=run_append_room (P:=Tryz.prog) W 28 ty' 44 i0 Tryz.underlying28 hi0 g i cp cur hN ad (l.length - (i+1)) sc Bm (by rw [hz1];exact hBl)
   (fun j u hj=>by
    have hlt:i+1 < l.length:=by
     have:=(List.getElem?_eq_some_iff.1 hj).1
     rw [hBl] at this
     omega
    rw [had hlt,Fq,hN.cell,<-hBk.cell]
    exact hBc j u hj) hone2 (by omega) (by rw [hz1,hBl,hcs];omega)
  rw [hz1] at hr
  rw [hC1,hr,show i+(l.length - (i+1))=l.length - 1 by omega]
 have hcl:∀ W:World,Blk W g 44 C1->∀ ty' cp,(Builtin.clear_ #[28] ty' #[.slice (some ⟨g,(l.length - 1)*4,none⟩) 1 cp]).run Tryz.prog W=.ok (.tuple #[]) (W.setRow g C2):=fun W hN ty' cp=>by
  rw [hC2]
  exact Rq 4 W _ _ ty' i0 z0 g ((l.length - 1)*4) 1 cp C1 44 Tryz.underlying28 hi0 hz0 hzs (by omega) hN (by rw [hC1s];omega) hzone
 have HAP:=Lib.hid hap
 have HCL:=Lib.hid hcl
 have HFIN:=Lib.hid hfin
 clear hap hcl hfin
 have B1:=hBk.drew.setRow' (cs':=C1)
 unfold maxLen at hcm
 clear hC1 hC2 hcurA hBB hLn hL h
 have hw1:IntKind.i64.wrap ((i:Int)+1)=(i:Int)+1:=IntWalk.i64_in _ (by omega)
 have hb1:(0:Int)<=(i:Int)+1:=by omega
 have htn:((i:Int)+1).toNat=i+1:=by omega
 have hb3:(i:Int)<=(l.length:Int):=by omega
 have hb4:(i:Int)+1<=(l.length:Int):=by omega
 have hb5:(i:Int)<=(i:Int)+1:=by omega
 have hb6:(l.length:Int)<=(c:Int):=by omega
 have hb7:(i:Int)<=(c:Int):=by omega
 have hne:((i:Int)==(i:Int)+1)=false:=by simp;omega
 have hd1:i+1 - i=1:=by omega
 have hn1:((l.length - 1:Nat):Int)<=(l.length:Int):=by omega
 have hn2:¬ (c=l.length - 1):=by omega
 have hn3:l.length - (l.length - 1)=1:=by omega
 by_cases hcc:c=i+1
 ·subst hcc
  have HLL:=Lib.hid (show l.length=i+1 by omega)
  go_enter Tryz.func56,Tryz.ntmps56
  go_wp2_with fail
  have HAP1:Hid (∀ ty',(Builtin.append_ #[28,28] ty' #[.slice (some ⟨g,0,none⟩) i (i+1),.slice (some ⟨g,0,none⟩) 0 0]).run Tryz.prog w.drew=.ok (.slice (some ⟨g,0,none⟩) (l.length - 1) (i+1)) (w.drew.setRow g C1)):=fun ty'=>by
   have:=HAP.out w.drew hBk.drew ty' (i+1) 0 ⟨g,0,none⟩ (fun h=>by have:=HLL.out;omega) rfl
   rwa [show l.length - (i+1)=0 by have:=HLL.out;omega] at this
  go_region_law (refine Ph rfl _ _ 28 28 rfl (.slice (some ⟨g,0,none⟩) i (i+1)) (.slice (some ⟨g,0,none⟩) 0 0) (by simp [Act.eval,Act.put]) (by simp [Act.eval,Act.put]) (HAP1.out _) ?_)
  go_wp2_with (refine N3 _ rfl (.tmp 31) 28 rfl _ rfl (HCL.out _ B1 _ _) ?_)
  go_ret
  exact ⟨rfl,Af.shut hg1 (B1.setRow' (cs':=C2)) HLn.out.symm (by rw [HLn.out];omega) (by unfold maxLen;omega) hC2s (by rw [HLn.out];omega) HFIN.out,Jw (Jw (Uk w _) (Et _ g C1)) (Et _ g C2)⟩
 ·go_enter Tryz.func56,Tryz.ntmps56
  go_wp2_with fail
  go_region_law (refine Ph rfl _ _ 28 28 rfl (.slice (some ⟨g,0,none⟩) i c) (.slice (some ⟨g,(i+1)*4,none⟩) (l.length - (i+1)) (c - (i+1))) (by simp [Act.eval,Act.put]) (by simp [Act.eval,Act.put]) (HAP.out _ hBk.drew _ c _ _ (fun _=>rfl) rfl) ?_)
  go_wp2_with (refine N3 _ rfl (.tmp 31) 28 rfl _ rfl (HCL.out _ B1 _ _) ?_)
  go_ret
  exact ⟨rfl,Af.shut hg1 (B1.setRow' (cs':=C2)) HLn.out.symm (by rw [HLn.out];omega) (by unfold maxLen;omega) hC2s (by rw [HLn.out];omega) HFIN.out,Jw (Jw (Uk w _) (Et _ g C1)) (Et _ g C2)⟩
attribute [local irreducible] AW AWY Cf Bf vop Bw Bh Bx qop Cg Cz Az Aw C5 A7 Bl Cj
attribute [local go_sem] Jl Jo Hw Mx Fa Ee Jp Gd Gn Fl Ap Ar
set_option maxRecDepth 100000 in
set_option maxHeartbeats 1600000 in
theorem Bo4 (hc:∀ (l:List Ct) (room:Int),I64 room->A7 Tryz.prog A9 44 [.iv (boI l),.val (.int .i64 room)] (.val (.bool (Cy l room))) []) (v:Br) (iR:I64 v.room):A7 Tryz.prog A9 45 [vwA v] (.val (.bool (Al v))) []:=by
 refine A7.of (n:=62) (rs:=[.cell 2 4]) Tryz.func45 rfl (by kernel_rfl) Tryz.ntmps45 (by kernel_rfl) (by simp) (fun _ _=>A9.later) ?_
 intro hok V w0
 have hz:v.zones.length<=1073741824:=by simpa [znI] using hok.1.2.1.1
 obtain ⟨B,hB⟩ : ∃ B,Al v=B:=⟨_,rfl⟩
 rw [hB]
 refine g ?_
 refine AW.seq ?_
 refine AW.reg rfl fun KK hKK=>?_
 refine g ?_
 repeat' (refine hKK _ (g ?_);clear hKK KK)
 refine AW.freeze 200 _ rfl ⟨trivial,trivial,trivial,trivial,iR,trivial⟩ ?_
 simp only [go_sem,reduceIte,Nat.reduceEqDiff]
 refine g ?_
 repeat' (first | refine st_ rfl (g ?_) | refine C9 (fun h=>g ?_) (fun h=>g ?_) | (refine G9 rfl rfl (fun h=>?_) (fun h=>?_)<;>simp only [h]<;>refine g ?_) | refine Ab (K4 _) rfl (g ?_) | refine Ab (Lt _) rfl (g ?_) | refine Ab (Gl _) rfl (g ?_) | refine Ab (hc _ _ iR) rfl (g ?_))
 ·rw [<-hB];simp at h;simp [Al,F9,h]
 ·rw [<-hB];simp at h;simp [Al,F9,h]
 ·rw [<-hB];simp at h;simp [Al,F9,h]
 ·rw [<-hB];simp at h;simp [Al,F9,h]
 have hP:F9 v=true:=by simp at *;simp [F9, *]
 have hH:Bk v.held=true:=by simp only [F9,Bool.and_eq_true] at hP;exact hP.1.2
 refine AW.loop (fun m:{m:Nat // m<=v.zones.length/\∀ x∈v.zones.take m,decide (Xp x.vec v.known=1)=true}=>⟨[(1,.ip [stI v.known,znI v.zones,wrI v.held,boI v.bodies,.val (.int .i64 v.room)]),(2,.bp 300 0),(32,.iv (znI v.zones)),(33,.val (.int .i64 (v.zones.length:Nat))),(34,.val (.int .i64 (m.1:Nat)))],[.box 300 [.val (.bool false)]]⟩) (fun m=>v.zones.length - m.1) ⟨0,Nat.zero_le _,fun x hx=>by simp at hx⟩ id ⟨⟨rfl,rfl,rfl,rfl,rfl,trivial⟩,⟨rfl,trivial⟩,by simp [Au,BA.id]⟩ fun ⟨m,hm,ht⟩=>?_
 refine g ?_
 repeat' (first | refine st_ rfl (g ?_) | refine Bq (fun h=>g ?_) (fun h=>g ?_) | refine ix_ (by omega) (g ?_) | refine Ab (A48 _ _) rfl (g ?_) | refine Ab (Zz _) rfl (g ?_))
 ·have hlt:m < v.zones.length:=by omega
  rw [<-hB];simp only [Al];rw [Ah5 (l:=v.zones) (p:=fun (x:Ao)=>decide (Xp x.vec v.known=1)) hlt (by simpa using h)];simp
 ·exact ⟨⟨m+1,by omega,Wh (by omega) ht (by simpa using h)⟩,id,⟨⟨rfl,rfl,rfl,rfl,rfl,trivial⟩,⟨rfl,trivial⟩,by simp [Au,BA.id]⟩,by show v.zones.length - (m+1) < v.zones.length - m;omega⟩
 obtain rfl:m=v.zones.length:=by omega
 rw [List.take_length] at ht
 have h1:(v.zones.all fun x=>decide (Xp x.vec v.known=1))=true:=List.all_eq_true.2 ht
 refine AW.le (S:=⟨[(2,.bp 300 0),(1,.ip [stI v.known,znI v.zones,wrI v.held,boI v.bodies,.val (.int .i64 v.room)]),(47,.fn 184 [.ip [wrI v.held]])],[.box 300 [.val (.bool false)]]⟩) (ρ:=id) ⟨⟨rfl,rfl,rfl,trivial⟩,⟨rfl,trivial⟩,by simp [Au,BA.id]⟩ ?_
 refine AW.range (Zy v.held hH) [(2,.bp 300 0)] [(1,.ip [stI v.known,znI v.zones,wrI v.held,boI v.bodies,.val (.int .i64 v.room)]),(47,.fn 184 [.ip [wrI v.held]])] (fun _=>[.box 300 [.val (.bool false)]]) (fun pre=>∀ w∈pre,Ej v.zones v.known w=true) rfl (fun w hw=>by cases hw) rfl rfl rfl rfl (fun x=>⟨rfl,rfl⟩) (fun k pre x hsp hI=>?_) (fun xs hS hI=>?_)
 ·simp only [T9,Bz3,List.cons_append,List.nil_append]
  refine g ?_
  refine g ?_
  repeat' (first | refine st_ rfl (g ?_) | refine C9 (fun h=>g ?_) (fun h=>g ?_) | refine Ab (Vn _ _ x) rfl (g ?_))
  ·refine ⟨id,[.box 300 [.val (.bool false)]],⟨⟨rfl,trivial⟩,⟨rfl,trivial⟩,by simp [Au,BA.id]⟩,?_⟩
   refine g ?_
   have hx:x∈v.held:=hsp.subset (by simp)
   rw [<-hB]
   simp only [Al]
   rw [show (v.held.all fun w=>Ej v.zones v.known w)=false from List.all_eq_false.2 ⟨x,hx,by simpa using h⟩]
   simp
  ·refine ⟨fun w hw=>?_,id,⟨rfl,trivial⟩,⟨rfl,trivial⟩,by simp [Au,BA.id]⟩
   rcases List.mem_append.1 hw with h3 | h3
   ·exact hI w h3
   ·rw [List.mem_singleton.1 h3];simpa using h
 ·obtain rfl:xs=v.held:=hS
  have h2:(v.held.all fun x=>Ej v.zones v.known x)=true:=List.all_eq_true.2 hI
  refine g ?_
  repeat' (first | refine st_ rfl (g ?_) | refine Ab (Az9 _ _ _ _ (fun x=>Af9 v x hH)) rfl (g ?_))
  rw [<-hB]
  simp only [Al]
  rw [hP,h1,h2,List.not_any_eq_all_not]
  simp
end Go.Proofs.YthlgnjlpakimaaaGreatDoor
namespace Go.Proofs.YthlgnjlpakimaaaGreatDoor
open Go.ChangeShapes Go.WideShapes Go.ChangeAt Go.RowKit
attribute [local irreducible] AW AWY Cf Bf vop Bw Bh Bx qop Cg Cz Az Aw C5 A7 Bl Cj
attribute [local go_sem] Jl Jo Hw Mx Ap Ar
set_option maxRecDepth 100000 in
theorem Ag9 (l:List Ct) (room:Int) (iR:I64 room):A7 Tryz.prog A9 44 [.iv (boI l),.val (.int .i64 room)] (.val (.bool (Cy l room))) []:=by
 refine A7.of (n:=43) (rs:=[.tmp 4]) Tryz.func44 rfl (by kernel_rfl) Tryz.ntmps44 (by kernel_rfl) (by simp) (fun _ _=>A9.later) ?_
 intro hok V w0
 have hlen:l.length<=1073741824:=by simpa [boI] using hok.1.1
 obtain ⟨B,hB⟩ : ∃ B,Cy l room=B:=⟨_,rfl⟩
 rw [hB]
 unfold Cy B31 at hB
 refine g ?_
 repeat' (first | refine st_ rfl (g ?_) | refine Bq (fun h=>g ?_) (fun h=>g ?_) | (refine Ef rfl rfl (fun h e=>?_) (fun h e=>?_)<;>simp only [e]<;>clear e<;>refine g ?_))
 ·rw [<-hB,decide_eq_false (p:=0<=room) (by omega)];rfl
 ·rw [<-hB,decide_eq_false (p:=room<=16777216) (by omega)];simp
 ·rw [<-hB,decide_eq_false (p:=l.length<=256) (by omega)];simp
 rw [decide_eq_true (p:=0<=room) (by omega),decide_eq_true (p:=room<=16777216) (by omega),decide_eq_true (p:=l.length<=256) (by omega),Bool.true_and,Bool.true_and,Bool.true_and] at hB
 refine AW.loop (fun x:{x:Nat×List (Int×Value) // x.1<=l.length/\Hm (l.take x.1)=true/\∀ o,(Mu x.2 o).getD (.bool false)=.bool (A65 (l.take x.1) o)}=>⟨[(0,.iv (boI l)),(1,.val (.int .i64 room)),(5,.mv 2000),(20,.iv (boI l)),(21,.val (.int .i64 (l.length:Nat))),(22,.val (.int .i64 (x.1.1:Nat)))],[.mp 2000 .i64 x.1.2]⟩) (fun x=>l.length - x.1.1) ⟨(0,[]),Nat.zero_le _,rfl,fun o=>rfl⟩ id ⟨⟨rfl,rfl,rfl,rfl,rfl,rfl,trivial⟩,⟨rfl,trivial⟩,by simp [Au,BA.id]⟩ fun ⟨⟨m,kv⟩,hm,ht,hk⟩=>?_
 simp only at hm ht hk
 refine g ?_
 repeat' (first | refine st_ rfl (g ?_) | refine Bq (fun h=>g ?_) (fun h=>g ?_) | refine ix_ (by omega) (g ?_))
 ·have hlt:m < l.length:=by omega
  refine ⟨.bool (A65 (l.take m) l[m].object),hk _,?_⟩
  cases hh:A65 (l.take m) l[m].object
  ·refine g ?_
   repeat' (first | refine st_ rfl (g ?_) | refine Am (g ?_) | refine C9 (fun h=>g ?_) (fun h=>g ?_) | refine Ab (As4 _) rfl (g ?_))
   ·rw [<-hB,Z5 hlt ht (.inl (by simpa using h))];rfl
   ·have hr:Do l[m]=true:=by simpa using h
    refine ⟨⟨(m+1,_),hlt,by rw [Xd hlt ht,hr,hh];rfl,fun o=>?_⟩,id,⟨⟨rfl,rfl,rfl,rfl,rfl,rfl,trivial⟩,⟨rfl,trivial⟩,by simp [Au,BA.id]⟩,by show l.length - (m+1) < l.length - m;omega⟩
    rw [Xi,Ab6 hlt]
    by_cases e:o=l[m].object
    ·rw [if_pos e,e];simp
    ·rw [if_neg e,hk o,decide_eq_false (fun e'=>e e'.symm),Bool.or_false]
  ·refine g ?_
   repeat' (first | refine st_ rfl (g ?_) | refine Am (g ?_))
   rw [<-hB,Z5 hlt ht (.inr hh)];rfl
 ·obtain rfl:m=l.length:=by omega
  rw [List.take_length] at ht
  refine Ab (B67 l (by omega) fun x hx=>(Lw (Ud ht x hx)).2.2) rfl ?_
  refine g ?_
  repeat' refine st_ rfl (g ?_)
  rw [<-hB,ht];rfl
end Go.Proofs.YthlgnjlpakimaaaGreatDoor
namespace Go.Proofs.YthlgnjlpakimaaaGreatDoor
open Go.ChangeShapes Go.WideShapes Go.ChangeAt Go.RowKit
theorem Ah1 {P : Program} {G : World -> Prop} {f : FuncId} {fn : Func} {c : Code} {k T : Nat} {l : List (List IV)} (hf : P.funcs[f]? = some fn) (hb : fn.body = some c) (hname : (fn.name == "runtime.NumGoroutine") = false)
  (h:∀ (V w:World) (v:Value),Ext V w->Sl (B8 V) k V V.heap.size v l->Calls P f #[v] w fun e w'=>(∃ v',e=.returned v'/\Af (B8 V) k w' w.heap.size T v' l)/\Below w.heap.size w w'):A7 P G f [.iv (.sl k l)] (.own 0) [.row 0 T k l] :=
 ⟨Vy hf hb hname,fun V w E vs hV hG hr=>by
  obtain ⟨v0,rfl,hv0⟩:=Ja hr
  have hs:Sl (B8 V) k V V.heap.size v0 l:=by cases hv0 with | iv h=>exact h.to_sl
  refine (h V w v0 hV hs).mono fun _ w' ⟨⟨v,he,hO⟩,hb⟩=>?_
  obtain ⟨A,n,cc,hv⟩ : ∃ A n cc,v=.slice A n cc:=by
   obtain ⟨A,cc,hv,_⟩:=hO.sl
   exact ⟨A,_,cc,hv⟩
  have ho:Ac ⟨fun _=>(v.ownBlock).getD 0,fun _=>v⟩ [.row 0 T k l]=v.ownBlock.toList:=by simp [Ac,BA.owned]
  refine ⟨v,⟨fun _=>(v.ownBlock).getD 0,fun _=>v⟩,he,hb,by rw [ho];cases v.ownBlock<;>simp,fun g hg=>by rw [ho,Option.mem_toList] at hg;exact (hO.lt g hg).1,fun b hb'=>?_,?_⟩
  ·simp only [List.mem_singleton] at hb'
   subst hb'
   refine ⟨hO.mono fun cs x h=>?_,fun g hg=>by simp [hg]⟩
   rw [ho]
   exact B8.ext (N4 hV hb) h
  ·rw [hv]
   exact .own rfl⟩
theorem Az4:(Tryz.prog.info? 5).map (fun i=>(i.zero.map (·.cells.size),i.size,i.bytes))=some (some 1,1,1):=by kernel_rfl
theorem As0 (l:List (List IV)) (v:Value) (V:World) (w:World) (hV:Ext V w) (h:Sl (B8 V) 1 V V.heap.size v l) :
  Calls Tryz.prog 147 #[v] w fun e w'=>(∃ v',e=.returned v'/\Af (B8 V) 1 w' w.heap.size 5 v' l)/\Below w.heap.size w w':=by
 have hle:=h.len_le
 obtain ⟨i0,z0,hi,hz0,hzs,hz1,hz2⟩:=M0 Az4
 obtain ⟨A,c,rfl,-,-,hne⟩:=id h
 have he:=fun (w:World) (a:Option Addr) (n c:Nat)=>Lib.run_eql_slice_nil (P:=Tryz.prog) w 38 5 a n c 0 0 Tryz.underlying38
 cases A with
 | none =>
  obtain rfl:l=[]:=by
   rcases l with _ | ⟨y,l⟩
   ·rfl
   ·obtain ⟨b,off,h1,_⟩:=hne (by simp)
    cases h1
  clear hne h
  go_enter Tryz.func147,Tryz.ntmps147
  go_wp2_with fail
  go_ret
  exact ⟨⟨_,rfl,Af.nil_ _ _ _⟩,Below.refl _ _⟩
 | some A =>
  have HH:=Lib.hid (Sl.ext h (fun _ _ h=>h) hV)
  clear hne h
  go_enter Tryz.func147,Tryz.ntmps147
  go_wp2_with (at_builtin;refine E8 _ (fun cs x h=>B8.one h) rfl (.tmp 5) (.tmp 6) 38 rfl w.heap.size 5 i0 _ 1 Tryz.underlying38 hi hz0 hz1 hz2 hzs (by omega) _ [] rfl (Nf (R:=(B8 V)) (k:=1) w 5) w.heap.size _ l rfl (HH.out.keep (fun _ _ h=>h) (Nat.le_refl _) (fun p hp=>World.cell?_alloc_lt _ _ _ hp)) (by simp only [List.length_nil];omega) (by omega) (by simp) ?_;intro v1 w1 hown hgr hat)
  simp only [List.nil_append] at hown
  have hb1:Below w.heap.size w w1:=(Ax (Below.refl _ _)).grown hgr (by simp) (fun k hk=>Nat.le_of_eq (Option.some.inj hk))
  have H1:=Lib.hid hown
  clear hown hgr hat hi hz0 hz1 hz2 hzs
  go_wp2_with fail
  go_ret
  exact ⟨⟨_,rfl,H1.out⟩,hb1⟩
theorem Wb (l:List Nat):A7 Tryz.prog A9 147 [.iv (byI l)] (.iv (byI l)) [] :=
 (Ah1 (l:=l.map fun (b:Nat)=>[.val (.int .u8 b)]) Tryz.func147 rfl (by kernel_rfl) fun V w v hV h=>As0 _ v V w hV h).frz trivial
set_option maxRecDepth 100000 in
theorem Bc7 (l:List Ct) (i:Nat) (hi:i < l.length):El Tryz.prog A9 56 [.own 1,.val (.int .i64 i),.val (.int .i64 ((i:Int)+1))] (.own 0) [.row 1 44 4 (l.map enB)] [.row 0 44 4 ((l.take i++l.drop (i+1)).map enB)] [] []:=by
 refine El.row (r:=id) Tryz.func56 rfl (by kernel_rfl) (fun E X v' ⟨A,n,c,hv⟩ he=>by subst hv;exact .own he) fun X w E v vs base hX hb hG h hh hvs=>?_
 obtain ⟨u0,u1,rfl,q0,q1⟩ : ∃ u0 u1,vs=[u0,u1]/\B9 E X u0 (.val (.int .i64 i))/\B9 E X u1 (.val (.int .i64 ((i:Int)+1))):=by
  obtain ⟨u0,vs',e,h1,h2⟩:=As.cons_iff.1 hvs
  obtain ⟨u1,vs'',e',h1',h2'⟩:=As.cons_iff.1 h2
  rw [As.nil_iff.1 h2'] at e'
  exact ⟨u0,u1,by rw [e,e'],h1,h1'⟩
 cases q0
 cases q1
 rcases h.forms with ⟨_,h0⟩ | ⟨g,c,rfl,hg1,hg2⟩
 ·have:l.length=0:=by simpa using congrArg List.length h0
  omega
 have hcall:=B08 (R:=B8 X) (fun cs x h=>B8.one h) (l.map enB) i _ c g w base h (by simpa using hi)
 refine hcall.mono ?_
 rintro e w' ⟨rfl,r1,r2⟩
 refine ⟨_,rfl,?_,r2,.inl rfl⟩
 rw [List.map_append,List.map_take,List.map_drop]
 exact r1
attribute [local irreducible] AW AWY Cf Bf vop Bw Bh Bx qop Cg Cz Az Aw C5 A7 Bl
attribute [local go_sem] Jl Jo Hw Mx Ap Ar
set_option maxRecDepth 100000 in
theorem B68 (x:Ct):A7 Tryz.prog A9 137 [boA x] (boA x) []:=by
 refine A7.of (n:=8) (rs:=[.cell 2 44]) Tryz.func137 rfl (by kernel_rfl) Tryz.ntmps137 (by kernel_rfl) (by simp) (fun _ _=>A9.later) ?_
 intro hok V w0
 refine g ?_
 repeat' (first | refine st_ rfl (g ?_) | exact trivial | refine Ab (Wb _) rfl (g ?_))
set_option maxRecDepth 100000 in
theorem Aq1 (l:List Ct) (o:Int):A7 Tryz.prog A9 52 [.iv (boI l),.val (.int .i64 o)] (.own 0) [.row 0 44 4 ((Kk l o).map enB)]:=by
 refine A7.ofS (n:=25) (rs:=[.tmp 4]) Tryz.func52 rfl (by kernel_rfl) Tryz.ntmps52 (by kernel_rfl) (by simp) (fun _ _=>A9.later) ?_
 intro hok V w0
 have hlen:l.length<=1073741824:=by simpa [boI] using hok.1.1
 refine g ?_
 repeat' refine st_ rfl (g ?_)
 refine AW.adopt 5 9900 44 4 rfl rfl ?_
 refine AW.loop (fun m:{m:Nat // m<=l.length}=>⟨[(1,.val (.int .i64 o)),(5,.own 9900),(8,.iv (boI l)),(9,.val (.int .i64 (l.length:Nat))),(10,.val (.int .i64 (m.1:Nat)))],[.row 9900 44 4 ((Kk (l.take m.1) o).map enB)]⟩) (fun m=>l.length - m.1) ⟨0,Nat.zero_le _⟩ id ⟨⟨rfl,rfl,rfl,?_,rfl,trivial⟩,⟨rfl,trivial⟩,by simp [Au,BA.id]⟩ fun ⟨m,hm⟩=>?_
 ·simp [AV.ren,Co]
 simp only
 have hfl:(Kk (l.take m) o).length<=m:=by
  have:=List.length_filter_le (fun x:Ct=>!decide (x.object=o)) (l.take m)
  rw [List.length_take] at this
  unfold Kk
  omega
 repeat (refine AW.seq ?_)
 refine AW.reg rfl fun KK hKK=>?_
 refine g ?_
 repeat' (refine hKK _ (g ?_);clear hKK KK)
 repeat (refine AW.seq ?_)
 refine st_ rfl ?_
 refine g ?_
 refine C9 (fun h=>?_) (fun h=>?_)
 ·have hlt:m < l.length:=by have:=of_decide_eq_true h;omega
  obtain ⟨-,o1,o2,o3,-⟩:=En (by simpa [boI] using hok.1.2) (enB l[m]) (List.mem_map_of_mem (List.getElem_mem hlt))
  have hs:Kk (l.take (m+1)) o=Kk (l.take m) o++if l[m].object=o then [] else [l[m]]:=by
   unfold Kk
   rw [List.take_succ_eq_append_getElem hlt,List.filter_append]
   by_cases e:l[m].object=o<;>simp [e]
  refine g ?_
  repeat' (first | refine st_ rfl (g ?_) | refine Bq (fun h=>g ?_) (fun h=>g ?_) | refine ix_ (by omega) (g ?_) | refine Ab (B68 _) rfl (g ?_))
  ·refine bs1 (by omega) rfl rfl rfl ⟨o1,o2,o3,trivial,trivial⟩ ?_
   refine g ?_
   refine C4 rfl (by kernel_rfl) (by omega) (by kernel_rfl) rfl (by simp;omega) ?_
   refine g ?_
   repeat' refine st_ rfl (g ?_)
   refine ⟨⟨m+1,hlt⟩,fun b=>if b=9900 then 2300 else b,⟨⟨rfl,rfl,rfl,rfl,rfl,trivial⟩,⟨?_,trivial⟩,by simp [Au,BA.id]⟩,by show l.length - (m+1) < l.length - m;omega⟩
   rw [hs,if_neg h,List.map_append]
   rfl
  ·refine ⟨⟨m+1,hlt⟩,id,⟨⟨rfl,rfl,rfl,rfl,rfl,trivial⟩,⟨?_,trivial⟩,by simp [Au,BA.id]⟩,by show l.length - (m+1) < l.length - m;omega⟩
   rw [hs,if_pos (Decidable.of_not_not h),List.append_nil]
   rfl
 ·obtain rfl:m=l.length:=by have:=of_decide_eq_false h;omega
  rw [List.take_length]
  refine g ?_
  repeat' refine st_ rfl (g ?_)
  exact ⟨fun b=>if b=0 then 9900 else b,fun _ _ _ h=>h,rfl,by simp⟩
theorem Bk3 (x:Ct) (o:Int) (s:Aa):A7 Tryz.prog A9 146 [boA x,.ip [.val (.int .i64 o)],.ip [.val (.int .i64 s.count),.val (.int .i64 s.node)]] (.val (.bool (isB o s x))) []:=by
 refine A7.of (n:=15) (rs:=[.tmp 4]) Tryz.func146 rfl (by kernel_rfl) Tryz.ntmps146 (by kernel_rfl) (by simp) (fun _ _=>A9.later) ?_
 intro hok V w0
 obtain ⟨B,hB⟩ : ∃ B,isB o s x=B:=⟨_,rfl⟩
 rw [hB]
 unfold isB at hB
 rw [Wt] at hB
 refine g ?_
 repeat' (first | refine st_ rfl (g ?_) | (refine Ef rfl rfl (fun h e=>?_) (fun h e=>?_)<;>simp only [e]<;>clear e<;>refine g ?_))
 ·refine ⟨_,fun u=>Zp _ _ _ _ _ _ u,?_⟩
  refine g ?_
  repeat' (first | refine st_ rfl (g ?_) | refine Am (g ?_))
  rw [<-hB,h]
  simp
 ·rw [<-hB,decide_eq_false h]
  rfl
set_option maxRecDepth 100000 in
theorem Az6 (l:List Ct) (f:FuncId) (C D:List IV) (p:Ct->Bool) (hp:∀ x,A7 Tryz.prog A9 f [boA x,.ip C,.ip D] (.val (.bool (p x))) []):A7 Tryz.prog A9 53 [.iv (boI l),.fn f [.ip C,.ip D]] (.val (.int .i64 (if l.any p=true then ((l.findIdx p:Nat):Int) else -1))) []:=by
 refine A7.of (n:=19) (rs:=[.tmp 4]) Tryz.func53 rfl (by kernel_rfl) Tryz.ntmps53 (by kernel_rfl) (by simp) (fun _ _=>A9.later) ?_
 intro hok V w0
 have hlen:l.length<=1073741824:=by simpa [boI] using hok.1.1
 refine g ?_
 repeat' refine st_ rfl (g ?_)
 refine AW.loop (fun m:{m:Nat // m<=l.length/\∀ x∈l.take m,p x=false}=>⟨[(0,.iv (boI l)),(1,.fn f [.ip C,.ip D]),(7,.val (.int .i64 (l.length:Nat))),(8,.val (.int .i64 (m.1:Nat)))],[]⟩) (fun m=>l.length - m.1) ⟨0,Nat.zero_le _,fun x hx=>by simp at hx⟩ id ⟨⟨rfl,rfl,rfl,rfl,trivial⟩,trivial,List.nodup_nil⟩ fun ⟨m,hm,ht⟩=>?_
 refine g ?_
 repeat' (first | refine st_ rfl (g ?_) | refine Bq (fun h=>g ?_) (fun h=>g ?_) | refine C9 (fun h=>g ?_) (fun h=>g ?_) | refine ix_ (by omega) (g ?_) | refine Ab (hp _) rfl (g ?_))
 ·have hlt:m < l.length:=by omega
  rw [if_pos (List.any_eq_true.2 ⟨_,List.getElem_mem hlt,h⟩),(List.findIdx_eq hlt).2 ⟨h,fun j hj=>ht _ (List.mem_take_iff_getElem.2 ⟨j,by omega,rfl⟩)⟩]
 ·refine ⟨⟨m+1,by omega,fun x hx=>?_⟩,id,⟨⟨rfl,rfl,rfl,rfl,trivial⟩,trivial,List.nodup_nil⟩,by show l.length - (m+1) < l.length - m;omega⟩
  rw [List.take_succ_eq_append_getElem (by omega)] at hx
  rcases List.mem_append.1 hx with h1 | h1
  ·exact ht x h1
  ·rw [List.mem_singleton.1 h1];exact h
 ·obtain rfl:m=l.length:=by omega
  rw [List.take_length] at ht
  rw [if_neg]
  rw [List.any_eq_true]
  rintro ⟨x,hx,hp⟩
  rw [ht x hx] at hp
  cases hp
theorem B46 {α:Type} {p:α->Bool} {l:List α} (h:l.any p=true):∃ hl:l.findIdx p < l.length,p l[l.findIdx p]=true/\l.find? p=some l[l.findIdx p]:=by
 have hl:l.findIdx p < l.length:=List.findIdx_lt_length.2 (List.any_eq_true.1 h)
 refine ⟨hl,List.findIdx_getElem (w:=hl),?_⟩
 obtain ⟨m,hm⟩ : ∃ m,l.findIdx p=m:=⟨_,rfl⟩
 have h1:=List.findIdx_getElem (p:=p) (xs:=l) (w:=hl)
 have h2:∀ x∈l.take m,p x=false:=fun x hx=>by
  obtain ⟨j,hj,rfl⟩:=List.mem_take_iff_getElem.1 hx
  have:=List.not_of_lt_findIdx (p:=p) (xs:=l) (i:=j) (by omega)
  simpa using this
 simp only [hm] at hl h1 ⊢
 conv=>lhs;rw [<-List.take_append_drop m l,List.drop_eq_getElem_cons hl]
 rw [List.find?_append,List.find?_eq_none.2 fun x hx=>by rw [h2 x hx];simp,Option.none_or]
 simp only [List.find?_cons,h1]
set_option maxRecDepth 100000 in
theorem Bd1 (l:List Ct) (o:Int) (s:Aa) (i0:I64 o) (i1:I64 s.count) (i2:I64 s.node):A7 Tryz.prog A9 70 [.iv (boI l),.val (.int .i64 o),.agg [.val (.int .i64 s.count),.val (.int .i64 s.node)]] (.tup [.iv (byI (Yv l o s).1),.val (.int .i64 (Yv l o s).2)]) []:=by
 refine A7.ofS (n:=20) (rs:=[.tmp 6,.tmp 7]) Tryz.func70 rfl (by kernel_rfl) Tryz.ntmps70 (by kernel_rfl) (by simp) (fun _ _=>A9.later) ?_
 intro hok V w0
 have hlen:l.length<=1073741824:=by simpa [boI] using hok.1.1
 obtain ⟨R,hR⟩ : ∃ R,Yv l o s=R:=⟨_,rfl⟩
 rw [hR]
 unfold Yv at hR
 have hidx:=Az6 l 146 [.val (.int .i64 o)] [.val (.int .i64 s.count),.val (.int .i64 s.node)] (isB o s) fun x=>Bk3 x o s
 refine g ?_
 refine AW.seq ?_
 refine AW.reg rfl fun KK hKK=>?_
 refine g ?_
 repeat' (refine hKK _ (g ?_);clear hKK KK)
 refine AW.freeze 500 _ rfl ⟨i0,trivial⟩ ?_
 simp only [go_sem,reduceIte,Nat.reduceEqDiff]
 refine AW.freeze 600 _ rfl ⟨i1,i2,trivial⟩ ?_
 simp only [go_sem,reduceIte,Nat.reduceEqDiff]
 cases ha:l.any (isB o s) with
 | false =>
  rw [ha,if_neg (by decide)] at hidx
  have hn:l.find? (isB o s)=none:=List.find?_eq_none.2 fun x hx=>by simpa using List.any_eq_false.1 ha x hx
  rw [hn] at hR
  subst hR
  refine g ?_
  repeat' (first | refine st_ rfl (g ?_) | refine Ab (hidx) rfl (g ?_))
  refine Je rfl fun p hp=>?_
  simp only [List.zip_cons_cons,List.zip_nil_right,List.mem_cons,List.not_mem_nil,or_false] at hp
  rcases hp with rfl | rfl
  ·exact Cs 1
  ·exact D1.rfl_ _
 | true =>
  obtain ⟨hl,hp1,hf⟩:=B46 ha
  rw [ha,if_pos rfl] at hidx
  rw [hf] at hR
  simp only at hR
  subst hR
  generalize l.findIdx (isB o s)=m at hl hp1 hf hidx ⊢
  refine g ?_
  repeat' (first | refine st_ rfl (g ?_) | refine ix_ (by omega) (g ?_) | refine Ab (hidx) rfl (g ?_) | refine Ab (Wb _) rfl (g ?_))
  exact D1.rfl_ _
end Go.Proofs.YthlgnjlpakimaaaGreatDoor
namespace Go.Proofs.YthlgnjlpakimaaaGreatDoor
open Go.Proofs Go.Shelf
def Qg:Go.Shelf.Ren:=⟨fun | 6=>192 | 15=>219 | 14=>218 | 28=>235 | 29=>236 | 20=>227 | 21=>228 | 22=>229 | 23=>230 | 24=>231 | 25=>232 | 26=>233 | 27=>234 | 46=>247 | 47=>248 | 48=>249 | 49=>250 | 50=>251 | 57=>256 | n=>n,fun | 22=>26 | 24=>122 | 25=>232 | 3=>3 | 39=>34 | 0=>0 | 53=>265 | 55=>223 | 4=>4 | 46=>259 | 45=>258 | 50=>187 | 5=>5 | 9=>9 | 66=>273 | 70=>277 | 76=>281 | 77=>282 | n=>n,fun | n=>n⟩
theorem Aj4:Go.Proofs.SlLaysF0.n6 Tryz.prog Qg:={
 mixed:=by kernel_rfl
 f6:=⟨Tryz.f192.name,by decide,Tryz.func192.trans (congrArg some (by kernel_rfl))⟩
 f14:=⟨Tryz.f218.name,by decide,Tryz.func218.trans (congrArg some (by kernel_rfl))⟩
 f15:=Tryz.func219.trans (congrArg some (by kernel_rfl))
 f20:=⟨Tryz.f227.name,by decide,Tryz.func227.trans (congrArg some (by kernel_rfl))⟩
 f21:=⟨Tryz.f228.name,by decide,Tryz.func228.trans (congrArg some (by kernel_rfl))⟩
 f22:=⟨Tryz.f229.name,by decide,Tryz.func229.trans (congrArg some (by kernel_rfl))⟩
 f23:=⟨Tryz.f230.name,by decide,Tryz.func230.trans (congrArg some (by kernel_rfl))⟩
 f24:=⟨Tryz.f231.name,by decide,Tryz.func231.trans (congrArg some (by kernel_rfl))⟩
 f25:=⟨Tryz.f232.name,by decide,Tryz.func232.trans (congrArg some (by kernel_rfl))⟩
 f26:=⟨Tryz.f233.name,by decide,Tryz.func233.trans (congrArg some (by kernel_rfl))⟩
 f27:=⟨Tryz.f234.name,by decide,Tryz.func234.trans (congrArg some (by kernel_rfl))⟩
 f28:=Tryz.func235.trans (congrArg some (by kernel_rfl))
 f29:=Tryz.func236.trans (congrArg some (by kernel_rfl))
 f46:=⟨Tryz.f247.name,by decide,Tryz.func247.trans (congrArg some (by kernel_rfl))⟩
 f47:=Tryz.func248.trans (congrArg some (by kernel_rfl))
 f48:=Tryz.func249.trans (congrArg some (by kernel_rfl))
 f49:=⟨Tryz.f250.name,by decide,Tryz.func250.trans (congrArg some (by kernel_rfl))⟩
 f50:=⟨Tryz.f251.name,by decide,Tryz.func251.trans (congrArg some (by kernel_rfl))⟩
 f57:=⟨Tryz.f256.name,by decide,Tryz.func256.trans (congrArg some (by kernel_rfl))⟩
 t0:=Tryz.underlying0
 a0:=Tryz.isAgg0
 z0:=Tryz.sizeOf0
 v0:=Tryz.zeroValue0
 t3:=Tryz.underlying3
 a3:=Tryz.isAgg3
 z3:=Tryz.sizeOf3
 v3:=Tryz.zeroValue3
 t4:=Tryz.underlying4
 a4:=Tryz.isAgg4
 z4:=Tryz.sizeOf4
 v4:=Tryz.zeroValue4
 t5:=Tryz.underlying5
 a5:=Tryz.isAgg5
 z5:=Tryz.sizeOf5
 v5:=Tryz.zeroValue5
 t9:=Tryz.underlying9
 a9:=Tryz.isAgg9
 z9:=Tryz.sizeOf9
 v9:=Tryz.zeroValue9
 t22:=Tryz.underlying26
 a22:=Tryz.isAgg26
 z22:=Tryz.sizeOf26
 v22:=Tryz.zeroValue26
 t25:=Tryz.underlying232
 a25:=Tryz.isAgg232
 z25:=Tryz.sizeOf232
 v25:=Tryz.zeroValue232
 t39:=Tryz.underlying34
 a39:=Tryz.isAgg34
 z39:=Tryz.sizeOf34
 v39:=Tryz.zeroValue34
 t45:=Tryz.underlying258
 a45:=Tryz.isAgg258
 z45:=Tryz.sizeOf258
 v45:=Tryz.zeroValue258
 t46:=Tryz.underlying259
 a46:=Tryz.isAgg259
 z46:=Tryz.sizeOf259
 v46:=Tryz.zeroValue259
 t50:=Tryz.underlying187
 a50:=Tryz.isAgg187
 z50:=Tryz.sizeOf187
 v50:=Tryz.zeroValue187
 t53:=Tryz.underlying265
 a53:=Tryz.isAgg265
 z53:=Tryz.sizeOf265
 v53:=Tryz.zeroValue265
 t55:=Tryz.underlying223
 a55:=Tryz.isAgg223
 z55:=Tryz.sizeOf223
 v55:=Tryz.zeroValue223
 t66:=Tryz.underlying273
 a66:=Tryz.isAgg273
 z66:=Tryz.sizeOf273
 v66:=Tryz.zeroValue273
 t70:=Tryz.underlying277
 a70:=Tryz.isAgg277
 z70:=Tryz.sizeOf277
 v70:=Tryz.zeroValue277
 t76:=Tryz.underlying281
 a76:=Tryz.isAgg281
 z76:=Tryz.sizeOf281
 v76:=Tryz.zeroValue281
 t77:=Tryz.underlying282
 a77:=Tryz.isAgg282
 z77:=Tryz.sizeOf282
 v77:=Tryz.zeroValue282 }
end Go.Proofs.YthlgnjlpakimaaaGreatDoor
namespace Go.Proofs.YthlgnjlpakimaaaGreatDoor
open Go.ChangeShapes Go.WideShapes Go.ChangeAt Go.RowKit
attribute [local irreducible] AW AWY Cf Bf vop Bw Bh Bx qop Cg Cz Az Aw C5 A7 Bl N2
attribute [local go_sem] Ap Ar
def Bx9 (f:Nat->Int) (M n:Nat):Int:=if M.testBit n=true then f n else 0
end Go.Proofs.YthlgnjlpakimaaaGreatDoor
namespace Go.Proofs.YthlgnjlpakimaaaGreatDoor
open Go.ChangeShapes Go.WideShapes Go.ChangeAt Go.RowKit
attribute [local irreducible] Cf Bf vop Bw Bh Bx qop Cg Cz Az Aw C5 A7 Bl
attribute [local go_sem] Ap Ar
section
variable {V w0 : World} {n : Nd} {ro : Option Nat} {σ : Ah} {K : Exit -> Ah -> Prop}
end
def enX (x:Fin 64):List AV:=[.val (.int .i64 (x.1:Nat)),.any]
attribute [local irreducible] N2 AW
section
variable {V w0 : World} {n : Nd} {K : Exit -> Ah -> Prop}
end
def D41 (f d:Nat->Int) (pre:List (Fin 64)) (n:Nat):Int:=if pre.any (fun x=>decide (x.1=n))=true then min (f n) (d n) else f n
structure D97 (ls:List (List Aa)) where
 i:Nat
 f:Nat->Int
 M:Nat
 h0:0 < i
 hi:i<=ls.length
 hM:M < 18446744073709551616
 hf:∀ n,n < 64->I64 (f n)
 pos:∀ n,n < 64->M.testBit n=true->0 < f n
 is:∀ n,n < 64->Bx9 f M n=Bt8 (ls.take i) n
end Go.Proofs.YthlgnjlpakimaaaGreatDoor
namespace Go.Proofs.YthlgnjlpakimaaaGreatDoor
open Go.ChangeShapes Go.WideShapes Go.ChangeAt Go.RowKit
attribute [local irreducible] AW AWY Cf Bf vop Bw Bh Bx qop Cg Cz Az Aw C5 A7 Bl N2
attribute [local go_sem] Ce Ap Ar
def Py (v:List Aa) (n:Aq) (pre:List (Fin 64)) (o:Nat):Int:=if pre.any (fun x=>decide (x.1=o))=true then Eh v n o else A8 v o
theorem Yp (v:List Aa) (n:Aq) (o:Nat):0<=Eh v n o:=by
 have:=Ek v o
 unfold Eh
 split<;>omega
theorem Yl (v:List Aa) (n:Aq) (pre:List (Fin 64)) (o:Nat):0<=Py v n pre o:=by
 have:=Ek v o
 have:=Yp v n o
 unfold Py
 split<;>omega
theorem Ac3 {v:List Aa} {n:Aq} {pre:List (Fin 64)} {x:Fin 64} {o:Nat} : Py v n (pre++[x]) o=if o=x.1 then Eh v n x.1 else Py v n pre o:=by
 unfold Py
 rw [List.any_append]
 simp only [List.any_cons,List.any_nil,Bool.or_false]
 by_cases e:o=x.1
 ·subst e;simp
 ·rw [if_neg e,decide_eq_false (fun h=>e h.symm),Bool.or_false]
theorem B48 {v:List Aa} {n:Aq} {pre:List (Fin 64)} {x:Fin 64} : Py v n pre x.1=Eh v n x.1\/Py v n pre x.1=A8 v x.1:=by
 unfold Py
 split
 ·exact .inl rfl
 ·exact .inr rfl
theorem B47 {v:List Aa} {n:Aq} {pre:List (Fin 64)} {x:Fin 64} (h:¬ (A8 v x.1 < A8 n.end_ x.1/\A8 n.start x.1<=A8 v x.1)):Eg (Py v n (pre++[x]))=Eg (Py v n pre) :=
 G5 fun o ho=>by
  rw [Ac3]
  split
  ·rename_i e
   subst e
   have hs:Eh v n x.1=A8 v x.1:=by
    unfold Eh
    split<;>omega
   rcases B48 (v:=v) (n:=n) (pre:=pre) (x:=x) with e | e<;>omega
  ·rfl
theorem Ar4 {c:Int} {k:Nat} (h:Bu c k=true) (o:Nat):A8 [⟨c,k⟩] o=if o=k then c else 0:=by
 simp only [A8,h,and_true]
 by_cases e:o=k
 ·subst e;simp
 ·rw [if_neg e,if_neg (by omega)]
theorem Bl4 {v:List Aa} {n:Aq} {pre:List (Fin 64)} {x:Fin 64} (h1:A8 v x.1 < A8 n.end_ x.1) (h2:A8 n.start x.1<=A8 v x.1) (hr:Bu (A8 n.end_ x.1) x.1=true):Dq [Eg (Py v n pre),[⟨A8 n.end_ x.1,(x.1:Nat)⟩]]=Eg (Py v n (pre++[x])) :=
 G5 fun o ho=>by
  rw [Kz,L9 _ ho (Yl _ _ _ _),Ar4 hr,Ac3]
  have h3:=Yl v n pre o
  by_cases e:o=x.1
  ·subst e
   rw [if_pos rfl,if_pos rfl]
   have hs:Eh v n x.1=A8 n.end_ x.1:=by
    unfold Eh
    rw [if_pos h2];omega
   rcases B48 (v:=v) (n:=n) (pre:=pre) (x:=x) with e | e<;>omega
  ·rw [if_neg e,if_neg e];omega
theorem Bl5 {v:List Aa} (hv:Ak v=true) (n:Aq):Eg (Py v n [])=v:=by
 have:Eg (Py v n [])=Eg fun k=>A8 v k:=G5 fun o _=>by simp [Py]
 rw [this,Rg hv]
theorem Bl6 {v:List Aa} {n:Aq} {xs:List (Fin 64)} (h:xs.map (·.1)=Ck (D6 n.end_) 64):Eg (Py v n xs)=Hc v n :=
 G5 fun o ho=>by
  unfold Py
  split
  ·rfl
  ·rename_i hh
   have:o∉Ck (D6 n.end_) 64:=fun hm=>hh (by
    rw [<-h,List.mem_map] at hm
    obtain ⟨x,h1,h2⟩:=hm
    exact List.any_eq_true.2 ⟨x,h1,by simpa using h2⟩)
   rw [Ng,Mt ho] at this
   have h0:A8 n.end_ o=0:=by
    by_cases e:A8 n.end_ o=0
    ·exact e
    ·exact absurd ⟨ho,by simp [e]⟩ this
   have:=Ek v o
   unfold Eh
   rw [h0]
   split<;>omega
theorem Bv3 (l:List Aa) (s:Aa) (i1:I64 s.count) (i2:I64 s.node):A7 Tryz.prog A9 142 [.iv (stI l),.agg [.val (.int .i64 s.count),.val (.int .i64 s.node)]] (.iv (stI (Dq [l,[s]]))) []:=(At6 l s i1 i2).frz trivial
set_option maxRecDepth 100000 in
set_option maxHeartbeats 1600000 in
theorem Zm (v:List Aa) (n:Aq) (hv:Ak v=true):A7 Tryz.prog A9 123 [.iv (stI v),F3 n] (.iv (stI (Hc v n))) []:=by
 refine A7.ofS (n:=35) (rs:=[.tmp 4]) Tryz.func123 rfl (by kernel_rfl) Tryz.ntmps123 (by kernel_rfl) (by simp) (fun _ _=>A9.later) ?_
 intro hok V w0
 refine g ?_
 refine AW.seq ?_
 refine AW.reg rfl fun KK hKK=>?_
 refine g ?_
 repeat' (refine hKK _ (g ?_);clear hKK KK)
 refine AW.freeze 300 _ rfl ⟨trivial,trivial⟩ ?_
 simp only [go_sem,reduceIte,Nat.reduceEqDiff]
 refine AW.freeze 400 _ rfl ⟨trivial,trivial,trivial,trivial,trivial⟩ ?_
 simp only [go_sem,reduceIte,Nat.reduceEqDiff]
 refine g ?_
 repeat' (first | refine st_ rfl (g ?_) | refine Ab (As9 _) rfl (g ?_))
 have hI:∀ k:Int,I64 (A8 n.end_ k):=fun k=>by
  refine Sb (fun s hs=>?_) k
  obtain ⟨-,h2,-⟩:=En hok.2.1.2.1.2 (Xo s) (List.mem_map_of_mem hs)
  exact h2
 refine AW.le (S:=⟨[(5,.bp 600 0),(2,.ip [stI v]),(3,.ip [stI n.start,stI n.end_,spI n.blur,wrI n.writes]),(12,.fn 221 [.ip [.pt (N2 (fun k=>A8 n.end_ k) (D6 n.end_))]])],[.box 600 [.iv (stI (Eg (Py v n [])))]]⟩) (ρ:=id) ⟨⟨rfl,rfl,rfl,rfl,trivial⟩,⟨by rw [Bl5 hv];rfl,trivial⟩,by simp [Au,BA.id]⟩ ?_
 refine AW.range (Ac4 (fun k=>A8 n.end_ k) (D6 n.end_) (Mb _)) [(5,.bp 600 0)] [(2,.ip [stI v]),(3,.ip [stI n.start,stI n.end_,spI n.blur,wrI n.writes]),(12,.fn 221 [.ip [.pt (N2 (fun k=>A8 n.end_ k) (D6 n.end_))]])] (fun pre=>[.box 600 [.iv (stI (Eg (Py v n pre)))]]) (fun _=>True) rfl trivial rfl rfl rfl rfl (fun x=>⟨rfl,rfl⟩) (fun c pre x hsp _=>?_) (fun xs hS _=>?_)
 ·have hm:x.1∈Ck (D6 n.end_) 64:=hsp.subset (by simp)
  rw [Ng,Mt x.2] at hm
  have hne:A8 n.end_ x.1≠0:=by simpa using hm.2
  have hpos:=Sa hne
  have hr:Bu (A8 n.end_ x.1) x.1=true:=decide_eq_true ⟨hpos,by omega,by have:=x.2;omega⟩
  have hx:=x.2
  simp only [T9,enE,List.cons_append,List.nil_append]
  refine g ?_
  refine g ?_
  repeat' (first | refine st_ rfl (g ?_) | refine Bq (fun h=>g ?_) (fun h=>g ?_) | (refine Ef rfl rfl (fun h e=>?_) (fun h e=>?_)<;>simp only [e]<;>clear e<;>refine g ?_) | refine Ab (Y0 _ _) rfl (g ?_) | refine Ab (Bv3 (Eg (Py v n pre)) ⟨A8 n.end_ x.1,(x.1:Nat)⟩ (hI _) (I64.of (by show (-9223372036854775808:Int)<=(x.1:Nat);omega) (by show ((x.1:Nat):Int)<=9223372036854775807;omega))) rfl (g ?_))
  ·rename_i h1
   exact ⟨trivial,id,⟨rfl,trivial⟩,⟨congrArg (fun l=>some (BA.box 600 [.iv (stI l)])) (Bl4 h1 h hr),trivial⟩,by simp [Au,BA.id]⟩
  ·exact ⟨trivial,id,⟨rfl,trivial⟩,⟨congrArg (fun l=>some (BA.box 600 [.iv (stI l)])) (B47 (fun q=>h q.2)).symm,trivial⟩,by simp [Au,BA.id]⟩
  ·exact ⟨trivial,id,⟨rfl,trivial⟩,⟨congrArg (fun l=>some (BA.box 600 [.iv (stI l)])) (B47 (fun q=>h q.1)).symm,trivial⟩,by simp [Au,BA.id]⟩
 ·refine g ?_
  rw [Bl6 hS]
  refine g ?_
  repeat' refine st_ rfl (g ?_)
  exact D1.rfl_ _
end Go.Proofs.YthlgnjlpakimaaaGreatDoor
namespace Go.Proofs.YthlgnjlpakimaaaGreatDoor
open Go.ChangeShapes Go.WideShapes Go.ChangeAt Go.RowKit
attribute [local irreducible] AW AWY Cf Bf vop Bw Bh Bx qop Cg Cz Az Aw C5 A7 Bl
attribute [local go_sem] Gd Ap Ar
theorem Bw6 (l:List Ad):spI l=.sl 2 (l.map M1):=rfl
attribute [local go_sem] Bw6 B49
set_option maxRecDepth 100000 in
set_option maxHeartbeats 1600000 in
theorem Am0 (l:List Ad) (reach now:List Aa) (z:List Ao) (hl:l.length<=128) (hz:z.length<=1000000):El Tryz.prog A9 120 [.iv (spI l),.iv (stI reach),.ip [stI now],.bp 0 0] (.tup []) [.row 1 122 3 (z.map enZ),.box 0 [.own 1]] [.row 2 122 3 ((z++Tb now l reach).map enZ)] [(0,[.own 2])] []:=by
 refine El.of [(3,0)] (n:=25) (rs:=[]) Tryz.func120 rfl (by kernel_rfl) Tryz.ntmps120 (by kernel_rfl) (by simp) ⟨rfl,trivial⟩ rfl rfl fun hok V w0 F=>?_
 have hle:l.length<=1073741824:=by omega
 obtain ⟨C,hC⟩ : ∃ C,Tb now l reach=C:=⟨_,rfl⟩
 rw [hC]
 unfold Tb at hC
 have hcov:=Qc reach now
 obtain ⟨B,hB⟩ : ∃ B,At reach now=B:=⟨_,rfl⟩
 rw [hB] at hcov hC
 cases B with
 | true =>
  rw [if_pos rfl] at hC
  subst hC
  rw [List.append_nil]
  refine g ?_
  repeat' (first | refine st_ rfl (g ?_) | refine Ab (hcov) rfl (g ?_))
  exact ⟨fun b=>if b=2 then 1 else b,fun _ _ _ h=>h,⟨rfl,trivial⟩,⟨rfl,rfl,rfl⟩,by simp⟩
 | false =>
  rw [if_neg (by decide)] at hC
  refine g ?_
  repeat' (first | refine st_ rfl (g ?_) | refine Ab (hcov) rfl (g ?_))
  refine AW.loop (fun m:{m:Nat // m<=l.length}=>⟨[(1,.iv (stI reach)),(3,.bp 0 0),(11,.iv (spI l)),(12,.val (.int .i64 (l.length:Nat))),(13,.val (.int .i64 (m.1:Nat)))],[.row 1 122 3 ((z++(l.take m.1).map fun s=>(⟨s,reach⟩ : Ao)).map enZ),.box 0 [.own 1],.opq 99 F]⟩) (fun m=>l.length - m.1) ⟨0,Nat.zero_le _⟩ id ⟨⟨rfl,rfl,rfl,?_,rfl,trivial⟩,⟨by simp;rfl,rfl,rfl,trivial⟩,by simp [Au,BA.id]⟩ fun ⟨m,hm⟩=>?_
  ·simp [AV.ren,Co]
  simp only
  repeat (refine AW.seq ?_)
  refine AW.reg rfl fun KK hKK=>?_
  refine g ?_
  repeat' (refine hKK _ (g ?_);clear hKK KK)
  repeat (refine AW.seq ?_)
  refine st_ rfl ?_
  refine g ?_
  refine C9 (fun h=>?_) (fun h=>?_)
  ·have hlt:m < l.length:=by have:=of_decide_eq_true h;omega
   obtain ⟨-,o1,o2,-⟩:=En (by simpa [spI] using hok.1.2) (M1 l[m]) (List.mem_map_of_mem (List.getElem_mem hlt))
   refine g ?_
   repeat' refine st_ rfl (g ?_)
   refine ⟨by omega,_,Cb (List.getElem?_eq_getElem hlt),?_⟩
   refine g ?_
   repeat' refine Am (g ?_)
   refine AW.freeze 800 _ rfl ⟨o1,o2,trivial⟩ ?_
   simp only [go_sem,reduceIte,Nat.reduceEqDiff]
   refine AW.drawn (ds:=[17,18,19,20,21,22,23]) (fin:=[2,3,4,5]) (bs:=[3,3,3,3,3,3,4,5]) [⟨[],[],[0,1,2],[],0⟩,⟨[],[],[0,1,2],[],0⟩,⟨[],[],[],[],0⟩,⟨[(19,2)],[],[0,1,2],[],0⟩,⟨[(18,1),(20,3)],[],[],[],0⟩,⟨[(21,4)],[],[],[],1⟩,⟨[(17,0),(22,5)],[],[1,2,3],[0],1⟩,⟨[(23,6)],[],[],[1],1⟩] (by kernel_rfl) rfl (by kernel_rfl) rfl rfl rfl fun KD hKD=>?_
   refine g ?_
   repeat' refine Ab (Lf _) rfl (g ?_)
   refine bs1 (by omega) rfl rfl rfl ⟨o1,o2,trivial,trivial⟩ ?_
   refine g ?_
   refine C4 rfl (by kernel_rfl) (by omega) (by kernel_rfl) rfl (by simp;omega) ?_
   refine g ?_
   repeat' (first | refine st_ rfl (g ?_) | (refine hKD _ _ ⟨rfl,g ?_⟩;clear hKD KD))
   refine ⟨⟨m+1,hlt⟩,fun b=>if b=1 then 2400 else b,⟨⟨rfl,rfl,rfl,rfl,rfl,trivial⟩,⟨?_,rfl,rfl,trivial⟩,by simp [Au,BA.id]⟩,by show l.length - (m+1) < l.length - m;omega⟩
   show some (BA.row _ _ _ _)=some (BA.row _ _ _ ((z++(l.take (m+1)).map fun s=>(⟨s,reach⟩ : Ao)).map enZ))
   rw [List.take_succ_eq_append_getElem hlt]
   simp only [List.map_append,List.append_assoc]
   rfl
  ·obtain rfl:m=l.length:=by have:=of_decide_eq_false h;omega
   refine AW.exit ?_
   simp only [reduceIte]
   rw [List.take_length,hC]
   refine g ?_
   exact ⟨.inr trivial,fun b=>if b=2 then 1 else b,fun _ _ _ h=>h,⟨rfl,trivial⟩,⟨rfl,rfl,rfl⟩,by simp⟩
end Go.Proofs.YthlgnjlpakimaaaGreatDoor
namespace Go.Proofs.YthlgnjlpakimaaaGreatDoor
open Go.ChangeShapes Go.WideShapes Go.ChangeAt Go.RowKit Go.Sort Go.Shelf
structure ZB where
 lo:Nat
 hi:Int
 v:Value
 small:lo < 256
 one:v.oneCell'=true
instance:Inhabited ZB:=⟨⟨0,0,.bool false,by decide,rfl⟩⟩
def Tt (b:ZB):List Value:=[.int .i64 (b.lo:Nat),.int .i64 b.hi,b.v]
def B12 (a b:ZB):Int:=(a.lo:Int) - b.lo
theorem Bp8 (a b:ZB):ltOf B12 a b=decide (a.lo < b.lo):=by
 unfold ltOf B12
 rw [decide_eq_decide]
 omega
theorem Cd7:SWO (ltOf B12) where
 irrefl x:=by rw [Bp8];simp
 trans x y z h1 h2:=by rw [Bp8] at *;simp at *;omega
 ntrans x y z h1 h2:=by rw [Bp8] at *;simp at *;omega
theorem Bp9 (x y:ZB) (W:World):Calls Tryz.prog 193 #[.agg #[.int .i64 (x.lo:Nat),.int .i64 x.hi,x.v],.agg #[.int .i64 (y.lo:Nat),.int .i64 y.hi,y.v]] W fun e w'=>e=.returned (.int .i64 (B12 x y))/\∃ q os',w'=grow (W.drewN q) os':=by
 obtain ⟨a,b,u,ha,hu⟩:=x
 obtain ⟨c,d,v,hc,hv⟩:=y
 unfold B12
 simp only
 go_enter Tryz.func193,Tryz.ntmps193
 go_wp2_with fail
 go_ret
 exact ⟨rfl,0,_,by rw [alloc_eq_grow,alloc_eq_grow,grow_grow];rfl⟩
def B17 (X:World):List Ao->List ZB->Prop
 | [],[]=>True
 | z :: l,b :: d=>((b.lo:Int)=z.span.lo/\b.hi=z.span.hi/\I64 z.span.hi/\D3 X b.v (stI z.vec))/\B17 X l d
 | _,_=>False
theorem B33 {X:World} : ∀ {l:List Ao} {xs:List Value},(∀ z∈l,0<=z.span.lo/\z.span.lo<=255)->Bi (B8 X) 3 xs (l.map enZ)->∃ d,Bi (At3 Tt) 3 xs d/\B17 X l d
 | [],xs,_,h=>⟨[],h,trivial⟩
 | z :: l,xs,hz,⟨cs,rest,e,hk,h1,h2⟩=>by
  obtain ⟨d,h3,h4⟩:=B33 (fun y hy=>hz y (by simp [hy])) h2
  have hz0:=hz z (by simp)
  match cs,h1 with
  | [c0,c1,c2],⟨q0,q1,q2,_⟩ =>
   cases q0 with | val i0=>cases q1 with | val i1 =>
   refine ⟨⟨z.span.lo.toNat,z.span.hi,c2,by omega,q2.one⟩ :: d,⟨_,rest,e,hk,?_,h3⟩,⟨by show ((z.span.lo.toNat:Nat):Int)=_;omega,rfl,i1,q2⟩,h4⟩
   show _=Tt _
   unfold Tt
   simp only
   rw [show ((z.span.lo.toNat:Nat):Int)=z.span.lo by omega]
theorem A94 {X:World} : ∀ {l:List Ao} {d:List ZB} {xs:List Value},B17 X l d->Bi (At3 Tt) 3 xs d->Bi (B8 X) 3 xs (l.map enZ)
 | [],[],_,_,h=>h
 | z :: l,b :: d,xs,⟨⟨e0,e1,i1,h3⟩,h4⟩,⟨cs,rest,e,hk,h1,h2⟩=>by
  refine ⟨cs,rest,e,hk,?_,A94 h4 h2⟩
  rw [show cs=Tt b from h1]
  unfold Tt
  refine ⟨?_,?_,h3,trivial⟩
  ·rw [e0];exact .val (by rw [<-e0];have:=b.small;exact I64.of (by omega) (by omega))
  ·rw [e1];exact .val i1
 | [],_ :: _,_,h,_=>h.elim
 | _ :: _,[],_,h,_=>h.elim
theorem Vl {X:World} : ∀ {l:List Ao} {d:List ZB},B17 X l d->l.length=d.length
 | [],[],_=>rfl
 | _ :: _,_ :: _,h=>congrArg (·+1) (Vl h.2)
 | [],_ :: _,h=>h.elim
 | _ :: _,[],h=>h.elim
theorem B89 {X:World} {d d':List ZB} (hp:d.Perm d'):∀ {l:List Ao},B17 X l d->∃ l',l.Perm l'/\B17 X l' d':=by
 induction hp with
 | nil=>exact fun {l} h=>⟨l,List.Perm.refl _,h⟩
 | cons x _ ih =>
  intro l h
  cases l with
  | nil=>exact h.elim
  | cons z l =>
   obtain ⟨l',h1,h2⟩:=ih h.2
   exact ⟨z :: l',h1.cons z,h.1,h2⟩
 | swap x y d =>
  intro l h
  match l,h with
  | z :: u :: l,⟨h1,h2,h3⟩=>exact ⟨u :: z :: l,List.Perm.swap _ _ _,h2,h1,h3⟩
 | trans _ _ ih1 ih2 =>
  intro l h
  obtain ⟨l',h1,h2⟩:=ih1 h
  obtain ⟨l'',h3,h4⟩:=ih2 h2
  exact ⟨l'',h1.trans h3,h4⟩
theorem B34 {X:World} : ∀ {l:List Ao} {d:List ZB},B17 X l d->d.map (fun b=>(b.lo:Int))=l.map fun z=>z.span.lo
 | [],[],_=>rfl
 | _ :: _,_ :: _,h=>by rw [List.map_cons,List.map_cons,h.1.1,B34 h.2]
 | [],_ :: _,h=>h.elim
 | _ :: _,[],h=>h.elim
theorem Ti {α:Type} {k:α->Int} : ∀ {l m:List α},l.Pairwise (fun a b=>k a < k b)->m.Pairwise (fun a b=>k a < k b)->(∀ x,x∈l↔x∈m)->l=m
 | [],[],_,_,_=>rfl
 | [],y :: m,_,_,h=>by have:=(h y).2 (by simp);cases this
 | x :: l,[],_,_,h=>by have:=(h x).1 (by simp);cases this
 | x :: l,y :: m,h1,h2,h=>by
  obtain ⟨a1,a2⟩:=List.pairwise_cons.1 h1
  obtain ⟨b1,b2⟩:=List.pairwise_cons.1 h2
  have e:x=y:=by
   rcases List.mem_cons.1 ((h x).1 (by simp)) with e | hx
   ·exact e
   ·rcases List.mem_cons.1 ((h y).2 (by simp)) with e | hy
    ·exact e.symm
    ·have:=a1 y hy;have:=b1 x hx;omega
  subst e
  congr 1
  refine Ti a2 b2 fun w=>⟨fun hw=>?_,fun hw=>?_⟩
  ·rcases List.mem_cons.1 ((h w).1 (by simp [hw])) with e | h3
   ·have:=a1 w hw;rw [e] at this;omega
   ·exact h3
  ·rcases List.mem_cons.1 ((h w).2 (by simp [hw])) with e | h3
   ·have:=b1 w hw;rw [e] at this;omega
   ·exact h3
theorem Av2 {l s:List Ao} (hl:∀ z∈l,0<=z.span.lo/\z.span.lo<=255) (hp:s.Perm l) (hs:s.Pairwise fun a b=>a.span.lo < b.span.lo) :
  El Tryz.prog A9 192 [.own 1,.fn 193 []] (.tup []) [.row 1 122 3 (l.map enZ)] [] [] [.row 1 122 3 (s.map enZ)]:=by
 refine El.keep (r:=.tuple #[]) Tryz.func192 rfl (by kernel_rfl) (fun E X=>.tup rfl fun j v c a b=>by simp at a) fun X w E v vs base hX hbase hG h hvs=>?_
 obtain ⟨u,rfl,hu⟩ : ∃ u,vs=[u]/\B9 E X u (.fn 193 []):=by
  obtain ⟨u,vs',e,h1,h2⟩:=As.cons_iff.1 hvs
  rw [As.nil_iff.1 h2] at e
  exact ⟨u,e,h1⟩
 cases hu with
 | @fn _ fv _ p1 p2 =>
 obtain rfl:fv=#[]:=Array.eq_empty_of_size_eq_zero (by simpa using p1)
 obtain ⟨xs,hown,hch,hbig⟩:=id h
 obtain ⟨d,hd1,hd2⟩:=B33 hl hch
 have hdl:=Vl hd2
 have hE:Af (At3 Tt) 3 w base 122 v d:=⟨xs,by rw [List.length_map] at hown;rw [<-hdl];exact hown,hd1,by rw [<-hdl];simpa using hbig⟩
 rcases hE.forms with ⟨rfl,hd0⟩ | ⟨g,c,rfl,hg1,hg2⟩
 ·have:=AnyF.slices_SortFunc_none (P:=Tryz.prog) (ρ:=Qg) { Aj4 with } none 0 (.func (.func 193) #[] #[]) w
  refine Calls.mono this ?_
  rintro e w' ⟨rfl,rfl⟩
  have hl0:l=[]:=List.eq_nil_of_length_eq_zero (by rw [hdl,hd0];rfl)
  subst hl0
  obtain rfl:s=[]:=List.Perm.eq_nil hp
  exact ⟨rfl,h,World.grownBy.refl _ _⟩
 ·have hcon:=AnyQ.slices_SortFunc (P:=Tryz.prog) (ρ:=Qg) Aj4 3 Tryz.isAgg122 Tryz.sizeOf122 Tt (fun _=>rfl)
   (fun x v hv=>by simp [Tt] at hv;rcases hv with rfl | rfl | rfl<;>first | rfl | exact x.one) B12 Cd7 193 #[] g 0 c d.toArray w (enters_of Tryz.func193 (by kernel_rfl) rfl)
   (fun _ _ _ _ x y=>Bp9 x y _) (Ab5 (k:=3) (fun _=>rfl) (by decide) hE) hg2 (by rw [List.length_map] at hbig;simp only [List.size_toArray];omega)
  refine Calls.mono hcon ?_
  rintro e w' ⟨rfl,d',n,os,hp',hs',rfl⟩
  obtain ⟨p1,p2⟩:=A14 hp'
  have hsz:d'.size=d.length:=by simpa using p2
  obtain ⟨o1,o2⟩:=Zt (k:=3) (enc:=Tt) (fun _=>rfl) hE n d' os hsz
  have hpd:d.Perm d'.toList:=by simpa using p1.symm
  obtain ⟨l',q1,q2⟩:=B89 hpd hd2
  have hs2:SortedIn (ltOf B12) 0 d'.size d':=by rw [p2];exact hs'
  have hle:l'.Pairwise fun a b=>a.span.lo<=b.span.lo:=by
   have h1:(d'.toList.map fun b=>(b.lo:Int)).Pairwise (·<=·):=by
    rw [List.pairwise_map]
    refine (V9 hs2).imp ?_
    intro a b hab
    rw [Bp8,decide_eq_false_iff_not] at hab
    omega
   rw [B34 q2,List.pairwise_map] at h1
   exact h1
  have hne:l'.Pairwise fun a b=>a.span.lo≠b.span.lo:=by
   have:s.Pairwise fun a b=>a.span.lo≠b.span.lo:=hs.imp fun h=>by omega
   exact this.perm (hp.trans q1) fun h=>h.symm
  have hlt:l'.Pairwise fun a b=>a.span.lo < b.span.lo:=(hle.and hne).imp fun h=>by have:=h.1;have:=h.2;omega
  obtain rfl:s=l':=Ti (k:=fun z:Ao=>z.span.lo) hs hlt fun x=>(hp.mem_iff).trans q1.mem_iff
  obtain ⟨xs',r1,r2,r3⟩:=o1
  refine ⟨rfl,⟨xs',?_,A94 q2 r2,by rw [List.length_map,Vl q2];exact r3⟩,o2⟩
  rw [List.length_map,Vl q2]
  exact r1
end Go.Proofs.YthlgnjlpakimaaaGreatDoor
namespace Go.Proofs.YthlgnjlpakimaaaGreatDoor
open Go.ChangeShapes Go.WideShapes Go.ChangeAt Go.RowKit
attribute [local irreducible] AW AWY Cf Bf vop Bw Bh Bx qop Cg Cz Az Aw C5 A7 Bl
attribute [local go_sem] Gd Gn Ap Ar
theorem Bn4 {s:List Ao} (h:Sk s):s.Pairwise fun a b=>a.span.lo < b.span.lo :=
 h.1.imp_of_mem fun {a b} ha _ hab=>by
  have:=(h.2 a ha).2
  simp only [Ch,Bool.and_eq_true,decide_eq_true_eq] at this
  omega
theorem As7 {s:List Ao} (h:Sk s) {z:Ao} (hz:z∈s):0<=z.span.lo/\z.span.lo<=z.span.hi/\z.span.hi<=255:=by
 have:=h.2 z hz
 simp only [Ch,Bool.and_eq_true,decide_eq_true_eq] at this
 omega
set_option maxRecDepth 100000 in
set_option maxHeartbeats 1600000 in
theorem Ao8 {l s:List Ao} (hp:s.Perm l) (hA:Sk s) (hbig:s.length<=1000000):El Tryz.prog A9 129 [.own 1] (.own 0) [.row 1 122 3 (l.map enZ)] [.row 0 122 3 ((Kn s).map enZ)] [] []:=by
 refine El.of [] (n:=59) (rs:=[.tmp 2]) Tryz.func129 rfl (by kernel_rfl) Tryz.ntmps129 (by kernel_rfl) (by simp) trivial rfl rfl fun hok V w0 F=>?_
 have hl:∀ z∈l,0<=z.span.lo/\z.span.lo<=255:=fun z hz=>by have:=As7 hA (hp.mem_iff.2 hz);omega
 refine g ?_
 refine AW.seq ?_
 refine AW.reg rfl fun KK hKK=>?_
 refine g ?_
 repeat' (refine hKK _ (g ?_);clear hKK KK)
 refine AW.seq ?_
 refine AW.reg rfl fun KK hKK=>?_
 refine g ?_
 refine Uo [] [.opq 99 F] id (Av2 hl hp (Bn4 hA)) rfl rfl rfl ?_
 refine g ?_
 repeat' (refine hKK _ (g ?_);clear hKK KK)
 refine AW.freeze 1 _ rfl trivial ?_
 simp only [go_sem,reduceIte,Nat.reduceEqDiff]
 refine g ?_
 repeat' refine st_ rfl (g ?_)
 refine AW.adopt 3 9900 122 3 rfl rfl ?_
 refine AW.loop (fun m:{m:Nat // m<=s.length}=>⟨[(3,.own 9900),(9,.iv (znI s)),(10,.val (.int .i64 (s.length:Nat))),(11,.val (.int .i64 (m.1:Nat)))],[.row 9900 122 3 ((Kn (s.take m.1)).map enZ),.opq 99 F]⟩) (fun m=>s.length - m.1) ⟨0,Nat.zero_le _⟩ id ⟨⟨rfl,rfl,?_,rfl,trivial⟩,⟨rfl,rfl,trivial⟩,by simp [Au,BA.id]⟩ fun ⟨m,hm⟩=>?_
 ·simp [AV.ren,Co]
 simp only
 repeat (refine AW.seq ?_)
 refine AW.reg rfl fun KK hKK=>?_
 refine g ?_
 repeat' (refine hKK _ (g ?_);clear hKK KK)
 repeat (refine AW.seq ?_)
 refine st_ rfl ?_
 refine g ?_
 refine C9 (fun h=>?_) (fun h=>?_)
 ·have hlt:m < s.length:=by have:=of_decide_eq_true h;omega
  have hin:=As7 hA (List.getElem_mem hlt)
  have hj:=Ab0 hA m hm
  have hs:=A26 (s.take m) s[m]
  rw [<-List.take_succ_eq_append_getElem hlt] at hs
  obtain ⟨x,hx⟩ : ∃ x,s[m]=x:=⟨_,rfl⟩
  have hget:=Cb (f:=enZ) (List.getElem?_eq_getElem hlt)
  rw [hx] at hin hs hget
  obtain ⟨J,hJ⟩ : ∃ J,Kn (s.take m)=J:=⟨_,rfl⟩
  rw [hJ] at hj hs ⊢
  have hJl:J.length<=m:=by have:=hj.len;rw [List.length_take] at this;omega
  refine g ?_
  repeat' refine st_ rfl (g ?_)
  refine ⟨by omega,_,hget,?_⟩
  refine g ?_
  repeat' (first | refine st_ rfl (g ?_) | refine Am (g ?_))
  have w1:I64 x.span.lo:=I64.of (by omega) (by omega)
  have w2:I64 x.span.hi:=I64.of (by omega) (by omega)
  refine AW.freeze 600 _ rfl ⟨w1,w2,trivial,trivial⟩ ?_
  simp only [go_sem,reduceIte,Nat.reduceEqDiff]
  refine AW.drawn (ds:=[17,18,19,20,21,22,23,24,25,26,27,28,29,30,31,32,33,34,35,36,37,38,39,40,41,42,43]) (fin:=[0,1]) (bs:=[2,2,2,2,2,2,2,2,2,2,2,2,2,2,2,2,2,2,2,2,2,2,2,2,2,2,2]) [⟨[],[],[],[],0⟩,⟨[(17,0)],[],[],[],0⟩,⟨[(18,1)],[],[],[],0⟩,⟨[],[],[],[],0⟩,⟨[],[],[],[],0⟩,⟨[(21,4)],[],[],[],0⟩,⟨[(20,3),(22,5)],[],[0,1],[],0⟩,⟨[(23,6)],[],[],[],0⟩,⟨[(24,7)],[],[],[],0⟩,⟨[(25,8)],[],[0,1],[],0⟩,⟨[(26,9)],[],[],[],0⟩,⟨[],[],[],[],0⟩,⟨[(28,11)],[],[],[],0⟩,⟨[(29,12)],[],[0,1],[],0⟩,⟨[(27,10),(30,13)],[],[],[],0⟩,⟨[(19,2),(31,14)],[],[],[],0⟩,⟨[(32,15)],[],[],[],0⟩,⟨[],[],[],[],0⟩,⟨[],[],[],[],0⟩,⟨[(35,18)],[],[],[],0⟩,⟨[(34,17),(36,19)],[],[0,1],[],0⟩,⟨[(37,20)],[],[],[],0⟩,⟨[(38,21)],[],[0,1],[],0⟩,⟨[],[],[],[],0⟩,⟨[(40,23)],[],[0,1],[],0⟩,⟨[(39,22),(41,24)],[],[0,1],[],0⟩,⟨[(33,16),(42,25)],[],[],[],0⟩] (by kernel_rfl) rfl (by kernel_rfl) rfl rfl rfl fun KD hKD=>?_
  cases hy:J.getLast? with
  | none =>
   have hJ0:J=[]:=List.getLast?_eq_none_iff.1 hy
   subst hJ0
   simp only [Pu,List.getLast?_nil] at hs
   refine g ?_
   repeat' (first | refine st_ rfl (g ?_) | (refine hKD _ _ ⟨rfl,g ?_⟩;clear hKD KD))
   refine bs1 (by omega) rfl rfl rfl ⟨w1,w2,trivial,trivial⟩ ?_
   refine g ?_
   refine C4 rfl (by kernel_rfl) (by omega) (by kernel_rfl) rfl (by simp) ?_
   refine g ?_
   repeat' refine st_ rfl (g ?_)
   refine ⟨⟨m+1,hlt⟩,fun b=>if b=9900 then 5700 else b,⟨⟨rfl,rfl,rfl,rfl,trivial⟩,⟨?_,rfl,trivial⟩,by simp [Au,BA.id]⟩,by show s.length - (m+1) < s.length - m;omega⟩
   show some (BA.row _ _ _ _)=some (BA.row _ _ _ ((Kn (s.take (m+1))).map enZ))
   rw [hs]
   rfl
  | some y =>
   obtain ⟨D,hD⟩ : ∃ D,J.dropLast=D:=⟨_,rfl⟩
   have hl2:=Pt hy
   rw [hD] at hl2
   have hyF:=Eu hj.formed y (List.mem_of_getLast? hy)
   simp only [Ch,Bool.and_eq_true,decide_eq_true_eq] at hyF
   have hye:=Q6 hj.formed ⟨by decide,by decide⟩
   rw [Option.or_none,hy] at hye
   simp only [Bb] at hye
   simp only [Pu,hy,hD] at hs
   have hlen:J.length=D.length+1:=by rw [<-hl2];simp
   have hJget:J[D.length]? = some y:=by rw [<-hl2];simp
   have hget2:=Cb (f:=enZ) hJget
   have hcast:((J.length:Nat):Int) - 1=(D.length:Nat):=by omega
   have hi:((J.length:Int) - 1).toNat=D.length:=by omega
   refine g ?_
   repeat' (refine Pb rfl rfl (fun h e=>?_) (fun h e=>?_)<;>simp only [e]<;>clear e<;>refine g ?_)
   ·refine ⟨by omega,by omega,?_⟩
    rw [hi]
    refine g ?_
    repeat' refine Am (g ?_)
    refine ⟨_,hget2,?_⟩
    refine g ?_
    repeat' (first | refine st_ rfl (g ?_) | refine Am (g ?_) | (refine hKD _ _ ⟨rfl,g ?_⟩;clear hKD KD) | (refine Pb rfl rfl (fun h e=>?_) (fun h e=>?_)<;>simp only [e]<;>clear e<;>refine g ?_))
    ·refine ⟨by omega,by omega,?_⟩
     rw [hi]
     refine g ?_
     repeat' refine Am (g ?_)
     refine ⟨_,hget2,?_⟩
     refine g ?_
     repeat' (first | refine st_ rfl (g ?_) | refine Am (g ?_) | refine Bq (fun h=>g ?_) (fun h=>g ?_) | (refine hKD _ _ ⟨rfl,g ?_⟩;clear hKD KD) | refine Ab (T5 _ _) rfl (g ?_))
     ·refine ⟨by omega,by omega,?_⟩
      rw [hi]
      refine g ?_
      repeat' refine Am (g ?_)
      refine ⟨_,_,rfl,⟨w2,trivial⟩,hget2,?_⟩
      refine g ?_
      repeat' (first | refine st_ rfl (g ?_) | refine Am (g ?_))
      rename_i h1
      refine ⟨⟨m+1,hlt⟩,id,⟨⟨rfl,rfl,rfl,rfl,trivial⟩,⟨?_,rfl,trivial⟩,by simp [Au,BA.id]⟩,by show s.length - (m+1) < s.length - m;omega⟩
      show some (BA.row _ _ _ _)=some (BA.row _ _ _ ((Kn (s.take (m+1))).map enZ))
      rw [hs,if_pos ⟨h1,h⟩,<-hl2,List.map_append,List.map_append,List.set_append_right _ _ (by simp)]
      simp
      rfl
     ·refine bs1 (by omega) rfl rfl rfl ⟨w1,w2,trivial,trivial⟩ ?_
      refine g ?_
      refine C4 rfl (by kernel_rfl) (by omega) (by kernel_rfl) rfl (by simp;omega) ?_
      refine g ?_
      repeat' refine st_ rfl (g ?_)
      refine ⟨⟨m+1,hlt⟩,fun b=>if b=9900 then 5700 else b,⟨⟨rfl,rfl,rfl,rfl,trivial⟩,⟨?_,rfl,trivial⟩,by simp [Au,BA.id]⟩,by show s.length - (m+1) < s.length - m;omega⟩
      show some (BA.row _ _ _ _)=some (BA.row _ _ _ ((Kn (s.take (m+1))).map enZ))
      rw [hs,if_neg (fun q=>h q.2),List.map_append]
      rfl
    ·refine bs1 (by omega) rfl rfl rfl ⟨w1,w2,trivial,trivial⟩ ?_
     refine g ?_
     refine C4 rfl (by kernel_rfl) (by omega) (by kernel_rfl) rfl (by simp;omega) ?_
     refine g ?_
     repeat' refine st_ rfl (g ?_)
     refine ⟨⟨m+1,hlt⟩,fun b=>if b=9900 then 5700 else b,⟨⟨rfl,rfl,rfl,rfl,trivial⟩,⟨?_,rfl,trivial⟩,by simp [Au,BA.id]⟩,by show s.length - (m+1) < s.length - m;omega⟩
     show some (BA.row _ _ _ _)=some (BA.row _ _ _ ((Kn (s.take (m+1))).map enZ))
     rw [hs,if_neg (fun q=>h q.1),List.map_append]
     rfl
   ·omega
 ·obtain rfl:m=s.length:=by have:=of_decide_eq_false h;omega
  refine AW.exit ?_
  simp only [reduceIte]
  rw [List.take_length]
  refine g ?_
  repeat' refine st_ rfl (g ?_)
  exact ⟨fun b=>if b=0 then 9900 else b,fun _ _ _ h=>h,trivial,⟨rfl,rfl⟩,by simp⟩
end Go.Proofs.YthlgnjlpakimaaaGreatDoor
namespace Go.Proofs.YthlgnjlpakimaaaGreatDoor
open Go.ChangeShapes Go.WideShapes Go.ChangeAt Go.RowKit
attribute [local irreducible] AW AWY Cf Bf vop Bw Bh Bx qop Cg Cz Az Aw C5 A7 Bl
attribute [local go_sem] Gd Gn Ce Ee Fa Ap Ar
theorem Bw0 (ls:List (List Aa)):A7 Tryz.prog A9 119 [.iv (Bw4 ls)] (.iv (stI (Dq ls))) []:=(Q8 ls).frz trivial
theorem Bg6 (ls:List (List Ad)) (hs:Ec ls<=1073741824):A7 Tryz.prog A9 125 [.iv (Bw5 ls)] (.iv (spI (Ba ls.flatten))) []:=(Qi ls hs).frz trivial
theorem A36 (now:List Aa) (l:List Ad) (v:List Aa):(Tb now l v).length<=l.length:=by unfold Tb;split<;>simp
theorem Ax2 (n:Aq) (now:List Aa) (x:Ao):(Mp n now x).length<=256:=by
 unfold Mp
 rw [List.length_append]
 have h1:=A36 now (Ci [x.span] (Gx n (Hc x.vec n))) x.vec
 have h2:=A36 now (Fp [x.span] (Gx n (Hc x.vec n))) (Hc x.vec n)
 have h3:(Ci [x.span] (Gx n (Hc x.vec n))).length<=128:=Ea _
 have h4:(Fp [x.span] (Gx n (Hc x.vec n))).length<=128:=Ea _
 omega
theorem Ws (n:Aq) (now:List Aa):∀ l:List Ao,(Jr n now l).length<=256*l.length
 | []=>Nat.le_refl _
 | x :: l=>by
  have h1:=Ws n now l
  have h2:=Ax2 n now x
  have:Jr n now (x :: l)=Mp n now x++Jr n now l:=by simp [Jr]
  rw [this,List.length_append,List.length_cons]
  omega
theorem Bg1 {n:Aq} (h:Ag n=true) (far:List Aa):∀ m,((n.writes.take m).foldl (Gy far) n.blur).length<=128:=by
 intro m
 have:∀ (l:List Ai) (s:List Ad),s.length<=128->(l.foldl (Gy far) s).length<=128:=by
  intro l
  induction l with
  | nil=>exact fun s hs=>hs
  | cons w l ih =>
   intro s hs
   refine ih _ ?_
   unfold Gy
   split
   ·exact hs
   ·exact Ea _
 exact this _ _ ((Ei _).1 (Cl.1 h).2.2.2.1).1
theorem Z2 {q:List Ao×List Aa×Int} {e:Int} (h:q=([],[],e)):D1 (.tup [.val (.slice none 0 0),.val (.slice none 0 0),.val (.int .i64 e)]) (.tup [.iv (znI q.1),.iv (stI q.2.1),.val (.int .i64 q.2.2)]):=by
 subst h
 refine Je rfl fun p hp=>?_
 simp only [List.zip_cons_cons,List.zip_nil_right,List.mem_cons,List.not_mem_nil,or_false] at hp
 rcases hp with rfl | rfl | rfl
 ·exact Cs 3
 ·exact Cs 2
 ·exact D1.rfl_ _
set_option maxRecDepth 100000 in
set_option maxHeartbeats 3200000 in
theorem Au1 (z:List Ao) (known:List Aa) (n:Aq):A7 Tryz.prog A9 46 [.iv (znI z),.iv (stI known),F3 n] (.tup [.iv (znI (Hj z known n).1),.iv (stI (Hj z known n).2.1),.val (.int .i64 (Hj z known n).2.2)]) []:=by
 refine A7.ofS (n:=90) (rs:=[.tmp 6,.tmp 7,.tmp 8]) Tryz.func46 rfl (by kernel_rfl) Tryz.ntmps46 (by kernel_rfl) (by simp) (fun _ _=>A9.later) ?_
 intro hok V w0
 obtain ⟨R,hR⟩ : ∃ R,Hj z known n=R:=⟨_,rfl⟩
 rw [hR]
 unfold Hj Qd at hR
 have hwl:n.writes.length<=1073741824:=by simpa [wrI] using hok.2.2.1.2.2.2.1.1
 refine g ?_
 refine AW.seq ?_
 refine AW.reg rfl fun KK hKK=>?_
 refine g ?_
 repeat' (refine hKK _ (g ?_);clear hKK KK)
 refine AW.freeze 600 _ rfl ⟨trivial,trivial,trivial,trivial,trivial⟩ ?_
 simp only [go_sem,reduceIte,Nat.reduceEqDiff]
 refine g ?_
 repeat' (first | refine st_ rfl (g ?_) | refine C9 (fun h=>g ?_) (fun h=>g ?_) | (refine G9 rfl rfl (fun h=>?_) (fun h=>?_)<;>simp only [h]<;>refine g ?_) | refine Ab (Lt _) rfl (g ?_) | refine Ab (K4 _) rfl (g ?_) | refine Ab (Kc _) rfl (g ?_) | refine Ab (A22 _ _) rfl (g ?_))
 ·rw [if_neg (by simp at h;simp [h])] at hR
  exact Z2 hR.symm
 ·rw [if_neg (by simp at h;simp [h])] at hR
  exact Z2 hR.symm
 ·rw [if_neg (by simp at h;simp [h])] at hR
  exact Z2 hR.symm
 ·rename_i h1 h2 h3
  rw [if_pos (by simp at *;simp [*]),if_neg (by simp at h;simp [h])] at hR
  exact Z2 hR.symm
 rename_i h1 h2 h3
 have hz:Ay z=true:=by simpa using h1
 have hk:Ak known=true:=by simpa using h2
 have hn:Ag n=true:=by simpa using h3
 rw [if_pos (by simp [hz,hk,hn]),if_pos (by simpa using h)] at hR
 refine bd2 (by omega) rfl rfl rfl ⟨trivial,trivial⟩ rfl rfl rfl ⟨trivial,trivial⟩ ?_
 refine g ?_
 refine Ab (Bw0 [known,n.end_]) rfl ?_
 refine g ?_
 refine AW.freeze 1000 _ rfl ⟨trivial,trivial⟩ ?_
 simp only [go_sem,reduceIte,Nat.reduceEqDiff]
 refine g ?_
 repeat' (first | refine st_ rfl (g ?_) | refine Ab (Am7 _ _) rfl (g ?_))
 obtain ⟨now,hnow⟩ : ∃ now,Dq [known,n.end_]=now:=⟨_,rfl⟩
 have hkt:Bv known n=now:=hnow
 rw [hnow]
 rw [hkt] at hR
 obtain ⟨Z,hZ⟩ : ∃ Z,Ft (Fc z known n)=Z:=⟨_,rfl⟩
 rw [hZ] at hR
 subst hR
 simp only
 have hpin:=B94 hz hk
 have hzl:z.length<=256:=by
  have:(z.length:Int)<=255 - -1:=Wl hz (by decide)
  omega
 refine AW.adoptB 1100 9900 122 3 rfl rfl ?_
 refine AW.le (S:=⟨[(10,.bp 1100 0),(11,.bp 1200 0),(5,.ip [stI n.start,stI n.end_,spI n.blur,wrI n.writes]),(9,.ip [stI now]),(43,.fn 188 [.ip [znI z],.ip [stI known]])],[.row 9900 122 3 ((Jr n now []).map enZ),.box 1100 [.own 9900],.box 1200 [.fn 120 [.ip [stI now],.bp 1100 0]]]⟩) (ρ:=id) ⟨⟨rfl,rfl,rfl,rfl,rfl,trivial⟩,⟨rfl,rfl,rfl,trivial⟩,by simp [Au,BA.id]⟩ ?_
 refine AW.range (Am6 z known hz) [(10,.bp 1100 0),(11,.bp 1200 0)] [(5,.ip [stI n.start,stI n.end_,spI n.blur,wrI n.writes]),(9,.ip [stI now]),(43,.fn 188 [.ip [znI z],.ip [stI known]])] (fun pre=>[.row 9900 122 3 ((Jr n now pre).map enZ),.box 1100 [.own 9900],.box 1200 [.fn 120 [.ip [stI now],.bp 1100 0]]]) (fun _=>True) rfl trivial rfl rfl rfl rfl (fun x=>⟨rfl,rfl⟩) (fun c pre x hsp hI=>?_) (fun xs hS hI=>?_)
 ·have hl:=hsp.length_le
  have hl2:=A13 z known
  rw [List.length_append,List.length_singleton] at hl
  have hx:=hpin x (hsp.subset (by simp))
  have htl:=Ws n now pre
  have w1:I64 x.span.lo:=Ap6 (by simp;omega)
  have w2:I64 x.span.hi:=Ap6 (by simp;omega)
  have hsn:=Au3 n now pre x
  simp only [T9,Cj5,zoA,List.cons_append,List.nil_append]
  refine g ?_
  refine AW.reg rfl fun KK hKK=>?_
  refine g ?_
  repeat' (refine hKK _ (g ?_);clear hKK KK)
  refine AW.freeze 1300 _ rfl ⟨w1,w2,trivial,trivial⟩ ?_
  simp only [go_sem,reduceIte,Nat.reduceEqDiff]
  refine g ?_
  repeat' refine st_ rfl (g ?_)
  refine bd1 (by omega) rfl rfl rfl ⟨w1,w2,trivial⟩ ?_
  refine g ?_
  repeat' (first | refine st_ rfl (g ?_) | refine Ab (Zm x.vec n hx.2) rfl (g ?_))
  obtain ⟨far,hfar⟩ : ∃ far,Hc x.vec n=far:=⟨_,rfl⟩
  have hsl:=Bg1 hn far
  have hst:Gx n (Hc x.vec n)=(n.writes.take n.writes.length).foldl (Gy far) n.blur:=by rw [hfar,List.take_length];rfl
  rw [hfar]
  refine AW.loop (fun m:{m:Nat // m<=n.writes.length}=>⟨[(10,.bp 1100 0),(11,.bp 1200 0),(12,.ip [.val (.int .i64 x.span.lo),.val (.int .i64 x.span.hi),stI x.vec]),(13,.iv (spI [x.span])),(14,.iv (stI far)),(15,.iv (spI ((n.writes.take m.1).foldl (Gy far) n.blur))),(55,.iv (wrI n.writes)),(56,.val (.int .i64 (n.writes.length:Nat))),(57,.val (.int .i64 (m.1:Nat)))],[.row 9900 122 3 ((Jr n now pre).map enZ),.box 1100 [.own 9900],.box 1200 [.fn 120 [.ip [stI now],.bp 1100 0]]]⟩) (fun m=>n.writes.length - m.1) ⟨0,Nat.zero_le _⟩ id ⟨⟨rfl,rfl,rfl,rfl,rfl,rfl,rfl,?_,rfl,trivial⟩,⟨rfl,rfl,rfl,trivial⟩,by simp [Au,BA.id]⟩ fun ⟨m,hm⟩=>?_
  ·simp [AV.ren,Co]
  simp only
  repeat (refine AW.seq ?_)
  refine AW.reg rfl fun KK hKK=>?_
  refine g ?_
  repeat' (refine hKK _ (g ?_);clear hKK KK)
  repeat (refine AW.seq ?_)
  refine st_ rfl ?_
  refine g ?_
  refine C9 (fun h=>?_) (fun h=>?_)
  ·have hlt:m < n.writes.length:=by have:=of_decide_eq_true h;omega
   have hget:=Cb (f:=enW) (List.getElem?_eq_getElem hlt)
   obtain ⟨-,o1,o2,o3,-⟩:=En (by simpa [wrI] using hok.2.2.1.2.2.2.1.2) (enW n.writes[m]) (List.mem_map_of_mem (List.getElem_mem hlt))
   have hs:=List.foldl_append (f:=Gy far) (b:=n.blur) (l:=n.writes.take m) (l':=[n.writes[m]])
   rw [<-List.take_succ_eq_append_getElem hlt] at hs
   have hsm:=hsl m
   obtain ⟨S,hS⟩ : ∃ S,(n.writes.take m).foldl (Gy far) n.blur=S:=⟨_,rfl⟩
   rw [hS] at hs hsm ⊢
   simp only [List.foldl_cons,List.foldl_nil,Gy] at hs
   refine g ?_
   repeat' (first | refine st_ rfl (g ?_) | refine C9 (fun h=>g ?_) (fun h=>g ?_) | refine ix_ (by omega) (g ?_) | refine Ab (A70 far n.writes[m].stamp) rfl (g ?_))
   ·obtain ⟨o,ho⟩ : ∃ o,n.writes[m].object=o:=⟨_,rfl⟩
    rw [ho] at hs ⊢
    have o3:I64 o:=by rw [<-ho];exact o3
    refine bd1 (by omega) rfl rfl rfl ⟨o3,trivial⟩ ?_
    refine g ?_
    repeat' refine Ab (Bt4 [o]) rfl (g ?_)
    obtain ⟨T,hT⟩ : ∃ T,Ba (Ln [o])=T:=⟨_,rfl⟩
    have hTl:T.length<=128:=by rw [<-hT];exact Ea _
    rw [hT] at hs ⊢
    refine bd2 (by omega) rfl rfl rfl ⟨trivial,trivial⟩ rfl rfl rfl ⟨trivial,trivial⟩ ?_
    refine g ?_
    repeat' (first | refine st_ rfl (g ?_) | refine Ab (Bg6 [S,T] (by simp [Ec];omega)) rfl (g ?_))
    refine ⟨⟨m+1,hlt⟩,id,⟨⟨rfl,rfl,rfl,rfl,rfl,?_,rfl,rfl,rfl,trivial⟩,⟨rfl,rfl,rfl,trivial⟩,by simp [Au,BA.id]⟩,by show n.writes.length - (m+1) < n.writes.length - m;omega⟩
    show _=AV.iv (spI _)
    rw [hs,if_neg (by simpa using h)]
    simp
    rfl
   ·refine ⟨⟨m+1,hlt⟩,id,⟨⟨rfl,rfl,rfl,rfl,rfl,?_,rfl,rfl,rfl,trivial⟩,⟨rfl,rfl,rfl,trivial⟩,by simp [Au,BA.id]⟩,by show n.writes.length - (m+1) < n.writes.length - m;omega⟩
    show _=AV.iv (spI _)
    rw [hs,if_pos (by simpa using h)]
    rfl
  ·obtain rfl:m=n.writes.length:=by have:=of_decide_eq_false h;omega
   refine AW.exit ?_
   simp only [reduceIte]
   rw [<-hst]
   have hp1:=Am0 (Ci [x.span] (Gx n (Hc x.vec n))) x.vec now (Jr n now pre) (Ea _) (by omega)
   obtain ⟨Z1,hZ1⟩ : ∃ Z1,Jr n now pre++Tb now (Ci [x.span] (Gx n (Hc x.vec n))) x.vec=Z1:=⟨_,rfl⟩
   have hZl:Z1.length<=256*pre.length+128:=by
    rw [<-hZ1,List.length_append]
    have h1:=A36 now (Ci [x.span] (Gx n (Hc x.vec n))) x.vec
    have h2:(Ci [x.span] (Gx n (Hc x.vec n))).length<=128:=Ea _
    omega
   rw [hZ1] at hp1
   have hp2:=Am0 (Fp [x.span] (Gx n (Hc x.vec n))) far now Z1 (Ea _) (by omega)
   have hend:Z1++Tb now (Fp [x.span] (Gx n (Hc x.vec n))) far=Jr n now (pre++[x]):=by
    rw [hsn,<-hZ1,List.append_assoc,<-hfar]
    rfl
   rw [hend] at hp2
   generalize Gx n (Hc x.vec n)=stays at hp1 hp2 ⊢
   refine AW.seq ?_
   refine AW.drawn (ds:=[74,75,76,77,78,79,80]) (fin:=[2,3,4]) (bs:=[3,3,3,3,3,3,3]) [⟨[],[],[0,1,2],[],0⟩,⟨[],[],[],[],0⟩,⟨[],[],[],[],0⟩,⟨[(75,1),(76,2)],[],[0,1,2],[],0⟩,⟨[],[],[],[],0⟩,⟨[(78,4)],[],[0,1,2],[],0⟩,⟨[(74,0),(77,3),(79,5)],[],[2],[0,1],2⟩] (by kernel_rfl) rfl (by kernel_rfl) rfl rfl rfl fun KD hKD=>?_
   refine g ?_
   repeat' refine Ab (Vb _ _) rfl (g ?_)
   refine Uo [] [.box 1200 [.fn 120 [.ip [stI now],.bp 1100 0]]] (fun b=>if b=0 then 1100 else 9900) hp1 rfl rfl rfl (g ?_)
   refine g ?_
   repeat' (refine hKD _ _ ⟨rfl,g ?_⟩;clear hKD KD)
   refine AW.drawn (ds:=[81,82,83,84,85,86]) (fin:=[0,3,4]) (bs:=[3,3,3,3,3,3]) [⟨[],[],[0,1,2],[],0⟩,⟨[],[],[],[],0⟩,⟨[],[],[],[],0⟩,⟨[(82,1),(83,2)],[],[0,1,2],[],0⟩,⟨[],[],[],[],0⟩,⟨[(81,0),(84,3),(85,4)],[],[0],[1,2],2⟩] (by kernel_rfl) rfl (by kernel_rfl) rfl rfl rfl fun KD hKD=>?_
   refine g ?_
   repeat' refine Ab (Ad8 _ _) rfl (g ?_)
   refine Uo [] [.box 1200 [.fn 120 [.ip [stI now],.bp 1100 0]]] (fun b=>if b=0 then 1100 else 8102) hp2 rfl rfl rfl (g ?_)
   refine g ?_
   repeat' (refine hKD _ _ ⟨rfl,g ?_⟩;clear hKD KD)
   exact ⟨trivial,fun b=>if b=9900 then 8702 else b,⟨rfl,rfl,trivial⟩,⟨rfl,rfl,rfl,trivial⟩,by simp [Au,BA.id]⟩
 ·subst hS
  obtain ⟨s,hs⟩ : ∃ s,(Jr n now (Dt z known)).mergeSort (fun a b=>decide (a.span.lo<=b.span.lo))=s:=⟨_,rfl⟩
  have hp:s.Perm (Jr n now (Dt z known)):=by rw [<-hs];exact List.mergeSort_perm _ _
  have hle:s.Pairwise fun a b=>a.span.lo<=b.span.lo:=by
   have h1:=List.pairwise_mergeSort (le:=fun a b:Ao=>decide (a.span.lo<=b.span.lo)) (fun a b c h1 h2=>by simp at *;omega) (fun a b=>by simp;omega) (Jr n now (Dt z known))
   rw [hs] at h1
   exact h1.imp fun h=>by simpa using h
  have hpf:=Tq hz hk
  have hA:Sk s:=Va hp hle (Wr hpf.2 hpf.1) fun x hx=>A76 hpf.1 hx
  have hT:=B72 (z:=z) (known:=known) (n:=n) (by simp [Qd,hz,hk,hn]) (by rw [hkt];exact hp) hle
  have hsl:s.length<=1000000:=by
   have h1:=Ws n now (Dt z known)
   have h2:=A13 z known
   rw [hp.length_eq]
   omega
  have hj:=Ao8 hp hA hsl
  rw [hT,hZ] at hj
  refine g ?_
  refine AW.seq ?_
  refine AW.drawn (ds:=[87,88,89,6,7,8]) (fin:=[1,2,3]) (bs:=[3,3,4,4,4,4]) [⟨[],[],[0,1,2],[],0⟩,⟨[(87,0)],[],[1,2],[0],1⟩,⟨[],[],[1,2],[],0⟩,⟨[(88,1)],[],[],[],0⟩,⟨[(89,2)],[],[],[],0⟩,⟨[],[],[],[],0⟩] (by kernel_rfl) rfl (by kernel_rfl) rfl rfl rfl fun KD hKD=>?_
  refine g ?_
  refine Uo [] [.box 1100 [.own 9900],.box 1200 [.fn 120 [.ip [stI now],.bp 1100 0]]] (fun _=>9900) hj rfl rfl rfl (g ?_)
  refine g ?_
  repeat' (refine hKD _ _ ⟨rfl,g ?_⟩;clear hKD KD)
  refine AW.freeze 8900 _ rfl trivial ?_
  simp only [go_sem,reduceIte,Nat.reduceEqDiff]
  refine g ?_
  repeat' refine st_ rfl (g ?_)
  exact D1.rfl_ _
end Go.Proofs.YthlgnjlpakimaaaGreatDoor
namespace Go.Proofs.YthlgnjlpakimaaaGreatDoor
open Go.ChangeShapes Go.WideShapes Go.ChangeAt Go.RowKit
attribute [local irreducible] AW AWY Cf Bf vop Bw Bh Bx qop Cg Cz Az Aw C5 A7 Bl Cj
attribute [local go_sem] Fl Ap Ar
def Cq9 (v:Br) (it:List Ad):List Aa:=if Al v=true then Bw8 v.zones v.known it else []
end Go.Proofs.YthlgnjlpakimaaaGreatDoor
namespace Go.Proofs.YthlgnjlpakimaaaGreatDoor
open Go.ChangeShapes Go.WideShapes Go.ChangeAt Go.RowKit
attribute [local irreducible] AW AWY Cf Bf vop Bw Bh Bx qop Cg Cz Az Aw C5 A7 Bl Cj
theorem Q9 (v:Br) (iR:I64 v.room):A7 Tryz.prog A9 45 [vwA v] (.val (.bool (Al v))) []:=Bo4 (fun l r h=>Ag9 l r h) v iR
end Go.Proofs.YthlgnjlpakimaaaGreatDoor
namespace Go.Proofs.YthlgnjlpakimaaaGreatDoor
open Go.ChangeShapes Go.WideShapes Go.ChangeAt Go.RowKit
attribute [local irreducible] AW AWY Cf Bf vop Bw Bh Bx qop Cg Cz Az Aw C5 A7 Bl
attribute [local go_sem] Gd Gn Jl Jo Hw Mx Fa Ee Jp Fl Ce Ap Ar
theorem Az2 (z:List Ao) (k:List Aa) (w:Ai):A7 Tryz.prog A9 49 [wA w,.ip [znI z],.ip [stI k]] (.val (.bool (!Ej z k w))) []:=by
 refine A7.of (n:=10) (rs:=[.tmp 4]) Tryz.func49 rfl (by kernel_rfl) Tryz.ntmps49 (by kernel_rfl) (by simp) (fun _ _=>A9.later) ?_
 intro hok V w0
 refine g ?_
 repeat' (first | refine st_ rfl (g ?_) | exact trivial | refine Ab (Vn _ _ _) rfl (g ?_))
theorem Av6 (w:Ai) (x:Ct):A7 Tryz.prog A9 54 [boA x,.ip (enW w)] (.val (.bool (decide (x.object=w.object)))) []:=by
 refine A7.of (n:=9) (rs:=[.tmp 3]) Tryz.func54 rfl (by kernel_rfl) Tryz.ntmps54 (by kernel_rfl) (by simp) (fun _ _=>A9.later) ?_
 intro hok V w0
 refine g ?_
 repeat' (first | refine st_ rfl (g ?_) | exact trivial)
theorem B20 {q:Br×Int} {e:Int} (h:q=(Uf,e)):D1 (.tup [.agg [.val (.slice none 0 0),.val (.slice none 0 0),.val (.slice none 0 0),.val (.slice none 0 0),.val (.int .i64 0)],.val (.int .i64 e)]) (.tup [vwA q.1,.val (.int .i64 q.2)]):=by
 subst h
 refine Je rfl fun p hp=>?_
 simp only [List.zip_cons_cons,List.zip_nil_right,List.mem_cons,List.not_mem_nil,or_false] at hp
 rcases hp with rfl | rfl
 ·refine Z8 rfl fun p hp=>?_
  simp only [List.zip_cons_cons,List.zip_nil_right,List.mem_cons,List.not_mem_nil,or_false] at hp
  rcases hp with rfl | rfl | rfl | rfl | rfl
  ·exact Cs 2
  ·exact Cs 3
  ·exact Cs 4
  ·exact Cs 4
  ·exact D1.rfl_ _
 ·exact D1.rfl_ _
set_option maxRecDepth 100000 in
set_option maxHeartbeats 3200000 in
theorem Ty (v:Br) (n:Aq) (iR:I64 v.room):A7 Tryz.prog A9 12 [vwA v,F3 n] (.tup [vwA (Cu v n).1,.val (.int .i64 (Cu v n).2)]) []:=by
 refine A7.ofS (n:=85) (rs:=[.cell 4 30,.tmp 5]) Tryz.func12 rfl (by kernel_rfl) Tryz.ntmps12 (by kernel_rfl) (by simp) (fun _ _=>A9.later) ?_
 intro hok V w0
 obtain ⟨R,hR⟩ : ∃ R,Cu v n=R:=⟨_,rfl⟩
 rw [hR]
 unfold Cu at hR
 have hwl:n.writes.length<=1073741824:=by simpa [wrI] using hok.2.1.2.2.2.1.1
 refine g ?_
 refine AW.seq ?_
 refine AW.reg rfl fun KK hKK=>?_
 refine g ?_
 repeat' (refine hKK _ (g ?_);clear hKK KK)
 refine AW.freeze 300 _ rfl ⟨trivial,trivial,trivial,trivial,iR,trivial⟩ ?_
 simp only [go_sem,reduceIte,Nat.reduceEqDiff]
 refine AW.freeze 400 _ rfl ⟨trivial,trivial,trivial,trivial,trivial⟩ ?_
 simp only [go_sem,reduceIte,Nat.reduceEqDiff]
 refine g ?_
 repeat' (first | refine st_ rfl (g ?_) | refine C9 (fun h=>g ?_) (fun h=>g ?_) | refine Ab (Q9 v iR) rfl (g ?_))
 ·rw [if_neg (by simpa using h)] at hR
  exact B20 hR.symm
 have hF:Al v=true:=by simpa using h
 rw [if_pos hF] at hR
 obtain ⟨T,hT⟩ : ∃ T,Hj v.zones v.known n=T:=⟨_,rfl⟩
 have htk:=Au1 v.zones v.known n
 rw [hT] at htk hR
 obtain ⟨Z,K,e⟩:=T
 simp only at htk hR
 refine Ab htk rfl (g ?_)
 refine g ?_
 refine AW.freeze 700 _ rfl ⟨trivial,trivial⟩ ?_
 simp only [go_sem,reduceIte,Nat.reduceEqDiff]
 refine AW.freeze 800 _ rfl ⟨trivial,trivial⟩ ?_
 simp only [go_sem,reduceIte,Nat.reduceEqDiff]
 refine g ?_
 repeat' (first | refine st_ rfl (g ?_) | refine Bq (fun h=>g ?_) (fun h=>g ?_) | refine Ab (Sd _) rfl (g ?_))
 ·rw [if_neg h] at hR
  exact B20 hR.symm
 obtain rfl:e=0:=by simpa using h
 rw [if_pos rfl] at hR
 have hfl:(n.writes.filter fun x=>!!Ej Z K x)=Gg Z K n:=by simp [Gg]
 have hdel:=Bc6 49 [znI Z] [stI K] (fun w=>!Ej Z K w) (Az2 Z K) n.writes hwl fun x hx=>by
  obtain ⟨-,o1,o2,o3,-⟩:=En (by simpa [wrI] using hok.2.1.2.2.2.1.2) (enW x) (List.mem_map_of_mem hx)
  exact ⟨o1,o2,o3⟩
 simp only [hfl] at hdel
 have hoI:∀ x∈Gg Z K n,I64 x.stamp.count/\I64 x.stamp.node/\I64 x.object:=fun x hx=>by
  obtain ⟨-,o1,o2,o3,-⟩:=En (by simpa [wrI] using hok.2.1.2.2.2.1.2) (enW x) (List.mem_map_of_mem (List.mem_filter.1 hx).1)
  exact ⟨o1,o2,o3⟩
 refine Uo [] [.box 500 [.val (.slice none 0 0),.val (.slice none 0 0),.val (.slice none 0 0),.val (.slice none 0 0),.val (.int .i64 0)]] (fun _=>3600) hdel rfl rfl rfl (g ?_)
 have htr:(Gg Z K n).all Di=true:=List.all_eq_true.2 Ks
 have hend:=B76 (z:=Z) (k:=K) (n:=n) hF
 have honce:=B66 hF
 have hhf:Bk v.held=true:=by
  simp only [Al,F9,Bool.and_eq_true] at hF
  exact hF.1.1.1.1.2
 have hput:=Av4 v.held (Gg Z K n)
 unfold Bi0 at hput
 rw [if_pos ⟨hhf,htr⟩] at hput
 have hHf:Bk (Mo v.held (Gg Z K n))=true:=Fd.2 (Qp (Fd.1 hhf) Ks)
 obtain ⟨told,htold⟩ : ∃ told,Gg Z K n=told:=⟨_,rfl⟩
 rw [htold] at hput hend hHf hR hoI ⊢
 obtain ⟨H,hH⟩ : ∃ H,Mo v.held told=H:=⟨_,rfl⟩
 rw [hH] at hput hend hHf hR
 have htl:told.length<=1073741824:=by rw [<-htold];exact Nat.le_trans (List.length_filter_le _ _) hwl
 refine g ?_
 refine AW.freeze 3800 _ rfl trivial ?_
 simp only [go_sem,reduceIte,Nat.reduceEqDiff]
 have hfg:=Aq1 v.bodies (-1)
 rw [Ai3 hF] at hfg
 refine g ?_
 repeat' (first | refine st_ rfl (g ?_) | refine Ab (hput) rfl (g ?_) | refine Ab (hfg) rfl (g ?_))
 refine AW.loop (fun m:{m:Nat // m<=told.length}=>⟨[(2,.ip [stI v.known,znI v.zones,wrI v.held,boI v.bodies,.val (.int .i64 v.room)]),(4,.bp 500 0),(6,.ip [znI Z]),(7,.ip [stI K]),(10,.iv (wrI H)),(11,.own 5200),(52,.iv (wrI told)),(53,.val (.int .i64 (told.length:Nat))),(54,.val (.int .i64 (m.1:Nat)))],[.row 5200 44 4 ((V8 H (told.take m.1) v.bodies).map enB),.box 500 [.val (.slice none 0 0),.val (.slice none 0 0),.val (.slice none 0 0),.val (.slice none 0 0),.val (.int .i64 0)]]⟩) (fun m=>told.length - m.1) ⟨0,Nat.zero_le _⟩ id ⟨⟨rfl,rfl,rfl,rfl,rfl,rfl,rfl,?_,rfl,trivial⟩,⟨?_,rfl,trivial⟩,by simp [Au,BA.id]⟩ fun ⟨m,hm⟩=>?_
 ·simp [AV.ren,Co]
 ·rw [List.take_zero,B75]
  rfl
 simp only
 repeat (refine AW.seq ?_)
 refine AW.reg rfl fun KK hKK=>?_
 refine g ?_
 repeat' (refine hKK _ (g ?_);clear hKK KK)
 repeat (refine AW.seq ?_)
 refine st_ rfl ?_
 refine g ?_
 refine C9 (fun h=>?_) (fun h=>?_)
 ·have hlt:m < told.length:=by have:=of_decide_eq_true h;omega
  have hs:=Au7 H (told.take m) told[m] v.bodies
  rw [<-List.take_succ_eq_append_getElem hlt] at hs
  have hon:=Au8 (H:=H) (t:=told.take m) honce
  have hLl:(V8 H (told.take m) v.bodies).length<=256:=Nat.le_trans (List.length_filter_le _ _) (Be8 hF)
  obtain ⟨L,hL⟩ : ∃ L,V8 H (told.take m) v.bodies=L:=⟨_,rfl⟩
  rw [hL] at hs hon hLl ⊢
  obtain ⟨w,hw⟩ : ∃ w,told[m]=w:=⟨_,rfl⟩
  have hget:=Cb (f:=enW) (List.getElem?_eq_getElem hlt)
  rw [hw] at hs hget
  have hidx:=Ab3 L 54 (enW w) (fun x=>decide (x.object=w.object)) fun x=>Av6 w x
  obtain ⟨o1,o2,o3⟩:=hoI w (hw ▸ List.getElem_mem hlt)
  refine st_ rfl (g ?_)
  refine AW.seq ?_
  refine AW.block ?_
  repeat (refine AW.seq ?_)
  refine AW.reg rfl fun KK hKK=>?_
  refine g ?_
  refine ⟨by omega,_,hget,?_⟩
  refine g ?_
  repeat' (first | refine Am (g ?_) | (refine hKK _ (g ?_);clear hKK KK))
  refine AW.freeze 1400 _ rfl ⟨o1,o2,o3,trivial,trivial⟩ ?_
  simp only [go_sem,reduceIte,Nat.reduceEqDiff]
  cases ha:L.any fun x=>decide (x.object=w.object) with
  | false =>
   rw [Ba8 ha] at hs
   rw [ha,if_neg (by decide)] at hidx
   refine g ?_
   repeat' refine st_ rfl (g ?_)
   refine Lo hidx (by simp [Ta,Gj];exact ⟨trivial,rfl⟩) rfl (fun _ h=>by cases h) (Sbs.rfl_ _) rfl (g ?_)
   refine g ?_
   repeat' refine st_ rfl (g ?_)
   refine ⟨⟨m+1,hlt⟩,id,⟨⟨rfl,rfl,rfl,rfl,rfl,rfl,rfl,rfl,rfl,trivial⟩,⟨?_,rfl,trivial⟩,by simp [Au,BA.id]⟩,by show told.length - (m+1) < told.length - m;omega⟩
   rw [hs]
   rfl
  | true =>
   obtain ⟨hl,hp1,hf⟩:=B46 ha
   rw [ha,if_pos rfl] at hidx
   generalize L.findIdx (fun x=>decide (x.object=w.object))=i at hl hp1 hf hidx
   rw [Bk1 (q:=Df H) hon hl (of_decide_eq_true hp1)] at hs
   have hgi:=Cb (f:=enB) (List.getElem?_eq_getElem hl)
   refine g ?_
   repeat' refine st_ rfl (g ?_)
   refine Lo hidx (by simp [Ta,Gj];exact ⟨trivial,rfl⟩) rfl (fun _ h=>by cases h) (Sbs.rfl_ _) rfl (g ?_)
   refine g ?_
   repeat' refine st_ rfl (g ?_)
   refine ⟨by omega,hl,?_⟩
   refine g ?_
   repeat' refine Am (g ?_)
   refine ⟨_,hgi,?_⟩
   refine g ?_
   repeat' (first | refine st_ rfl (g ?_) | refine Am (g ?_) | refine C9 (fun h=>g ?_) (fun h=>g ?_) | refine Ab (Xx H L[i] hHf) rfl (g ?_))
   ·have hq:¬ Df H L[i]=true:=by simpa using h
    rw [if_neg hq] at hs
    refine Uo [] [.box 500 [.val (.slice none 0 0),.val (.slice none 0 0),.val (.slice none 0 0),.val (.slice none 0 0),.val (.int .i64 0)]] (fun _=>5200) (Bc7 L i hl) rfl rfl rfl (g ?_)
    refine g ?_
    repeat' refine st_ rfl (g ?_)
    refine ⟨⟨m+1,hlt⟩,fun b=>if b=5200 then 7700 else b,⟨⟨rfl,rfl,rfl,rfl,rfl,rfl,rfl,rfl,rfl,trivial⟩,⟨?_,rfl,trivial⟩,by simp [Au,BA.id]⟩,by show told.length - (m+1) < told.length - m;omega⟩
    rw [hs]
    rfl
   ·have hq:Df H L[i]=true:=by simpa using h
    rw [if_pos hq] at hs
    refine ⟨⟨m+1,hlt⟩,id,⟨⟨rfl,rfl,rfl,rfl,rfl,rfl,rfl,rfl,rfl,trivial⟩,⟨?_,rfl,trivial⟩,by simp [Au,BA.id]⟩,by show told.length - (m+1) < told.length - m;omega⟩
    rw [hs]
    rfl
 ·obtain rfl:m=told.length:=by have:=of_decide_eq_false h;omega
  rw [List.take_length,hend]
  refine AW.exit ?_
  simp only [reduceIte]
  refine AW.freeze 5200 _ rfl trivial ?_
  simp only [go_sem,reduceIte,Nat.reduceEqDiff]
  refine g ?_
  repeat' refine st_ rfl (g ?_)
  subst hR
  exact D1.rfl_ _
end Go.Proofs.YthlgnjlpakimaaaGreatDoor
namespace Go.Proofs.YthlgnjlpakimaaaGreatDoor
open Go.ChangeShapes Go.WideShapes Go.ChangeAt Go.RowKit
attribute [local irreducible] AW AWY Cf Bf vop Bw Bh Bx qop Cg Cz Az Aw C5 A7 Bl
attribute [local go_sem] Jl Jo Hw Mx Fa Ee Jp Gd Gn Fl Ce Ap Ar
end Go.Proofs.YthlgnjlpakimaaaGreatDoor
namespace Go.Proofs.YthlgnjlpakimaaaGreatDoor
open Go.ChangeShapes Go.WideShapes Go.ChangeAt Go.RowKit
attribute [local irreducible] AW AWY Cf Bf vop Bw Bh Bx qop Cg Cz Az Aw C5 A7 Bl
attribute [local go_sem] Jl Jo Hw Fa Ee Jp Gd Gn Fl Ce Ap Ar
end Go.Proofs.YthlgnjlpakimaaaGreatDoor
namespace Go.Proofs.YthlgnjlpakimaaaGreatDoor
open Go.ChangeShapes Go.WideShapes Go.ChangeAt Go.RowKit
attribute [local irreducible] AW AWY Cf Bf vop Bw Bh Bx qop Cg Cz Az Aw C5 A7 Bl
attribute [local go_sem] Jl Jo Hw Fa Ee Jp Gd Gn Fl Ce Ap Ar
theorem Vm {q:List Nat×Ai×Int} {e:Int} (h:q=([],noW,e)):D1 (.tup [.val (.slice none 0 0),.agg [.val (.int .i64 0),.val (.int .i64 0),.val (.int .i64 0),.val (.bool false)],.val (.int .i64 e)]) (.tup [.iv (byI q.1),wA q.2.1,.val (.int .i64 q.2.2)]):=by
 subst h
 refine Je rfl fun p hp=>?_
 simp only [List.zip_cons_cons,List.zip_nil_right,List.mem_cons,List.not_mem_nil,or_false] at hp
 rcases hp with rfl | rfl | rfl
 ·exact Cs 1
 ·exact D1.rfl_ _
 ·exact D1.rfl_ _
theorem By4 {l:List Ai} {o:Int} {w:Ai} (h:E6 l o=some w) (hI:∀ x∈l,I64 x.stamp.count/\I64 x.stamp.node/\I64 x.object):I64 w.stamp.count/\I64 w.stamp.node/\I64 w.object:=hI w (List.mem_of_find?_eq_some h)
set_option maxRecDepth 100000 in
set_option maxHeartbeats 3200000 in
theorem Zc (v:Br) (o:Int) (iR:I64 v.room) (iO:I64 o):A7 Tryz.prog A9 17 [vwA v,.val (.int .i64 o)] (.tup [.iv (byI (Tp v o).1),wA (Tp v o).2.1,.val (.int .i64 (Tp v o).2.2)]) []:=by
 refine A7.ofS (n:=55) (rs:=[.tmp 4,.cell 5 49,.tmp 6]) Tryz.func17 rfl (by kernel_rfl) Tryz.ntmps17 (by kernel_rfl) (by simp) (fun _ _=>A9.later) ?_
 intro hok V w0
 obtain ⟨R,hR⟩ : ∃ R,Tp v o=R:=⟨_,rfl⟩
 rw [hR]
 unfold Tp at hR
 have hI:∀ x∈v.held,I64 x.stamp.count/\I64 x.stamp.node/\I64 x.object:=fun x hx=>by
  obtain ⟨-,o1,o2,o3,-⟩:=En (by simpa [wrI] using hok.1.2.2.1.2) (enW x) (List.mem_map_of_mem hx)
  exact ⟨o1,o2,o3⟩
 refine g ?_
 refine AW.seq ?_
 refine AW.reg rfl fun KK hKK=>?_
 refine g ?_
 repeat' (refine hKK _ (g ?_);clear hKK KK)
 refine AW.freeze 300 _ rfl ⟨trivial,trivial,trivial,trivial,iR,trivial⟩ ?_
 simp only [go_sem,reduceIte,Nat.reduceEqDiff]
 refine g ?_
 repeat' (first | refine st_ rfl (g ?_) | refine Bq (fun h=>g ?_) (fun h=>g ?_) | refine C9 (fun h=>g ?_) (fun h=>g ?_) | (refine Ef rfl rfl (fun h e=>?_) (fun h e=>?_)<;>simp only [e]<;>clear e<;>refine g ?_) | (refine G9 rfl rfl (fun h=>?_) (fun h=>?_)<;>simp only [h]<;>refine g ?_) | refine Ab (Q9 v iR) rfl (g ?_) | refine Ab (Za _) rfl (g ?_) | refine Ab (Wy _ _) rfl (g ?_))
 ·rw [if_neg (by rintro ⟨a,_⟩;simp [a] at h)] at hR
  exact Vm hR.symm
 ·rw [if_neg (by rintro ⟨_,a⟩;simp [Fo] at a;omega)] at hR
  exact Vm hR.symm
 ·rw [if_neg (by rintro ⟨_,a⟩;simp [Fo] at a;omega)] at hR
  exact Vm hR.symm
 ·rw [if_pos ⟨by simpa using (by assumption:(!Al v)=false),by simp [Fo];omega⟩,if_pos h] at hR
  exact Vm hR.symm
 rename_i h1 h2 h3
 have hF:Al v=true:=by simpa using h1
 have hO:Fo o=true:=by simp [Fo];omega
 rw [if_pos ⟨hF,hO⟩,if_neg (by simp [h])] at hR
 have hhf:Bk v.held=true:=by
  simp only [Al,F9,Bool.and_eq_true] at hF
  exact hF.1.1.1.1.2
 have hget:=Zx v.held o
 unfold A66 at hget
 rw [if_pos hhf] at hget
 cases hg:E6 v.held o with
 | none =>
  rw [hg] at hget hR
  simp only at hget hR
  refine Ab hget rfl (g ?_)
  refine g ?_
  refine AW.freeze 800 _ rfl ⟨rfl,rfl,rfl,trivial,trivial⟩ ?_
  simp only [go_sem,reduceIte,Nat.reduceEqDiff]
  refine g ?_
  repeat' refine st_ rfl (g ?_)
  refine AW.drawn (ds:=[41,42,4,6]) (fin:=[1]) (bs:=[1,1,1,1,2]) [⟨[],[],[0],[],0⟩,⟨[],[],[],[],0⟩,⟨[],[],[],[],0⟩,⟨[(41,0)],[],[],[0],1⟩,⟨[(42,1)],[],[],[],0⟩] (by kernel_rfl) rfl (by kernel_rfl) rfl rfl rfl fun KD hKD=>?_
  refine g ?_
  repeat' (first | refine st_ rfl (g ?_) | (refine hKD _ _ ⟨rfl,g ?_⟩;clear hKD KD))
  exact Vm hR.symm
 | some w =>
  rw [hg] at hget hR
  simp only at hget hR
  obtain ⟨w1,w2,w3⟩:=By4 hg hI
  refine Ab hget rfl (g ?_)
  refine g ?_
  refine AW.freeze 800 _ rfl ⟨w1,w2,w3,trivial,trivial⟩ ?_
  simp only [go_sem,reduceIte,Nat.reduceEqDiff]
  refine g ?_
  repeat' (first | refine st_ rfl (g ?_) | refine C9 (fun h=>g ?_) (fun h=>g ?_) | refine Ab (Bd1 v.bodies o w.stamp iO w1 w2) rfl (g ?_))
  ·rw [if_pos h] at hR
   subst hR
   refine AW.drawn (ds:=[41,42,4,6]) (fin:=[1]) (bs:=[1,1,1,1,2]) [⟨[],[],[0],[],0⟩,⟨[],[],[],[],0⟩,⟨[],[],[],[],0⟩,⟨[(41,0)],[],[],[0],1⟩,⟨[(42,1)],[],[],[],0⟩] (by kernel_rfl) rfl (by kernel_rfl) rfl rfl rfl fun KD hKD=>?_
   refine g ?_
   repeat' (first | refine st_ rfl (g ?_) | (refine hKD _ _ ⟨rfl,g ?_⟩;clear hKD KD))
   refine Je rfl fun p hp=>?_
   simp only [List.zip_cons_cons,List.zip_nil_right,List.mem_cons,List.not_mem_nil,or_false] at hp
   rcases hp with rfl | rfl | rfl
   ·exact Cs 1
   ·exact D1.rfl_ _
   ·exact D1.rfl_ _
  ·rw [if_neg (by simp [h])] at hR
   subst hR
   refine AW.drawn (ds:=[52,53,54,4,6]) (fin:=[1]) (bs:=[1,1,1,1,1,2]) [⟨[],[],[],[],0⟩,⟨[],[],[0],[],0⟩,⟨[],[],[],[],0⟩,⟨[(52,0)],[],[],[],0⟩,⟨[(53,1)],[],[],[0],1⟩,⟨[(54,2)],[],[],[],0⟩] (by kernel_rfl) rfl (by kernel_rfl) rfl rfl rfl fun KD hKD=>?_
   refine g ?_
   repeat' (first | refine st_ rfl (g ?_) | (refine hKD _ _ ⟨rfl,g ?_⟩;clear hKD KD))
   exact D1.rfl_ _
end Go.Proofs.YthlgnjlpakimaaaGreatDoor
