/- A library function that turns a row of the caller's: the elder contract told so. No program is known here. -/
import Derived.Test.YtblfjaedaijfoaaGreatDoorQAbsFrz
import Derived.Test.YtblfjaedaijfoaaGreatDoorQMarks
set_option linter.all false
set_option linter.unnecessarySimpa false
set_option linter.unusedSimpArgs false
set_option linter.unusedVariables false
namespace Go.Proofs.YtblfjaedaijfoaaGreatDoor
open Go.ChangeShapes Go.WideShapes Go.ChangeAt Go.RowKit
section
variable {P : Program} {G : World -> Prop}
def Ci7:List (Nat×Nat)->List (Nat×AV)
 | []=>[]
 | (i,b) :: r=>(i,.bp b 0) :: Ci7 r
def B73 (args:List AV):List (Nat×Nat)->Prop
 | []=>True
 | (i,b) :: r=>args[i]? = some (.bp b 0)/\B73 args r
def pinned (b:Nat) (pins:List (Nat×Nat)):Bool:=pins.any fun p=>Nat.beq p.2 b
def Vw (pins:List (Nat×Nat)):List (Nat×List AV)->Bool
 | []=>true
 | (b,_) :: r=>pinned b pins&&Vw pins r
theorem Ab7 {ρ:Nat->Nat} {fr:List (Nat×AV)} : ∀ {pins:List (Nat×Nat)},leF ρ fr (Ci7 pins)->∀ p∈pins,Cq fr p.1=.bp (ρ p.2) 0
 | (i,b) :: r,h,p,hp=>by
  rcases List.mem_cons.1 hp with rfl | hp
  ·exact h.1
  ·exact Ab7 h.2 p hp
theorem A13 {args:List AV} : ∀ {pins:List (Nat×Nat)},B73 args pins->∀ p∈pins,args[p.1]? = some (.bp p.2 0)
 | (i,b) :: r,h,p,hp=>by
  rcases List.mem_cons.1 hp with rfl | hp
  ·exact h.1
  ·exact A13 h.2 p hp
theorem Vv {pins:List (Nat×Nat)} : ∀ {bx:List (Nat×List AV)},Vw pins bx=true->∀ x∈bx,∃ p∈pins,p.2=x.1
 | (b,cs) :: r,h,x,hx=>by
  simp only [Vw,Bool.and_eq_true] at h
  rcases List.mem_cons.1 hx with rfl | hx
  ·have:=h.1
   unfold pinned at this
   rw [List.any_eq_true] at this
   obtain ⟨p,h1,h2⟩:=this
   exact ⟨p,h1,Nat.eq_of_beq_eq_true h2⟩
  ·exact Vv h.2 x hx
theorem C45 {E:Env} {X:World} {v:Value} {b o:Nat} (h:Bd E X v (.bp b o)):v=.pointer (some ⟨E.blk b,o,none⟩):=by cases h;rfl
theorem Cg.of {f : FuncId} {fn : Func} {c : Code} {n : Nat} {rs : List ResultVar} {args : List AV} {r : AV} {B nb : List BA} {bx : List (Nat × List AV)} {kr : List BA} (pins : List (Nat × Nat)) (hf : P.funcs[f]? = some fn) (hb : fn.body = some c) (hname : (fn.name == "runtime.NumGoroutine") = false) (hn : fn.ntmps = n) (hres : fn.results.toList = rs) (hal : args.length <= n)
  (hpin:B73 args pins) (hbx:Vw pins bx=true) (hkr:kr=[])
  (h:AV.okd.okds args->∀ V w0 F,AW P G none V w0 ⟨n,pins.map (·.1),true⟩ c ⟨Ub 0 args,B++[.opq 99 F]⟩ fun e σ=>(e=.ret\/e=.normal)/\Py P σ rs fun l=>∃ ρ,(∀ (E:Env) (X:World) (v:Value),Bd E X v (A21 l)->Bd E X v (r.ren ρ))/\leF ρ σ.fr (Ci7 pins)/\leB ρ σ.bk ((nb++(bxB bx++kr))++[.opq 99 F])/\(By ρ ((nb++(bxB bx++kr))++[.opq 99 F])).Nodup):Cg P G f args r B nb bx kr:=by
 subst hkr
 refine ⟨fun vs w=>?_,fun V w0 w E vs F hst hG hargs=>?_⟩
 ·have hname' : ¬ fn.name = "runtime.NumGoroutine" := by simpa using hname
  simp [callFunc,program,Sem.run,hf,hname',hb]
 have hok:AV.okd.okds args:=S6 fun j c hj=>(hargs.2 j _ c (List.getElem?_eq_getElem (by rw [hargs.1];exact (List.getElem?_eq_some_iff.1 hj).1)) hj).okd
 have hsz:vs.size=args.length:=by simpa using hargs.1
 obtain ⟨T0,hT0⟩ : ∃ T0,vs++Array.replicate (fn.ntmps - vs.size) undef=T0:=⟨_,rfl⟩
 obtain ⟨m0,hm0⟩ : ∃ m0:Fm,m0=⟨⟨n,pins.map (·.1),true⟩,fun i=>T0.getD i undef,[],N7 w (Ac E (B++[.opq 99 F])),w.heap.size⟩:=⟨_,rfl⟩
 have hT:∀ i (hi:i < args.length),∃ v,T0.getD i undef=v/\Bd E (vis V w0 w (Ac E (B++[.opq 99 F]))) v args[i]:=fun i hi=>by
  have:vs[i]? = some (vs[i]'(by omega)):=Array.getElem?_eq_getElem _
  have h2:=hargs.2 i (vs[i]'(by omega)) _ (by rw [Array.getElem?_toList];exact this) (List.getElem?_eq_getElem hi)
  refine ⟨_,rfl,?_⟩
  rw [<-hT0,Array.getD_eq_getD_getElem?,Array.getElem?_append_left (by omega),this]
  exact h2
 have hs:St V w0 m0 E ⟨Ub 0 args,B++[.opq 99 F]⟩ { tmps:=T0,defers:=[] } w:=by
  rw [hm0]
  refine ⟨hst.ext,hst.low,hst.apart,hst.base,hst.holds,fun i=>?_,⟨(by rw [<-hT0];simp [hn,hsz];omega),fun i _=>rfl⟩,⟨rfl,List.nodup_nil,fun D hD=>by cases hD⟩,Nat.le_refl _,fun g o e=>Dp.1 e⟩
  rw [Sg]
  simp only [Nat.zero_le,if_true,Nat.sub_zero]
  by_cases hi:i < args.length
  ·rw [List.getElem?_eq_getElem hi]
   obtain ⟨v,h1,h2⟩:=hT i hi
   rw [h1]
   exact h2
  ·rw [List.getElem?_eq_none (by omega)]
   exact .any
 refine (callsIn_wide (n:=0)).1 (callsIn_of_wp_marks (F:=FW none) hf hb trivial (wpIn_mono (h hok V w0 F hG m0 E _ w (by rw [hm0]) (by rw [hT0];exact hs)) ?_) rfl)
 rintro e a' w' ⟨m',E',σ',hle,⟨he,hr⟩,hs'⟩
 have hds:m'.ds=[]:=by rw [hle.ds (by rw [hm0]),hm0]
 have hmk:=hs'.marks
 have hdf:=hs'.defers.1
 obtain ⟨l,⟨ρ,h1,hpf,h2,h3⟩,vs',h4,h5⟩:=Qu hs' rs _ hr
 -- what is handed over
 have hfin:=hs'.le (S:=⟨[],(nb++(bxB bx++[]))++[.opq 99 F]⟩) (ρ:=ρ) ⟨trivial,h2,h3⟩
 have hsub:Ext (vis V w0 w' (Ac E' σ'.bk)) (vis V w0 w' (Ac (E'.ren ρ) ((nb++(bxB bx++[]))++[.opq 99 F]))):=D6 (Nat.le_refl _) fun p u _ _ q4 q5=>⟨fun hm=>q4 (by
  obtain ⟨b,hb,hg⟩:=Bv.1 hm
  rw [BA.ren_owned] at hg
  exact Bv.2 ⟨_,(G4 (Sc h2 b hb)).1,hg⟩),q5⟩
 have hv:∃ v,(results fn a'.tmps).run P w'=.ok v w'/\Bd E' (vis V w0 w' (Ac E' σ'.bk)) v (A21 l):=by
  have hmap:(fn.results.mapM (As4 a'.tmps)).run P w'=.ok vs'.toArray w':=by
   rw [Array.mapM_eq_mapM_toList,hres]
   simp [h4]
  refine ⟨if h:vs'.toArray.size=1 then vs'.toArray[0] else .tuple vs'.toArray,?_,?_⟩
  ·have hfun:results fn a'.tmps=(fn.results.mapM (As4 a'.tmps) >>= fun vs=>pure (if h:vs.size=1 then vs[0] else .tuple vs)):=by
    unfold results
    congr 1
   rw [hfun,Sem.run_bind,hmap]
   rfl
  ·have hlen:=h5.1
   match l,vs',h5,hlen with
   | [c],[v],h5,_=>exact h5.2 0 v c rfl rfl
   | [],[],h5,_=>exact .tup rfl fun j v c a b=>by simp at a
   | c :: d :: l,v :: u :: vs',h5,_ =>
    have:¬ (v :: u :: vs').toArray.size=1:=by simp
    rw [dif_neg this]
    exact .tup (by simpa using h5.1) fun j v c a b=>h5.2 j v c (by simpa using a) b
 obtain ⟨v,hv1,hv2⟩:=hv
 have hv3:=((h1 _ _ _ hv2).mono hsub).ren_
 have hh0:∀ g o,w.heap[g]? = some o->g∉Ac E (B++[.opq 99 F])->w'.heap[g]? = some o/\g∉Ac E' σ'.bk:=fun g o q1 q2=>hs'.hold.2 g o (hle.hold g o (by rw [hm0];exact Dp.2 ⟨q1,q2⟩))
 have hsz':w.heap.size<=w'.heap.size:=Nat.le_trans (by have:=hle.lo;rw [hm0] at this;exact this) hs'.hold.1
 have hopq:∀ p∈F.l,w'.heap[p.1]? = some p.2:=hfin.holds (.opq 99 F) (by simp)
 have hopq0:∀ p∈F.l,w.heap[p.1]? = some p.2:=hst.holds (.opq 99 F) (by simp)
 have hpost:(∀ x∈bx,(E'.ren ρ).blk x.1=E.blk x.1)/\w.heap.size<=w'.heap.size/\(∀ g,g∉Ac E B->g < w.heap.size->w'.heap[g]? = w.heap[g]?)/\(∀ g∈Ac (E'.ren ρ) (nb++(bxB bx++[])),g∈Ac E B\/w.heap.size<=g):=by
  refine ⟨fun x hx=>?_,hsz',fun g hg hlt=>?_,fun g hg=>?_⟩
  ·obtain ⟨p,hp,he⟩:=Vv hbx x hx
   have hl:=Ab7 hpf p hp
   have h6:=hs'.slots p.1
   rw [hl,hs'.size.2 p.1 (by rw [hle.nd,hm0];exact List.mem_map_of_mem hp),hle.fix,hm0] at h6
   have hai:=A13 hpin p hp
   obtain ⟨hi,e1⟩:=List.getElem?_eq_some_iff.1 hai
   obtain ⟨u,h7,h8⟩:=hT p.1 hi
   rw [e1] at h8
   simp only [h7] at h6
   have e2:=(C45 h6).symm.trans (C45 h8)
   rw [<-he]
   simpa [Env.ren] using e2
  ·by_cases hF:g∈F.l.map (·.1)
   ·obtain ⟨p,hp,rfl⟩:=List.mem_map.1 hF
    rw [hopq p hp,hopq0 p hp]
   ·rw [Array.getElem?_eq_getElem hlt]
    exact (hh0 g _ (Array.getElem?_eq_getElem hlt) (by simp only [Ar,List.mem_append,not_or];exact ⟨hg,by simpa [Ac,BA.owned] using hF⟩)).1
  ·rcases Nat.lt_or_ge g w.heap.size with hlt | hge
   ·refine .inl (Classical.byContradiction fun hg2=>?_)
    have hgf:g∉F.l.map (·.1):=fun hm=>by
     have hap:=hfin.apart
     simp only [Ar] at hap
     exact (List.nodup_append.1 hap).2.2 g (by simpa only [Ar] using hg) g (by simpa [Ac,BA.owned] using hm) rfl
    have h6:=(hh0 g _ (Array.getElem?_eq_getElem hlt) (by simp only [Ar,List.mem_append,not_or];exact ⟨hg2,by simpa [Ac,BA.owned] using hgf⟩)).2
    obtain ⟨b,hb,hgb⟩:=Bv.1 hg
    rw [BA.ren_owned] at hgb
    exact h6 (Bv.2 ⟨_,(G4 (Sc h2 b (List.mem_append_left _ hb))).1,hgb⟩)
   ·exact .inr hge
 have hend:=Ly (F:=FW none) (n:=0) (P:=P) (fn:=fn) (tmps:=a'.tmps) (R:=fun e w'=>∃ v E',e=.returned v/\StB V w0 E' ((nb++(bxB bx++[]))++[.opq 99 F]) w'/\(∀ x∈bx,E'.blk x.1=E.blk x.1)/\(∀ x∈([]:List BA),E'.row x.id=E.row x.id)/\Bd E' (vis V w0 w' (Ac E' ((nb++(bxB bx++[]))++[.opq 99 F]))) v r/\w.heap.size<=w'.heap.size /\
   (∀ g,g∉Ac E B->g < w.heap.size->w'.heap[g]? = w.heap[g]?)/\(∀ g∈Ac E' (nb++(bxB bx++[])),g∈Ac E B\/w.heap.size<=g)) m'.ds w' hmk (by
  rw [hds]
  exact ⟨v,hv1,v,_,rfl,⟨hfin.ext,hfin.low,hfin.apart,hfin.base,hfin.holds⟩,hpost.1,(fun x hx=>by cases hx),hv3,hpost.2⟩)
 rw [<-hdf] at hend
 rcases he with rfl | rfl
 ·exact hend
 ·exact hend
end
@[go_sem] theorem D54 {ρ:Nat->Nat} : Jg ρ []=[]:=rfl
@[go_sem] theorem Cr8 {ρ:Nat->Nat} {b:BA} {r:List BA} : Jg ρ (b :: r)=b.ren ρ :: Jg ρ r:=rfl
@[go_sem] theorem Dn5 {ρ:Nat->Nat} {c:Nat} : bxS ρ c []=[]:=rfl
@[go_sem] theorem Db9 {ρ:Nat->Nat} {c b:Nat} {cs:List AV} {r:List (Nat×List AV)} : bxS ρ c ((b,cs) :: r)=.box (ρ b) (AV.sh.shs c cs) :: bxS ρ c r:=rfl
@[go_sem] theorem Dn6:bxB []=[]:=rfl
@[go_sem] theorem Dc0 {b:Nat} {cs:List AV} {r:List (Nat×List AV)} : bxB ((b,cs) :: r)=.box b cs :: bxB r:=rfl
attribute [go_sem] id_eq
@[go_sem] theorem D83 {b:Nat} {F:Far} {x:BA} {r:List BA} : Ja x (.opq b F :: r)=.opq b F :: Ja x r:=rfl
section
variable {P : Program} {G : World -> Prop}
structure B17 (X:World) (k:Nat) (T:TypeId) (base:Nat) (v:Value) (l':List (List IV)) (w:World) (v':Value) (w':World):Prop where
 own:Ah (Ay X) k w' base T v' l'
 grown:w.grownBy w' v.ownBlock
 blk:v'.ownBlock=v.ownBlock\/v'.ownBlock=none\/∃ g,v'.ownBlock=some g/\w.heap.size<=g
theorem Cg.row {f : FuncId} {fn : Func} {c : Code} (hf : P.funcs[f]? = some fn) (hb : fn.body = some c) (hname : (fn.name == "runtime.NumGoroutine") = false) {args : List AV} {T k : Nat} {l l' : List (List IV)} {r : Value -> Value} {r' : AV}
  (hr:∀ (E:Env) (X:World) (v':Value),(∃ A n c,v'=.slice A n c)->E.row 0=v'->Bd E X (r v') r')
  (h:∀ (X w:World) (E:Env) (v:Value) (vs:List Value) (base:Nat),Ext X w->base<=w.heap.size->G w->Ah (Ay X) k w base T v l->(∀ b,v.ownBlock=some b->∀ (p:Addr) u,X.cell? p=some u->p.block≠b)->Au E X vs args ->
   Calls P f (v :: vs).toArray w fun e w'=>∃ v',e=.returned (r v')/\B17 X k T base v l' w v' w'):Cg P G f (.own 1 :: args) r' [.row 1 T k l] [.row 0 T k l'] [] []:=by
 refine ⟨fun vs w=>?_,fun V w0 w E vs F hst hG hargs=>?_⟩
 ·have hname' : ¬ fn.name = "runtime.NumGoroutine" := by simpa using hname
  simp [callFunc,program,Sem.run,hf,hname',hb]
 obtain ⟨v,vs',e1,hv,hvs⟩:=Au.cons_iff.1 hargs
 obtain rfl:vs=(v :: vs').toArray:=by rw [<-e1]
 obtain ⟨X,hX⟩ : ∃ X,vis V w0 w (Ac E ([.row 1 T k l]++[.opq 99 F]))=X:=⟨_,rfl⟩
 rw [hX] at hvs hv
 have hXw:Ext X w:=by rw [<-hX];exact Tm hst.ext hst.low
 have hrow:=hst.holds (.row 1 T k l) (by simp)
 rw [hX] at hrow
 cases hv with
 | @own _ A n cc he =>
  obtain ⟨hO,hB⟩:=hrow
  rw [he] at hO hB
  obtain ⟨v,hv⟩ : ∃ v,Value.slice A n cc=v:=⟨_,rfl⟩
  rw [hv] at hO hB he ⊢
  have hown:Ac E [.row 1 T k l]=v.ownBlock.toList:=by simp [Ac,BA.owned,he]
  have hhide:∀ b,v.ownBlock=some b->∀ (p:Addr) u,X.cell? p=some u->p.block≠b:=fun b hb p u hp=>by
   rw [<-hX] at hp
   intro e
   refine Bk3 hst.base hp ?_
   rw [Ar,hown,hb,e]
   simp
  refine (h X w E v vs' w0.heap.size hXw hst.low.size (hG w hst.low) hO hhide hvs).mono ?_
  rintro e w' ⟨v',rfl,hown',hgr,hblk⟩
  obtain ⟨A',c',hv',-⟩:=hown'.sl
  have hsl:∃ A n c,v'=.slice A n c:=⟨_,_,_,hv'⟩
  obtain ⟨E',hE'⟩ : ∃ E':Env,E'=⟨fun b=>if b=0 then (v'.ownBlock).getD 0 else E.blk b,fun b=>if b=0 then v' else E.row b⟩:=⟨_,rfl⟩
  have ho1:Ac E' [.row 0 T k l']=v'.ownBlock.toList:=by rw [hE'];simp [Ac,BA.owned]
  have hoF:∀ E1:Env,Ac E1 [.opq 99 F]=F.l.map (·.1):=fun E1=>by simp [Ac,BA.owned]
  have hF0:∀ p∈F.l,w.heap[p.1]? = some p.2:=hst.holds (.opq 99 F) (by simp)
  have hap:=hst.apart
  rw [Ar,hown,hoF] at hap
  have hFv:∀ p∈F.l,v.ownBlock≠some p.1:=fun p hp e=>(List.nodup_append.1 hap).2.2 p.1 (by rw [e];simp) p.1 (List.mem_map_of_mem hp) rfl
  have hFlt:∀ p∈F.l,p.1 < w.heap.size:=fun p hp=>(Array.getElem?_eq_some_iff.1 (hF0 p hp)).1
  have hF1:∀ p∈F.l,w'.heap[p.1]? = some p.2:=fun p hp=>(hgr.block p.1 (hFlt p hp) (fun e=>hFv p hp e.symm)).trans (hF0 p hp)
  have hnew:∀ g∈v'.ownBlock.toList,g∈v.ownBlock.toList\/w.heap.size<=g:=fun g hg=>by
   rw [Option.mem_toList] at hg
   rcases hblk with e | e | ⟨g',e,hle⟩
   ·exact .inl (by rw [<-e,Option.mem_toList];exact hg)
   ·rw [e] at hg;cases hg
   ·rw [e] at hg
    obtain rfl:=Option.some.inj hg
    exact .inr hle
  have hbase:∀ g,v.ownBlock=some g->w0.heap.size<=g:=fun g hg=>(hO.lt g hg).1
  have hlow:Below w0.heap.size w0 w':=hst.low.grown hgr hst.low.size fun g hg=>hbase g hg
  have hof:Ac E' (([.row 0 T k l']++(bxB []++[]))++[.opq 99 F])=v'.ownBlock.toList++F.l.map (·.1):=by
   rw [Ar,hoF]
   simp only [bxB,List.append_nil,ho1]
  have hx:Ext X (vis V w0 w' (v'.ownBlock.toList++F.l.map (·.1))):=by
   rw [<-hX,Ar,hown,hoF]
   refine D6 hgr.size fun p u _ h2 h3 h4=>?_
   simp only [List.mem_append,not_or] at h3 ⊢
   refine ⟨⟨fun hm=>?_,h3.2⟩,?_⟩
   ·rcases hnew _ hm with hm | hm
    ·exact h3.1 hm
    ·omega
   ·rw [World.cell?_of_block (hgr.block p.block h2 fun e=>h3.1 (by rw [<-e];simp))]
    exact h4
  refine ⟨_,E',rfl,⟨hst.ext,hlow,?_,fun g hg=>?_,fun b hb=>?_⟩,(fun x hx=>by cases hx),(fun x hx=>by cases hx),?_,hgr.size,fun g hg hlt=>?_,fun g hg=>?_⟩
  ·rw [hof]
   refine List.nodup_append.2 ⟨by cases v'.ownBlock<;>simp,F.nd,fun g hg g' hg' e=>?_⟩
   subst e
   obtain ⟨p,hp,rfl⟩:=List.mem_map.1 hg'
   rcases hnew _ hg with hm | hm
   ·rw [Option.mem_toList] at hm;exact hFv p hp hm
   ·have:=hFlt p hp;omega
  ·rw [hof] at hg
   rcases List.mem_append.1 hg with hg | hg
   ·rcases hnew _ hg with hm | hm
    ·rw [Option.mem_toList] at hm;exact hbase g hm
    ·have:=hst.low.size;omega
   ·exact hst.base g (by rw [Ar,hoF];exact List.mem_append_right _ hg)
  ·rw [hof]
   simp only [bxB,List.append_nil,List.cons_append,List.nil_append,List.mem_cons,List.not_mem_nil,or_false] at hb
   rcases hb with rfl | rfl
   ·refine ⟨?_,fun g hg=>?_⟩
    ·rw [hE']
     exact hown'.mono fun cs x hx'=>Ay.ext hx hx'
    ·rw [hE'] at hg ⊢
     simp only [if_true] at hg ⊢
     rw [hg];rfl
   ·exact hF1
  ·rw [hof]
   exact hr E' _ v' hsl (by rw [hE'];simp)
  ·rw [hown] at hg
   exact hgr.block g hlt fun e=>hg (by rw [<-e];simp)
  ·simp only [bxB,List.append_nil,ho1] at hg
   rw [hown]
   exact hnew g hg
theorem Cg.keep {f : FuncId} {fn : Func} {c : Code} (hf : P.funcs[f]? = some fn) (hb : fn.body = some c) (hname : (fn.name == "runtime.NumGoroutine") = false) {args : List AV} {T k : Nat} {l l' : List (List IV)} {r : Value} {r' : AV}
  (hr:∀ (E:Env) (X:World),Bd E X r r')
  (h:∀ (X w:World) (E:Env) (v:Value) (vs:List Value) (base:Nat),Ext X w->base<=w.heap.size->G w->Ah (Ay X) k w base T v l->Au E X vs args ->
   Calls P f (v :: vs).toArray w fun e w'=>e=.returned r/\Ah (Ay X) k w' base T v l'/\w.grownBy w' v.ownBlock):Cg P G f (.own 1 :: args) r' [.row 1 T k l] [] [] [.row 1 T k l']:=by
 refine ⟨fun vs w=>?_,fun V w0 w E vs F hst hG hargs=>?_⟩
 ·have hname' : ¬ fn.name = "runtime.NumGoroutine" := by simpa using hname
  simp [callFunc,program,Sem.run,hf,hname',hb]
 obtain ⟨v,vs',e1,hv,hvs⟩:=Au.cons_iff.1 hargs
 obtain rfl:vs=(v :: vs').toArray:=by rw [<-e1]
 obtain ⟨X,hX⟩ : ∃ X,vis V w0 w (Ac E ([.row 1 T k l]++[.opq 99 F]))=X:=⟨_,rfl⟩
 rw [hX] at hvs hv
 have hXw:Ext X w:=by rw [<-hX];exact Tm hst.ext hst.low
 have hrow:=hst.holds (.row 1 T k l) (by simp)
 rw [hX] at hrow
 cases hv with
 | @own _ A n cc he =>
  obtain ⟨hO,hB⟩:=hrow
  rw [he] at hO hB
  obtain ⟨v,hv⟩ : ∃ v,Value.slice A n cc=v:=⟨_,rfl⟩
  rw [hv] at hO hB he ⊢
  have hown:Ac E [.row 1 T k l]=v.ownBlock.toList:=by simp [Ac,BA.owned,he]
  have hown2:Ac E [.row 1 T k l']=v.ownBlock.toList:=by simp [Ac,BA.owned,he]
  refine (h X w E v vs' w0.heap.size hXw hst.low.size (hG w hst.low) hO hvs).mono ?_
  rintro e w' ⟨rfl,hown',hgr⟩
  have hoF:∀ E1:Env,Ac E1 [.opq 99 F]=F.l.map (·.1):=fun E1=>by simp [Ac,BA.owned]
  have hF0:∀ p∈F.l,w.heap[p.1]? = some p.2:=hst.holds (.opq 99 F) (by simp)
  have hap:=hst.apart
  rw [Ar,hown,hoF] at hap
  have hFv:∀ p∈F.l,v.ownBlock≠some p.1:=fun p hp e=>(List.nodup_append.1 hap).2.2 p.1 (by rw [e];simp) p.1 (List.mem_map_of_mem hp) rfl
  have hF1:∀ p∈F.l,w'.heap[p.1]? = some p.2:=fun p hp=>(hgr.block p.1 (Array.getElem?_eq_some_iff.1 (hF0 p hp)).1 (fun e=>hFv p hp e.symm)).trans (hF0 p hp)
  have hof:Ac E (([]++(bxB []++[.row 1 T k l']))++[.opq 99 F])=Ac E ([.row 1 T k l]++[.opq 99 F]):=by
   simp only [bxB,List.nil_append,Ar,hown,hown2]
  have hx:Ext X (vis V w0 w' (Ac E ([.row 1 T k l]++[.opq 99 F]))):=by
   rw [<-hX]
   refine D6 hgr.size fun p u _ h2 h3 h4=>⟨h3,?_⟩
   rw [World.cell?_of_block (hgr.block p.block h2 fun e=>h3 (by rw [Ar,hown,<-e];simp))]
   exact h4
  refine ⟨r,E,rfl,⟨hst.ext,hst.low.grown hgr hst.low.size fun g hg=>(hO.lt g hg).1,?_,fun g hg=>?_,fun b hb=>?_⟩,(fun x hx=>by cases hx),(fun x hx=>by simp only [List.mem_singleton] at hx;subst hx;rfl),hr _ _,hgr.size,fun g hg hlt=>?_,fun g hg=>?_⟩
  ·rw [hof];exact hst.apart
  ·rw [hof] at hg;exact hst.base g hg
  ·rw [hof]
   simp only [bxB,List.nil_append,List.cons_append,List.mem_cons,List.not_mem_nil,or_false] at hb
   rcases hb with rfl | rfl
   ·refine ⟨?_,by rw [he];exact hB⟩
    rw [he]
    exact hown'.mono fun cs x hx'=>Ay.ext hx hx'
   ·exact hF1
  ·rw [hown] at hg
   exact hgr.block g hlt fun e=>hg (by rw [<-e];simp)
  ·simp only [bxB,List.nil_append,hown2] at hg
   rw [hown]
   exact .inl hg
end
end Go.Proofs.YtblfjaedaijfoaaGreatDoor
