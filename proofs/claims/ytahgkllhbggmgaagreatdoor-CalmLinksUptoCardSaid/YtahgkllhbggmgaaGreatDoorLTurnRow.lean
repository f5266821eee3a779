/- A library function that turns a row of the caller's: the elder contract told so. No program is known here. -/
import Derived.Test.YtahgkllhbggmgaaGreatDoorLAbsFrz
import Derived.Test.YtahgkllhbggmgaaGreatDoorLSortWorld
set_option linter.all false
set_option linter.unnecessarySimpa false
set_option linter.unusedSimpArgs false
set_option linter.unusedVariables false
namespace Go.Proofs.YtahgkllhbggmgaaGreatDoor
open Go.ChangeShapes Go.WideShapes Go.ChangeAt Go.RowKit
section
variable {P : Program} {G : World -> Prop}
def Dt3:List (Nat×Nat)->List (Nat×AV)
 | []=>[]
 | (i,b) :: r=>(i,.bp b 0) :: Dt3 r
def Ca3 (args:List AV):List (Nat×Nat)->Prop
 | []=>True
 | (i,b) :: r=>args[i]? = some (.bp b 0)/\Ca3 args r
def pinned (b:Nat) (pins:List (Nat×Nat)):Bool:=pins.any fun p=>Nat.beq p.2 b
def Bq9 (pins:List (Nat×Nat)):List (Nat×List AV)->Bool
 | []=>true
 | (b,_) :: r=>pinned b pins&&Bq9 pins r
end
@[go_sem] theorem Cy6 {ρ:Nat->Nat} : Gi ρ []=[]:=rfl
@[go_sem] theorem Ck4 {ρ:Nat->Nat} {b:BA} {r:List BA} : Gi ρ (b :: r)=b.ren ρ :: Gi ρ r:=rfl
@[go_sem] theorem Dj0 {ρ:Nat->Nat} {c:Nat} : bxS ρ c []=[]:=rfl
@[go_sem] theorem D68 {ρ:Nat->Nat} {c b:Nat} {cs:List AV} {r:List (Nat×List AV)} : bxS ρ c ((b,cs) :: r)=.box (ρ b) (AV.sh.shs c cs) :: bxS ρ c r:=rfl
@[go_sem] theorem Dj1:bxB []=[]:=rfl
@[go_sem] theorem D69 {b:Nat} {cs:List AV} {r:List (Nat×List AV)} : bxB ((b,cs) :: r)=.box b cs :: bxB r:=rfl
attribute [go_sem] id_eq
@[go_sem] theorem D19 {b:Nat} {F:Far} {x:BA} {r:List BA} : Gf x (.opq b F :: r)=.opq b F :: Gf x r:=rfl
section
variable {P : Program} {G : World -> Prop}
structure Bs3 (X:World) (k:Nat) (T:TypeId) (base:Nat) (v:Value) (l':List (List IV)) (w:World) (v':Value) (w':World):Prop where
 own:Ai (Av X) k w' base T v' l'
 grown:w.grownBy w' v.ownBlock
 blk:v'.ownBlock=v.ownBlock\/v'.ownBlock=none\/∃ g,v'.ownBlock=some g/\w.heap.size<=g
theorem Py.row {f : FuncId} {fn : Func} {c : Code} (hf : P.funcs[f]? = some fn) (hb : fn.body = some c) (hname : (fn.name == "runtime.NumGoroutine") = false) {args : List AV} {T k : Nat} {l l' : List (List IV)} {r : Value -> Value} {r' : AV}
  (hr:∀ (E:Env) (X:World) (v':Value),(∃ A n c,v'=.slice A n c)->E.row 0=v'->Au E X (r v') r')
  (h:∀ (X w:World) (E:Env) (v:Value) (vs:List Value) (base:Nat),Ext X w->base<=w.heap.size->G w->Ai (Av X) k w base T v l->(∀ b,v.ownBlock=some b->∀ (p:Addr) u,X.cell? p=some u->p.block≠b)->An E X vs args ->
   Calls P f (v :: vs).toArray w fun e w'=>∃ v',e=.returned (r v')/\Bs3 X k T base v l' w v' w'):Py P G f (.own 1 :: args) r' [.row 1 T k l] [.row 0 T k l'] [] []:=by
 refine ⟨fun vs w=>?_,fun V w0 w E vs F hst hG hargs=>?_⟩
 ·have hname' : ¬ fn.name = "runtime.NumGoroutine" := by simpa using hname
  simp [callFunc,program,Sem.run,hf,hname',hb]
 obtain ⟨v,vs',e1,hv,hvs⟩:=An.cons_iff.1 hargs
 obtain rfl:vs=(v :: vs').toArray:=by rw [<-e1]
 obtain ⟨X,hX⟩ : ∃ X,vis V w0 w (Ac E ([.row 1 T k l]++[.opq 99 F]))=X:=⟨_,rfl⟩
 rw [hX] at hvs hv
 have hXw:Ext X w:=by rw [<-hX];exact R8 hst.ext hst.low
 have hrow:=hst.holds (.row 1 T k l) (by simp)
 rw [hX] at hrow
 cases hv with
 | @own _ A n cc he =>
  obtain ⟨hO,hB⟩:=hrow
  rw [he] at hO hB
  obtain ⟨v,hv⟩ : ∃ v,Value.slice A n cc=v:=⟨_,rfl⟩
  rw [hv] at hO hB he ⊢
  have hown:Ac E [.row 1 T k l]=v.ownBlock.toList:=by simp [Ac,BA.owned,he]
  have hhide:∀ b,v.ownBlock=some b->∀ (p:Addr) u,X.cell? p=some u->p.block≠b:=fun b hb p u hp=>by
   rw [<-hX] at hp
   intro e
   refine B62 hst.base hp ?_
   rw [Am,hown,hb,e]
   simp
  refine (h X w E v vs' w0.heap.size hXw hst.low.size (hG w hst.low) hO hhide hvs).mono ?_
  rintro e w' ⟨v',rfl,hown',hgr,hblk⟩
  obtain ⟨A',c',hv',-⟩:=hown'.sl
  have hsl:∃ A n c,v'=.slice A n c:=⟨_,_,_,hv'⟩
  obtain ⟨E',hE'⟩ : ∃ E':Env,E'=⟨fun b=>if b=0 then (v'.ownBlock).getD 0 else E.blk b,fun b=>if b=0 then v' else E.row b⟩:=⟨_,rfl⟩
  have ho1:Ac E' [.row 0 T k l']=v'.ownBlock.toList:=by rw [hE'];simp [Ac,BA.owned]
  have hoF:∀ E1:Env,Ac E1 [.opq 99 F]=F.l.map (·.1):=fun E1=>by simp [Ac,BA.owned]
  have hF0:∀ p∈F.l,w.heap[p.1]? = some p.2:=hst.holds (.opq 99 F) (by simp)
  have hap:=hst.apart
  rw [Am,hown,hoF] at hap
  have hFv:∀ p∈F.l,v.ownBlock≠some p.1:=fun p hp e=>(List.nodup_append.1 hap).2.2 p.1 (by rw [e];simp) p.1 (List.mem_map_of_mem hp) rfl
  have hFlt:∀ p∈F.l,p.1 < w.heap.size:=fun p hp=>(Array.getElem?_eq_some_iff.1 (hF0 p hp)).1
  have hF1:∀ p∈F.l,w'.heap[p.1]? = some p.2:=fun p hp=>(hgr.block p.1 (hFlt p hp) (fun e=>hFv p hp e.symm)).trans (hF0 p hp)
  have hnew:∀ g∈v'.ownBlock.toList,g∈v.ownBlock.toList\/w.heap.size<=g:=fun g hg=>by
   rw [Option.mem_toList] at hg
   rcases hblk with e | e | ⟨g',e,hle⟩
   ·exact .inl (by rw [<-e,Option.mem_toList];exact hg)
   ·rw [e] at hg;cases hg
   ·rw [e] at hg
    obtain rfl:=Option.some.inj hg
    exact .inr hle
  have hbase:∀ g,v.ownBlock=some g->w0.heap.size<=g:=fun g hg=>(hO.lt g hg).1
  have hlow:Below w0.heap.size w0 w':=hst.low.grown hgr hst.low.size fun g hg=>hbase g hg
  have hof:Ac E' (([.row 0 T k l']++(bxB []++[]))++[.opq 99 F])=v'.ownBlock.toList++F.l.map (·.1):=by
   rw [Am,hoF]
   simp only [bxB,List.append_nil,ho1]
  have hx:Ext X (vis V w0 w' (v'.ownBlock.toList++F.l.map (·.1))):=by
   rw [<-hX,Am,hown,hoF]
   refine D1 hgr.size fun p u _ h2 h3 h4=>?_
   simp only [List.mem_append,not_or] at h3 ⊢
   refine ⟨⟨fun hm=>?_,h3.2⟩,?_⟩
   ·rcases hnew _ hm with hm | hm
    ·exact h3.1 hm
    ·omega
   ·rw [World.cell?_of_block (hgr.block p.block h2 fun e=>h3.1 (by rw [<-e];simp))]
    exact h4
  refine ⟨_,E',rfl,⟨hst.ext,hlow,?_,fun g hg=>?_,fun b hb=>?_⟩,(fun x hx=>by cases hx),(fun x hx=>by cases hx),?_,hgr.size,fun g hg hlt=>?_,fun g hg=>?_⟩
  ·rw [hof]
   refine List.nodup_append.2 ⟨by cases v'.ownBlock<;>simp,F.nd,fun g hg g' hg' e=>?_⟩
   subst e
   obtain ⟨p,hp,rfl⟩:=List.mem_map.1 hg'
   rcases hnew _ hg with hm | hm
   ·rw [Option.mem_toList] at hm;exact hFv p hp hm
   ·have:=hFlt p hp;omega
  ·rw [hof] at hg
   rcases List.mem_append.1 hg with hg | hg
   ·rcases hnew _ hg with hm | hm
    ·rw [Option.mem_toList] at hm;exact hbase g hm
    ·have:=hst.low.size;omega
   ·exact hst.base g (by rw [Am,hoF];exact List.mem_append_right _ hg)
  ·rw [hof]
   simp only [bxB,List.append_nil,List.cons_append,List.nil_append,List.mem_cons,List.not_mem_nil,or_false] at hb
   rcases hb with rfl | rfl
   ·refine ⟨?_,fun g hg=>?_⟩
    ·rw [hE']
     exact hown'.mono fun cs x hx'=>Av.ext hx hx'
    ·rw [hE'] at hg ⊢
     simp only [if_true] at hg ⊢
     rw [hg];rfl
   ·exact hF1
  ·rw [hof]
   exact hr E' _ v' hsl (by rw [hE'];simp)
  ·rw [hown] at hg
   exact hgr.block g hlt fun e=>hg (by rw [<-e];simp)
  ·simp only [bxB,List.append_nil,ho1] at hg
   rw [hown]
   exact hnew g hg
theorem Py.keep {f : FuncId} {fn : Func} {c : Code} (hf : P.funcs[f]? = some fn) (hb : fn.body = some c) (hname : (fn.name == "runtime.NumGoroutine") = false) {args : List AV} {T k : Nat} {l l' : List (List IV)} {r : Value} {r' : AV}
  (hr:∀ (E:Env) (X:World),Au E X r r')
  (h:∀ (X w:World) (E:Env) (v:Value) (vs:List Value) (base:Nat),Ext X w->base<=w.heap.size->G w->Ai (Av X) k w base T v l->An E X vs args ->
   Calls P f (v :: vs).toArray w fun e w'=>e=.returned r/\Ai (Av X) k w' base T v l'/\w.grownBy w' v.ownBlock):Py P G f (.own 1 :: args) r' [.row 1 T k l] [] [] [.row 1 T k l']:=by
 refine ⟨fun vs w=>?_,fun V w0 w E vs F hst hG hargs=>?_⟩
 ·have hname' : ¬ fn.name = "runtime.NumGoroutine" := by simpa using hname
  simp [callFunc,program,Sem.run,hf,hname',hb]
 obtain ⟨v,vs',e1,hv,hvs⟩:=An.cons_iff.1 hargs
 obtain rfl:vs=(v :: vs').toArray:=by rw [<-e1]
 obtain ⟨X,hX⟩ : ∃ X,vis V w0 w (Ac E ([.row 1 T k l]++[.opq 99 F]))=X:=⟨_,rfl⟩
 rw [hX] at hvs hv
 have hXw:Ext X w:=by rw [<-hX];exact R8 hst.ext hst.low
 have hrow:=hst.holds (.row 1 T k l) (by simp)
 rw [hX] at hrow
 cases hv with
 | @own _ A n cc he =>
  obtain ⟨hO,hB⟩:=hrow
  rw [he] at hO hB
  obtain ⟨v,hv⟩ : ∃ v,Value.slice A n cc=v:=⟨_,rfl⟩
  rw [hv] at hO hB he ⊢
  have hown:Ac E [.row 1 T k l]=v.ownBlock.toList:=by simp [Ac,BA.owned,he]
  have hown2:Ac E [.row 1 T k l']=v.ownBlock.toList:=by simp [Ac,BA.owned,he]
  refine (h X w E v vs' w0.heap.size hXw hst.low.size (hG w hst.low) hO hvs).mono ?_
  rintro e w' ⟨rfl,hown',hgr⟩
  have hoF:∀ E1:Env,Ac E1 [.opq 99 F]=F.l.map (·.1):=fun E1=>by simp [Ac,BA.owned]
  have hF0:∀ p∈F.l,w.heap[p.1]? = some p.2:=hst.holds (.opq 99 F) (by simp)
  have hap:=hst.apart
  rw [Am,hown,hoF] at hap
  have hFv:∀ p∈F.l,v.ownBlock≠some p.1:=fun p hp e=>(List.nodup_append.1 hap).2.2 p.1 (by rw [e];simp) p.1 (List.mem_map_of_mem hp) rfl
  have hF1:∀ p∈F.l,w'.heap[p.1]? = some p.2:=fun p hp=>(hgr.block p.1 (Array.getElem?_eq_some_iff.1 (hF0 p hp)).1 (fun e=>hFv p hp e.symm)).trans (hF0 p hp)
  have hof:Ac E (([]++(bxB []++[.row 1 T k l']))++[.opq 99 F])=Ac E ([.row 1 T k l]++[.opq 99 F]):=by
   simp only [bxB,List.nil_append,Am,hown,hown2]
  have hx:Ext X (vis V w0 w' (Ac E ([.row 1 T k l]++[.opq 99 F]))):=by
   rw [<-hX]
   refine D1 hgr.size fun p u _ h2 h3 h4=>⟨h3,?_⟩
   rw [World.cell?_of_block (hgr.block p.block h2 fun e=>h3 (by rw [Am,hown,<-e];simp))]
   exact h4
  refine ⟨r,E,rfl,⟨hst.ext,hst.low.grown hgr hst.low.size fun g hg=>(hO.lt g hg).1,?_,fun g hg=>?_,fun b hb=>?_⟩,(fun x hx=>by cases hx),(fun x hx=>by simp only [List.mem_singleton] at hx;subst hx;rfl),hr _ _,hgr.size,fun g hg hlt=>?_,fun g hg=>?_⟩
  ·rw [hof];exact hst.apart
  ·rw [hof] at hg;exact hst.base g hg
  ·rw [hof]
   simp only [bxB,List.nil_append,List.cons_append,List.mem_cons,List.not_mem_nil,or_false] at hb
   rcases hb with rfl | rfl
   ·refine ⟨?_,by rw [he];exact hB⟩
    rw [he]
    exact hown'.mono fun cs x hx'=>Av.ext hx hx'
   ·exact hF1
  ·rw [hown] at hg
   exact hgr.block g hlt fun e=>hg (by rw [<-e];simp)
  ·simp only [bxB,List.nil_append,hown2] at hg
   rw [hown]
   exact .inl hg
end
end Go.Proofs.YtahgkllhbggmgaaGreatDoor
