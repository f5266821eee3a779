/- The formulas, as rewriting rules: one for each kind of operation. No program is known here. -/
import Derived.Test.YthlgnjlpakimaaaGreatDoorUAbsCode
import Derived.IntWalk
import Derived.Scope
set_option linter.all false
set_option linter.unnecessarySimpa false
set_option linter.unusedSimpArgs false
set_option linter.unusedVariables false
namespace Go.Proofs.YthlgnjlpakimaaaGreatDoor
open Go.ChangeShapes Go.WideShapes Go.ChangeAt Go.RowKit
def leF (ρ:Nat->Nat) (fr:List (Nat×AV)):List (Nat×AV)->Prop
 | []=>True
 | (i,c) :: r=>Ct fr i=c.ren ρ/\leF ρ fr r
def leB (ρ:Nat->Nat) (bk:List BA):List BA->Prop
 | []=>True
 | b :: r=>Cd (ρ b.id) bk=some (b.ren ρ)/\leB ρ bk r
def Ay (ρ:Nat->Nat):List BA->List Nat
 | []=>[]
 | b :: r=>ρ b.id :: Ay ρ r
def LeS (ρ:Nat->Nat) (S σ:Ah):Prop:=leF ρ σ.fr S.fr/\leB ρ σ.bk S.bk/\(Ay ρ S.bk).Nodup
theorem Ai5 {ρ:Nat->Nat} {fr:List (Nat×AV)} : ∀ {l:List (Nat×AV)},leF ρ fr l->∀ i,Ct l i=.any\/Ct fr i=(Ct l i).ren ρ
 | [],_,_=>.inl rfl
 | (j,c) :: r,h,i=>by
  simp only [Ct]
  by_cases e:i=j
  ·subst e
   rw [if_pos rfl]
   exact .inr h.1
  ·rw [if_neg e]
   exact Ai5 h.2 i
theorem Wv {ρ:Nat->Nat} {bk:List BA} : ∀ {l:List BA},leB ρ bk l->∀ b∈l,Cd (ρ b.id) bk=some (b.ren ρ)
 | [],_,b,h=>by cases h
 | c :: l,h,b,hb=>by
  rcases List.mem_cons.1 hb with rfl | hb
  ·exact h.1
  ·exact Wv h.2 b hb
theorem A24 {E:Env} : ∀ {bk:List BA},(Ac E bk).Nodup->∀ {x y:BA},x∈bk->y∈bk->x≠y->∀ g,g∈x.owned E->g∉y.owned E
 | [],_,_,_,h,_,_,_,_=>by cases h
 | b :: bk,hn,x,y,hx,hy,hne,g,hg=>by
  simp only [Ac] at hn
  obtain ⟨n1,n2,n3⟩:=List.nodup_append.1 hn
  rcases List.mem_cons.1 hx with e1 | hx1
  ·rcases List.mem_cons.1 hy with e2 | hy1
   ·exact absurd (e1.trans e2.symm) hne
   ·exact fun h=>n3 g (e1 ▸ hg) g (Bx.2 ⟨y,hy1,h⟩) rfl
  ·rcases List.mem_cons.1 hy with e2 | hy1
   ·exact fun h=>n3 g (e2 ▸ h) g (Bx.2 ⟨x,hx1,hg⟩) rfl
   ·exact A24 n2 hx1 hy1 hne g hg
theorem BA.owned_nodup (E:Env) (b:BA):(b.owned E).Nodup:=by
 cases b with
 | box b cs=>simp [BA.owned]
 | arr b cs=>simp [BA.owned]
 | row b e k l=>simp only [BA.owned];cases (E.row b).ownBlock<;>simp
 | mp b k kv=>simp [BA.owned]
 | opq b F=>exact F.nd
theorem BA.ren_id (ρ:Nat->Nat) (b:BA):(b.ren ρ).id=ρ b.id:=by cases b<;>rfl
theorem A34 {ρ:Nat->Nat} : ∀ {l:List BA} {i:Nat},i∈Ay ρ l↔∃ b∈l,ρ b.id=i
 | [],i=>by simp [Ay]
 | b :: l,i=>by simp [Ay,A34,eq_comm]
section
variable {V w0 : World} {n : Fm} {E : Env} {σ : Ah} {a : Act} {w : World}
theorem St.le {ρ:Nat->Nat} {S:Ah} (h:St V w0 n E σ a w) (hl:LeS ρ S σ):St V w0 n (E.ren ρ) S a w:=by
 obtain ⟨h1,h2,h3⟩:=hl
 have mem:∀ b∈S.bk,b.ren ρ∈σ.bk:=fun b hb=>(J1 (Wv h2 b hb)).1
 have sub:∀ g∈Ac (E.ren ρ) S.bk,g∈Ac E σ.bk:=fun g hg=>by
  obtain ⟨b,hb,hg⟩:=Bx.1 hg
  rw [BA.ren_owned] at hg
  exact Bx.2 ⟨_,mem b hb,hg⟩
 have hx:Ext (vis V w0 w (Ac E σ.bk)) (vis V w0 w (Ac (E.ren ρ) S.bk)):=Dl (Nat.le_refl _) fun p u _ _ h4 h5=>⟨fun hm=>h4 (sub _ hm),h5⟩
 refine ⟨h.ext,h.low,?_,fun g hg=>h.base g (sub g hg),fun b hb=>?_,fun i=>?_,h.size,h.defers,h.hold.1,fun g o hg=>⟨(h.hold.2 g o hg).1,fun hm=>(h.hold.2 g o hg).2 (sub g hm)⟩⟩
 ·have key:∀ l:List BA,(∀ b∈l,b.ren ρ∈σ.bk)->(Ay ρ l).Nodup->(Ac (E.ren ρ) l).Nodup:=by
   intro l
   induction l with
   | nil=>exact fun _ _=>List.nodup_nil
   | cons b l ih =>
    intro hm hn
    simp only [Ay] at hn
    obtain ⟨n1,n2⟩:=List.nodup_cons.1 hn
    simp only [Ac]
    refine List.nodup_append.2 ⟨BA.owned_nodup _ _,ih (fun b hb=>hm b (List.mem_cons_of_mem _ hb)) n2,fun g hg g' hg' e=>?_⟩
    subst e
    obtain ⟨c,hc,hg'⟩:=Bx.1 hg'
    rw [BA.ren_owned] at hg hg'
    refine A24 h.apart (hm b (by simp)) (hm c (List.mem_cons_of_mem _ hc)) (fun e=>n1 (A34.2 ⟨c,hc,?_⟩)) g hg hg'
    have:=congrArg BA.id e
    rw [BA.ren_id,BA.ren_id] at this
    exact this.symm
  exact key S.bk mem h3
 ·exact BA.ren_holds (BA.holds_ext (Env.same_refl 0 0 E) hx (fun _ _=>rfl) (BA.off_none _) (h.holds _ (mem b hb)))
 ·rcases Ai5 h1 i with e | e
  ·rw [e];exact .any
  ·have:=h.slots i
   rw [e] at this
   exact (this.mono hx).ren_
end
section
variable {P : Program} {G : World -> Prop} {σ : Ah} {V w0 : World} {n : Nd} {ro : Option Nat} {K : Exit -> Ah -> Prop}
theorem AW.le {ρ:Nat->Nat} {S:Ah} {c:Code} (hl:LeS ρ S σ) (h:AW P G ro V w0 n c S K):AW P G ro V w0 n c σ K:=fun hG m E a w hn hs=>h hG m _ a w hn (hs.le hl)
theorem A30 {p:Nat->Prop} : (∃ m,p m)->∃ m,p m/\∀ k,p k->m<=k:=by
 rintro ⟨m,hm⟩
 induction m using Nat.strongRecOn with
 | _ m ih =>
  by_cases h:∃ k,k < m/\p k
  ·obtain ⟨k,h1,h2⟩:=h
   exact ih k h1 h2
  ·exact ⟨m,hm,fun k hk=>Nat.le_of_not_lt fun hlt=>h ⟨k,hlt,hk⟩⟩
theorem AW.loop {α:Type} (S:α->Ah) (μ:α->Nat) (x0:α) (ρ0:Nat->Nat) {c:Code} (h0:LeS ρ0 (S x0) σ)
  (round:∀ x,AW P G ro V w0 n c (S x) fun e σ'=>match e with
   | .normal=>∃ y ρ,LeS ρ (S y) σ'/\μ y < μ x
   | e=>K e σ'):AW P G ro V w0 n (.loop c) σ K:=fun hG m0 E a w hn hs=>by
 classical
 have hI:∀ (a:Act) (w:World),(∃ x m E,Fm.le m0 m/\St V w0 m E (S x) a w)->∃ k x m E,(Fm.le m0 m/\St V w0 m E (S x) a w)/\μ x=k/\∀ y m' E',Fm.le m0 m'/\St V w0 m' E' (S y) a w->k<=μ y:=fun a w h=>by
  have hex:∃ k,∃ x m E,(Fm.le m0 m/\St V w0 m E (S x) a w)/\μ x=k:=by
   obtain ⟨x,m,E,h⟩:=h
   exact ⟨_,x,m,E,h,rfl⟩
  obtain ⟨k,⟨x,m,E',h1,h2⟩,h3⟩:=A30 hex
  exact ⟨k,x,m,E',h1,h2,fun y m2 E2 h4=>h3 _ ⟨y,m2,E2,h4,rfl⟩⟩
 let m:Act->World->Nat:=fun a w=>if h:∃ x m E,Fm.le m0 m/\St V w0 m E (S x) a w then Classical.choose (hI a w h) else 0
 have hm:∀ a w,(∃ x m E,Fm.le m0 m/\St V w0 m E (S x) a w)->∃ x m2 E,(Fm.le m0 m2/\St V w0 m2 E (S x) a w)/\μ x=m a w:=fun a w h=>by
  obtain ⟨x,m2,E,h1,h2,_⟩:=Classical.choose_spec (hI a w h)
  exact ⟨x,m2,E,h1,by simp only [m,dif_pos h];exact h2⟩
 have hm2:∀ a w y m' E',Fm.le m0 m'/\St V w0 m' E' (S y) a w->m a w<=μ y:=fun a w y m' E' h=>by
  have hh:∃ x m E,Fm.le m0 m/\St V w0 m E (S x) a w:=⟨y,m',E',h⟩
  obtain ⟨_,_,_,_,_,h3⟩:=Classical.choose_spec (hI a w hh)
  simp only [m,dif_pos hh]
  exact h3 y m' E' h
 refine wpIn_loop (fun a w=>∃ x m E,Fm.le m0 m/\St V w0 m E (S x) a w) m ⟨x0,_,_,Fm.le.refl m0,hs.le h0⟩ fun a w hi=>?_
 obtain ⟨x,m1,E,⟨hle,h1⟩,h2⟩:=hm a w hi
 refine wpIn_mono (round x hG m1 E a w (hle.nd.trans hn) h1) ?_
 rintro e a' w' ⟨m',E',σ',hle',hK,hs'⟩
 cases e with
 | normal =>
  obtain ⟨y,ρ,hl,hlt⟩:=hK
  have h3:=hs'.le hl
  refine ⟨⟨y,_,_,hle.trans hle',h3⟩,?_⟩
  have:=hm2 a' w' y _ _ ⟨hle.trans hle',h3⟩
  show m a' w' < m a w
  omega
 | _=>exact ⟨m',E',σ',hle.trans hle',hK,hs'⟩
theorem AW.mono {K':Exit->Ah->Prop} {c:Code} (h:AW P G ro V w0 n c σ K) (hk:∀ e σ',K e σ'->K' e σ'):AW P G ro V w0 n c σ K':=fun hG m E a w hn hs =>
 wpIn_mono (h hG m E a w hn hs) fun _ _ _ ⟨m',E',σ',h1,h2,h3⟩=>⟨m',E',σ',h1,hk _ _ h2,h3⟩
theorem AW.adopt {c:Code} (i b e k:Nat) (hi:Ct σ.fr i=.val (.slice none 0 0)) (hf:(Ky b (b+1) σ.fr&&Jf b (b+1) σ.bk)=true) (h:AW P G ro V w0 n c ⟨(i,.own b) :: σ.fr,.row b e k [] :: σ.bk⟩ K):AW P G ro V w0 n c σ K:=fun hG m0 E a w hn hs=>by
 rw [Bool.and_eq_true] at hf
 have hE:Env.same b (b+1) E ⟨E.blk,fun x=>if x=b then .slice none 0 0 else E.row x⟩:=fun x hx=>by
  have:¬ x=b:=by omega
  simp [this]
 have ho:Ac ⟨E.blk,fun x=>if x=b then .slice none 0 0 else E.row x⟩ [.row b e k []]=[]:=by simp [Ac,BA.owned,Value.ownBlock]
 have hs2:=hs.add (E':=⟨E.blk,fun x=>if x=b then .slice none 0 0 else E.row x⟩) (nb:=[.row b e k []]) (Below.refl _ w) hE hf.1 hf.2 (by rw [ho];exact List.nodup_nil) (fun g hg=>by rw [ho] at hg;cases hg) (fun x hx=>by
  simp only [List.mem_singleton] at hx
  subst hx
  refine ⟨?_,fun g hg=>by simp [Value.ownBlock] at hg⟩
  simp only [if_true]
  exact Ae.nil_ _ _ _)
 refine h hG m0 _ a w hn ⟨hs2.ext,hs2.low,hs2.apart,hs2.base,hs2.holds,fun j=>?_,hs2.size,hs2.defers,hs2.hold⟩
 simp only [Ct]
 split
 ·rename_i e1
  subst e1
  have:=hs.slots j
  rw [hi] at this
  generalize a.tmps.getD j undef=u at this
  cases this
  exact .own (by simp)
 ·exact hs2.slots j
end
-- what is known of numbers that were read
def IV.ok:IV->Prop
 | .val v=>okV v
 | .sl k l=>l.length<=1073741824/\okR k l
 | .pt cs=>okC cs
where
 okR (k:Nat):List (List IV)->Prop
  | []=>True
  | cs :: l=>(cs.length=k/\okC cs)/\okR k l
 okC:List IV->Prop
  | []=>True
  | c :: cs=>IV.ok c/\okC cs
theorem A74:∀ {cs:List IV},(∀ (j:Nat) c,cs[j]? = some c->c.ok)->IV.ok.okC cs
 | [],_=>trivial
 | c :: cs,h=>⟨h 0 c rfl,A74 fun j d hd=>h (j+1) d (by simpa using hd)⟩
theorem Ba8 {k:Nat} : ∀ {l:List (List IV)},(∀ (i:Nat) cs,l[i]? = some cs->cs.length=k/\∀ (j:Nat) c,cs[j]? = some c->c.ok)->IV.ok.okR k l
 | [],_=>trivial
 | cs :: l,h=>⟨⟨(h 0 cs rfl).1,A74 (h 0 cs rfl).2⟩,Ba8 fun i ds hd=>h (i+1) ds (by simpa using hd)⟩
theorem Cs.ok {X:World} {v:Value} {i:IV} (h:Cs X v i):i.ok:=by
 induction h with
 | val h=>exact h
 | nil h=>exact ⟨by simp,trivial⟩
 | sl f h0 h1 h2 h3 h4 h5 h6 ih=>exact ⟨h2,Ba8 fun i cs hi=>⟨h4 cs (List.mem_of_getElem? hi),fun j c hj=>ih i j cs c hi hj⟩⟩
 | pt f h1 h2 ih=>exact A74 fun j c hj=>ih j c hj
theorem Gc {k:Nat} : ∀ {l:List (List IV)},IV.ok.okR k l->∀ cs∈l,cs.length=k/\IV.ok.okC cs
 | [],_,_,h=>by cases h
 | c :: l,h,cs,hm=>by
  rcases List.mem_cons.1 hm with rfl | hm
  ·exact h.1
  ·exact Gc h.2 cs hm
def AV.okd:AV->Prop
 | .iv i=>i.ok
 | .ip cs=>IV.ok.okC cs
 | .agg cs=>okds cs
 | .fn _ cs=>okds cs
 | _=>True
where okds:List AV->Prop
 | []=>True
 | c :: cs=>AV.okd c/\okds cs
theorem Th:∀ {cs:List AV},(∀ (j:Nat) c,cs[j]? = some c->c.okd)->AV.okd.okds cs
 | [],_=>trivial
 | c :: cs,h=>⟨h 0 c rfl,Th fun j d hd=>h (j+1) d (by simpa using hd)⟩
theorem Bb.okd {E:Env} {X:World} {v:Value} {c:AV} (h:Bb E X v c):c.okd:=by
 induction h with
 | iv h=>exact h.ok
 | ip f h1 h2=>exact A74 fun j c hj=>(h2 j c hj).ok
 | agg h1 h2 ih=>exact Th fun j c hj=>ih j _ c (Array.getElem?_eq_getElem (by rw [h1];exact (List.getElem?_eq_some_iff.1 hj).1)) hj
 | fn h1 h2 ih=>exact Th fun j c hj=>ih j _ c (Array.getElem?_eq_getElem (by rw [h1];exact (List.getElem?_eq_some_iff.1 hj).1)) hj
 | _=>trivial
-- whole functions
def V7:Nat->List AV->List (Nat×AV)
 | _,[]=>[]
 | i,c :: cs=>(i,c) :: V7 (i+1) cs
theorem V6:∀ (cs:List AV) (s i:Nat),Ct (V7 s cs) i=if s<=i then (cs[i - s]?).getD .any else .any
 | [],s,i=>by simp [V7,Ct]
 | c :: cs,s,i=>by
  simp only [V7,Ct]
  by_cases e:i=s
  ·subst e;simp
  ·rw [if_neg e,V6 cs (s+1) i]
   by_cases h:s+1<=i
   ·rw [if_pos h,if_pos (by omega),show i - s=(i - (s+1))+1 by omega,List.getElem?_cons_succ]
   ·rw [if_neg h,if_neg (by omega)]
def Pn (P:Program) (σ:Ah):List ResultVar->(List AV->Prop)->Prop
 | [],K=>K []
 | .tmp t :: r,K=>Pn P σ r fun l=>K (Ct σ.fr t :: l)
 | .cell d t :: r,K=>match Ct σ.fr d with
  | .bp b p=>match Cd b σ.bk,tyK P t with
   | some (.box _ cs),some (q,s)=>rdA q s (cs.drop p) fun u=>Pn P σ r fun l=>K (u :: l)
   | some (.arr _ cs),some (2,s)=>p=0/\s=cs.length/\Pn P σ r fun l=>K (.aggI cs :: l)
   | _,_=>False
  | _=>False
def Ah3:List AV->AV
 | [c]=>c
 | cs=>.tup cs
section
variable {P : Program} {G : World -> Prop}
def B06 (tmps:Array Value):ResultVar->Sem Value
 | .tmp t=>pure (tmps.getD t undef)
 | .cell d t=>do loadVar t (<- asAddr (tmps.getD d undef))
theorem Ta {V w0:World} {n:Fm} {E:Env} {σ:Ah} {a:Act} {w:World} (hs:St V w0 n E σ a w):∀ (rs:List ResultVar) (K:List AV->Prop),Pn P σ rs K->∃ l,K l/\∃ vs:List Value,(rs.mapM (B06 a.tmps)).run P w=.ok vs w/\At E (vis V w0 w (Ac E σ.bk)) vs l
 | [],K,h=>⟨[],h,[],rfl,At.nil⟩
 | .tmp t :: r,K,h=>by
  obtain ⟨l,h1,vs,h2,h3⟩:=Ta hs r _ h
  exact ⟨_,h1,a.tmps.getD t undef :: vs,by simp [List.mapM_cons,B06,h2],At.cons (hs.slots t) h3⟩
 | .cell d t :: r,K,h=>by
  simp only [Pn] at h
  split at h
  case h_2=>exact h.elim
  rename_i b p hd
  have hv:=hs.slots d
  rw [hd] at hv
  generalize hu:a.tmps.getD d undef=u at hv
  cases hv
  have load:∀ {v:Value},(Instr.loadAt t (.pointer (some ⟨E.blk b,p,none⟩))).run P w=.ok v w->(loadVar t ⟨E.blk b,p,none⟩).run P w=.ok v w:=fun h=>by
   simpa [Instr.loadAt,Instr.sureAddr] using h
  split at h
  ·rename_i b' cs q s hb ht
   obtain ⟨u,hK,hr⟩:=Av7 ht h
   obtain ⟨l,h1,vs,h2,h3⟩:=Ta hs r _ hK
   obtain ⟨q1,q2⟩:=J1 hb
   obtain rfl:b'=b:=q2
   obtain ⟨C,e,hB,hC⟩:=hs.holds _ q1
   obtain ⟨v,hv1,hv2⟩:=hr E (vis V w0 w (Ac E σ.bk)) w (E.blk b') p e C hB ⟨by simp [<-hC.1],fun j v d a b=>by
    rw [List.getElem?_drop] at a b
    exact hC.2 _ v d a b⟩
   exact ⟨_,h1,v :: vs,by simp [List.mapM_cons,B06,h2,hu,asAddr,load hv1],At.cons hv2 h3⟩
  ·rename_i b' cs s hb ht
   obtain ⟨rfl,h0,h⟩:=h
   obtain ⟨l,h1,vs,h2,h3⟩:=Ta hs r _ h
   obtain ⟨q1,q2⟩:=J1 hb
   obtain rfl:b'=b:=q2
   obtain ⟨C,e,hB,hC⟩:=hs.holds _ q1
   obtain ⟨ha,hz⟩:=Fv (w:=w) ht
   have hl:(loadCells ⟨E.blk b',0,none⟩ C.toList.length).run P w=.ok C w:=run_loadCells_list (P:=P) w ⟨E.blk b',0,none⟩ C.toList fun j v hv=>by
    rw [Hg,hB.cell,Nat.zero_add]
    simpa using hv
   rw [hC.len,<-h0] at hl
   exact ⟨_,h1,.agg C :: vs,by simp [List.mapM_cons,B06,h2,hu,asAddr,load (v:=.agg C) (by simp [Instr.loadAt,Instr.sureAddr,loadVar,ha,hz,hl])],At.cons (.aggI hC) h3⟩
  ·exact h.elim
def Fm.bare (m:Fm):Fm:=⟨m.nd,m.fix,[],fun _=>none,0⟩
theorem St.other {V w0:World} {m:Fm} {E:Env} {σ:Ah} {a:Act} {w w':World} {row:Option Nat} (h:St V w0 m E σ a w) (hg:w.grownBy w' row) (hr:∀ r,row=some r->w0.heap.size<=r/\∃ o:Obj,w.heap[r]? = some o/\Kk o=true):St V w0 m.bare E σ { a with defers:=[] } w':=by
 have hx:Ext (vis V w0 w (Ac E σ.bk)) (vis V w0 w' (Ac E σ.bk)):=Dl hg.size fun p u _ _ h3 h4=>⟨h3,K1 h4 hg fun r e=>(hr r e).2⟩
 have hs:∀ b∈σ.bk,∀ g∈b.owned E,w'.heap[g]? = w.heap[g]? := fun b hb g hgm=>by
  obtain ⟨o,ho,hc⟩:=BA.owned_cells (h.holds b hb) g hgm
  refine hg.block g (Array.getElem?_eq_some_iff.1 ho).1 fun e=>?_
  obtain ⟨_,o',ho',hc'⟩:=hr g e.symm
  rw [ho] at ho'
  obtain rfl:=Option.some.inj ho'
  rw [hc] at hc';cases hc'
 exact ⟨h.ext,h.low.grown hg h.low.size fun g e=>(hr g e).1,h.apart,h.base,fun b hb=>BA.holds_ext (Env.same_refl 0 0 E) hx (hs b hb) b.off_none (h.holds b hb),fun i=>(h.slots i).mono hx,h.size,⟨rfl,List.nodup_nil,fun D hD=>by cases hD⟩,Nat.zero_le _,fun g o e=>by cases e⟩
theorem St.forget {V w0:World} {m:Fm} {E:Env} {σ:Ah} {a:Act} {w:World} (h:St V w0 m E σ a w):St V w0 m.bare E σ { a with defers:=[] } w :=
 ⟨h.ext,h.low,h.apart,h.base,h.holds,h.slots,h.size,⟨rfl,List.nodup_nil,fun D hD=>by cases hD⟩,Nat.zero_le _,fun g o e=>by cases e⟩
theorem St.marks {V w0:World} {m:Fm} {E:Env} {σ:Ah} {a:Act} {w:World} (h:St V w0 m E σ a w):Eg w0.heap.size m.ds w:=⟨h.defers.2.1,fun D hD=>⟨(h.defers.2.2 D hD).1,(h.hold.2 D _ (h.defers.2.2 D hD).2).1⟩⟩
theorem St.shut {V w0:World} {m:Fm} {E:Env} {σ:Ah} {a:Act} {w:World} (h:St V w0 m E σ a w):St V w0 m.bare E σ { a with defers:=[] } (shut m.ds w) :=
 Uc (I:=fun W=>St V w0 m.bare E σ { a with defers:=[] } W) (fun _ _ _ hs hg hr=>hs.other hg hr) m.ds w h.marks h.forget
theorem Ba0:∀ {q s:Nat} {cs:List AV} {K K':AV->Prop},rdA q s cs K->(∀ u,K u->K' u)->rdA q s cs K'
 | 0,_,_ :: _,_,_,h,hk=>hk _ h
 | 0,_,[],_,_,h,_=>(show False from h).elim
 | 1,_,_,_,_,h,hk=>⟨h.1,hk _ h.2⟩
 | _+2,_,_,_,_,h,_=>(show False from h).elim
theorem Qx {P:Program} {σ:Ah} : ∀ {rs:List ResultVar} {K K':List AV->Prop},Pn P σ rs K->(∀ l,K l->K' l)->Pn P σ rs K'
 | [],_,_,h,hk=>hk _ h
 | .tmp t :: r,_,_,h,hk=>Qx (rs:=r) h fun l=>hk _
 | .cell d t :: r,K,K',h,hk=>by
  simp only [Pn] at h ⊢
  split at h
  case h_2=>exact h.elim
  split at h
  ·exact Ba0 h fun u=>fun h=>Qx (rs:=r) h fun l=>hk _
  ·exact ⟨h.1,h.2.1,Qx (rs:=r) h.2.2 fun l=>hk _⟩
  ·exact h.elim
theorem A7.ofS {f : FuncId} {fn : Func} {c : Code} {n : Nat} {rs : List ResultVar} {args : List AV} {r : AV} {nb : List BA} (hf : P.funcs[f]? = some fn) (hb : fn.body = some c) (hname : (fn.name == "runtime.NumGoroutine") = false) (hn : fn.ntmps = n) (hres : fn.results.toList = rs) (hal : args.length <= n)
  (hG:∀ w w',G w->Below w.heap.size w w'->G w')
  (h:AV.okd.okds args->∀ V w0,AW P G none V w0 ⟨n,[],false⟩ c ⟨V7 0 args,[]⟩ fun e σ=>(e=.ret\/e=.normal)/\Pn P σ rs fun l=>∃ ρ,(∀ (E:Env) (X:World) (v:Value),Bb E X v (Ah3 l)->Bb E X v (r.ren ρ))/\leB ρ σ.bk nb/\(Ay ρ nb).Nodup):A7 P G f args r nb:=by
 refine ⟨fun vs w=>?_,fun V w E vs hV hGw hargs=>?_⟩
 ·have hname' : ¬ fn.name = "runtime.NumGoroutine" := by simpa using hname
  simp [callFunc,program,Sem.run,hf,hname',hb]
 have hok:AV.okd.okds args:=Th fun j c hj=>(hargs.2 j _ c (List.getElem?_eq_getElem (by rw [hargs.1];exact (List.getElem?_eq_some_iff.1 hj).1)) hj).okd
 have hsz:vs.size=args.length:=by simpa using hargs.1
 have hs:St V w ⟨⟨n,[],false⟩,fun _=>undef,[],fun _=>none,0⟩ E ⟨V7 0 args,[]⟩ { tmps:=vs++Array.replicate (fn.ntmps - vs.size) undef,defers:=[] } w:=by
  have hx:Ext V (vis V w w []):=M6 hV (Below.refl _ w)
  refine ⟨hV,Below.refl _ w,List.nodup_nil,(fun g hg=>by cases hg),(fun b hb=>by cases hb),fun i=>?_,⟨(by simp [hn,hsz];omega),fun i hi=>by cases hi⟩,⟨rfl,List.nodup_nil,fun D hD=>by cases hD⟩,Nat.zero_le _,fun g o e=>by cases e⟩
  rw [V6]
  simp only [Nat.zero_le,if_true,Nat.sub_zero]
  by_cases hi:i < args.length
  ·rw [List.getElem?_eq_getElem hi]
   have:vs[i]? = some (vs[i]'(by omega)):=Array.getElem?_eq_getElem _
   have h2:=hargs.2 i (vs[i]'(by omega)) _ (by rw [Array.getElem?_toList];exact this) (List.getElem?_eq_getElem hi)
   rw [Array.getD_eq_getD_getElem?,Array.getElem?_append_left (by omega),this]
   exact h2.mono hx
  ·rw [List.getElem?_eq_none (by omega)]
   exact .any
 refine (callsIn_wide (n:=0)).1 (callsIn_of_wp_marks (F:=FW none) hf hb trivial (wpIn_mono (h hok V w (fun w' hb'=>hG w w' hGw hb') ⟨⟨n,[],false⟩,fun _=>undef,[],fun _=>none,0⟩ E _ w rfl hs) ?_) rfl)
 rintro e a' w2 ⟨m',E',σ',_,⟨he,hr⟩,hs2⟩
 have hmk:=hs2.marks
 have hdf:=hs2.defers.1
 have hs':=hs2.shut
 have htm:({ a' with defers:=[] } : Act).tmps=a'.tmps:=rfl
 generalize hw':shut m'.ds w2=w' at hs'
 obtain ⟨l,⟨ρ,h1,h2,h3⟩,vs',h4,h5⟩:=Ta hs' rs _ hr
 -- what is handed over
 have hfin:=hs'.le (S:=⟨[],nb⟩) (ρ:=ρ) ⟨trivial,h2,h3⟩
 have hsub:Ext (vis V w w' (Ac E' σ'.bk)) (vis V w w' (Ac (E'.ren ρ) nb)):=Dl (Nat.le_refl _) fun p u _ _ q4 q5=>⟨fun hm=>q4 (by
  obtain ⟨b,hb,hg⟩:=Bx.1 hm
  rw [BA.ren_owned] at hg
  exact Bx.2 ⟨_,(J1 (Wv h2 b hb)).1,hg⟩),q5⟩
 have hv:∃ v,(results fn a'.tmps).run P w'=.ok v w'/\Bb E' (vis V w w' (Ac E' σ'.bk)) v (Ah3 l):=by
  have hmap:(fn.results.mapM (B06 a'.tmps)).run P w'=.ok vs'.toArray w':=by
   rw [Array.mapM_eq_mapM_toList,hres]
   simp [h4]
  refine ⟨if h:vs'.toArray.size=1 then vs'.toArray[0] else .tuple vs'.toArray,?_,?_⟩
  ·have hfun:results fn a'.tmps=(fn.results.mapM (B06 a'.tmps) >>= fun vs=>pure (if h:vs.size=1 then vs[0] else .tuple vs)):=by
    unfold results
    congr 1
   rw [hfun,Sem.run_bind,hmap]
   rfl
  ·have hlen:=h5.1
   match l,vs',h5,hlen with
   | [c],[v],h5,_=>exact h5.2 0 v c rfl rfl
   | [],[],h5,_=>exact .tup rfl fun j v c a b=>by simp at a
   | c :: d :: l,v :: u :: vs',h5,_ =>
    have:¬ (v :: u :: vs').toArray.size=1:=by simp
    rw [dif_neg this]
    exact .tup (by simpa using h5.1) fun j v c a b=>h5.2 j v c (by simpa using a) b
 obtain ⟨v,hv1,hv2⟩:=hv
 have hpost:∃ v E'',Ending.returned v=.returned v/\True/\(results fn a'.tmps).run P w'=.ok v w'/\E''=E'.ren ρ/\Bb E'' (vis V w w' (Ac E'' nb)) v r:=by
  replace hv2:=h1 _ _ _ hv2
  exact ⟨v,_,rfl,trivial,hv1,rfl,(hv2.mono hsub).ren_⟩
 obtain ⟨v,E'',_,_,hv1,rfl,hv3⟩:=hpost
 subst hw'
 have hend:=P5 (F:=FW none) (n:=0) (P:=P) (fn:=fn) (tmps:=a'.tmps) (R:=fun e w'=>∃ v E',e=.returned v/\Below w.heap.size w w'/\(Ac E' nb).Nodup/\(∀ g∈Ac E' nb,w.heap.size<=g) /\
  (∀ b∈nb,b.holds E' (vis V w w' (Ac E' nb)) w' w.heap.size)/\Bb E' (vis V w w' (Ac E' nb)) v r) m'.ds w2 hmk ⟨v,hv1,v,_,rfl,hs'.low,hfin.apart,hfin.base,hfin.holds,hv3⟩
 rw [<-hdf] at hend
 rcases he with rfl | rfl
 ·exact hend
 ·exact hend
theorem A7.of {f : FuncId} {fn : Func} {c : Code} {n : Nat} {rs : List ResultVar} {args : List AV} {r : AV} {nb : List BA} (hf : P.funcs[f]? = some fn) (hb : fn.body = some c) (hname : (fn.name == "runtime.NumGoroutine") = false) (hn : fn.ntmps = n) (hres : fn.results.toList = rs) (hal : args.length <= n)
  (hG:∀ w w',G w->Below w.heap.size w w'->G w')
  (h:AV.okd.okds args->∀ V w0,AW P G none V w0 ⟨n,[],false⟩ c ⟨V7 0 args,[]⟩ fun e σ=>(e=.ret\/e=.normal)/\Pn P σ rs fun l=>∃ ρ,Ah3 l=r.ren ρ/\leB ρ σ.bk nb/\(Ay ρ nb).Nodup):A7 P G f args r nb :=
 A7.ofS hf hb hname hn hres hal hG fun hok V w0=>AW.mono (h hok V w0) fun _ _ ⟨h1,h2⟩=>⟨h1,Qx h2 fun _ ⟨ρ,e,h3⟩=>⟨ρ,fun _ _ _ hv=>e ▸ hv,h3⟩⟩
end
structure F5 where
 sl:List (Nat×Nat)
 pre:List Nat
 rd:List Nat
 cs:List Nat
 out:Nat
def F3 (o:Oper):List Nat:=o.after.toList.filterMap fun e=>if Region.binds .any e then some e.on else none
def bef (acc:List Nat):List (List Nat)->List Nat
 | []=>acc
 | ds :: r=>bef (acc++[ds.foldl (fun s d=>s|||2 ^ d|||acc.getD d 0) 0]) r
theorem Ym {acc:List Nat} {j:Nat} : ∀ (ds:List Nat) (s:Nat),(ds.foldl (fun s d=>s|||2 ^ d|||acc.getD d 0) s).testBit j=true->s.testBit j=true\/∃ d∈ds,j=d\/(acc.getD d 0).testBit j=true
 | [],s,h=>.inl h
 | d :: ds,s,h=>by
  rcases Ym ds _ h with h | ⟨d',h1,h2⟩
  ·simp only [Nat.testBit_or,Bool.or_eq_true,Nat.testBit_two_pow,decide_eq_true_eq] at h
   rcases h with (h | h) | h
   ·exact .inl h
   ·exact .inr ⟨d,by simp,.inl h.symm⟩
   ·exact .inr ⟨d,by simp,.inr h⟩
  ·exact .inr ⟨d',List.mem_cons_of_mem _ h1,h2⟩
theorem Aa3:∀ (r:List (List Nat)) (acc:List Nat) (i:Nat),i < acc.length->(bef acc r).getD i 0=acc.getD i 0
 | [],acc,i,h=>rfl
 | ds :: r,acc,i,h=>by
  simp only [bef]
  rw [Aa3 r _ i (by simp;omega)]
  simp [List.getD_eq_getElem?_getD,List.getElem?_append_left h]
theorem Be4:∀ (r:List (List Nat)) (acc:List Nat) (i j:Nat),((bef acc r).getD (acc.length+i) 0).testBit j=true->i < r.length->(∀ d∈r.getD i [],d < acc.length+i)->∃ d∈r.getD i [],j=d\/((bef acc r).getD d 0).testBit j=true
 | [],acc,i,j,_,hi,_=>by simp at hi
 | ds :: r,acc,0,j,h,_,hd=>by
  simp only [bef,Nat.add_zero] at h
  rw [Aa3 r _ acc.length (by simp)] at h
  simp only [List.getD_eq_getElem?_getD,List.getElem?_append_right (Nat.le_refl _),Nat.sub_self,List.getElem?_cons_zero,Option.getD_some] at h
  rcases Ym ds 0 h with h | ⟨d,h1,h2⟩
  ·simp at h
  ·refine ⟨d,h1,h2.elim Or.inl fun h=>.inr ?_⟩
   have hlt:=hd d h1
   simp only [Nat.add_zero] at hlt
   simp only [bef]
   rw [Aa3 r _ d (by simp;omega)]
   simpa [List.getD_eq_getElem?_getD,List.getElem?_append_left hlt] using h
 | ds :: r,acc,i+1,j,h,hi,hd=>by
  have h':=Be4 r (acc++[ds.foldl (fun s d=>s|||2 ^ d|||acc.getD d 0) 0]) i j (by
   simp only [bef] at h
   simpa [Nat.add_assoc,Nat.add_comm 1 i] using h) (by simpa using hi) (fun d hdm=>by
   have:=hd d (by simpa using hdm)
   simp;omega)
  simpa [bef] using h'
def D8 (m:Nat):List F5->List Nat
 | []=>[]
 | h :: r=>m :: D8 (m+h.out) r
def P2 (bs:List Nat) (hs:List F5) (i:Nat):List Nat:=List.range' (bs.getD i 0) ((hs[i]?.map (·.out)).getD 0)
def Mz (m:Nat):List F5->Nat
 | []=>m
 | h :: r=>Mz (m+h.out) r
def Y5:List Nat->Bool
 | []=>true
 | x :: r=>!r.contains x&&Y5 r
def Ar9 (m:Nat) (ops:List Oper) (hs:List F5) (A bs:List Nat) (i:Nat) (o:Oper) (h:F5):Bool :=
 (F3 o).all (fun d=>decide (d < i)) &&
 h.sl.all (fun p=>(A.getD i 0).testBit p.2&&((ops[p.2]?).bind (·.dst)==some p.1)) &&
 (List.range ops.length).all (fun j=>match (ops[j]?).bind (·.dst) with
  | some d=>!h.pre.contains d || j==i || (A.getD j 0).testBit i
  | none=>true) &&
 (h.cs++h.rd).all (fun t=>decide (t < bs.getD i 0)&&(decide (t < m) || (List.range i).any fun j=>(P2 bs hs j).contains t&&(A.getD i 0).testBit j)) &&
 (List.range ops.length).all (fun j=>j==i || h.cs.all fun t=>!(((hs[j]?).map fun g=>g.cs++g.rd).getD []).contains t || (A.getD i 0).testBit j) &&
 Y5 (h.cs++h.rd) &&
 (match o.guard with
  | none=>true
  | some (j,_)=>(A.getD i 0).testBit j&&((ops[j]?).bind (·.dst)).isSome)
def He (ops:List Oper):List Nat:=ops.filterMap (·.dst)
def At1 (n:Nd) (m:Nat) (ops:List Oper) (hs:List F5):Bool :=
 let A:=bef [] (ops.map F3)
 let bs:=D8 m hs
 hs.length==ops.length&&Y5 (He ops)&&Hc n ops&&Ai4 ops.toArray&&(List.range ops.length).all (fun i=>match ops[i]?,hs[i]? with
  | some o,some h=>Ar9 m ops hs A bs i o h
  | _,_=>false)
def Kn (sl:List (Nat×Nat)) (rs:List AV):List (Nat×AV) :=
 match sl with
 | []=>[]
 | (d,j) :: r=>(d,rs.getD j .any) :: Kn r rs
def Hw (pre ds:List Nat):List (Nat×AV) :=
 match ds with
 | []=>[]
 | d :: r=>if pre.contains d then Hw pre r else (d,.any) :: Hw pre r
def D0 (ts:List Nat) (toks:List BA):List BA :=
 match ts with
 | []=>[]
 | t :: r=>toks.getD t (.arr 0 []) :: D0 r toks
def Wi:List Oper->List AV->List (Nat×AV)->List (Nat×AV)
 | [],_,fr=>fr
 | o :: r,rs,fr=>match o.dst,rs with
  | some d,x :: rs=>(d,x) :: Wi r rs fr
  | none,_ :: rs=>Wi r rs fr
  | _,[]=>fr
def Pa (rs:List AV) (g:Option (Nat×Bool)) (run skip:Prop):Prop :=
 match g with
 | none=>run
 | some (j,b)=>match nrm (rs.getD j .any) with
  | .val (.bool true)=>(match b with | true=>run | false=>skip)
  | .val (.bool false)=>(match b with | true=>skip | false=>run)
  | .val (.tuple _)=>skip
  | _=>False
def B94 (x:AV) (b:Bool):Prop:=x=.val (.bool !b)\/∃ t,x=.val (.tuple t)
theorem B41 {rs:List AV} {g:Option (Nat×Bool)} {run skip:Prop} (h:Pa rs g run skip):(run/\(g=none\/∃ j b,g=some (j,b)/\nrm (rs.getD j .any)=.val (.bool b)))\/(skip/\∃ j b,g=some (j,b)/\B94 (nrm (rs.getD j .any)) b):=by
 unfold Pa at h
 split at h
 ·exact .inl ⟨h,.inl rfl⟩
 ·rename_i j b
  split at h
  ·rename_i e
   cases b
   ·exact .inr ⟨h,j,_,rfl,.inl e⟩
   ·exact .inl ⟨h,.inr ⟨j,_,rfl,e⟩⟩
  ·rename_i e
   cases b
   ·exact .inl ⟨h,.inr ⟨j,_,rfl,e⟩⟩
   ·exact .inr ⟨h,j,_,rfl,.inl e⟩
  ·rename_i tt e
   exact .inr ⟨h,j,_,rfl,.inr ⟨tt,e⟩⟩
  ·exact h.elim
def Az (P:Program) (G:World->Prop) (ds:List Nat) (fr0:List (Nat×AV)):List Oper->List F5->List BA->List AV->(List BA->List AV->Prop)->Prop
 | [],_,toks,rs,K=>K toks rs
 | _ :: _,[],_,_,_=>False
 | o :: r,h :: hs,toks,rs,K=>Pa rs o.guard (Bj P G (ev (Kn h.sl rs++Hw h.pre ds++fr0)) (D0 h.cs toks++D0 h.rd toks) o fun x bk' =>
   bk'=bk'.take h.out++D0 h.rd toks/\(bk'.take h.out).length=h.out/\Az P G ds fr0 r hs (toks++bk'.take h.out) (rs++[x]) K) (h.out=0/\h.cs=[]/\Az P G ds fr0 r hs toks (rs++[.val undef]) K)
def Yl (toks:List BA) (fr0:List (Nat×AV)) (ops:List Oper) (rs:List AV) (hs:List F5) (bs:List Nat):Prop :=
 ∀ (i:Nat) (o:Oper),ops[i]? = some o->Hz o=true->Ky (cid o.dst) (cid o.dst+100) fr0=true/\(∀ (j:Nat) x,j≠i->((bef [] (ops.map F3)).getD j 0).testBit i=false->rs[j]? = some x->x.off (cid o.dst) (cid o.dst+100)=true) /\
  ∀ (t:Nat) b,t∉P2 bs hs i->(∀ j,t∈P2 bs hs j->((bef [] (ops.map F3)).getD j 0).testBit i=false)->toks[t]? = some b->b.off (cid o.dst) (cid o.dst+100)=true
theorem S7:∀ {l:List Nat},Y5 l=true->l.Nodup
 | [],_=>List.nodup_nil
 | x :: r,h=>by
  simp only [Y5,Bool.and_eq_true,Bool.not_eq_true',List.contains_eq_mem,decide_eq_false_iff_not] at h
  exact List.nodup_cons.2 ⟨h.1,S7 h.2⟩
theorem Su:∀ (hs:List F5) (m:Nat),m<=Mz m hs
 | [],m=>Nat.le_refl _
 | h :: r,m=>Nat.le_trans (by omega) (Su r (m+h.out))
theorem Nj:∀ (hs:List F5) (m i:Nat) (h:F5),hs[i]? = some h->∃ b,(D8 m hs)[i]? = some b/\m<=b/\b+h.out<=Mz m hs
 | [],_,i,h,e=>by simp at e
 | g :: r,m,0,h,e=>by
  simp at e;subst e
  exact ⟨m,rfl,Nat.le_refl _,Su r _⟩
 | g :: r,m,i+1,h,e=>by
  obtain ⟨b,h1,h2,h3⟩:=Nj r (m+g.out) i h (by simpa using e)
  exact ⟨b,by simpa [D8] using h1,by omega,h3⟩
theorem Z0:∀ (hs:List F5) (m i j:Nat) (g:F5) (b c:Nat),i < j->hs[i]? = some g->(D8 m hs)[i]? = some b->(D8 m hs)[j]? = some c->b+g.out<=c
 | [],_,i,_,_,_,_,_,e,_,_=>by simp at e
 | h :: r,m,0,j,g,b,c,hij,e,e1,e2=>by
  simp at e;subst e
  simp [D8] at e1;subst e1
  obtain ⟨j',rfl⟩ : ∃ j',j=j'+1:=⟨j - 1,by omega⟩
  simp only [D8,List.getElem?_cons_succ] at e2
  have key:∀ (r:List F5) (m j c:Nat),(D8 m r)[j]? = some c->m<=c:=by
   intro r
   induction r with
   | nil=>intro m j c h;simp [D8] at h
   | cons h r ih =>
    intro m j c h
    cases j with
    | zero=>simp [D8] at h;omega
    | succ j=>simp only [D8,List.getElem?_cons_succ] at h;have:=ih _ _ _ h;omega
  exact key r _ j' c e2
 | h :: r,m,i+1,j,g,b,c,hij,e,e1,e2=>by
  obtain ⟨j',rfl⟩ : ∃ j',j=j'+1:=⟨j - 1,by omega⟩
  exact Z0 r (m+h.out) i j' g b c (by omega) (by simpa using e) (by simpa [D8] using e1) (by simpa [D8] using e2)
theorem Q9 {m:Nat} {hs:List F5} {i t:Nat} {h:F5} {b:Nat} (e:hs[i]? = some h) (eb:(D8 m hs)[i]? = some b):t∈P2 (D8 m hs) hs i↔b<=t/\t < b+h.out:=by
 unfold P2
 rw [List.mem_range'_1,List.getD_eq_getElem?_getD,eb,e]
 simp
theorem Qy {m:Nat} {hs:List F5} {i t:Nat} (e:hs[i]? = none):t∉P2 (D8 m hs) hs i:=by
 unfold P2
 rw [List.mem_range'_1,e]
 simp
theorem N7 {m:Nat} {hs:List F5} {i j t:Nat} (hi:t∈P2 (D8 m hs) hs i) (hj:t∈P2 (D8 m hs) hs j):i=j:=by
 cases ei:hs[i]? with
 | none=>exact absurd hi (Qy ei)
 | some g =>
  cases ej:hs[j]? with
  | none=>exact absurd hj (Qy ej)
  | some h =>
   obtain ⟨b,b1,b2,b3⟩:=Nj hs m i g ei
   obtain ⟨c,c1,c2,c3⟩:=Nj hs m j h ej
   rw [Q9 ei b1] at hi
   rw [Q9 ej c1] at hj
   rcases Nat.lt_trichotomy i j with h' | h' | h'
   ·have:=Z0 hs m i j g b c h' ei b1 c1;omega
   ·exact h'
   ·have:=Z0 hs m j i h c b h' ej c1 b1;omega
theorem Ws {m:Nat} {hs:List F5} {i t:Nat} (hi:t∈P2 (D8 m hs) hs i):m<=t:=by
 cases ei:hs[i]? with
 | none=>exact absurd hi (Qy ei)
 | some g =>
  obtain ⟨b,b1,b2,_⟩:=Nj hs m i g ei
  rw [Q9 ei b1] at hi;omega
theorem A07 {rs:List AV} {k:Nat} : ∀ {sl:List (Nat×Nat)},(∀ p∈sl,p.2 < k)->Kn sl (rs.take k)=Kn sl rs
 | [],_=>rfl
 | (d,j) :: r,h=>by
  simp only [Kn]
  have hj:j < k:=h (d,j) (by simp)
  rw [A07 fun p hp=>h p (List.mem_cons_of_mem _ hp),List.getD_eq_getElem?_getD,List.getElem?_take_of_lt hj,<-List.getD_eq_getElem?_getD]
theorem Uf {toks:List BA} {k:Nat} : ∀ {ts:List Nat},(∀ t∈ts,t < k)->D0 ts (toks.take k)=D0 ts toks
 | [],_=>rfl
 | t :: r,h=>by
  simp only [D0]
  rw [Uf fun p hp=>h p (List.mem_cons_of_mem _ hp),List.getD_eq_getElem?_getD,List.getElem?_take_of_lt (h t (by simp)),<-List.getD_eq_getElem?_getD]
theorem S2 {toks:List BA} : ∀ (k b:Nat),b+k<=toks.length->D0 (List.range' b k) toks=(toks.drop b).take k
 | 0,b,_=>by simp [D0]
 | k+1,b,h=>by
  rw [List.range'_succ]
  simp only [D0]
  rw [S2 k (b+1) (by omega),List.drop_eq_getElem_cons (by omega:b < toks.length),List.take_succ_cons,List.getD_eq_getElem?_getD,List.getElem?_eq_getElem (by omega)]
  rfl
theorem T8 (ts:List Nat) (toks:List BA):D0 ts toks=ts.map fun t=>toks.getD t (.arr 0 []):=by
 induction ts with
 | nil=>rfl
 | cons t r ih=>simp [D0,ih]
section
variable {P : Program} {G : World -> Prop}
def Cz5 (P:Program) (G:World->Prop) (ds:List Nat) (fr0:List (Nat×AV)) (toks:List BA) (rs:List AV) (o:Oper) (h:F5) (i b:Nat):Prop :=
 ∃ x,rs[i]? = some x/\(((o.guard=none\/∃ j c,o.guard=some (j,c)/\nrm ((rs.take i).getD j .any)=.val (.bool c))/\((Hz o=true->∀ y,(ev (Kn h.sl (rs.take i)++Hw h.pre ds++fr0) y).off (cid o.dst) (cid o.dst+100)=true) ->
  Bs4 P G o (ev (Kn h.sl (rs.take i)++Hw h.pre ds++fr0)) (D0 h.cs (toks.take b)++D0 h.rd (toks.take b)) x ((toks.drop b).take h.out++D0 h.rd (toks.take b)))) \/
  ((∃ j c,o.guard=some (j,c)/\B94 (nrm ((rs.take i).getD j .any)) c)/\x=.val undef/\h.out=0/\h.cs=[]))
theorem X9 {ds:List Nat} {fr0:List (Nat×AV)} : ∀ (r:List Oper) (hr:List F5) (toks:List BA) (rs:List AV) (K:List BA->List AV->Prop),Az P G ds fr0 r hr toks rs K->hr.length=r.length ->
  ∃ toks' rs',K toks' rs'/\(∃ e,toks'=toks++e)/\(∃ e,rs'=rs++e)/\rs'.length=rs.length+r.length/\toks'.length=Mz toks.length hr /\
   ∀ (i:Nat) o h b,r[i]? = some o->hr[i]? = some h->(D8 toks.length hr)[i]? = some b->Cz5 P G ds fr0 toks' rs' o h (rs.length+i) b
 | [],[],toks,rs,K,h,_=>⟨toks,rs,h,⟨[],by simp⟩,⟨[],by simp⟩,by simp,rfl,fun i o h b e=>by simp at e⟩
 | [],_ :: _,_,_,_,_,hl=>by simp at hl
 | _ :: _,[],_,_,_,_,hl=>by simp at hl
 | o :: r,h :: hr,toks,rs,K,hv,hl=>by
  simp only [Az] at hv
  rcases B41 hv with ⟨hv,hg⟩ | ⟨⟨s1,s2,s3⟩,hg⟩
  case inr =>
   obtain ⟨toks',rs',k1,⟨e1,k2⟩,⟨e2,k3⟩,k4,k5,k6⟩:=X9 r hr _ _ K s3 (by simpa using hl)
   refine ⟨toks',rs',k1,⟨e1,k2⟩,⟨[.val undef]++e2,by rw [k3,List.append_assoc]⟩,by rw [k4];simp;omega,by rw [k5];simp [Mz,s1],fun i o' h' b' a1 a2 a3=>?_⟩
   cases i with
   | zero =>
    simp at a1 a2
    subst a1 a2
    simp [D8] at a3
    subst a3
    have t3:rs'.take rs.length=rs:=by rw [k3,List.append_assoc,List.take_left]
    refine ⟨.val undef,by rw [k3];simp,.inr ⟨?_,rfl,s1,s2⟩⟩
    simp only [Nat.add_zero,t3]
    exact hg
   | succ i =>
    have:=k6 i o' h' b' (by simpa using a1) (by simpa using a2) (by simpa [D8,s1] using a3)
    simpa [Nat.add_assoc,Nat.add_comm 1 i] using this
  obtain ⟨x,bk',⟨h1,h2,h3⟩,hu⟩:=Ay4 hv
  obtain ⟨toks',rs',k1,⟨e1,k2⟩,⟨e2,k3⟩,k4,k5,k6⟩:=X9 r hr _ _ K h3 (by simpa using hl)
  have hlen:(toks++bk'.take h.out).length=toks.length+h.out:=by rw [List.length_append,h2]
  refine ⟨toks',rs',k1,⟨bk'.take h.out++e1,by rw [k2,List.append_assoc]⟩,⟨[x]++e2,by rw [k3,List.append_assoc]⟩,by rw [k4];simp;omega,by rw [k5,hlen];rfl,fun i o' h' b' a1 a2 a3=>?_⟩
  cases i with
  | zero =>
   simp at a1 a2
   subst a1 a2
   simp [D8] at a3
   subst a3
   have t1:toks'.take toks.length=toks:=by rw [k2,List.append_assoc,List.take_left]
   have t2:(toks'.drop toks.length).take h.out=bk'.take h.out:=by
    rw [k2,List.append_assoc,List.drop_left,List.take_append_of_le_length (by omega),List.take_of_length_le (by omega)]
   have t3:rs'.take rs.length=rs:=by rw [k3,List.append_assoc,List.take_left]
   refine ⟨x,by rw [k3];simp,.inl ?_⟩
   simp only [Nat.add_zero,t1,t2,t3]
   rw [<-h1]
   exact ⟨hg,hu⟩
  | succ i =>
   have:=k6 i o' h' b' (by simpa using a1) (by simpa using a2) (by rw [hlen];simpa [D8] using a3)
   simpa [Nat.add_assoc,Nat.add_comm 1 i] using this
end
theorem B13 (E:Env) {bk bk':List BA} (h:bk.Perm bk'):(Ac E bk).Perm (Ac E bk'):=by
 induction h with
 | nil=>exact List.Perm.refl _
 | cons x _ ih=>exact ih.append_left _
 | swap x y l=>simp only [Ac,<-List.append_assoc];exact List.perm_append_comm.append_right _
 | trans _ _ i1 i2=>exact i1.trans i2
section
variable {V w0 : World} {n : Fm} {E : Env} {a : Act} {w : World}
theorem St.perm {fr:List (Nat×AV)} {bk bk':List BA} (h:St V w0 n E ⟨fr,bk⟩ a w) (hp:bk.Perm bk'):St V w0 n E ⟨fr,bk'⟩ a w:=by
 have ho:=B13 E hp
 have hx:Ext (vis V w0 w (Ac E bk)) (vis V w0 w (Ac E bk')):=Dl (Nat.le_refl _) fun p u _ _ h4 h5=>⟨fun hm=>h4 (ho.mem_iff.2 hm),h5⟩
 exact ⟨h.ext,h.low,ho.nodup_iff.1 h.apart,fun g hg=>h.base g (ho.mem_iff.2 hg),fun b hb=>BA.holds_ext (Env.same_refl 0 0 E) hx (fun _ _=>rfl) b.off_none (h.holds b (hp.mem_iff.2 hb)),fun i=>(h.slots i).mono hx,h.size,h.defers,h.hold.1,fun g o hg=>⟨(h.hold.2 g o hg).1,fun hm=>(h.hold.2 g o hg).2 (ho.mem_iff.2 hm)⟩⟩
theorem St.frame {fr fr':List (Nat×AV)} {bk:List BA} (h:St V w0 n E ⟨fr,bk⟩ a w) (hf:∀ i,Ct fr' i=.any\/Ct fr' i=Ct fr i):St V w0 n E ⟨fr',bk⟩ a w :=
 ⟨h.ext,h.low,h.apart,h.base,h.holds,fun i=>by
  rcases hf i with e | e
  ·rw [e];exact .any
  ·rw [e];exact h.slots i,h.size,h.defers,h.hold⟩
theorem Kj (i:Nat):∀ (a b:List (Nat×AV)),(∀ p∈a,p.1≠i)->Ct (a++b) i=Ct b i
 | [],_,_=>rfl
 | (j,c) :: a,b,h=>by
  simp only [List.cons_append,Ct]
  rw [if_neg (Ne.symm (h (j,c) (by simp))),Kj i a b fun p hp=>h p (List.mem_cons_of_mem _ hp)]
theorem P4 (i:Nat) {c:AV} : ∀ (a b:List (Nat×AV)),(∀ p∈a,p.1=i->p.2=c)->(∃ p∈a,p.1=i)->Ct (a++b) i=c
 | [],_,_,⟨p,hp,_⟩=>by cases hp
 | (j,d) :: a,b,h,⟨p,hp,e⟩=>by
  simp only [List.cons_append,Ct]
  by_cases hj:i=j
  ·rw [if_pos hj];exact h (j,d) (by simp) hj.symm
  ·rw [if_neg hj]
   refine P4 i a b (fun q hq=>h q (List.mem_cons_of_mem _ hq)) ⟨p,?_,e⟩
   rcases List.mem_cons.1 hp with rfl | hp
   ·exact absurd e.symm hj
   ·exact hp
end
def Cw (ops:List Oper) (j:Nat):Option Nat:=(ops[j]?).bind (·.dst)
theorem Qh:∀ {ops:List Oper},(He ops).Nodup->∀ {i j d:Nat},Cw ops i=some d->Cw ops j=some d->i=j
 | [],_,i,_,_,h,_=>by simp [Cw] at h
 | o :: r,hn,i,j,d,hi,hj=>by
  unfold He at hn
  have mem:∀ {k:Nat},Cw r k=some d->d∈He r:=fun {k} h=>by
   unfold Cw at h
   obtain ⟨o',h1,h2⟩:=Option.bind_eq_some_iff.1 h
   exact List.mem_filterMap.2 ⟨o',List.mem_of_getElem? h1,h2⟩
  have hr:(He r).Nodup:=by
   simp only [List.filterMap_cons] at hn
   split at hn
   ·exact hn
   ·exact (List.nodup_cons.1 hn).2
  have no:o.dst=some d->d∉He r:=fun e=>by
   simp only [List.filterMap_cons,e] at hn
   exact (List.nodup_cons.1 hn).1
  cases i with
  | zero =>
   cases j with
   | zero=>rfl
   | succ j =>
    have h1:o.dst=some d:=by simpa [Cw] using hi
    exact absurd (mem (by simpa [Cw] using hj)) (no h1)
  | succ i =>
   cases j with
   | zero =>
    have h1:o.dst=some d:=by simpa [Cw] using hj
    exact absurd (mem (by simpa [Cw] using hi)) (no h1)
   | succ j=>exact congrArg Nat.succ (Qh hr (by simpa [Cw] using hi) (by simpa [Cw] using hj))
theorem Bj0 {ops:List Oper} {j d:Nat} (h:Cw ops j=some d):d∈He ops:=by
 unfold Cw at h
 obtain ⟨o',h1,h2⟩:=Option.bind_eq_some_iff.1 h
 exact List.mem_filterMap.2 ⟨o',List.mem_of_getElem? h1,h2⟩
def Fl (rs:List AV) (S:Nat->Bool):Nat->List Oper->List (Nat×AV)
 | _,[]=>[]
 | j,o :: r=>match o.dst with
  | some d=>if S j then (d,rs.getD j .any) :: Fl rs S (j+1) r else Fl rs S (j+1) r
  | none=>Fl rs S (j+1) r
theorem Jy {rs:List AV} {S:Nat->Bool} : ∀ {ops:List Oper} {s:Nat} {p:Nat×AV},p∈Fl rs S s ops↔∃ j,Cw ops j=some p.1/\S (s+j)=true/\p.2=rs.getD (s+j) .any
 | [],s,p=>by simp [Fl,Cw]
 | o :: r,s,p=>by
  have split0:∀ {q:Nat->Prop},(∃ j,q j)↔q 0\/∃ j,q (j+1):=fun {q}=>⟨fun ⟨j,h⟩=>by cases j with | zero=>exact .inl h | succ j=>exact .inr ⟨j,h⟩,fun h=>h.elim (fun h=>⟨0,h⟩) fun ⟨j,h⟩=>⟨j+1,h⟩⟩
  rw [split0]
  have e0:Cw (o :: r) 0=o.dst:=by simp [Cw]
  have e1:∀ j,Cw (o :: r) (j+1)=Cw r j:=fun j=>by simp [Cw]
  simp only [e0,e1,Nat.add_zero]
  have ih:=Jy (rs:=rs) (S:=S) (ops:=r) (s:=s+1) (p:=p)
  simp only [Nat.add_assoc,Nat.add_comm 1] at ih
  simp only [Fl]
  cases hd:o.dst with
  | none=>simp [ih]
  | some d =>
   simp only
   by_cases hS:S s=true
   ·rw [if_pos hS,List.mem_cons,ih]
    constructor
    ·rintro (rfl | h)
     ·exact .inl ⟨rfl,hS,rfl⟩
     ·exact .inr h
    ·rintro (⟨h1,_,h2⟩ | h)
     ·left
      obtain ⟨p1,p2⟩:=p
      simp only [Option.some.injEq] at h1 h2
      subst h1 h2;rfl
     ·exact .inr h
   ·rw [if_neg hS,ih]
    constructor
    ·exact .inr
    ·rintro (⟨_,h,_⟩ | h)
     ·exact absurd h hS
     ·exact h
theorem J0 {rs:List AV} {S:Nat->Bool} {ops:List Oper} (hn:(He ops).Nodup) (fr0:List (Nat×AV)) {j d:Nat} (hd:Cw ops j=some d):Ct (Fl rs S 0 ops++fr0) d=if S j=true then rs.getD j .any else Ct fr0 d:=by
 by_cases hS:S j=true
 ·rw [if_pos hS]
  refine P4 d _ _ (fun p hp e=>?_) ⟨(d,rs.getD j .any),Jy.2 ⟨j,hd,by simpa using hS,by simp⟩,rfl⟩
  obtain ⟨k,k1,_,k3⟩:=Jy.1 hp
  rw [e] at k1
  obtain rfl:=Qh hn hd k1
  simpa using k3
 ·rw [if_neg hS]
  refine Kj d _ _ fun p hp e=>?_
  obtain ⟨k,k1,k2,_⟩:=Jy.1 hp
  rw [e] at k1
  obtain rfl:=Qh hn hd k1
  exact hS (by simpa using k2)
theorem Jm {rs:List AV} {S:Nat->Bool} {ops:List Oper} (fr0:List (Nat×AV)) {d:Nat} (hd:∀ j,Cw ops j≠some d):Ct (Fl rs S 0 ops++fr0) d=Ct fr0 d:=by
 refine Kj d _ _ fun p hp e=>?_
 obtain ⟨k,k1,_,_⟩:=Jy.1 hp
 rw [e] at k1
 exact hd k k1
theorem Ai3:∀ {ops:List Oper} {rs:List AV} {fr0:List (Nat×AV)} (s:Nat) (l:List AV),rs=l.drop s->rs.length=ops.length->Wi ops rs fr0=Fl l (fun _=>true) s ops++fr0
 | [],rs,fr0,s,l,_,_=>rfl
 | o :: r,[],fr0,s,l,_,h=>by simp at h
 | o :: r,x :: rs,fr0,s,l,hl,h=>by
  have hx:l.getD s .any=x:=by
   have:=congrArg (fun q=>q[0]?) hl
   simp only [List.getElem?_drop,List.getElem?_cons_zero,Nat.add_zero] at this
   rw [List.getD_eq_getElem?_getD,<-this];rfl
  have ht:rs=l.drop (s+1):=by
   have:=congrArg List.tail hl
   simpa [List.tail_drop] using this
  have ih:=Ai3 (ops:=r) (fr0:=fr0) (s+1) l ht (by simpa using h)
  simp only [Wi,Fl]
  cases o.dst with
  | none=>exact ih
  | some d=>simp only [if_true,hx,ih];rfl
theorem Bh3 {p q r:Prop} (h:p\/q) (f:q->r):p\/r:=h.elim Or.inl fun h=>.inr (f h)
structure Bm6 (m:Nat) (ops:List Oper) (hs:List F5) (A:List Nat) (i:Nat) (o:Oper) (h:F5):Prop where
 lt:∀ d∈F3 o,d < i
 sl:∀ p∈h.sl,(A.getD i 0).testBit p.2=true/\Cw ops p.2=some p.1
 pre:∀ j d,j < ops.length->Cw ops j=some d->d∈h.pre->j=i\/(A.getD j 0).testBit i=true
 from_:∀ t∈h.cs++h.rd,t < (D8 m hs).getD i 0/\(t < m\/∃ j,j < i/\t∈P2 (D8 m hs) hs j/\(A.getD i 0).testBit j=true)
 use:∀ j g,hs[j]? = some g->j < ops.length->j≠i->∀ t∈h.cs,t∈g.cs++g.rd->(A.getD i 0).testBit j=true
 nodup:(h.cs++h.rd).Nodup
 guard:∀ j b,o.guard=some (j,b)->(A.getD i 0).testBit j=true/\(Cw ops j).isSome=true
theorem Ca1 {m:Nat} {ops:List Oper} {hs:List F5} {A:List Nat} {i:Nat} {o:Oper} {h:F5} (hk:Ar9 m ops hs A (D8 m hs) i o h=true):Bm6 m ops hs A i o h:=by
 simp only [Ar9,Bool.and_eq_true,List.all_eq_true,decide_eq_true_eq,List.mem_range,Bool.or_eq_true,List.any_eq_true,beq_iff_eq,List.contains_eq_mem,Bool.not_eq_true',decide_eq_false_iff_not] at hk
 obtain ⟨⟨⟨⟨⟨⟨h1,h2⟩,h3⟩,h4⟩,h5⟩,h6⟩,h7⟩:=hk
 refine ⟨h1,fun p hp=>h2 p hp,fun j d hj hd hp=>?_,fun t ht=>?_,fun j g hg hj hne t ht htg=>?_,S7 h6,fun j b hg=>by rw [hg] at h7;simp only [Bool.and_eq_true] at h7;exact h7⟩
 ·have:=h3 j hj
  unfold Cw at hd
  rw [hd] at this
  simp only [Bool.or_eq_true,Bool.not_eq_true',decide_eq_false_iff_not,beq_iff_eq] at this
  rcases this with (h | h) | h
  ·exact absurd hp h
  ·exact .inl h
  ·exact .inr h
 ·obtain ⟨a1,a2⟩:=h4 t ht
  refine ⟨a1,Bh3 a2 fun ⟨j,b1,b2,b3⟩=>⟨j,b1,b2,b3⟩⟩
 ·rcases h5 j hj with h | h
  ·exact absurd h hne
  ·rcases h t ht with h | h
   ·rw [hg] at h
    exact absurd htg h
   ·exact h
section
variable {ops : List Oper} {S : Nat -> Bool}
theorem Al9 (hlt:∀ (i:Nat) o,ops[i]? = some o->∀ d∈F3 o,d < i) (hcl:∀ (i:Nat) o,ops[i]? = some o->S i=true->∀ d∈F3 o,S d=true):∀ (i:Nat),i < ops.length->(∀ o,ops[i]? = some o->∀ d∈F3 o,S d=true)->∀ j,((bef [] (ops.map F3)).getD i 0).testBit j=true->S j=true/\j < i:=by
 intro i
 induction i using Nat.strongRecOn with
 | _ i ih =>
  intro hi hd j hj
  have ho:ops[i]? = some ops[i]:=List.getElem?_eq_getElem hi
  have hr:(ops.map F3).getD i []=F3 ops[i]:=by rw [List.getD_eq_getElem?_getD,List.getElem?_map,ho];rfl
  obtain ⟨d,h1,h2⟩:=Be4 (ops.map F3) [] i j (by simpa using hj) (by simpa using hi) (fun d hdm=>by
   rw [hr] at hdm
   simpa using hlt i _ ho d hdm)
  rw [hr] at h1
  have hdi:=hlt i _ ho d h1
  have hSd:=hd _ ho d h1
  rcases h2 with rfl | h2
  ·exact ⟨hSd,hdi⟩
  ·obtain ⟨h3,h4⟩:=ih d hdi (by omega) (fun o ho' d' hd'=>hcl d o ho' hSd d' hd') j h2
   exact ⟨h3,by omega⟩
end
section
variable {P : Program} {G : World -> Prop} {V w0 : World} {n : Nd} {ro : Option Nat} {σ : Ah} {K : Exit -> Ah -> Prop}
def Bc7 (m:Nat) (hs:List F5):List Nat:=(List.range (Mz m hs)).filter fun t=>!hs.any fun h=>h.cs.contains t
def Zh (m:Nat) (hs:List F5) (S:Nat->Bool) (t:Nat):Prop:=(t < m\/∃ i,S i=true/\t∈P2 (D8 m hs) hs i)/\∀ j g,hs[j]? = some g->t∈g.cs->S j=false
open Classical in
noncomputable def B21 (m:Nat) (hs:List F5) (toks:List BA) (S:Nat->Bool):List BA:=D0 ((List.range (Mz m hs)).filter fun t=>decide (Zh m hs S t)) toks
theorem G4 (a b:List Nat) (toks:List BA):D0 (a++b) toks=D0 a toks++D0 b toks:=by simp [T8]
theorem Qu {a b:List Nat} (h:a.Perm b) (toks:List BA):(D0 a toks).Perm (D0 b toks):=by
 rw [T8,T8]
 exact h.map _
theorem AW.draw {id m:Nat} {ops:List Oper} (hs:List F5) (hp:P.follows .mixedOrders=true) (hm:σ.bk.length=m) (hok:At1 n m ops hs=true)
  {Fr:List BA->List AV->Prop} (hFr:∀ toks rs,Fr toks rs->Yl toks σ.fr ops rs hs (D8 m hs))
  (h:Az P G (He ops) σ.fr ops hs σ.bk [] fun toks rs=>Fr toks rs/\K .normal ⟨Wi ops rs σ.fr,D0 (Bc7 m hs) toks⟩):AW P G ro V w0 n (.region id ops.toArray true) σ K:=fun hG m0 E0 a0 w1 hn0 hs0=>by
 classical
 simp only [At1,Bool.and_eq_true,beq_iff_eq,List.all_eq_true,List.mem_range] at hok
 obtain ⟨⟨⟨⟨hlen,hnd⟩,hdst⟩,hlex⟩,hall⟩:=hok
 have hnd:=S7 hnd
 obtain ⟨toks,rs,⟨hfr,hK⟩,⟨e1,he1⟩,_,hrl,htl,hop⟩:=X9 ops hs σ.bk [] _ h hlen
 replace hfr:=hFr toks rs hfr
 simp only [List.length_nil,Nat.zero_add] at hrl hop
 rw [hm] at htl hop
 have hint:∀ i o,ops[i]? = some o->∃ g,hs[i]? = some g/\Bm6 m ops hs (bef [] (ops.map F3)) i o g:=fun i o ho=>by
  have hi:=(List.getElem?_eq_some_iff.1 ho).1
  have:=hall i hi
  rw [ho] at this
  cases hg:hs[i]? with
  | none=>rw [List.getElem?_eq_none_iff] at hg;omega
  | some g =>
   rw [hg] at this
   exact ⟨g,rfl,Ca1 this⟩
 have hlt:∀ (i:Nat) o,ops[i]? = some o->∀ d∈F3 o,d < i:=fun i o ho=>by
  obtain ⟨g,_,hg⟩:=hint i o ho
  exact hg.lt
 refine We hp hlex (fun S a w=>∃ E,St V w0 m0 E ⟨Fl rs S 0 ops++σ.fr,B21 m hs toks S⟩ a w) ?_ ?_ ?_
 ·-- ahead of all
  refine ⟨E0,?_⟩
  have hnil:Fl rs (fun _=>false) 0 ops=[]:=by
   cases hd:Fl rs (fun _=>false) 0 ops with
   | nil=>rfl
   | cons p l =>
    have:p∈Fl rs (fun _=>false) 0 ops:=by rw [hd];simp
    obtain ⟨_,_,h,_⟩:=Jy.1 this
    cases h
  rw [hnil]
  have hbk:σ.bk=D0 (List.range' 0 m) toks:=by
   rw [S2 m 0 (by rw [htl];have:=Su hs m;omega),he1,List.drop_zero,<-hm,List.take_left]
  refine St.perm (bk:=σ.bk) (fr:=σ.fr) hs0.drew ?_
  rw [hbk]
  refine Qu ((List.perm_ext_iff_of_nodup (List.nodup_range' (step:=1)) ((List.nodup_range).filter _)).2 fun t=>?_) toks
  rw [List.mem_range'_1,List.mem_filter,List.mem_range,decide_eq_true_eq]
  have:=Su hs m
  constructor
  ·rintro ⟨_,h⟩
   exact ⟨by omega,.inl (by omega),fun _ _ _ _=>rfl⟩
  ·rintro ⟨_,h | ⟨i,h,_⟩,_⟩
   ·omega
   ·cases h
 ·-- a step
  rintro i o S a w ho hSi haf hcl ⟨E,hst⟩
  have ho':ops[i]? = some o:=by simpa using ho
  have hi:=(List.getElem?_eq_some_iff.1 ho').1
  obtain ⟨g,hg,hp⟩:=hint i o ho'
  have hdep:∀ {o:Oper} {T:Nat->Bool},(∀ e∈o.after,Region.binds .any e=true->T e.on=true)->∀ d∈F3 o,T d=true:=fun {o T} h d hd=>by
   unfold F3 at hd
   obtain ⟨e,he,hb⟩:=List.mem_filterMap.1 hd
   split at hb
   ·rename_i hbi
    obtain rfl:=Option.some.inj hb
    exact h e (by simpa using he) hbi
   ·cases hb
  have hcl':∀ (k:Nat) o',ops[k]? = some o'->S k=true->∀ d∈F3 o',S d=true:=fun k o' hk hSk=>hdep (hcl k o' (by simpa using hk) hSk)
  have anc:∀ j,((bef [] (ops.map F3)).getD i 0).testBit j=true->S j=true/\j < i:=Al9 hlt hcl' i hi fun o2 ho2=>by
   rw [ho'] at ho2
   obtain rfl:=Option.some.inj ho2
   exact hdep haf
  have anc2:∀ j,S j=true->j < ops.length->∀ k,((bef [] (ops.map F3)).getD j 0).testBit k=true->S k=true:=fun j hSj hj k hk =>
   (Al9 hlt hcl' j hj (fun o2 ho2=>hcl' j o2 ho2 hSj) k hk).1
  obtain ⟨b,hb1,hb2,hb3⟩:=Nj hs m i g hg
  obtain ⟨x,hx,hcase⟩:=hop i o g b ho' hg hb1
  have hbD:(D8 m hs).getD i 0=b:=by rw [List.getD_eq_getElem?_getD,hb1];rfl
  -- what the hint names lies there
  have there:∀ t∈g.cs++g.rd,Zh m hs S t:=fun t ht=>by
   obtain ⟨_,h2⟩:=hp.from_ t ht
   refine ⟨Bh3 h2 fun ⟨j,_,j2,j3⟩=>⟨j,(anc j j3).1,j2⟩,fun j gj hj htj=>?_⟩
   cases hSj:S j with
   | false=>rfl
   | true =>
    exfalso
    by_cases hji:j=i
    ·subst hji;rw [hSi] at hSj;cases hSj
    ·have hjl:j < ops.length:=by rw [<-hlen];exact (List.getElem?_eq_some_iff.1 hj).1
     obtain ⟨gj',h1',hpj⟩:=hint j _ (List.getElem?_eq_getElem hjl)
     rw [hj] at h1'
     obtain rfl:=Option.some.inj h1'
     have:=hpj.use i g hg hi (Ne.symm hji) t htj ht
     rw [anc2 j hSj hjl i this] at hSi
     cases hSi
  have hM:∀ t∈g.cs++g.rd,t < b:=fun t ht=>by have:=(hp.from_ t ht).1;rw [hbD] at this;exact this
  have oi:∀ t,t∈P2 (D8 m hs) hs i↔b<=t/\t < b+g.out:=fun t=>Q9 hg hb1
  -- the others
  let rest:=(List.range (Mz m hs)).filter fun t=>decide (Zh m hs S t/\t∉g.cs++g.rd)
  have hrest:∀ t,t∈rest↔t < Mz m hs/\Zh m hs S t/\t∉g.cs++g.rd:=fun t=>by simp only [rest,List.mem_filter,List.mem_range,decide_eq_true_eq]
  have hrn:rest.Nodup:=(List.nodup_range).filter _
  have p1:((List.range (Mz m hs)).filter fun t=>decide (Zh m hs S t)).Perm ((g.cs++g.rd)++rest):=by
   refine (List.perm_ext_iff_of_nodup ((List.nodup_range).filter _) (List.nodup_append.2 ⟨hp.nodup,hrn,fun t h1 t' h2 e=>?_⟩)).2 fun t=>?_
   ·subst e;exact ((hrest t).1 h2).2.2 h1
   ·rw [List.mem_filter,List.mem_range,decide_eq_true_eq,List.mem_append,hrest]
    constructor
    ·rintro ⟨h1,h2⟩
     by_cases h3:t∈g.cs++g.rd
     ·exact .inl h3
     ·exact .inr ⟨h1,h2,h3⟩
    ·rintro (h1 | ⟨h1,h2,_⟩)
     ·exact ⟨by have:=hM t h1;omega,there t h1⟩
     ·exact ⟨h1,h2⟩
  have p2:((List.range' b g.out++g.rd)++rest).Perm ((List.range (Mz m hs)).filter fun t=>decide (Zh m hs (fun j=>S j || decide (j=i)) t)):=by
   have hrd:g.rd.Nodup:=(List.nodup_append.1 hp.nodup).2.1
   have hcr:∀ t∈g.rd,t∉g.cs:=fun t h1 h2=>(List.nodup_append.1 hp.nodup).2.2 t h2 t h1 rfl
   -- what i lays is new
   have new:∀ t,t∈P2 (D8 m hs) hs i->¬ Zh m hs S t:=fun t ht hl=>by
    rcases hl.1 with h | ⟨j,h1,h2⟩
    ·have:=Ws ht;omega
    ·have:=N7 ht h2
     subst this
     rw [hSi] at h1;cases h1
   refine (List.perm_ext_iff_of_nodup (List.nodup_append.2 ⟨List.nodup_append.2 ⟨List.nodup_range' (step:=1),hrd,fun t h1 t' h2 e=>?_⟩,hrn,fun t h1 t' h2 e=>?_⟩) ((List.nodup_range).filter _)).2 fun t=>?_
   ·subst e
    rw [List.mem_range'_1] at h1
    have:=hM t (List.mem_append_right _ h2)
    omega
   ·subst e
    obtain ⟨_,q2,q3⟩:=(hrest t).1 h2
    rcases List.mem_append.1 h1 with h1 | h1
    ·rw [List.mem_range'_1] at h1
     exact new t ((oi t).2 h1) q2
    ·exact q3 (List.mem_append_right _ h1)
   ·rw [List.mem_filter,List.mem_range,decide_eq_true_eq,List.mem_append,List.mem_append,List.mem_range'_1,hrest]
    have keep:Zh m hs S t->t∉g.cs->Zh m hs (fun j=>S j || decide (j=i)) t:=fun hl hc =>
     ⟨Bh3 hl.1 fun ⟨j,j1,j2⟩=>⟨j,by simp [j1],j2⟩,fun j gj hj htj=>by
      have:=hl.2 j gj hj htj
      simp only [this,Bool.false_or,decide_eq_false_iff_not]
      rintro rfl
      rw [hg] at hj
      obtain rfl:=Option.some.inj hj
      exact hc htj⟩
    constructor
    ·rintro ((h1 | h1) | ⟨h1,h2,h3⟩)
     ·have ht:=(oi t).2 h1
      refine ⟨by omega,.inr ⟨i,by simp,ht⟩,fun j gj hj htj=>?_⟩
      have hjl:j < ops.length:=by rw [<-hlen];exact (List.getElem?_eq_some_iff.1 hj).1
      obtain ⟨gj',h1',hpj⟩:=hint j _ (List.getElem?_eq_getElem hjl)
      rw [hj] at h1'
      obtain rfl:=Option.some.inj h1'
      obtain ⟨_,q⟩:=hpj.from_ t (List.mem_append_left _ htj)
      have hge:=Ws ht
      rcases q with q | ⟨k,k1,k2,k3⟩
      ·omega
      ·have:=N7 ht k2
       subst this
       have hji:j≠i:=by omega
       cases hSj:S j with
       | false=>simp [hSj,hji]
       | true=>rw [anc2 j hSj hjl i k3] at hSi;cases hSi
     ·exact ⟨by have:=hM t (List.mem_append_right _ h1);omega,keep (there t (List.mem_append_right _ h1)) (hcr t h1)⟩
     ·exact ⟨h1,keep h2 fun h=>h3 (List.mem_append_left _ h)⟩
    ·rintro ⟨h1,h2,h3⟩
     by_cases ht:t∈P2 (D8 m hs) hs i
     ·exact .inl (.inl ((oi t).1 ht))
     ·have hl:Zh m hs S t:=⟨Bh3 h2 fun ⟨j,j1,j2⟩=>⟨j,by
       simp only [Bool.or_eq_true,decide_eq_true_eq] at j1
       rcases j1 with j1 | rfl
       ·exact j1
       ·exact absurd j2 ht,j2⟩,fun j gj hj htj=>by
       have:=h3 j gj hj htj
       simp only [Bool.or_eq_false_iff] at this
       exact this.1⟩
      by_cases hr:t∈g.rd
      ·exact .inl (.inr hr)
      ·refine .inr ⟨h1,hl,fun hc=>?_⟩
       rcases List.mem_append.1 hc with hc | hc
       ·have:=h3 i g hg hc
        simp at this
       ·exact hr hc
  have hst1:=hst.perm (show (B21 m hs toks S).Perm (D0 (g.cs++g.rd) toks++D0 rest toks) by
   rw [<-G4]
   exact Qu p1 toks)
  -- the operation sees what it saw in the text's order
  have hcs:D0 g.cs (toks.take b)=D0 g.cs toks:=Uf fun t ht=>hM t (List.mem_append_left _ ht)
  have hrd:D0 g.rd (toks.take b)=D0 g.rd toks:=Uf fun t ht=>hM t (List.mem_append_right _ ht)
  have hsl:Kn g.sl (rs.take i)=Kn g.sl rs:=A07 fun p hpp=>(anc p.2 (hp.sl p hpp).1).2
  have hout:(toks.drop b).take g.out=D0 (List.range' b g.out) toks:=(S2 g.out b (by omega)).symm
  rw [hcs,hrd,hsl,hout] at hcase
  have hlook:∀ s,Ct (Kn g.sl rs++Hw g.pre (He ops)++σ.fr) s=.any\/Ct (Kn g.sl rs++Hw g.pre (He ops)++σ.fr) s=Ct (Fl rs S 0 ops++σ.fr) s:=fun s=>by
   have memSel:∀ {sl:List (Nat×Nat)} {p:Nat×AV},p∈Kn sl rs->∃ q∈sl,p.1=q.1/\p.2=rs.getD q.2 .any:=by
    intro sl
    induction sl with
    | nil=>intro p h;cases h
    | cons q sl ih =>
     intro p h
     obtain ⟨d,j⟩:=q
     simp only [Kn] at h
     rcases List.mem_cons.1 h with rfl | h
     ·exact ⟨(d,j),by simp,rfl,rfl⟩
     ·obtain ⟨q,h1,h2⟩:=ih h
      exact ⟨q,List.mem_cons_of_mem _ h1,h2⟩
   have memMask:∀ {ds:List Nat} {p:Nat×AV},p∈Hw g.pre ds↔p.2=.any/\p.1∈ds/\p.1∉g.pre:=by
    intro ds
    induction ds with
    | nil=>intro p;simp [Hw]
    | cons d ds ih =>
     intro p
     simp only [Hw]
     by_cases hc:g.pre.contains d=true
     ·rw [if_pos hc,ih]
      simp only [List.contains_eq_mem,decide_eq_true_eq] at hc
      constructor
      ·rintro ⟨q1,q2,q3⟩;exact ⟨q1,List.mem_cons_of_mem _ q2,q3⟩
      ·rintro ⟨q1,q2,q3⟩
       rcases List.mem_cons.1 q2 with e | q2
       ·exact absurd (e ▸ hc) q3
       ·exact ⟨q1,q2,q3⟩
     ·rw [if_neg hc,List.mem_cons,ih]
      simp only [List.contains_eq_mem,decide_eq_true_eq] at hc
      obtain ⟨p1,p2⟩:=p
      constructor
      ·rintro (e | ⟨q1,q2,q3⟩)
       ·injection e with e1 e2
        subst e1 e2
        exact ⟨rfl,by simp,hc⟩
       ·exact ⟨q1,List.mem_cons_of_mem _ q2,q3⟩
      ·rintro ⟨q1,q2,q3⟩
       simp only at q1
       subst q1
       rcases List.mem_cons.1 q2 with e | q2
       ·exact .inl (congrArg (fun z=>(z,AV.any)) e)
       ·exact .inr ⟨rfl,q2,q3⟩
   by_cases hsel:∃ q∈g.sl,q.1=s
   ·obtain ⟨q,hq1,hq2⟩:=hsel
    obtain ⟨a1,a2⟩:=hp.sl q hq1
    rw [hq2] at a2
    right
    rw [J0 hnd _ a2,if_pos (anc _ a1).1,List.append_assoc]
    refine P4 s _ _ (fun p hpp e=>?_) ?_
    ·obtain ⟨q',b1,b2,b3⟩:=memSel hpp
     obtain ⟨_,c2⟩:=hp.sl q' b1
     rw [<-b2,e] at c2
     rw [b3,Qh hnd c2 a2]
    ·have:∀ {sl:List (Nat×Nat)},q∈sl->∃ p∈Kn sl rs,p.1=s:=by
      intro sl
      induction sl with
      | nil=>intro h;cases h
      | cons q' sl ih =>
       intro h
       obtain ⟨d,j⟩:=q'
       simp only [Kn]
       rcases List.mem_cons.1 h with rfl | h
       ·exact ⟨(d,rs.getD j .any),List.mem_cons_self ..,hq2⟩
       ·obtain ⟨p,p1,p2⟩:=ih h
        exact ⟨p,List.mem_cons_of_mem _ p1,p2⟩
     exact this hq1
   ·rw [List.append_assoc,Kj s _ _ fun p hpp e=>by
     obtain ⟨q,b1,b2,_⟩:=memSel hpp
     exact hsel ⟨q,b1,by rw [<-b2];exact e⟩]
    by_cases hmask:s∈He ops/\s∉g.pre
    ·left
     exact P4 s _ _ (fun p hpp _=>(memMask.1 hpp).1) ⟨(s,.any),memMask.2 ⟨rfl,hmask.1,hmask.2⟩,rfl⟩
    ·right
     rw [Kj s _ _ fun p hpp e=>by
      obtain ⟨_,b2,b3⟩:=memMask.1 hpp
      exact hmask ⟨e ▸ b2,e ▸ b3⟩]
     by_cases hd:∃ j,Cw ops j=some s
     ·obtain ⟨j,hj⟩:=hd
      have hpre:s∈g.pre:=by
       by_cases h:s∈g.pre
       ·exact h
       ·exact absurd ⟨Bj0 hj,h⟩ hmask
      have hjl:j < ops.length:=by
       rcases Nat.lt_or_ge j ops.length with h | h
       ·exact h
       ·unfold Cw at hj;rw [List.getElem?_eq_none h] at hj;cases hj
      have hSj:S j=false:=by
       rcases hp.pre j s hjl hj hpre with rfl | h
       ·exact hSi
       ·cases hSj:S j with
        | false=>rfl
        | true=>rw [anc2 j hSj hjl i h] at hSi;cases hSi
      rw [J0 hnd _ hj,hSj]
      simp
     ·rw [Jm _ fun j hj=>hd ⟨j,hj⟩]
  have hL:∀ y,Bb E (vis V w0 w (Ac E (D0 (g.cs++g.rd) toks++D0 rest toks))) (a.eval y) (ev (Kn g.sl rs++Hw g.pre (He ops)++σ.fr) y):=(hst1.frame hlook).ev
  -- the names that it gives are free
  have hfo:Hz o=true->Ky (cid o.dst) (cid o.dst+100) (Fl rs S 0 ops++σ.fr)=true/\Ky (cid o.dst) (cid o.dst+100) (Kn g.sl rs++Hw g.pre (He ops)++σ.fr)=true/\Jf (cid o.dst) (cid o.dst+100) (D0 (g.cs++g.rd) toks++D0 rest toks)=true:=fun hmk=>by
   obtain ⟨f1,f2,f3⟩:=hfr i o ho' hmk
   have offFapp:∀ {u v:List (Nat×AV)},(∀ p∈u,p.2.off (cid o.dst) (cid o.dst+100)=true)->Ky (cid o.dst) (cid o.dst+100) v=true->Ky (cid o.dst) (cid o.dst+100) (u++v)=true:=by
    intro u
    induction u with
    | nil=>exact fun _ h=>h
    | cons p u ih =>
     intro v h1 h2
     obtain ⟨d,c⟩:=p
     simp only [List.cons_append,Ky,Bool.and_eq_true]
     exact ⟨h1 (d,c) (by simp),ih (fun p hp=>h1 p (List.mem_cons_of_mem _ hp)) h2⟩
   have behind:∀ j,S j=true->j < ops.length->((bef [] (ops.map F3)).getD j 0).testBit i=false:=fun j hSj hjl=>by
    cases hb:((bef [] (ops.map F3)).getD j 0).testBit i with
    | false=>rfl
    | true=>rw [anc2 j hSj hjl i hb] at hSi;cases hSi
   have rsoff:∀ j,j≠i->S j=true->j < ops.length->(rs.getD j .any).off (cid o.dst) (cid o.dst+100)=true:=fun j hj hSj hjl=>by
    rw [List.getD_eq_getElem?_getD]
    cases hr:rs[j]? with
    | none=>rfl
    | some y=>exact f2 j y hj (behind j hSj hjl) hr
   refine ⟨offFapp (fun p hpp=>?_) f1,?_,?_⟩
   ·obtain ⟨j,j1,j2,j3⟩:=Jy.1 hpp
    rw [j3]
    have hjl:0+j < ops.length:=by
     rw [Nat.zero_add]
     rcases Nat.lt_or_ge j ops.length with h | h
     ·exact h
     ·unfold Cw at j1;rw [List.getElem?_eq_none h] at j1;cases j1
    refine rsoff _ (fun e=>?_) j2 hjl
    rw [e,hSi] at j2;cases j2
   ·rw [List.append_assoc]
    refine offFapp (fun p hpp=>?_) (offFapp (fun p hpp=>?_) f1)
    ·have:∀ {sl:List (Nat×Nat)},(∀ q∈sl,q.2≠i/\S q.2=true/\q.2 < ops.length)->∀ p∈Kn sl rs,p.2.off (cid o.dst) (cid o.dst+100)=true:=by
      intro sl
      induction sl with
      | nil=>intro _ p h;cases h
      | cons q sl ih =>
       intro hq p h
       obtain ⟨d,j⟩:=q
       simp only [Kn] at h
       rcases List.mem_cons.1 h with rfl | h
       ·obtain ⟨u1,u2,u3⟩:=hq (d,j) (by simp)
        exact rsoff j u1 u2 u3
       ·exact ih (fun q h=>hq q (List.mem_cons_of_mem _ h)) p h
     exact this (fun q hq=>by have:=anc q.2 (hp.sl q hq).1;exact ⟨by omega,this.1,by omega⟩) p hpp
    ·have:∀ {ds:List Nat},∀ p∈Hw g.pre ds,p.2=.any:=by
      intro ds
      induction ds with
      | nil=>intro p h;cases h
      | cons d ds ih =>
       intro p h
       simp only [Hw] at h
       split at h
       ·exact ih p h
       ·rcases List.mem_cons.1 h with rfl | h
        ·rfl
        ·exact ih p h
     rw [this p hpp];rfl
   ·have offBall:∀ {l:List BA},(∀ b∈l,b.off (cid o.dst) (cid o.dst+100)=true)->Jf (cid o.dst) (cid o.dst+100) l=true:=by
     intro l
     induction l with
     | nil=>exact fun _=>rfl
     | cons b l ih=>intro h;simp only [Jf,Bool.and_eq_true];exact ⟨h b (by simp),ih fun c hc=>h c (List.mem_cons_of_mem _ hc)⟩
    refine offBall fun b hbm=>?_
    rw [<-G4,T8] at hbm
    obtain ⟨t,ht,rfl⟩:=List.mem_map.1 hbm
    have hno:t∉P2 (D8 m hs) hs i:=fun hc=>by
     rcases List.mem_append.1 ht with ht | ht
     ·have:=hM t ht
      have:=(oi t).1 hc
      omega
     ·have hl:=((hrest t).1 ht).2.1
      rcases hl.1 with q | ⟨j,q1,q2⟩
      ·have:=Ws hc;omega
      ·have:=N7 hc q2
       subst this
       rw [hSi] at q1;cases q1
    have htt:t < toks.length:=by
     rw [htl]
     rcases List.mem_append.1 ht with ht | ht
     ·have:=hM t ht;omega
     ·exact ((hrest t).1 ht).1
    have hby:∀ j,t∈P2 (D8 m hs) hs j->((bef [] (ops.map F3)).getD j 0).testBit i=false:=fun j hj=>by
     have hjl:j < ops.length:=by
      rcases Nat.lt_or_ge j hs.length with h | h
      ·omega
      ·exact absurd hj (Qy (List.getElem?_eq_none h))
     refine behind j ?_ hjl
     have hge:=Ws hj
     rcases List.mem_append.1 ht with ht | ht
     ·rcases (hp.from_ t ht).2 with q | ⟨j',_,q2,q3⟩
      ·omega
      ·rw [N7 hj q2];exact (anc j' q3).1
     ·rcases ((hrest t).1 ht).2.1.1 with q | ⟨j',q1,q2⟩
      ·omega
      ·rw [N7 hj q2];exact q1
    exact f3 t _ hno hby (by rw [List.getD_eq_getElem?_getD,List.getElem?_eq_getElem htt];rfl)
  -- the state behind the operation
  have fin_:∀ (E':Env) (v:Value) (x':AV) (a:Act) (w':World),St V w0 m0 E' ⟨Fl rs S 0 ops++σ.fr,D0 (List.range' b g.out) toks++D0 g.rd toks++D0 rest toks⟩ a w'->Bb E' (vis V w0 w' (Ac E' (D0 (List.range' b g.out) toks++D0 g.rd toks++D0 rest toks))) v x'->x'=x ->
    ∃ E,St V w0 m0 E ⟨Fl rs (fun j=>S j || decide (j=i)) 0 ops++σ.fr,B21 m hs toks fun j=>S j || decide (j=i)⟩ (a.put o.dst v) w':=by
   rintro E' v x' a w' h1 h2 rfl
   have hput:=h1.put (dst:=o.dst) (fun d hd=>by
    have:∀ {l:List Oper},Hc n l=true->o∈l->d < n.n/\d∉n.fx:=by
     intro l
     induction l with
     | nil=>intro _ h;cases h
     | cons q l ih =>
      intro h hm
      simp only [Hc,Bool.and_eq_true] at h
      rcases List.mem_cons.1 hm with rfl | hm
      ·have:=h.1
       rw [hd] at this
       simp only [Bool.and_eq_true,Bool.not_eq_true'] at this
       exact ⟨Ex.1 this.1,Qa this.2⟩
      ·exact ih h.2 hm
    rw [hn0];exact this hdst (List.mem_of_getElem? ho')) h2
   refine ⟨E',(hput.perm (bk':=B21 m hs toks fun j=>S j || decide (j=i)) ?_).frame fun s=>.inr ?_⟩
   ·show (D0 (List.range' b g.out) toks++D0 g.rd toks++D0 rest toks).Perm _
    rw [<-G4,<-G4]
    exact Qu p2 toks
   ·-- the slots
    by_cases hd:∃ j,Cw ops j=some s
    ·obtain ⟨j,hj⟩:=hd
     rw [J0 hnd _ hj]
     have hdi:Cw ops i=o.dst:=by unfold Cw;rw [ho'];rfl
     by_cases hji:j=i
     ·subst hji
      rw [hdi] at hj
      simp only [decide_true,Bool.or_true,if_true,hj,J8,Ct]
      rw [List.getD_eq_getElem?_getD,hx];rfl
     ·have hne:o.dst≠some s:=fun e=>hji (Qh hnd hj (hdi.trans e))
      have e2:Ct (J8 o.dst x' (Fl rs S 0 ops++σ.fr)) s=Ct (Fl rs S 0 ops++σ.fr) s:=by
       cases hdd:o.dst with
       | none=>rfl
       | some d =>
        simp only [J8,Ct]
        rw [if_neg fun e=>hne (by rw [hdd,e])]
      rw [e2,J0 hnd _ hj]
      simp [hji]
    ·rw [Jm _ fun j hj=>hd ⟨j,hj⟩]
     have hdi:Cw ops i=o.dst:=by unfold Cw;rw [ho'];rfl
     have e2:Ct (J8 o.dst x' (Fl rs S 0 ops++σ.fr)) s=Ct (Fl rs S 0 ops++σ.fr) s:=by
      cases hdd:o.dst with
      | none=>rfl
      | some d =>
       simp only [J8,Ct]
       rw [if_neg fun e=>hd ⟨i,by rw [hdi,hdd,e]⟩]
     rw [e2,Jm _ fun j hj=>hd ⟨j,hj⟩]
  -- what the guard says
  have hyield:∀ (j:Nat) (c:Bool),(((bef [] (ops.map F3)).getD i 0).testBit j=true/\(Cw ops j).isSome=true)->nrm ((rs.take i).getD j .any)=.val (.bool c)->yielded ops.toArray a.tmps j=some c:=fun j c hb hn=>by
   obtain ⟨hSj,hji⟩:=anc j hb.1
   rw [List.getD_eq_getElem?_getD,List.getElem?_take_of_lt hji,<-List.getD_eq_getElem?_getD] at hn
   cases hd:Cw ops j with
   | none=>rw [hd] at hb;cases hb.2
   | some d =>
    have hv:=hst.slots d
    simp only at hv
    rw [J0 hnd _ hd,if_pos hSj] at hv
    have hv:=hv.nrm_
    rw [hn] at hv
    generalize hu:a.tmps.getD d undef=u at hv
    cases hv
    have:a.tmps[d]? = some (.bool c):=by
     rw [Array.getD_eq_getD_getElem?] at hu
     cases hdd:a.tmps[d]? with
     | none=>rw [hdd] at hu;simp [undef] at hu
     | some y=>rw [hdd] at hu;simp at hu;rw [hu]
    unfold Cw at hd
    simp [yielded,hd,this]
  have hyieldN:∀ (j:Nat) (tt:Array Value),(((bef [] (ops.map F3)).getD i 0).testBit j=true/\(Cw ops j).isSome=true)->nrm ((rs.take i).getD j .any)=.val (.tuple tt)->yielded ops.toArray a.tmps j=none:=fun j c hb hn=>by
   obtain ⟨hSj,hji⟩:=anc j hb.1
   rw [List.getD_eq_getElem?_getD,List.getElem?_take_of_lt hji,<-List.getD_eq_getElem?_getD] at hn
   cases hd:Cw ops j with
   | none=>rw [hd] at hb;cases hb.2
   | some d =>
    have hv:=hst.slots d
    simp only at hv
    rw [J0 hnd _ hd,if_pos hSj] at hv
    have hv:=hv.nrm_
    rw [hn] at hv
    generalize hu:a.tmps.getD d undef=u at hv
    cases hv
    unfold Cw at hd
    rw [Array.getD_eq_getD_getElem?] at hu
    cases hdd:a.tmps[d]? with
    | none=>simp [yielded,hd,hdd]
    | some y =>
     rw [hdd] at hu
     simp at hu
     simp [yielded,hd,hdd,hu]
  refine wpListIn_step fun K' hK'=>?_
  rcases hcase with ⟨hgd,hu⟩ | ⟨⟨j,c,hg1,hg2⟩,rfl,ho0,hc0⟩
  case inr =>
   have hw:Region.wanted o (yielded ops.toArray a.tmps)=false:=by
    unfold Region.wanted
    rw [hg1]
    simp only
    rcases hg2 with hg2 | ⟨tt,hg2⟩
    ·rw [hyield j (!c) (hp.guard j c hg1) hg2]
     cases c<;>rfl
    ·rw [hyieldN j tt (hp.guard j c hg1) hg2]
     rfl
   rw [if_neg (by rw [hw];simp)]
   refine ⟨fun _ _=>trivial,hK' _ _ ?_⟩
   show ∃ E,St V w0 m0 E ⟨Fl rs (fun j=>S j || decide (j=i)) 0 ops++σ.fr,B21 m hs toks fun j=>S j || decide (j=i)⟩ (a.put o.dst undef) w
   have hst2:St V w0 m0 E ⟨Fl rs S 0 ops++σ.fr,D0 (List.range' b g.out) toks++D0 g.rd toks++D0 rest toks⟩ a w:=by
    rw [ho0]
    rw [hc0] at hst1
    simpa [D0] using hst1
   exact fin_ E undef (.val undef) a w hst2 .val rfl
  have hw:Region.wanted o (yielded ops.toArray a.tmps)=true:=by
   unfold Region.wanted
   rcases hgd with hgd | ⟨j,c,hg1,hg2⟩
   ·rw [hgd]
   ·rw [hg1]
    simp only
    rw [hyield j c (hp.guard j c hg1) hg2]
    simp
  rw [if_pos hw]
  have hus:=hu fun hmk y=>Ba9 (hfo hmk).2.1 y
  rw [<-G4] at hus
  refine hus V w0 m0 E a w _ (D0 rest toks) hst1 hL (fun hmk=>⟨(hfo hmk).1,(hfo hmk).2.2⟩) hG K' _ (fun v w' E' h1 h2=>hK' _ _ ?_) ro
  show ∃ E,St V w0 m0 E ⟨Fl rs (fun j=>S j || decide (j=i)) 0 ops++σ.fr,B21 m hs toks fun j=>S j || decide (j=i)⟩ (a.put o.dst v) w'
  exact fin_ E' v x a w' (by rw [<-G4] at h1 ⊢;exact h1) (by rw [<-G4] at h2 ⊢;exact h2) rfl
 ·-- behind all
  rintro S a w hall' ⟨E,hst⟩
  have hS:∀ i,i < ops.length->S i=true:=fun i hi=>hall' i (by simpa using hi)
  refine ⟨m0,E,_,Fm.le.refl m0,hK,?_⟩
  refine (hst.perm (bk':=D0 (Bc7 m hs) toks) (Qu ((List.perm_ext_iff_of_nodup ((List.nodup_range).filter _) ((List.nodup_range).filter _)).2 fun t=>?_) toks)).frame fun s=>.inr ?_
  ·rw [List.mem_filter,List.mem_filter,List.mem_range,decide_eq_true_eq]
   simp only [Bool.not_eq_true',List.any_eq_false,List.contains_eq_mem,decide_eq_true_eq]
   have hjl:∀ {j:Nat} {g:F5},hs[j]? = some g->S j=true:=fun {j g} hj=>hS j (by rw [<-hlen];exact (List.getElem?_eq_some_iff.1 hj).1)
   constructor
   ·rintro ⟨h1,h2,h3⟩
    refine ⟨h1,fun g hgm ht=>?_⟩
    obtain ⟨j,hj⟩:=List.mem_iff_getElem?.1 hgm
    have:=h3 j g hj ht
    rw [hjl hj] at this;cases this
   ·rintro ⟨h1,h2⟩
    refine ⟨h1,?_,fun j g hj ht=>absurd ht (h2 g (List.mem_of_getElem? hj))⟩
    by_cases hm':t < m
    ·exact .inl hm'
    ·right
     -- some operation laid it
     have key:∀ (hs:List F5) (m t:Nat),m<=t->t < Mz m hs->∃ (i:Nat) (g:F5) (b:Nat),hs[i]? = some g/\(D8 m hs)[i]? = some b/\b<=t/\t < b+g.out:=by
      intro hs
      induction hs with
      | nil=>intro m t h1 h2;simp only [Mz] at h2;omega
      | cons g hs ih =>
       intro m t h1 h2
       by_cases h3:t < m+g.out
       ·exact ⟨0,g,m,rfl,rfl,h1,h3⟩
       ·obtain ⟨i,g',b,a1,a2,a3,a4⟩:=ih (m+g.out) t (by omega) h2
        exact ⟨i+1,g',b,by simpa using a1,by simpa [D8] using a2,a3,a4⟩
     obtain ⟨i,g,b,a1,a2,a3,a4⟩:=key hs m t (by omega) h1
     exact ⟨i,hjl a1,(Q9 a1 a2).2 ⟨a3,a4⟩⟩
  ·show Ct (Wi ops rs σ.fr) s=_
   rw [Ai3 0 rs (by simp) hrl]
   by_cases hd:∃ j,Cw ops j=some s
   ·obtain ⟨j,hj⟩:=hd
    have hjl:j < ops.length:=by
     rcases Nat.lt_or_ge j ops.length with h | h
     ·exact h
     ·unfold Cw at hj;rw [List.getElem?_eq_none h] at hj;cases hj
    rw [J0 hnd _ hj,J0 hnd _ hj,hS j hjl]
   ·rw [Jm _ fun j hj=>hd ⟨j,hj⟩,Jm _ fun j hj=>hd ⟨j,hj⟩]
end
def Tk:Prop:=True
@[go_sem] theorem D35:Tk=True:=eq_true (show Tk from trivial)
def rep (n:Nat) (v:Value):List Value:=List.replicate n v
theorem B96 {n:Nat} {v:Value} (h:okV v):∀ u,u∈rep n v->okV u:=fun u hu=>by rw [List.eq_of_mem_replicate hu];exact h
@[go_sem] theorem D27 {n:Nat} {b:Bool} : (∀ u,u∈rep n (.bool b)->okV u)=True:=eq_true (B96 trivial)
@[go_sem] theorem D26 {n:Nat} : (∀ u,u∈rep n (.int .i64 0)->okV u)=True:=eq_true (B96 rfl)
def Ej (X:Prop):Prop:=X
@[congr] theorem Cl7 {X b:Prop} (_:Tk=b):Ej X=Ej X:=rfl
theorem Aj {X:Prop} (h:X):Ej X:=h
section
variable {P : Program} {G : World -> Prop} {σ : Ah} {L : Operand -> AV} {bk : List BA} {K : AV -> List BA -> Prop} {dst : Option Tmp} {ty : TypeId} {pos : String} {after : Array Edge} {gd : Option (Nat × Bool)}
@[go_sem] theorem C02 {ops:List Oper} {KK:Ah->Prop} : Bw P G ops [] σ KK=KK σ:=rfl
@[go_sem] theorem Bt1 {ops:List Oper} {op:Op} {rest:List Oper} {KK:Ah->Prop} : Bw P G ops (⟨dst,op,ty,pos,after,none⟩ :: rest) σ KK=vop P G σ ⟨dst,op,ty,pos,after,none⟩ fun r bk=>Bw P G ops rest ⟨J8 dst r σ.fr,bk⟩ KK:=rfl
theorem Rq {ops:List Oper} {op:Op} {rest:List Oper} {j:Nat} {b:Bool} {KK:Ah->Prop} : Bw P G ops (⟨dst,op,ty,pos,after,some (j,b)⟩ :: rest) σ KK =
  match Mn ops σ.fr j with
  | .val (.bool x)=>(x=b->vop P G σ ⟨dst,op,ty,pos,after,some (j,b)⟩ fun r bk=>Bw P G ops rest ⟨J8 dst r σ.fr,bk⟩ KK)/\(x=!b->Bw P G ops rest ⟨J8 dst (.val undef) σ.fr,σ.bk⟩ KK)
  | .val (.tuple _)=>Bw P G ops rest ⟨J8 dst (.val undef) σ.fr,σ.bk⟩ KK
  | _=>False:=rfl
@[go_sem] theorem Bw0 {d:Nat} {r:AV} {fr:List (Nat×AV)} : J8 (some d) r fr=(d,r) :: fr:=rfl
@[go_sem] theorem Bw1 {r:AV} {fr:List (Nat×AV)} : J8 none r fr=fr:=rfl
@[go_sem] theorem Bw6 {j i:Nat} {a:AV} {r:List (Nat×AV)} : Ct ((j,a) :: r) i=if i=j then a else Ct r i:=rfl
@[go_sem] theorem C92 {i:Nat} : Ct [] i=.any:=rfl
@[go_sem] theorem Cy3 {fr:List (Nat×AV)} {t:Nat} : ev fr (.tmp t)=Ct fr t:=rfl
@[go_sem] theorem Cy4 {fr:List (Nat×AV)} {k:IntKind} {m:Int} : ev fr (.const (.int k m))=.val (.int k m):=rfl
@[go_sem] theorem Cn1 {fr:List (Nat×AV)} {b:Bool} : ev fr (.const (.bool b))=.val (.bool b):=rfl
@[go_sem] theorem By3 {fr:List (Nat×AV)} {s:ByteArray} : ev fr (.const (.string s))=.val (.string s):=rfl
@[go_sem] theorem Cc2 {fr:List (Nat×AV)} {A:Option Addr} {m c:Nat} : ev fr (.const (.slice A m c))=.val (.slice A m c):=rfl
@[go_sem] theorem Cy5 {fr:List (Nat×AV)} {cs:Array Value} : ev fr (.const (.agg cs))=.agg (cs.toList.map AV.val):=rfl
@[go_sem] theorem Bq7 {fr:List (Nat×AV)} : ev fr (.const .nilFunc)=.val .nilFunc:=rfl
@[go_sem] theorem By4 {fr:List (Nat×AV)} : ev fr (.const (.pointer none))=.val (.pointer none):=rfl
@[go_sem] theorem Cn0 {fr:List (Nat×AV)} {f:Nat} : ev fr (.func f)=.fn f []:=rfl
@[go_sem] theorem By5 {fr:List (Nat×AV)} {g:Nat} : ev fr (.global g)=.val (.pointer (some ⟨g,0,none⟩)):=rfl
@[go_sem] theorem Ck7 {v:Value} : nrm (.val v)=.val v:=rfl
@[go_sem] theorem Cw5 {v:Value} : nrm (.iv (.val v))=.val v:=rfl
@[go_sem] theorem Cw3 {cs:List IV} : nrm (.iv (.pt cs))=.ip cs:=rfl
@[go_sem] theorem Cw2 {k:Nat} {l:List (List IV)} : nrm (.iv (.sl k l))=.iv (.sl k l):=rfl
@[go_sem] theorem Ck8 {b:Nat} : nrm (.own b)=.own b:=rfl
@[go_sem] theorem Ck9:nrm .any=.any:=rfl
@[go_sem] theorem Cl0 {cs:List AV} : nrm (.agg cs)=.agg cs:=rfl
@[go_sem] theorem C87 {cs:List IV} : nrm (.aggI cs)=.aggI cs:=rfl
@[go_sem] theorem Cw7 {b o:Nat} : nrm (.bp b o)=.bp b o:=rfl
@[go_sem] theorem Cw6 {cs:List IV} : nrm (.ip cs)=.ip cs:=rfl
@[go_sem] theorem Bx7 {b:Nat} : Cd b []=none:=rfl
@[go_sem] theorem Bx8 {b c:Nat} {cs:List AV} {r:List BA} : Cd b (.box c cs :: r)=if c=b then some (.box c cs) else Cd b r:=rfl
@[go_sem] theorem Bx9 {b c:Nat} {cs:List IV} {r:List BA} : Cd b (.arr c cs :: r)=if c=b then some (.arr c cs) else Cd b r:=rfl
@[go_sem] theorem Bx6 {b c:Nat} {F:Far} {r:List BA} : Cd b (.opq c F :: r)=if c=b then some (.opq c F) else Cd b r:=rfl
@[go_sem] theorem Bv5 {b c:Nat} {F:Far} {r y:List BA} : D2 b y (.opq c F :: r)=if c=b then y++r else .opq c F :: D2 b y r:=rfl
@[go_sem] theorem Cc0 {b c:Nat} {k:IntKind} {kv:List (Int×Value)} {r:List BA} : Cd b (.mp c k kv :: r)=if c=b then some (.mp c k kv) else Cd b r:=rfl
@[go_sem] theorem C77 {b c:Nat} {k:IntKind} {kv:List (Int×Value)} {r y:List BA} : D2 b y (.mp c k kv :: r)=if c=b then y++r else .mp c k kv :: D2 b y r:=rfl
@[go_sem] theorem Cw4 {b:Nat} : nrm (.mv b)=.mv b:=rfl
@[go_sem] theorem Bx5 {b c e k:Nat} {l:List (List IV)} {r:List BA} : Cd b (.row c e k l :: r)=if c=b then some (.row c e k l) else Cd b r:=rfl
@[go_sem] theorem Bv6 {b c:Nat} {cs:List AV} {r y:List BA} : D2 b y (.box c cs :: r)=if c=b then y++r else .box c cs :: D2 b y r:=rfl
@[go_sem] theorem Bv7 {b c:Nat} {cs:List IV} {r y:List BA} : D2 b y (.arr c cs :: r)=if c=b then y++r else .arr c cs :: D2 b y r:=rfl
@[go_sem] theorem Bv4 {b c e k:Nat} {l:List (List IV)} {r y:List BA} : D2 b y (.row c e k l :: r)=if c=b then y++r else .row c e k l :: D2 b y r:=rfl
@[go_sem] theorem Bv0 {α:Type} {cs:List α} {o:Nat} : Es cs o []=cs:=rfl
@[go_sem] theorem Bo5 {α:Type} {cs:List α} {o:Nat} {d:α} {ds:List α} : Es cs o (d :: ds)=Es (cs.set o d) (o+1) ds:=rfl
@[go_sem] theorem D12 {s:Nat} {c:IV} {cs:List IV} {KK:AV->Prop} : rdI 0 s (c :: cs) KK=KK (nrm (.iv c)):=rfl
@[go_sem] theorem D11 {s:Nat} {cs:List IV} {KK:AV->Prop} : rdI 1 s cs KK=(s<=cs.length/\KK (.agg ((cs.take s).map fun c=>nrm (.iv c)))):=rfl
@[go_sem] theorem D10 {s:Nat} {cs:List IV} {KK:AV->Prop} : rdI 2 s cs KK=(s<=cs.length/\KK (.aggI (cs.take s))):=rfl
@[go_sem] theorem D14 {s:Nat} {c:AV} {cs:List AV} {KK:AV->Prop} : rdA 0 s (c :: cs) KK=KK c:=rfl
@[go_sem] theorem D13 {s:Nat} {cs:List AV} {KK:AV->Prop} : rdA 1 s cs KK=(s<=cs.length/\KK (.agg (cs.take s))):=rfl
@[go_sem] theorem Cd7 {d:Nat} : cid (some d)=100*(d+1):=rfl
@[go_sem] theorem Br8 {cs:List AV} : Bh (.agg cs)=cs:=rfl
@[go_sem] theorem Br6 {v:Value} : Bh (.val v)=[.val v]:=rfl
@[go_sem] theorem By9 {i:IV} : Bh (.iv i)=[.iv i]:=rfl
@[go_sem] theorem Br7 {b:Nat} : Bh (.own b)=[.own b]:=rfl
@[go_sem] theorem Bz2 {b o:Nat} : Bh (.bp b o)=[.bp b o]:=rfl
@[go_sem] theorem Bz0 {cs:List IV} : Bh (.ip cs)=[.ip cs]:=rfl
@[go_sem] theorem Bz1 {f:Nat} {cs:List AV} : Bh (.fn f cs)=[.fn f cs]:=rfl
@[go_sem] theorem Kl {cs:List IV} : Bh (.aggI cs)=cs.map AV.iv:=rfl
@[go_sem] theorem Cm3 {b x y:Operand} : Ck ⟨dst,.pick b x y,ty,pos,after,gd⟩ σ=True:=by unfold Ck;simp [Hz]
@[go_sem] theorem Bt3 {b x y:Operand} : Bj P G L bk ⟨dst,.pick b x y,ty,pos,after,gd⟩ K=match nrm (L b) with
  | .val (.bool true)=>K (L x) bk
  | .val (.bool false)=>K (L y) bk
  | _=>False:=by unfold Bj qop;rfl
def Lx (dst:Option Tmp) (σ:Ah):Prop:=(Ky (cid dst) (cid dst+100) σ.fr&&Jf (cid dst) (cid dst+100) σ.bk)=true
theorem Cr {o:Oper} (h:Hz o=false):Ck o σ=True:=by unfold Ck;rw [h];simp
theorem Lf {o:Oper} (h:Hz o=true):Ck o σ=Lx o.dst σ:=by unfold Ck Lx;rw [h];simp
@[go_sem] theorem Cm4 {x:Operand} : Ck ⟨dst,.move x,ty,pos,after,gd⟩ σ=True:=Cr rfl
@[go_sem] theorem Bx3 {x:Operand} : Ck ⟨dst,.assign x,ty,pos,after,gd⟩ σ=True:=Cr rfl
@[go_sem] theorem Cm5 {t:TypeId} {x:Operand} : Ck ⟨dst,.load t x,ty,pos,after,gd⟩ σ=True:=Cr rfl
@[go_sem] theorem Cb4 {t:TypeId} {x y:Operand} : Ck ⟨dst,.store t x y,ty,pos,after,gd⟩ σ=True:=Cr rfl
@[go_sem] theorem Cx5 {x:Operand} : Ck ⟨dst,.nilCheck x,ty,pos,after,gd⟩ σ=True:=Cr rfl
@[go_sem] theorem Cy2 {op:BinOp} {t tz:TypeId} {x y:Operand} : Ck ⟨dst,.binOp op t x y tz,ty,pos,after,gd⟩ σ=True:=Cr rfl
@[go_sem] theorem D17 {op:UnOp} {t:TypeId} {x:Operand} : Ck ⟨dst,.unOp op t x,ty,pos,after,gd⟩ σ=True:=Cr rfl
@[go_sem] theorem Cm7 {s d:TypeId} {x:Operand} : Ck ⟨dst,.convert s d x,ty,pos,after,gd⟩ σ=True:=Cr rfl
@[go_sem] theorem Cm6 {f:Fn} {a c:Array Operand} : Ck ⟨dst,.makeFunc f a c,ty,pos,after,gd⟩ σ=True:=Cr rfl
@[go_sem] theorem Cb5 {t:TypeId} {x:Operand} {l h m:Option Operand} : Ck ⟨dst,.slice t x l h m,ty,pos,after,gd⟩ σ=True:=Cr rfl
@[go_sem] theorem Bi4 {t:TypeId} {x:Operand} {f:Nat} : Ck ⟨dst,.fieldAddr t x f,ty,pos,after,gd⟩ σ=True:=Cr rfl
@[go_sem] theorem Cb7 {t:TypeId} {x:Operand} {f:Nat} : Ck ⟨dst,.field t x f,ty,pos,after,gd⟩ σ=True:=Cr rfl
@[go_sem] theorem Bi3 {t:TypeId} {x i:Operand} : Ck ⟨dst,.indexAddr t x i,ty,pos,after,gd⟩ σ=True:=Cr rfl
@[go_sem] theorem Cb6 {t:TypeId} {x i:Operand} : Ck ⟨dst,.index t x i,ty,pos,after,gd⟩ σ=True:=Cr rfl
@[go_sem] theorem Bq1 {x:Operand} {i:Nat} : Ck ⟨dst,.extract x i,ty,pos,after,gd⟩ σ=True:=Cr rfl
@[go_sem] theorem Cb8 {t:TypeId} {ps:Array (Nat×Operand)} : Ck ⟨dst,.build t ps,ty,pos,after,gd⟩ σ=True:=Cr rfl
@[go_sem] theorem Cx9 {x:Array Operand} {t:Array TypeId} : Ck ⟨dst,.call { callee:=.builtin .len,args:=x,argTypes:=t },ty,pos,after,gd⟩ σ=True:=Cr rfl
@[go_sem] theorem Cx8 {x:Array Operand} {t:Array TypeId} : Ck ⟨dst,.call { callee:=.builtin .max,args:=x,argTypes:=t },ty,pos,after,gd⟩ σ=True:=Cr rfl
@[go_sem] theorem Cx7 {x:Array Operand} {t:Array TypeId} : Ck ⟨dst,.call { callee:=.builtin .min,args:=x,argTypes:=t },ty,pos,after,gd⟩ σ=True:=Cr rfl
@[go_sem] theorem Bx4 {x:Array Operand} {t:Array TypeId} : Ck ⟨dst,.call { callee:=.builtin .append,args:=x,argTypes:=t },ty,pos,after,gd⟩ σ=Lx dst σ:=Lf rfl
@[go_sem] theorem Cm8 {f:Operand} {x:Array Operand} {t:Array TypeId} : Ck ⟨dst,.call { callee:=.value f,args:=x,argTypes:=t },ty,pos,after,gd⟩ σ=Lx dst σ:=Lf rfl
@[go_sem] theorem Cb9 {e:TypeId} : Ck ⟨dst,.alloc e,ty,pos,after,gd⟩ σ=Lx dst σ:=Lf rfl
@[go_sem] theorem Cy1 {e:TypeId} {x:Operand} : Ck ⟨dst,.box e x,ty,pos,after,gd⟩ σ=Lx dst σ:=Lf rfl
@[go_sem] theorem Bq0 {t:TypeId} {r:Option Operand} : Ck ⟨dst,.makeMap t r,ty,pos,after,gd⟩ σ=Lx dst σ:=Lf rfl
@[go_sem] theorem Bx2 {t:TypeId} {x i:Operand} {ok:Bool} : Ck ⟨dst,.lookup t x i ok,ty,pos,after,gd⟩ σ=True:=Cr rfl
@[go_sem] theorem Cx6 {t:TypeId} {x i y:Operand} : Ck ⟨dst,.mapUpdate t x i y,ty,pos,after,gd⟩ σ=True:=Cr rfl
@[go_sem] theorem Bf3 {t:TypeId} {k:Nat} {ps:Array (Nat×Operand)} : Ck ⟨dst,.buildSlice t k ps,ty,pos,after,gd⟩ σ=Lx dst σ:=Lf rfl
@[go_sem] theorem Cg0 {o:Oper} : vop P G σ o K=(Ck o σ/\Bj P G (ev σ.fr) σ.bk o K):=rfl
@[go_sem] theorem Bt4 {x:Operand} : Bj P G L bk ⟨dst,.move x,ty,pos,after,gd⟩ K=K (L x) bk:=rfl
@[go_sem] theorem Bk5 {x:Operand} : Bj P G L bk ⟨dst,.assign x,ty,pos,after,gd⟩ K=K (L x) bk:=rfl
@[go_sem] theorem Bn4 {e:TypeId} : Bj P G L bk ⟨dst,.alloc e,ty,pos,after,gd⟩ K=(match tyZ P e with
  | some (2,zs)=>(∀ v∈zs,okV v)/\K (.bp (cid dst) 0) (.arr (cid dst) (zs.map IV.val) :: bk)
  | some (_,zs)=>K (.bp (cid dst) 0) (.box (cid dst) (zs.map AV.val) :: bk)
  | none=>False):=rfl
@[go_sem] theorem Bf2 {t:TypeId} : Bj P G L bk ⟨dst,.makeMap t none,ty,pos,after,gd⟩ K=(match U5 P t with
  | some (k,_)=>True/\K (.mv (cid dst)) (.mp (cid dst) k [] :: bk)
  | none=>False):=rfl
@[go_sem] theorem Bf1 {t:TypeId} {q:IntKind} {m:Int} : Bj P G L bk ⟨dst,.makeMap t (some (.const (.int q m))),ty,pos,after,gd⟩ K=(match U5 P t with
  | some (k,_)=>(∃ q' m',nrm (L (.const (.int q m)))=.val (.int q' m'))/\K (.mv (cid dst)) (.mp (cid dst) k [] :: bk)
  | none=>False):=rfl
@[go_sem] theorem Bq6 {k:IntKind} {m:Int} : (∃ q' m',AV.val (.int k m)=.val (.int q' m'))=True:=eq_true ⟨_,_,rfl⟩
@[go_sem] theorem Bk4 {t:TypeId} {x i:Operand} {ok:Bool} : Bj P G L bk ⟨dst,.lookup t x i ok,ty,pos,after,gd⟩ K=match U5 P t,L x,nrm (L i) with
  | some (k,z),.mv b,.val (.int k' m)=>match Cd b bk with
   | some (.mp _ k'' kv)=>ok=false/\k'=k/\k''=k/\∃ u,(Lv kv m).getD z=u/\Ej (K (.val u) bk)
   | _=>False
  | _,_,_=>False:=rfl
@[go_sem] theorem C05 {t:TypeId} {x i y:Operand} : Bj P G L bk ⟨dst,.mapUpdate t x i y,ty,pos,after,gd⟩ K=Ah8 P t (L x) (L i) (L y) bk fun bk'=>K .any bk':=rfl
@[go_sem] theorem Cl1 {t:TypeId} {b:Nat} {k':IntKind} {m:Int} {u:Value} {KB:List BA->Prop} : Ah8 P t (.mv b) (.val (.int k' m)) (.val u) bk KB=match U5 P t with
  | some (k,_)=>match Cd b bk with
   | some (.mp _ k'' kv)=>k'=k/\k''=k/\KB (D2 b [.mp b k (Mh kv m u)] bk)
   | _=>False
  | _=>False:=by unfold Ah8;simp only [nrm];cases U5 P t<;>rfl
@[go_sem] theorem C10 {e:TypeId} {x:Operand} : Bj P G L bk ⟨dst,.box e x,ty,pos,after,gd⟩ K=(match L x with
  | .aggI cs=>K (.bp (cid dst) 0) (.arr (cid dst) cs :: bk)
  | u=>okC u=true/\K (.bp (cid dst) 0) (.box (cid dst) (Bh u) :: bk)):=rfl
@[go_sem] theorem Bt5 {t:TypeId} {x:Operand} : Bj P G L bk ⟨dst,.load t x,ty,pos,after,gd⟩ K=match tyK P t with
  | some (q,s)=>match L x with
   | .ip cs=>rdI q s cs fun r=>K r bk
   | .bp b p=>match Cd b bk with
    | some (.box _ cs)=>rdA q s (cs.drop p) fun r=>K r bk
    | some (.arr _ cs)=>match q with
     | 0=>∃ u,cs[p]? = some u/\Ej (K (nrm (.iv u)) bk)
     | 1=>∃ ds,(cs.drop p).take s=ds/\ds.length=s/\Ej (K (.agg (ds.map fun c=>nrm (.iv c))) bk)
     | _=>p=0/\s=cs.length/\K (.aggI cs) bk
    | _=>False
   | .rp b k i j=>match Cd b bk with
    | some (.row _ _ k' l)=>k'=k/\∃ cs,l[i]? = some cs/\Ej (rdI q s (cs.drop j) fun r=>K r bk)
    | _=>False
   | _=>False
  | none=>False:=rfl
@[go_sem] theorem C04 {x : Operand} : Bj P G L bk ⟨dst, .nilCheck x, ty, pos, after, gd⟩ K = match L x with
      | .ip cs => K (.ip cs) bk
      | .bp b p => K (.bp b p) bk
      | .rp b k i j => K (.rp b k i j) bk
      | .fn f cs => K (.fn f cs) bk
      | _ => False := rfl
@[go_sem] theorem C11 {op:BinOp} {t tz:TypeId} {x y:Operand} : Bj P G L bk ⟨dst,.binOp op t x y tz,ty,pos,after,gd⟩ K=By P op t x y (L x) (L y) fun r=>K r bk:=rfl
@[go_sem] theorem Cg1 {op:UnOp} {t:TypeId} {x:Operand} : Bj P G L bk ⟨dst,.unOp op t x,ty,pos,after,gd⟩ K=match op,nrm (L x) with
  | .not,.val (.bool b)=>K (.val (.bool !b)) bk
  | .neg,.val (.int k m)=>∃ m',k.wrap (0 - m)=m'/\Ej (K (.val (.int k m')) bk)
  | _,_=>False:=rfl
@[go_sem] theorem Bt7 {s d:TypeId} {x:Operand} : Bj P G L bk ⟨dst,.convert s d x,ty,pos,after,gd⟩ K=Ro P s d (nrm (L x)) fun r=>K r bk:=rfl
@[go_sem] theorem By8 {s d:TypeId} {q:IntKind} {m:Int} {KK:AV->Prop} : Ro P s d (.val (.int q m)) KK=match Sr P s,Sr P d with
  | some _,some k=>∃ m',k.wrap m=m'/\Ej (KK (.val (.int k m')))
  | _,_=>False:=rfl
@[go_sem] theorem By7 {s d:TypeId} {KK:AV->Prop} : Ro P s d (.val (.slice none 0 0)) KK=(Ss P s=true/\Kt P d=true/\KK (.val (.string ByteArray.empty))):=rfl
@[go_sem] theorem By6 {s d:TypeId} {z:ByteArray} {KK:AV->Prop} : Ro P s d (.val (.string z)) KK=(Kt P s=true/\Ss P d=true/\z.size<=1048576/\KK (.iv (.sl 1 (byR (L4 z))))):=rfl
@[go_sem] theorem Cd2 {s d:TypeId} {k:Nat} {l:List (List IV)} {KK:AV->Prop} : Ro P s d (.iv (.sl k l)) KK=(Ss P s=true/\Kt P d=true/\k=1/\∃ bs:List Nat,l=byR bs/\Ej (KK (.val (.string (Zw bs))))):=rfl
@[go_sem] theorem Bt6 {f:FuncId} {first caps:Array Operand} : Bj P G L bk ⟨dst,.makeFunc (.func f) first caps,ty,pos,after,gd⟩ K=(first=#[]/\K (.fn f (caps.toList.map (L))) bk):=rfl
@[go_sem] theorem Bn0 {t:TypeId} {x:Operand} {lo hi mx:Option Operand} : Bj P G L bk ⟨dst,.slice t x lo hi mx,ty,pos,after,gd⟩ K=match Ep P t,nrm (L x) with
  | some (_,k,_),.iv (.sl k' l) =>
   k=k'/\∃ i j:Nat,(match lo with | none=>i=0 | some p=>L p=.val (.int .i64 i))/\(match hi with | none=>j=l.length | some p=>L p=.val (.int .i64 j))/\i<=j/\j<=l.length/\mxQ L mx hi j l.length (Ej (K (.iv (.sl k ((l.take j).drop i))) bk))
  | _,_=>False:=rfl
@[go_sem] theorem C90 {hi:Option Operand} {j m:Nat} {X:Prop} : mxQ L none hi j m X=X:=rfl
@[go_sem] theorem C89 {p q:Operand} {j n:Nat} {X:Prop} : mxQ L (some p) (some q) j n X=∃ m:Nat,L p=.val (.int .i64 m)/\j<=m/\m<=n/\X:=by simp [mxQ]
@[go_sem] theorem C09 {x : Operand} {t : TypeId} : Bj P G L bk ⟨dst, .call { callee := .builtin .cap, args := #[x], argTypes := #[t] }, ty, pos, after, gd⟩ K = match nrm (L x) with
      | .val (.slice none 0 0) => (Ep P t).isSome = true /\ K (.val (.int .i64 0)) bk
      | _ => False := rfl
@[go_sem] theorem Cy0 {x:Array Operand} {t:Array TypeId} : Ck ⟨dst,.call { callee:=.builtin .cap,args:=x,argTypes:=t },ty,pos,after,gd⟩ σ=True:=Cr rfl
@[go_sem] theorem B70 {t:TypeId} {x:Operand} {f:Nat} : Bj P G L bk ⟨dst,.fieldAddr t x f,ty,pos,after,gd⟩ K=match tyF P t f with
  | some (off,_,s)=>s≠0/\match L x with
   | .ip cs=>K (.ip (cs.drop off)) bk
   | .bp b p=>K (.bp b (p+off)) bk
   | .rp b k i j=>K (.rp b k i (j+off)) bk
   | _=>False
  | none=>False:=rfl
@[go_sem] theorem Bn2 {t:TypeId} {x:Operand} {f:Nat} : Bj P G L bk ⟨dst,.field t x f,ty,pos,after,gd⟩ K=match tyF P t f,L x with
  | some (off,q,s),.agg cs=>rdA q s (cs.drop off) fun r=>K r bk
  | _,_=>False:=rfl
@[go_sem] theorem B69 {t:TypeId} {x i:Operand} : Bj P G L bk ⟨dst,.indexAddr t x i,ty,pos,after,gd⟩ K=match nrm (L i) with
  | .val (.int _ m)=>match Ep P t with
   | some (_,k,_)=>match nrm (L x) with
    | .iv (.sl k' l)=>k=k'/\0<=m/\∃ cs,l[m.toNat]? = some cs/\Ej (K (.ip cs) bk)
    | .own b=>match Cd b bk with
     | some (.row _ _ k' l)=>k=k'/\0<=m/\m.toNat < l.length/\Ej (K (.rp b k m.toNat 0) bk)
     | _=>False
    | _=>False
   | none=>match Wb P t,L x with
    | some (n,_,k),.bp b p=>0<=m/\m < (n:Int)/\0 < k/\Ej (K (.bp b (p+m.toNat*k)) bk)
    | some (n,_,k),.ip cs=>0<=m/\m < (n:Int)/\0 < k/\Ej (K (.ip (cs.drop (m.toNat*k))) bk)
    | _,_=>False
  | _=>False:=rfl
@[go_sem] theorem Bn1 {t:TypeId} {x i:Operand} : Bj P G L bk ⟨dst,.index t x i,ty,pos,after,gd⟩ K=match nrm (L i),L x with
  | .val (.int _ m),.aggI cs=>match Wb P t with
   | some (n,0,1)=>0<=m/\m < (n:Int)/\∃ u,cs[m.toNat]? = some u/\Ej (K (nrm (.iv u)) bk)
   | _=>False
  | .val (.int _ m),.val (.string s)=>Kt P t=true/\0<=m/\∃ b,s[m.toNat]? = some b/\Ej (K (.val (.int .u8 (b.toNat:Nat))) bk)
  | _,_=>False:=rfl
@[go_sem] theorem Bk3 {t:TypeId} {parts:Array (Nat×Operand)} : Bj P G L bk ⟨dst,.build t parts,ty,pos,after,gd⟩ K=match Mx P t with
  | some (zs,places)=>match Rm places (zs.map AV.val) (parts.toList.map fun p=>(p.1,L p.2)) with
   | some cs=>K (.agg cs) bk
   | none=>False
  | none=>False:=rfl
@[go_sem] theorem By2 {ps:List (Nat×Nat)} {cells:List AV} : Rm ps cells []=some cells:=rfl
@[go_sem] theorem Bq3 {ps:List (Nat×Nat)} {cells:List AV} {i:Nat} {v:AV} {rest:List (Nat×AV)} : Rm ps cells ((i,v) :: rest)=match ps[i]? with
  | none=>none
  | some (off,size)=>if (Bh v).length=size/\okC v=true/\off+size<=cells.length then Rm ps (Es cells off (Bh v)) rest else none:=rfl
@[go_sem] theorem Bf4 {x:Operand} {i:Nat} : Bj P G L bk ⟨dst,.extract x i,ty,pos,after,gd⟩ K=match L x with
  | .tup cs=>i < cs.length/\K (cs.getD i .any) bk
  | _=>False:=rfl
@[go_sem] theorem Bm9 {t:TypeId} {x y:Operand} : Bj P G L bk ⟨dst,.store t x y,ty,pos,after,gd⟩ K=Ar P t (L x) (L y) bk fun bk'=>K .any bk':=rfl
@[go_sem] theorem Bk6 {x y:Operand} {t t':TypeId} : Bj P G L bk ⟨dst,.call { callee:=.builtin .append,args:=#[x,y],argTypes:=#[t,t'] },ty,pos,after,gd⟩ K=(t'=t/\Ap P t (L x) (L y) (cid dst) bk K):=rfl
@[go_sem] theorem C08 {x:Operand} {t:TypeId} : Bj P G L bk ⟨dst,.call { callee:=.builtin .len,args:=#[x],argTypes:=#[t] },ty,pos,after,gd⟩ K=Ce P t (fun b=>Cd b bk) (L x) fun r=>K r bk:=rfl
@[go_sem] theorem C07 {x y : Operand} {tt : Array TypeId} : Bj P G L bk ⟨dst, .call { callee := .builtin .max, args := #[x, y], argTypes := tt }, ty, pos, after, gd⟩ K = match nrm (L x), nrm (L y) with
      | .val (.int k p), .val (.int _ q) => ∃ m, max p q = m /\ Ej (K (.val (.int k m)) bk)
      | _, _ => False := rfl
@[go_sem] theorem C06 {x y : Operand} {tt : Array TypeId} : Bj P G L bk ⟨dst, .call { callee := .builtin .min, args := #[x, y], argTypes := tt }, ty, pos, after, gd⟩ K = match nrm (L x), nrm (L y) with
      | .val (.int k p), .val (.int _ q) => ∃ m, min p q = m /\ Ej (K (.val (.int k m)) bk)
      | _, _ => False := rfl
def Bi (P:Program) (G:World->Prop) (f:FuncId) (args:List AV) (dst:Option Tmp) (bk:List BA) (K:AV->List BA->Prop):Prop:=(Bo P G (fun b=>Cd b bk) f args (cid dst) fun r nb=>K r (nb++bk))\/B77 P G f args (cid dst) bk K
@[go_sem] theorem Bt8 {fo:Operand} {args:Array Operand} {tt:Array TypeId} : Bj P G L bk ⟨dst,.call { callee:=.value fo,args:=args,argTypes:=tt },ty,pos,after,gd⟩ K=match L fo with
  | .fn f caps=>Bi P G f (args.toList.map L++caps) dst bk K
  | _=>False:=rfl
def bsQ (L:Operand->AV) (k len:Nat) (parts:Array (Nat×Operand)) (A B:List (List IV)->Prop):Prop:=∃ l:List (List IV),l.length=len/\0 < k/\len*k<=16777216/\(∀ (i:Nat) (cs:List IV),l[i]? = some cs->cs.length=k/\∃ x,parts[i]? = some (i,x)/\okC (L x)=true/\AsI (Bh (L x)) cs)/\parts.size=len/\(A l\/B l)
@[go_sem] theorem Bn3 {t:TypeId} {len:Nat} {parts:Array (Nat×Operand)} : Bj P G L bk ⟨dst,.buildSlice t len parts,ty,pos,after,gd⟩ K=(match Ep P t with
  | some (e,k,_)=>(tyZ P e).isSome=true/\bsQ L k len parts (fun l=>K (.own (cid dst)) (.row (cid dst) e k l :: bk)) (fun l=>K (.iv (.sl k l)) bk)
  | none=>False):=rfl
@[go_sem] theorem Cl3 {t:TypeId} {B:Nat->Option BA} {k:Nat} {l:List (List IV)} {KK:AV->Prop} : Ce P t B (.iv (.sl k l)) KK=((Ep P t).isSome=true/\KK (.val (.int .i64 (l.length:Nat)))):=rfl
@[go_sem] theorem C94 {t:TypeId} {B:Nat->Option BA} {b:Nat} {KK:AV->Prop} : Ce P t B (.own b) KK=match B b with
  | some (.row _ _ _ l)=>(Ep P t).isSome=true/\KK (.val (.int .i64 (l.length:Nat)))
  | _=>False:=rfl
@[go_sem] theorem C93 {t:TypeId} {B:Nat->Option BA} {s:ByteArray} {KK:AV->Prop} : Ce P t B (.val (.string s)) KK=(Kt P t=true/\KK (.val (.int .i64 (s.size:Nat)))):=rfl
@[go_sem] theorem C95 {t:TypeId} {B:Nat->Option BA} {KK:AV->Prop} : Ce P t B (.val (.slice none 0 0)) KK=((Ep P t).isSome=true/\KK (.val (.int .i64 0))):=rfl
section
variable {t : TypeId} {x y : Operand} {k k' : IntKind} {p q : Int} {KK : AV -> Prop}
@[go_sem] theorem B74 {v:Value} : Gf (.val v)=some v:=rfl
@[go_sem] theorem C13 {cs:List AV} : Gf (.agg cs)=(Gf.valAs cs).map fun l=>.agg l.toArray:=rfl
@[go_sem] theorem Bu0:Gf.valAs []=some []:=rfl
@[go_sem] theorem Bn5 {v:Value} {cs:List AV} : Gf.valAs (.val v :: cs)=(Gf.valAs cs).map fun l=>v :: l:=by
 show (match Gf (.val v),Gf.valAs cs with | some v,some l=>some (v :: l) | _,_=>none)=_
 rw [B74]
 cases Gf.valAs cs<;>rfl
@[go_sem] theorem Co8 {op:BinOp} {u v:List AV} : By P op t x y (.agg u) (.agg v) KK=match Gf (.agg u),Gf (.agg v) with
  | some p,some q=>∃ r,(∀ w,(do eqGuard op t x y p q;binOp op t p q:Sem Value).run P w=.ok r w)/\Ej (KK (.val r))
  | _,_=>False:=by cases op<;>rfl
@[go_sem] theorem Co2:By P .lss t x y (.val (.int k p)) (.val (.int k' q)) KK=(k=k'/\KK (.val (.bool (decide (p < q))))):=rfl
@[go_sem] theorem Co3:By P .leq t x y (.val (.int k p)) (.val (.int k' q)) KK=(k=k'/\KK (.val (.bool (decide (p<=q))))):=rfl
@[go_sem] theorem Co4:By P .gtr t x y (.val (.int k p)) (.val (.int k' q)) KK=(k=k'/\KK (.val (.bool (decide (q < p))))):=rfl
@[go_sem] theorem Co5:By P .geq t x y (.val (.int k p)) (.val (.int k' q)) KK=(k=k'/\KK (.val (.bool (decide (q<=p))))):=rfl
@[go_sem] theorem Co6:By P .eql t x y (.val (.int k p)) (.val (.int k' q)) KK=(k=k'/\KK (.val (.bool (decide (p=q))))):=rfl
@[go_sem] theorem Co0:By P .neq t x y (.val (.int k p)) (.val (.int k' q)) KK=(k=k'/\KK (.val (.bool (decide (p≠q))))):=rfl
@[go_sem] theorem Co9:By P .add t x y (.val (.int k p)) (.val (.int k' q)) KK=(k=k'/\∃ m,k.wrap (p+q)=m/\Ej (KK (.val (.int k m)))):=rfl
@[go_sem] theorem Cn5:By P .sub t x y (.val (.int k p)) (.val (.int k' q)) KK=(k=k'/\∃ m,k.wrap (p - q)=m/\Ej (KK (.val (.int k m)))):=rfl
@[go_sem] theorem Co7:By P .and t x y (.val (.int k p)) (.val (.int k' q)) KK=∃ r,(∀ w,(do eqGuard .and t x y (.int k p) (.int k' q);binOp .and t (.int k p) (.int k' q):Sem Value).run P w=.ok r w)/\Ej (KK (.val r)):=rfl
@[go_sem] theorem Cn8:By P .rem t x y (.val (.int k p)) (.val (.int k' q)) KK=∃ r,(∀ w,(do eqGuard .rem t x y (.int k p) (.int k' q);binOp .rem t (.int k p) (.int k' q):Sem Value).run P w=.ok r w)/\Ej (KK (.val r)):=rfl
@[go_sem] theorem Cn9:By P .quo t x y (.val (.int k p)) (.val (.int k' q)) KK=∃ r,(∀ w,(do eqGuard .quo t x y (.int k p) (.int k' q);binOp .quo t (.int k p) (.int k' q):Sem Value).run P w=.ok r w)/\Ej (KK (.val r)):=rfl
@[go_sem] theorem Cy9:By P .or t x y (.val (.int k p)) (.val (.int k' q)) KK=∃ r,(∀ w,(do eqGuard .or t x y (.int k p) (.int k' q);binOp .or t (.int k p) (.int k' q):Sem Value).run P w=.ok r w)/\Ej (KK (.val r)):=rfl
@[go_sem] theorem Cn4:By P .xor t x y (.val (.int k p)) (.val (.int k' q)) KK=∃ r,(∀ w,(do eqGuard .xor t x y (.int k p) (.int k' q);binOp .xor t (.int k p) (.int k' q):Sem Value).run P w=.ok r w)/\Ej (KK (.val r)):=rfl
@[go_sem] theorem Cn7:By P .shl t x y (.val (.int k p)) (.val (.int k' q)) KK=∃ r,(∀ w,(do eqGuard .shl t x y (.int k p) (.int k' q);binOp .shl t (.int k p) (.int k' q):Sem Value).run P w=.ok r w)/\Ej (KK (.val r)):=rfl
@[go_sem] theorem Cn6:By P .shr t x y (.val (.int k p)) (.val (.int k' q)) KK=∃ r,(∀ w,(do eqGuard .shr t x y (.int k p) (.int k' q);binOp .shr t (.int k p) (.int k' q):Sem Value).run P w=.ok r w)/\Ej (KK (.val r)):=rfl
@[go_sem] theorem Co1:By P .mul t x y (.val (.int k p)) (.val (.int k' q)) KK=(k=k'/\∃ m,k.wrap (p*q)=m/\Ej (KK (.val (.int k m)))):=rfl
end
end
@[go_sem] theorem Bz3 {i:Nat} {c:AV} {cs:List AV} : V7 i (c :: cs)=(i,c) :: V7 (i+1) cs:=rfl
@[go_sem] theorem Ce2 {i:Nat} : V7 i []=[]:=rfl
@[go_sem] theorem Bw4 {c:AV} : Ah3 [c]=c:=rfl
@[go_sem] theorem Bw3 {c d:AV} {l:List AV} : Ah3 (c :: d :: l)=.tup (c :: d :: l):=rfl
@[go_sem] theorem Cl5 {ρ:Nat->Nat} {fr:List (Nat×AV)} : leF ρ fr []=True:=rfl
@[go_sem] theorem C96 {ρ:Nat->Nat} {fr r:List (Nat×AV)} {i:Nat} {c:AV} : leF ρ fr ((i,c) :: r)=(Ct fr i=c.ren ρ/\leF ρ fr r):=rfl
@[go_sem] theorem Cl6 {ρ:Nat->Nat} {bk:List BA} : leB ρ bk []=True:=rfl
@[go_sem] theorem C97 {ρ:Nat->Nat} {bk r:List BA} {b:BA} : leB ρ bk (b :: r)=(Cd (ρ b.id) bk=some (b.ren ρ)/\leB ρ bk r):=rfl
@[go_sem] theorem Bw7 {ρ:Nat->Nat} : Ay ρ []=[]:=rfl
@[go_sem] theorem Bp9 {ρ:Nat->Nat} {b:BA} {r:List BA} : Ay ρ (b :: r)=ρ b.id :: Ay ρ r:=rfl
@[go_sem] theorem Cx2 {b:Nat} {cs:List AV} : (BA.box b cs).id=b:=rfl
@[go_sem] theorem Cx3 {b:Nat} {cs:List IV} : (BA.arr b cs).id=b:=rfl
@[go_sem] theorem Cx1 {b:Nat} {F:Far} : (BA.opq b F).id=b:=rfl
@[go_sem] theorem D16 {b:Nat} {k:IntKind} {kv:List (Int×Value)} : (BA.mp b k kv).id=b:=rfl
@[go_sem] theorem Cx0 {b e k:Nat} {l:List (List IV)} : (BA.row b e k l).id=b:=rfl
section
variable {ρ : Nat -> Nat}
@[go_sem] theorem Ck1:AV.any.ren ρ=.any:=rfl
@[go_sem] theorem Cj8 {v:Value} : (AV.val v).ren ρ=.val v:=rfl
@[go_sem] theorem Cv2 {i:IV} : (AV.iv i).ren ρ=.iv i:=rfl
@[go_sem] theorem Cv3 {cs:List IV} : (AV.ip cs).ren ρ=.ip cs:=rfl
@[go_sem] theorem C80 {cs:List IV} : (AV.aggI cs).ren ρ=.aggI cs:=rfl
@[go_sem] theorem Cv5 {b o:Nat} : (AV.bp b o).ren ρ=.bp (ρ b) o:=rfl
@[go_sem] theorem Ck0 {b:Nat} : (AV.own b).ren ρ=.own (ρ b):=rfl
@[go_sem] theorem Ck2 {cs:List AV} : (AV.agg cs).ren ρ=.agg (AV.ren.rens ρ cs):=rfl
@[go_sem] theorem Cj9 {cs:List AV} : (AV.tup cs).ren ρ=.tup (AV.ren.rens ρ cs):=rfl
@[go_sem] theorem Cv4 {f:Nat} {cs:List AV} : (AV.fn f cs).ren ρ=.fn f (AV.ren.rens ρ cs):=rfl
@[go_sem] theorem C79:AV.ren.rens ρ []=[]:=rfl
@[go_sem] theorem Bv8 {c:AV} {cs:List AV} : AV.ren.rens ρ (c :: cs)=c.ren ρ :: AV.ren.rens ρ cs:=rfl
@[go_sem] theorem C84 {b:Nat} {cs:List AV} : (BA.box b cs).ren ρ=.box (ρ b) (AV.ren.rens ρ cs):=rfl
@[go_sem] theorem C85 {b:Nat} {cs:List IV} : (BA.arr b cs).ren ρ=.arr (ρ b) cs:=rfl
@[go_sem] theorem C83 {b:Nat} {F:Far} : (BA.opq b F).ren ρ=.opq (ρ b) F:=rfl
@[go_sem] theorem Ck3 {b:Nat} {k:IntKind} {kv:List (Int×Value)} : (BA.mp b k kv).ren ρ=.mp (ρ b) k kv:=rfl
@[go_sem] theorem Cv1 {b:Nat} : (AV.mv b).ren ρ=.mv (ρ b):=rfl
@[go_sem] theorem C82 {b e k:Nat} {l:List (List IV)} : (BA.row b e k l).ren ρ=.row (ρ b) e k l:=rfl
end
@[go_sem] theorem C76 {P:Program} {σ:Ah} {K:List AV->Prop} : Pn P σ [] K=K []:=rfl
@[go_sem] theorem C75 {P:Program} {σ:Ah} {t:Nat} {r:List ResultVar} {K:List AV->Prop} : Pn P σ (.tmp t :: r) K=Pn P σ r fun l=>K (Ct σ.fr t :: l):=rfl
@[go_sem] theorem Bv3 {P:Program} {σ:Ah} {d t:Nat} {r:List ResultVar} {K:List AV->Prop} : Pn P σ (.cell d t :: r) K=match Ct σ.fr d with
  | .bp b p=>match Cd b σ.bk,tyK P t with
   | some (.box _ cs),some (q,s)=>rdA q s (cs.drop p) fun u=>Pn P σ r fun l=>K (u :: l)
   | some (.arr _ cs),some (2,s)=>p=0/\s=cs.length/\Pn P σ r fun l=>K (.aggI cs :: l)
   | _,_=>False
  | _=>False:=rfl
def Bb1 (lo hi:Nat) (A:List Nat) (skip:Nat):Nat->List AV->Bool
 | _,[]=>true
 | j,x :: r=>(x.off lo hi || (Nat.beq j skip || (A.getD j 0).testBit skip))&&Bb1 lo hi A skip (j+1) r
def Bb0 (lo hi:Nat) (ex:Nat->Bool):Nat->List BA->Bool
 | _,[]=>true
 | t,b :: r=>(b.off lo hi || ex t)&&Bb0 lo hi ex (t+1) r
def exT (A:List Nat) (bs:List Nat) (hs:List F5) (i t:Nat):Bool:=(P2 bs hs i).contains t || (List.range hs.length).any fun j=>(P2 bs hs j).contains t&&(A.getD j 0).testBit i
def Yk (A:List Nat) (toks:List BA) (fr0:List (Nat×AV)) (rs:List AV) (hs:List F5) (bs:List Nat):Nat->List Oper->Bool
 | _,[]=>true
 | i,o :: r=>(match Hz o with
  | true=>Ky (cid o.dst) (cid o.dst+100) fr0&&Bb1 (cid o.dst) (cid o.dst+100) A i 0 rs&&Bb0 (cid o.dst) (cid o.dst+100) (exT A bs hs i) 0 toks
  | false=>true)&&Yk A toks fr0 rs hs bs (i+1) r
theorem Ah5 {lo hi skip:Nat} {A:List Nat} : ∀ {rs:List AV} {s:Nat},Bb1 lo hi A skip s rs=true->∀ (j:Nat) x,s+j≠skip->(A.getD (s+j) 0).testBit skip=false->rs[j]? = some x->x.off lo hi=true
 | [],_,_,j,x,_,_,h=>by simp at h
 | y :: r,s,h,j,x,hne,hA,hx=>by
  simp only [Bb1,Bool.and_eq_true,Bool.or_eq_true] at h
  cases j with
  | zero =>
   simp at hx;subst hx
   rcases h.1 with h | h | h
   ·exact h
   ·exact absurd (Nat.eq_of_beq_eq_true h) (by simpa using hne)
   ·rw [Nat.add_zero] at hA
    rw [hA] at h;cases h
  | succ j=>exact Ah5 h.2 j x (by omega) (by rwa [show s+1+j=s+(j+1) by omega]) (by simpa using hx)
theorem Ah4 {lo hi:Nat} {ex:Nat->Bool} : ∀ {toks:List BA} {s:Nat},Bb0 lo hi ex s toks=true->∀ (j:Nat) b,ex (s+j)=false->toks[j]? = some b->b.off lo hi=true
 | [],_,_,j,x,_,h=>by simp at h
 | y :: r,s,h,j,x,hne,hx=>by
  simp only [Bb0,Bool.and_eq_true,Bool.or_eq_true] at h
  cases j with
  | zero =>
   simp at hx;subst hx
   rcases h.1 with h | h
   ·exact h
   ·rw [Nat.add_zero] at hne
    rw [hne] at h;cases h
  | succ j=>exact Ah4 h.2 j x (by rwa [show s+1+j=s+(j+1) by omega]) (by simpa using hx)
theorem As5 {toks:List BA} {fr0:List (Nat×AV)} {ops:List Oper} {rs:List AV} {hs:List F5} {bs:List Nat} (h:Yk (bef [] (ops.map F3)) toks fr0 rs hs bs 0 ops=true):Yl toks fr0 ops rs hs bs:=by
 obtain ⟨A,hA⟩ : ∃ A,bef [] (ops.map F3)=A:=⟨_,rfl⟩
 rw [hA] at h
 unfold Yl
 rw [hA]
 have key:∀ (ops:List Oper) (s:Nat),Yk A toks fr0 rs hs bs s ops=true->∀ (i:Nat) o,ops[i]? = some o->Hz o=true->Ky (cid o.dst) (cid o.dst+100) fr0=true/\Bb1 (cid o.dst) (cid o.dst+100) A (s+i) 0 rs=true/\Bb0 (cid o.dst) (cid o.dst+100) (exT A bs hs (s+i)) 0 toks=true:=by
  intro ops
  induction ops with
  | nil=>intro s _ i o h;simp at h
  | cons q r ih =>
   intro s h i o ho hm
   simp only [Yk,Bool.and_eq_true] at h
   cases i with
   | zero =>
    simp at ho;subst ho
    have:=h.1
    rw [hm] at this
    simp only [Bool.and_eq_true] at this
    exact ⟨this.1.1,this.1.2,this.2⟩
   | succ i =>
    have:=ih (s+1) h.2 i o (by simpa using ho) hm
    rwa [show s+1+i=s+(i+1) by omega] at this
 intro i o ho hm
 obtain ⟨k1,k2,k3⟩:=key ops 0 h i o ho hm
 simp only [Nat.zero_add] at k2 k3
 refine ⟨k1,fun j x hj hb hx=>Ah5 k2 j x (by simpa using hj) (by rwa [Nat.zero_add]) hx,fun t b ht ha hb=>Ah4 k3 t b ?_ hb⟩
 rw [Nat.zero_add]
 unfold exT
 rw [Bool.or_eq_false_iff]
 refine ⟨by simpa using ht,?_⟩
 rw [List.any_eq_false]
 intro j _ hc
 rw [Bool.and_eq_true] at hc
 rw [ha j (by simpa using hc.1)] at hc
 cases hc.2
@[go_sem] theorem Bt0 {ops:List Oper} {fr:List (Nat×AV)} {j:Nat} : Mn ops fr j=match ops[j]? with
 | some o=>match o.dst with
  | some d=>nrm (Ct fr d)
  | none=>.any
 | none=>.any:=rfl
section
variable {P : Program} {G : World -> Prop} {fr : List (Nat × AV)} {bk : List BA} {ops rest : List Oper} {KK : Ah -> Prop} {dst : Option Tmp} {op : Op} {ty : TypeId} {pos : String} {after : Array Edge} {j : Nat} {b : Bool}
variable {ds : List Nat} {fr0 : List (Nat × AV)} {toks : List BA} {rs : List AV} {KD : List BA -> List AV -> Prop} {sl : List (Nat × Nat)} {pre rd cs : List Nat} {out : Nat} {hs : List F5}
end
theorem AW.reg {P:Program} {G:World->Prop} {V w0:World} {n:Nd} {ro:Option Nat} {σ:Ah} {K:Exit->Ah->Prop} {id:Nat} {l:List Oper} (hd:Hc n l=true) (h:∀ KK:Ah->Prop,(∀ σ',K .normal σ'->KK σ')->Bw P G l l σ KK):AW P G ro V w0 n (.region id l.toArray false) σ K:=AW.region hd (h _ fun _ h=>h)
theorem AW.scope {P:Program} {G:World->Prop} {V w0:World} {n:Nd} {ro:Option Nat} {σ:Ah} {K:Exit->Ah->Prop} {c:Code} (h:AW P G ro V w0 n c σ fun e σ'=>match e with
  | .goto _=>False
  | e=>K e σ'):AW P G ro V w0 n (.scope c) σ K:=fun hG m E a w hn hs=>R4 (wpIn_mono (h hG m E a w hn hs) fun e a w h=>by
 obtain ⟨m',E',σ',h0,h1,h2⟩:=h
 cases e<;>first | exact ⟨m',E',σ',h0,h1,h2⟩ | exact h1.elim)
theorem AW.drawn {P:Program} {G:World->Prop} {V w0:World} {n:Nd} {ro:Option Nat} {σ:Ah} {K:Exit->Ah->Prop} {id m:Nat} {ops:List Oper} (hs:List F5) {ds fin bs:List Nat} (hp:P.follows .mixedOrders=true) (hm:σ.bk.length=m) (hok:At1 n m ops hs=true) (hds:He ops=ds) (hfin:Bc7 m hs=fin) (hbs:D8 m hs=bs)
  (h:∀ KD:List BA->List AV->Prop,(∀ toks rs,(Yk (bef [] (ops.map F3)) toks σ.fr rs hs bs 0 ops=true/\K .normal ⟨Wi ops rs σ.fr,D0 fin toks⟩)->KD toks rs)->Az P G ds σ.fr ops hs σ.bk [] KD):AW P G ro V w0 n (.region id ops.toArray true) σ K:=by
 subst hds hfin hbs
 exact AW.draw hs hp hm hok (fun _ _ h=>As5 h) (h _ fun _ _ h=>h)
section
variable {P : Program} {G : World -> Prop} {ds : List Nat} {fr0 : List (Nat × AV)} {toks : List BA} {rs : List AV} {K : List BA -> List AV -> Prop}
@[go_sem] theorem Bt9:Az P G ds fr0 [] [] toks rs K=K toks rs:=rfl
theorem Rw {dst:Option Tmp} {op:Op} {ty:TypeId} {pos:String} {after:Array Edge} {gd:Option (Nat×Bool)} {r:List Oper} {sl:List (Nat×Nat)} {pre rd cs:List Nat} {out:Nat} {hs:List F5} :
  Az P G ds fr0 (⟨dst,op,ty,pos,after,gd⟩ :: r) (⟨sl,pre,rd,cs,out⟩ :: hs) toks rs K=Pa rs gd (Bj P G (ev (Kn sl rs++Hw pre ds++fr0)) (D0 cs toks++D0 rd toks) ⟨dst,op,ty,pos,after,gd⟩ fun x bk' =>
   bk'=bk'.take out++D0 rd toks/\(bk'.take out).length=out/\Az P G ds fr0 r hs (toks++bk'.take out) (rs++[x]) K) (out=0/\cs=[]/\Az P G ds fr0 r hs toks (rs++[.val undef]) K):=rfl
@[go_sem] theorem Bl4 {run skip:Prop} : Pa rs none run skip=run:=rfl
@[go_sem] theorem Bl3 {j:Nat} {b:Bool} {run skip:Prop} : Pa rs (some (j,b)) run skip=match nrm (rs.getD j .any) with
  | .val (.bool true)=>(match b with | true=>run | false=>skip)
  | .val (.bool false)=>(match b with | true=>skip | false=>run)
  | .val (.tuple _)=>skip
  | _=>False:=rfl
@[go_sem] theorem C72:Kn [] rs=[]:=rfl
@[go_sem] theorem Bv1 {d j:Nat} {r:List (Nat×Nat)} : Kn ((d,j) :: r) rs=(d,rs.getD j .any) :: Kn r rs:=rfl
@[go_sem] theorem Bw5 {pre:List Nat} : Hw pre []=[]:=rfl
@[go_sem] theorem C91 {d:Nat} {r:List Nat} : Hw [] (d :: r)=(d,.any) :: Hw [] r:=rfl
@[go_sem] theorem C73:D0 [] toks=[]:=rfl
@[go_sem] theorem Bv2 {t:Nat} {r:List Nat} : D0 (t :: r) toks=toks.getD t (.arr 0 []) :: D0 r toks:=rfl
@[go_sem] theorem Cc1 {fr:List (Nat×AV)} : Wi [] rs fr=fr:=rfl
@[go_sem] theorem By0 {d:Nat} {op:Op} {ty:TypeId} {pos:String} {after:Array Edge} {gd:Option (Nat×Bool)} {r:List Oper} {x:AV} {fr:List (Nat×AV)} : Wi (⟨some d,op,ty,pos,after,gd⟩ :: r) (x :: rs) fr=(d,x) :: Wi r rs fr:=rfl
@[go_sem] theorem By1 {op:Op} {ty:TypeId} {pos:String} {after:Array Edge} {gd:Option (Nat×Bool)} {r:List Oper} {x:AV} {fr:List (Nat×AV)} : Wi (⟨none,op,ty,pos,after,gd⟩ :: r) (x :: rs) fr=Wi r rs fr:=rfl
end
attribute [go_sem] Option.map_some Option.map_none List.getElem?_cons_zero List.getElem?_cons_succ List.map_cons List.map_nil List.take_succ_cons List.take_zero List.drop_succ_cons List.drop_zero List.length_cons List.length_nil List.nil_append List.cons_append List.getD_cons_zero List.getD_cons_succ List.set_cons_zero List.set_cons_succ List.length_map true_and and_true Option.isSome_some List.append_nil List.take_nil List.drop_nil eq_self
theorem Bc3 {x:Int} (h1:-9223372036854775808<=x) (h2:x<=9223372036854775807):IntKind.i64.wrap x=x:=IntWalk.i64_in _ (by omega)
theorem Cg {α β:Type} {f:α->β} {l:List α} {i:Nat} {y:α} (h:l[i]? = some y):(l.map f)[i]? = some (f y):=by rw [List.getElem?_map,h];rfl
@[go_sem] theorem Bu5 {m:Nat} : ((m:Nat):Int).toNat=m:=rfl
-- the small first parts of the formulas
section
variable {b : Prop}
theorem nF {d:Option Tmp} {σ:Ah} (hb:b) (h:Lx d σ:=by rfl):Lx d σ/\b:=⟨h,hb⟩
end
-- what simp may go into
section
variable {P : Program} {G : World -> Prop} {V w0 : World} {n : Nd} {ro : Option Nat} {σ σ' : Ah} {K : AV -> List BA -> Prop} {KE : Exit -> Ah -> Prop} {KS : Ah -> Prop} {KA : AV -> Prop} {KB : List BA -> Prop} {o : Oper} {ops l : List Oper} {L L' : Operand -> AV} {bk bk' : List BA} {c : Code} {x x' y y' : AV} {cs cs' : List AV} {is is' : List IV} {t : TypeId} {f : FuncId} {dst : Option Tmp}
@[congr] theorem D25 {B0:Prop} (h:σ=σ') (_:Tk=B0):AW P G ro V w0 n c σ KE=AW P G ro V w0 n c σ' KE:=by rw [h]
@[congr] theorem Cf8 {B0:Prop} (h:σ=σ') (_:Tk=B0):Bw P G ops l σ KS=Bw P G ops l σ' KS:=by rw [h]
@[congr] theorem Cq3 {B0:Prop} (h:σ=σ') (_:Tk=B0):vop P G σ o K=vop P G σ' o K:=by rw [h]
@[congr] theorem Cg2 {B0:Prop} (h:L=L') (hb:bk=bk') (_:Tk=B0):Bj P G L bk o K=Bj P G L' bk' o K:=by rw [h,hb]
@[congr] theorem Cd8 {B0:Prop} (h:cs=cs') (hb:bk=bk') (_:Tk=B0):Bi P G f cs dst bk K=Bi P G f cs' dst bk' K:=by rw [h,hb]
@[congr] theorem Bu7 {B0:Prop} (h:x=x') (h2:y=y') (hb:bk=bk') (_:Tk=B0):Ar P t x y bk KB=Ar P t x' y' bk' KB:=by rw [h,h2,hb]
@[congr] theorem Cd3 {B0:Prop} {s d:TypeId} (h:x=x') (_:Tk=B0):Ro P s d x KA=Ro P s d x' KA:=by rw [h]
@[congr] theorem Cl2 {B0:Prop} {i i':AV} (h:x=x') (h3:i=i') (h2:y=y') (hb:bk=bk') (_:Tk=B0):Ah8 P t x i y bk KB=Ah8 P t x' i' y' bk' KB:=by rw [h,h3,h2,hb]
@[congr] theorem Br9 {B0:Prop} {d d':Nat} (h:x=x') (h2:y=y') (hd:d=d') (hb:bk=bk') (_:Tk=B0):Ap P t x y d bk K=Ap P t x' y' d' bk' K:=by rw [h,h2,hd,hb]
@[congr] theorem Cy8 {B0:Prop} {k m:Nat} {parts:Array (Nat×Operand)} {C D:List (List IV)->Prop} (h:L=L') (_:Tk=B0):bsQ L k m parts C D=bsQ L' k m parts C D:=by rw [h]
@[congr] theorem Cl4 {B0:Prop} {B:Nat->Option BA} (h:x=x') (_:Tk=B0):Ce P t B x KA=Ce P t B x' KA:=by rw [h]
@[congr] theorem Cp0 {B0:Prop} {op:BinOp} {u v:Operand} (h:x=x') (h2:y=y') (_:Tk=B0):By P op t u v x y KA=By P op t u v x' y' KA:=by rw [h,h2]
@[congr] theorem Cv6 {B0:Prop} {q s:Nat} (h:is=is') (_:Tk=B0):rdI q s is KA=rdI q s is' KA:=by rw [h]
@[congr] theorem Cv7 {B0:Prop} {q s:Nat} (h:cs=cs') (_:Tk=B0):rdA q s cs KA=rdA q s cs' KA:=by rw [h]
@[congr] theorem C12 {B0:Prop} {ds:List Nat} {fr0:List (Nat×AV)} {hs:List F5} {KD:List BA->List AV->Prop} (h:bk=bk') (h2:cs=cs') (_:Tk=B0):Az P G ds fr0 l hs bk cs KD=Az P G ds fr0 l hs bk' cs' KD:=by rw [h,h2]
@[congr] theorem Cj7 {B0:Prop} {rs:List ResultVar} {KL:List AV->Prop} (h:σ=σ') (_:Tk=B0):Pn P σ rs KL=Pn P σ' rs KL:=by rw [h]
def Mk (x:AV) (A B:Prop):Prop:=∃ t,x=.val (.bool t)/\(t=true->A)/\(t=false->B)
variable {A B : Prop}
@[congr] theorem Cd6 {B0:Prop} (h:x=x') (_:Tk=B0):Mk x A B=Mk x' A B:=by rw [h]
@[go_sem] theorem Bj1:Mk (.val (.bool true)) A B=A:=by simp [Mk]
@[go_sem] theorem Bj2:Mk (.val (.bool false)) A B=B:=by simp [Mk]
@[go_sem] theorem Cd4 {t:Bool} (h:t=true):Mk (.val (.bool t)) A B=A:=by rw [h,Bj1]
@[go_sem] theorem Cd5 {t:Bool} (h:t=false):Mk (.val (.bool t)) A B=B:=by rw [h,Bj2]
theorem Cl {t:Bool} (h1:t=true->A) (h2:t=false->B):Mk (.val (.bool t)) A B:=⟨t,rfl,h1,h2⟩
def Rk (p:Bool) (A:Prop):Prop:=p=true/\A
@[congr] theorem D21 {B0:Prop} {p:Bool} (_:Tk=B0):Rk p A=Rk p A:=rfl
@[go_sem] theorem D36 {p:Bool} (h:p=true):Rk p A=A:=by simp [Rk,h]
def W1 (P:Program) (G:World->Prop) (ro:Option Nat) (V w0:World) (n:Nd):Code->Ah->(Exit->Ah->Prop)->Prop
 | .skip,σ,K=>K .normal σ
 | .ret,σ,K=>K .ret σ
 | .exit id,σ,K=>K (.exit id) σ
 | .label _,σ,K=>K .normal σ
 | .seq x y,σ,K=>W1 P G ro V w0 n x σ fun e σ'=>match e with
  | .normal=>AW P G ro V w0 n y σ' K
  | e=>K e σ'
 | .block id c,σ,K=>W1 P G ro V w0 n c σ fun e σ'=>match e with
  | .exit j=>if j=id then K .normal σ' else K (.exit j) σ'
  | e=>K e σ'
 | .scope c,σ,K=>W1 P G ro V w0 n c σ fun e σ'=>match e with
  | .goto _=>False
  | e=>K e σ'
 | .cond c x y,σ,K=>Mk (nrm (ev σ.fr c)) (AW P G ro V w0 n x σ K) (AW P G ro V w0 n y σ K)
 | .region _ ops false,σ,K=>Rk (Hc n ops.toList) (Bw P G ops.toList ops.toList σ fun σ'=>K .normal σ')
 | c,σ,K=>AW P G ro V w0 n c σ K
def Bk9:Code->Bool
 | .region _ _ d=>!d
 | .loop _=>false
 | .rangeFunc _ _ _ _=>false
 | .goto _=>false
 | .refuse _=>false
 | _=>true
@[congr] theorem D20 {B0:Prop} (h:σ=σ') (_:Tk=B0):W1 P G ro V w0 n c σ KE=W1 P G ro V w0 n c σ' KE:=by rw [h]
theorem Bs2:∀ {c:Code} {σ:Ah} {K:Exit->Ah->Prop},W1 P G ro V w0 n c σ K->AW P G ro V w0 n c σ K:=by
 intro c
 induction c with
 | skip=>exact fun h=>AW.skip h
 | ret=>exact fun h=>AW.ret h
 | exit id=>exact fun h=>AW.exit h
 | label l=>exact fun h=>AW.label h
 | seq x y ihx _=>exact fun h=>AW.seq (ihx h)
 | block id c ih=>exact fun h=>AW.block (ih h)
 | scope c ih=>exact fun h=>AW.scope (ih h)
 | cond c x y _ _=>exact fun ⟨t,h0,h1,h2⟩=>AW.cond h0 h1 h2
 | region id ops d =>
  cases d with
  | false =>
   intro σ K h
   exact AW.region (l:=ops.toList) h.1 h.2
  | true=>exact fun h=>h
 | _=>exact fun h=>h
theorem st_ (_:Bk9 c=true) (h:W1 P G ro V w0 n c σ KE):AW P G ro V w0 n c σ KE:=Bs2 h
variable {id : Nat} {a b : Code}
@[go_sem] theorem Cp1:W1 P G ro V w0 n .skip σ KE=KE .normal σ:=rfl
@[go_sem] theorem Cz2:W1 P G ro V w0 n .ret σ KE=KE .ret σ:=rfl
@[go_sem] theorem Cp3:W1 P G ro V w0 n (.exit id) σ KE=KE (.exit id) σ:=rfl
@[go_sem] theorem Ce5:W1 P G ro V w0 n (.label id) σ KE=KE .normal σ:=rfl
@[go_sem] theorem Cz1:W1 P G ro V w0 n (.seq a b) σ KE=W1 P G ro V w0 n a σ fun e σ'=>match e with
  | .normal=>AW P G ro V w0 n b σ' KE
  | e=>KE e σ':=rfl
@[go_sem] theorem Ce7:W1 P G ro V w0 n (.block id a) σ KE=W1 P G ro V w0 n a σ fun e σ'=>match e with
  | .exit j=>if j=id then KE .normal σ' else KE (.exit j) σ'
  | e=>KE e σ':=rfl
@[go_sem] theorem Ce3:W1 P G ro V w0 n (.scope a) σ KE=W1 P G ro V w0 n a σ fun e σ'=>match e with
  | .goto _=>False
  | e=>KE e σ':=rfl
@[go_sem] theorem Cp4 {q:Operand} : W1 P G ro V w0 n (.cond q a b) σ KE=Mk (nrm (ev σ.fr q)) (AW P G ro V w0 n a σ KE) (AW P G ro V w0 n b σ KE):=rfl
@[go_sem] theorem Bz4:W1 P G ro V w0 n (.region id l.toArray false) σ KE=Rk (Hc n l) (Bw P G l l σ fun σ'=>KE .normal σ'):=rfl
@[go_sem] theorem Ce6 {q:Array Oper} : W1 P G ro V w0 n (.region id q true) σ KE=AW P G ro V w0 n (.region id q true) σ KE:=rfl
@[go_sem] theorem Cp2:W1 P G ro V w0 n (.loop a) σ KE=AW P G ro V w0 n (.loop a) σ KE:=rfl
@[go_sem] theorem Ce4 {q:Operand} {ps:Array Tmp} : W1 P G ro V w0 n (.rangeFunc q ps a b) σ KE=AW P G ro V w0 n (.rangeFunc q ps a b) σ KE:=rfl
end
theorem g {A B:Prop} (hb:B) (h:A=B:=by (conv=>lhs;try simp -implicitDefEqProofs (disch:=first | with_unfolding_all exact Eq.trans rfl rfl | omega) only [go_sem,seval]);try rfl):A:=h.mpr hb
-- premises that the discharger settles
section
variable {b : Prop} {P : Program} {G : World -> Prop} {ops rest : List Oper} {KK : Ah -> Prop} {σ : Ah} {d : Option Tmp} {op : Op} {ty : TypeId} {pos : String} {after : Array Edge} {j : Nat} {g : Bool}
@[go_sem] theorem Cm2 (h:(Ky (cid d) (cid d+100) σ.fr&&Jf (cid d) (cid d+100) σ.bk)=true):Lx d σ=True:=eq_true h
@[go_sem] theorem D15 {y:AV} (h:okC y=true):(okC y=true)=True:=eq_true h
@[go_sem] theorem Cp9 {x:Int} {KI:Int->Prop} (h1:-9223372036854775808<=x) (h2:x<=9223372036854775807):(∃ m,IntKind.i64.wrap x=m/\Ej (KI m))=KI x:=by simp [Ej,Bc3 h1 h2]
@[go_sem] theorem Cq1 (h:Mn ops σ.fr j=.val (.bool g)):Bw P G ops (⟨d,op,ty,pos,after,some (j,g)⟩ :: rest) σ KK=vop P G σ ⟨d,op,ty,pos,after,some (j,g)⟩ fun r bk=>Bw P G ops rest ⟨J8 d r σ.fr,bk⟩ KK:=by
 rw [Rq]
 simp only [h,true_implies]
 cases g<;>simp
@[go_sem] theorem Cq2 (h:Mn ops σ.fr j=.val (.bool !g)):Bw P G ops (⟨d,op,ty,pos,after,some (j,g)⟩ :: rest) σ KK=Bw P G ops rest ⟨J8 d (.val undef) σ.fr,σ.bk⟩ KK:=by
 rw [Rq]
 simp only [h,true_implies]
 cases g<;>simp
@[go_sem] theorem Cq0 (h:Mn ops σ.fr j=.val undef):Bw P G ops (⟨d,op,ty,pos,after,some (j,g)⟩ :: rest) σ KK=Bw P G ops rest ⟨J8 d (.val undef) σ.fr,σ.bk⟩ KK:=by
 rw [Rq]
 simp only [h,undef]
variable {ds : List Nat} {fr0 : List (Nat × AV)} {toks : List BA} {rs : List AV} {KD : List BA -> List AV -> Prop} {sl : List (Nat × Nat)} {pre rd cs : List Nat} {out : Nat} {hs : List F5}
def Dn (out:Nat) (rt:List BA) (bk':List BA) (F:List BA->Prop):Prop:=bk'=bk'.take out++rt/\(bk'.take out).length=out/\F (bk'.take out)
@[congr] theorem D23 {B0:Prop} {rt bk bk':List BA} {F:List BA->Prop} (h:bk=bk') (_:Tk=B0):Dn out rt bk F=Dn out rt bk' F:=by rw [h]
@[go_sem] theorem D38 {rt bk':List BA} {F:List BA->Prop} (h:bk'=bk'.take out++rt) (h2:(bk'.take out).length=out):Dn out rt bk' F=F (bk'.take out):=by
 unfold Dn
 simp only [h2,true_and]
 exact propext ⟨fun h=>h.2,fun h'=>⟨h,h'⟩⟩
@[go_sem] theorem Cg4 : Az P G ds fr0 (⟨d, op, ty, pos, after, none⟩ :: rest) (⟨sl, pre, rd, cs, out⟩ :: hs) toks rs KD = Bj P G (ev (Kn sl rs ++ Hw pre ds ++ fr0)) (D0 cs toks ++ D0 rd toks) ⟨d, op, ty, pos, after, none⟩ fun x bk' =>
      Dn out (D0 rd toks) bk' fun nb => Az P G ds fr0 rest hs (toks ++ nb) (rs ++ [x]) KD := rfl
@[go_sem] theorem Cg5 (h : nrm (rs.getD j .any) = .val (.bool g)) : Az P G ds fr0 (⟨d, op, ty, pos, after, some (j, g)⟩ :: rest) (⟨sl, pre, rd, cs, out⟩ :: hs) toks rs KD = Bj P G (ev (Kn sl rs ++ Hw pre ds ++ fr0)) (D0 cs toks ++ D0 rd toks) ⟨d, op, ty, pos, after, some (j, g)⟩ fun x bk' =>
      Dn out (D0 rd toks) bk' fun nb => Az P G ds fr0 rest hs (toks ++ nb) (rs ++ [x]) KD := by
  rw [Rw]
  unfold Pa
  simp only [h]
  cases g <;> rfl
@[go_sem] theorem Cg6 (h:nrm (rs.getD j .any)=.val (.bool !g)) (h0:out=0) (h1:cs=[]):Az P G ds fr0 (⟨d,op,ty,pos,after,some (j,g)⟩ :: rest) (⟨sl,pre,rd,cs,out⟩ :: hs) toks rs KD=Az P G ds fr0 rest hs toks (rs++[.val undef]) KD:=by
 rw [Rw]
 unfold Pa
 simp only [h]
 subst h0 h1
 cases g<;>simp
@[go_sem] theorem Cg3 (h:nrm (rs.getD j .any)=.val undef) (h0:out=0) (h1:cs=[]):Az P G ds fr0 (⟨d,op,ty,pos,after,some (j,g)⟩ :: rest) (⟨sl,pre,rd,cs,out⟩ :: hs) toks rs KD=Az P G ds fr0 rest hs toks (rs++[.val undef]) KD:=by
 rw [Rw]
 unfold Pa
 simp only [h,undef]
 subst h0 h1
 simp
theorem Eu {x:Bool} {X:Prop} (_:X=Bw P G ops (⟨d,op,ty,pos,after,some (j,g)⟩ :: rest) σ KK) (_:Mn ops σ.fr j=.val (.bool x)) (h1:x=true->X) (h2:x=false->X):X:=by
 cases x
 ·exact h2 rfl
 ·exact h1 rfl
theorem B73 {x:Bool} {X:Prop} (_:X=Az P G ds fr0 (⟨d,op,ty,pos,after,some (j,g)⟩ :: rest) hs toks rs KD) (_:nrm (rs.getD j .any)=.val (.bool x)) (h1:x=true->X) (h2:x=false->X):X:=by
 cases x
 ·exact h2 rfl
 ·exact h1 rfl
end
@[go_sem] theorem Cm9 {α:Type} {c:α} {K:α->Prop} : (∃ u,some c=some u/\Ej (K u))=K c:=by simp [Ej]
attribute [go_sem] ne_eq not_false_eq_true Bool.not_true Bool.not_false
attribute [irreducible] Ej
end Go.Proofs.YthlgnjlpakimaaaGreatDoor
