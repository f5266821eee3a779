/- Contracts of a stamp's right form, the program's and the reference's. -/
import Derived.Test.YtahgkllhbggmgaaGreatDoorRows
import Derived.WalkKit
import Derived.ProofKit
import Derived.OpenShut
import Derived.Outline
import Derived.LoopTactic
import Derived.WalkLawsBesides
import Derived.WalkSpells
import Derived.Deep.RegionHeld3
import Derived.Deep.QuietTactic
import Derived.BigQuiet
import Derived.Lib.Hide
import Derived.Deep.DeepCutAuto
import Derived.Deep.DeepHandedRow
import Derived.Deep.Slices
set_option linter.all false
set_option linter.unnecessarySimpa false
set_option linter.unusedSimpArgs false
set_option linter.unusedVariables false
namespace Go.Proofs.YtahgkllhbggmgaaGreatDoor
open Go.ChangeShapes Go.WideShapes Go.ChangeAt Go.RowKit
theorem own:ownKnob Tryz.prog.godebug=none:=by kernel_rfl
theorem Bx6:laidOutB Tryz.prog=true:=by kernel_rfl
theorem Cp0 {n:Int} (w:(Lit.int .i64 n).wf=true):n<=9223372036854775807:=by
 simp [Lit.wf,IntKind.max,IntKind.min,IntKind.signed,IntKind.bits] at w;omega
theorem Co9 {n:Int} (w:(Lit.int .i64 n).wf=true):-9223372036854775808<=n:=by
 simp [Lit.wf,IntKind.max,IntKind.min,IntKind.signed,IntKind.bits] at w;omega
theorem Q3 {k:IntKind} {a b:Int} (h:a=b):Ending.returned (.int k a)=.returned (.int k b):=by rw [h]
theorem Ak {a b:Bool} (h:a=b):Ending.returned (.bool a)=.returned (.bool b):=by rw [h]
theorem B6 {w w1 w2:World} (h:Below w.heap.size w w1) (h2:Below w1.heap.size w1 w2):Below w.heap.size w w2:=h.trans (h2.mono h.size)
theorem Ap {w w1:World} {o:Obj} (h:Below w.heap.size w w1):Below w.heap.size w (w1.alloc o):=h.alloc h.size o
theorem Ao {W w1:World} {a:Addr} {v:Value} (hb:Below W.heap.size W w1) (h:W.cell? a=some v):w1.cell? a=some v :=
 (hb.cell (World.block_lt_of_cell? W a h)).trans h
section
variable {H : Type} {enc : TypeId × Value -> H} {P : Program}
theorem Qr (hl:laidOutB P=true) {W W':World} (hb:Below W.heap.size W W') {sp:Nat->Bool} : ∀ (ts:List TypeId) (vs:List Value) (ds:List (DataW H)) (p:List MemPlace),
  ts.all (fun t=>P.readableRec t&&decide (t < P.types.size))=true->DataW.TrodAll enc P W 0 (fun _=>true) true ts vs ds p->(∀ x∈p,x.block < W.heap.size)->(∀ x∈p,sp x.block=true) ->
  DataW.TrodAll enc P W' 0 sp true ts vs ds p
 | [],[],[],p,_,h,_,_=>h
 | t :: ts,v :: vs,d :: ds,p,ht,⟨p1,q1,h1,h2,he⟩,hlt,hsp=>by
  simp only [List.all_cons,Bool.and_eq_true,decide_eq_true_eq] at ht
  subst he
  refine ⟨p1,q1,?_,Qr hl hb ts vs ds q1 ht.2 h2 (fun x hx=>hlt x (List.mem_append_right _ hx)) (fun x hx=>hsp x (List.mem_append_right _ hx)),rfl⟩
  exact WideElems.Trod_stays hl ht.1.1 ht.1.2 h1 (fun x hx=>hb.same (hlt x (List.mem_append_left _ hx))) (fun x hx=>hsp x (List.mem_append_left _ hx))
 | [],_ :: _,_,_,_,h,_,_=>h.elim
 | [],[],_ :: _,_,_,h,_,_=>h.elim
 | _ :: _,[],_,_,_,h,_,_=>h.elim
 | _ :: _,_ :: _,[],_,_,h,_,_=>h.elim
theorem Bm9 {f:Func} {s:ChangeSpec} {tb:TypeId} {W W':World} {args:Array Value} {ds gs:List (DataW H)} {before:List MemPlace}
  (hl:laidOutB P=true) (hts:f.params.toList.all (fun t=>P.readableRec t&&decide (t < P.types.size))=true) (hr:f.resultTypes=#[tb]) (htb:P.underlying tb=some .bool) (hvars:s.vars=[])
  (hres:(s.fn H (ds++gs)).results=[.lit (.bool true)]) (hargs:(s.fn H (ds++gs)).args=ds) (hv:(s.fn H (ds++gs)).vars=[])
  (hW:DataW.Whole enc P f.params.toList s.vars false W args.toList ds gs before) (hb:Below W.heap.size W W') :
  s.post enc P f false true false false W args (.bool true) W':=by
 have hlt:∀ p∈before,p.block < W.heap.size:=fun p hp=>hW.lt p hp
 have hold:∀ p∈before,(fun b=>decide (b < W.heap.size)) p.block=true:=fun p hp=>by simpa using hlt p hp
 have hW':=hW
 obtain ⟨p,q,hA,hV,hpq,hfz,hnd⟩:=hW
 rw [hvars] at hV
 obtain ⟨rfl,rfl⟩:=trodVars_none hV
 simp only [List.append_nil] at hpq
 subst hpq
 refine ⟨ds,[],before,[],before,[],hW',?_,?_,?_,hb.frame _,fun h=>by cases h⟩
 ·rw [hres,hr]
  exact trodAll_mk1 (shut_bool htb _)
 ·rw [hargs]
  exact Qr hl hb _ _ _ _ hts hA hlt hold
 ·rw [hv,hvars]
  rfl
end
end Go.Proofs.YtahgkllhbggmgaaGreatDoor
namespace Go.Proofs.YtahgkllhbggmgaaGreatDoor
open Go.ChangeShapes Go.WideShapes Go.ChangeAt Go.RowKit Go.Deep
theorem Dq (b off j:Nat):(⟨b,off,none⟩ : Addr).add j=⟨b,off+j,none⟩:=by
 unfold Addr.add;split<;>simp_all
def I64 (n:Int):Prop:=(Lit.int .i64 n).wf=true
theorem I64.of {n:Int} (h1:-9223372036854775808<=n) (h2:n<=9223372036854775807):I64 n:=by
 unfold I64
 simp [Lit.wf,IntKind.max,IntKind.min,IntKind.signed,IntKind.bits];omega
theorem I64.hi {n:Int} (h:I64 n):n<=9223372036854775807:=Cp0 h
theorem I64.lo {n:Int} (h:I64 n):-9223372036854775808<=n:=Co9 h
def Sl {α:Type} (R:List Value->α->Prop) (k:Nat) (w:World) (B:Nat) (v:Value) (l:List α):Prop :=
 ∃ A c,v=.slice A l.length c/\(l.length<=c/\l.length<=1073741824)/\c<=maxLen /\
  (l≠[]->∃ b off,A=some ⟨b,off,none⟩/\b < B/\∀ i x,l[i]? = some x->∃ cs,R cs x/\cs.length=k/\∀ j u,cs[j]? = some u->w.cell? ⟨b,off+i*k+j,none⟩=some u)
section
variable {α : Type} {R R' : List Value -> α -> Prop} {k : Nat} {w w' : World} {B B' : Nat} {v : Value} {l : List α}
theorem Sl.keep (h:Sl R k w B v l) (hR:∀ cs x,R cs x->R' cs x) (hB:B<=B') (hk:∀ p:Addr,p.block < B->w'.cell? p=w.cell? p):Sl R' k w' B' v l:=by
 obtain ⟨A,c,hv,h1,h2,h3⟩:=h
 refine ⟨A,c,hv,h1,h2,fun hne=>?_⟩
 obtain ⟨b,off,hA,hb,h4⟩:=h3 hne
 refine ⟨b,off,hA,by omega,fun i x hx=>?_⟩
 obtain ⟨cs,h5,h6,h7⟩:=h4 i x hx
 exact ⟨cs,hR _ _ h5,h6,fun j u hu=>(hk _ hb).trans (h7 j u hu)⟩
theorem Sl.next (h:Sl R k w w.heap.size v l) (hb:Below w.heap.size w w'):Sl R k w' w'.heap.size v l:=h.keep (fun _ _ h=>h) hb.size fun _ hp=>hb.cell hp
theorem Sl.nil_ {c:Nat} (hc:c<=maxLen) (A:Option Addr):Sl R k w B (.slice A 0 c) []:=⟨A,c,rfl,⟨Nat.zero_le _,Nat.zero_le _⟩,hc,fun h=>absurd rfl h⟩
theorem Sl.len_le (h:Sl R k w B v l):l.length<=1073741824:=by
 obtain ⟨A,c,_,h1,h2,_⟩:=h
 exact h1.2
end
def Blk (w:World) (g:Nat) (t:TypeId) (cs:Array Value):Prop:=w.heap[g]? = some (.cells cs t (0,0))
section
variable {w w' : World} {g : Nat} {t : TypeId} {cs : Array Value}
theorem Blk.lt (h:Blk w g t cs):g < w.heap.size:=by
 rcases Nat.lt_or_ge g w.heap.size with hlt | hge
 ·exact hlt
 ·unfold Blk at h;rw [Array.getElem?_eq_none hge] at h;cases h
theorem Blk.raw (h:Blk w g t cs):w.heap[g]? = some (.cells cs t (0,0)):=h
theorem Blk.cell (h:Blk w g t cs) (i:Nat):w.cell? ⟨g,i,none⟩=cs[i]? := cell_of_row w g i cs t (0,0) h
theorem Blk.frozen (h:Blk w g t cs) (i:Nat):w.frozen? ⟨g,i,none⟩=false:=by
 unfold Blk at h
 simp [World.frozen?,h]
theorem Blk.new (w:World) (t:TypeId) (cs:Array Value):Blk (w.alloc (.cells cs t)) w.heap.size t cs:=heap_alloc_new w _
theorem Blk.new_at {w:World} {t:TypeId} {cs:Array Value} {g:Nat} (h:g=w.heap.size):Blk (w.alloc (.cells cs t)) g t cs:=by subst h;exact heap_alloc_new w _
theorem Blk.drew (h:Blk w g t cs):Blk w.drew g t cs:=h
theorem Blk.alloc (h:Blk w g t cs) {o:Obj} : Blk (w.alloc o) g t cs:=(Below.heap_alloc w o g h.lt).trans h
theorem Blk.set_ (h:Blk w g t cs) (i:Nat) (u:Value):Blk (w.setCell ⟨g,i,none⟩ u) g t (cs.setIfInBounds i u):=by
 unfold Blk at h ⊢
 simp [World.setCell,Array.getElem?_modify,h]
theorem Blk.far (h:Blk w g t cs) {p:Addr} (hp:g≠p.block) (u:Value):Blk (w.setCell p u) g t cs:=(Below.heap_setCell w p u g hp).trans h
theorem Blk.next (h:Blk w g t cs) (hb:Below w.heap.size w w'):Blk w' g t cs:=(hb.block g h.lt).trans h
theorem Blk.grown {row:Option Nat} (h:Blk w g t cs) (hb:w.grownBy w' row) (hg:some g≠row):Blk w' g t cs:=(hb.block g h.lt hg).trans h
end
theorem Jb {B:Nat} {a w:World} (h:Below B a w) (n:Nat):Below B a (w.drewN n):=⟨h.os,h.tape,h.output,h.size,h.block⟩
theorem Yu {w w1:World} {p:Addr} {u:Value} (h:Below w.heap.size w w1) (hp:w.heap.size<=p.block):Below w.heap.size w (w1.setCell p u):=h.setCell hp u
theorem Uk {H:Type} {d:DataW H} {l:List (DataW H)} (h:d∈l):Rows.uptoBulk d<=Rows.uptoBulkAll l:=by
 induction l with
 | nil=>cases h
 | cons x r ih =>
  simp only [Rows.uptoBulkAll]
  cases List.mem_cons.1 h with
  | inl e=>subst e;omega
  | inr e=>have:=ih e;omega
theorem Bq8 {H:Type} (d:DataW H):1<=Rows.uptoBulk d:=by
 cases d with
 | lit l=>cases l<;>simp [Rows.uptoBulk]
 | nil=>simp [Rows.uptoBulk]
 | ptr d=>simp [Rows.uptoBulk]
 | slice elems spare=>simp [Rows.uptoBulk]
 | agg parts=>simp [Rows.uptoBulk]
 | iface t d=>simp [Rows.uptoBulk]
 | map entries=>simp [Rows.uptoBulk]
 | held h=>simp [Rows.uptoBulk]
theorem Vl {H:Type} (l:List (DataW H)):l.length<=Rows.uptoBulkAll l:=by
 induction l with
 | nil=>simp [Rows.uptoBulkAll]
 | cons x r ih=>have:=Bq8 x;simp only [Rows.uptoBulkAll,List.length_cons];omega
def Dt {α:Type} (P:Program) (w:World) (t:TypeId) (k:Nat) (R:List Value->α->Prop):Prop :=
 ∀ (H:Type) (enc:TypeId×Value->H) (fuel:Nat) (cs:List Value) (x:DataW H×List MemPlace),(DataW.trod enc P w 0 (fun _=>true) true fuel t cs=some x/\Rows.uptoBulk x.1<=1048576)->cs.length=k/\∃ d,R cs d
def D93 (cs:List Value) (n:Int):Prop:=cs=[.int .i64 n]/\I64 n
section
variable {P : Program} {w : World}
theorem Br {t:TypeId} (hu:P.underlying t=some (.int .i64)):Dt P w t 1 D93:=by
 intro H enc fuel cs x h
 obtain ⟨n,rfl,_,hw⟩:=DataW.trod_int hu h.1
 exact ⟨rfl,n,rfl,hw⟩
theorem Kt {t:TypeId} (hu:P.underlying t=some .bool):Dt P w t 1 (fun cs (b:Bool)=>cs=[.bool b]):=by
 intro H enc fuel cs x h
 replace h:=h.1
 cases fuel with
 | zero=>simp [DataW.trod] at h
 | succ m =>
  unfold DataW.trod at h
  rw [hu] at h
  split at h<;>simp_all
theorem Cz {α:Type} {R:List Value->α->Prop} {t e:TypeId} {k:Nat} (ht:P.underlying t=some (.slice e)) (hk:P.cellsOf e=k) (hk0:0 < k) (he:Dt P w e k R) :
  Dt P w t 1 (fun cs (l:List α)=>∃ v,cs=[v]/\Sl R k w w.heap.size v l):=by
 intro H enc fuel cs x ⟨h,hz⟩
 rcases open_slice ht h with ⟨rfl,_⟩ | ⟨a,len,cap,m,n,D,Pl,rfl,_,hl,hm,hmm,hx,hi⟩
 ·exact ⟨rfl,[],_,rfl,Sl.nil_ (by unfold maxLen;omega) _⟩
 ·refine ⟨rfl,?_⟩
  have hmm':m=cap:=by simpa using hmm
  subst hmm'
  rw [hx] at hz
  simp only [Rows.uptoBulk] at hz
  have hlen:=Vl ((List.range len).map D)
  rw [List.length_map,List.length_range] at hlen
  have hel:∀ i,i < len->∃ d cs',R cs' d/\cs'.length=k/\∀ j u,cs'[j]? = some u->w.cell? ((a.add (i*k)).add j)=some u:=by
   intro i hil
   obtain ⟨cs',hc,ht'⟩:=hi i (by omega)
   rw [hk] at hc
   obtain ⟨_,hlen,hat⟩:=World.cells?_some hc
   obtain ⟨_,d,hd⟩:=he H enc n cs' _ ⟨ht',by
    have:=Uk (d:=D i) (l:=(List.range len).map D) (List.mem_map.2 ⟨i,List.mem_range.2 hil,rfl⟩)
    show Rows.uptoBulk (D i)<=_
    omega⟩
   refine ⟨d,cs',hd,hlen,fun j u hu=>?_⟩
   have hj:j < k:=by rw [<-hlen];exact (List.getElem?_eq_some_iff.1 hu).1
   rw [hat j hj,hu]
  have hall:∀ n',n'<=len->∃ l:List α,l.length=n'/\∀ i d,l[i]? = some d->∃ cs',R cs' d/\cs'.length=k/\∀ j u,cs'[j]? = some u->w.cell? ((a.add (i*k)).add j)=some u:=by
   intro n'
   induction n' with
   | zero=>exact fun _=>⟨[],rfl,fun i d h=>by simp at h⟩
   | succ n' ih =>
    intro hn
    obtain ⟨l,hl1,hl2⟩:=ih (by omega)
    obtain ⟨d,hd⟩:=hel n' (by omega)
    refine ⟨l++[d],by simp [hl1],fun i d' h=>?_⟩
    by_cases hi':i < n'
    ·rw [List.getElem?_append_left (by omega)] at h
     exact hl2 i d' h
    ·have:i=n':=by
      have:=(List.getElem?_eq_some_iff.1 h).1
      simp at this
      omega
     subst this
     rw [List.getElem?_append_right (by omega)] at h
     simp [hl1] at h
     subst h
     exact hd
  obtain ⟨l,hl1,hl2⟩:=hall len (Nat.le_refl _)
  refine ⟨l,_,rfl,some a,m,by rw [hl1],by omega,hm,fun hne=>?_⟩
  have hpos:0 < l.length:=List.length_pos_iff.2 hne
  obtain ⟨cs0,h1,h2,h3⟩:=hl2 0 l[0] (List.getElem?_eq_getElem hpos)
  have hc0:=h3 0 cs0[0] (List.getElem?_eq_getElem (by omega))
  have ha:a.spot=none:=by
   have e0:(a.add (0*k)).add 0=a:=by simp [Addr.add]
   rw [e0] at hc0
   unfold World.cell? at hc0
   cases hs:a.spot with
   | none=>rfl
   | some s =>
    rw [hs] at hc0
    split at hc0<;>simp at hc0
  obtain ⟨b,off,sp⟩:=a
  simp only at ha
  subst ha
  simp only [Dq] at hl2 hc0
  refine ⟨b,off,rfl,?_,fun i x hx=>?_⟩
  ·exact World.block_lt_of_cell? w _ hc0
  ·obtain ⟨cs',p1,p2,p3⟩:=hl2 i x hx
   exact ⟨cs',p1,p2,fun j u hu=>p3 j u hu⟩
theorem Bq {H:Type} {enc:TypeId×Value->H} {t:TypeId} {fs:Array Field} {fuel:Nat} {cs:List Value} {x:DataW H×List MemPlace} (hs:P.underlying t=some (.struct fs)) (h:DataW.trod enc P w 0 (fun _=>true) true fuel t cs=some x/\Rows.uptoBulk x.1<=1048576) :
  cs.length=P.cellsOf t/\∃ n,∀ (i ty off sz:Nat),(fs[i]?).map (fun f=>(f.type,f.offset))=some (ty,off)->P.cellsOf ty=sz->∃ y,DataW.trod enc P w 0 (fun _=>true) true n ty ((cs.drop off).take sz)=some y/\Rows.uptoBulk y.1<=1048576:=by
 obtain ⟨h,hz⟩:=h
 obtain ⟨xs,n,_,hx,hl,hlen,hf⟩:=DataW.trod_struct hs h
 refine ⟨hl,n,fun i ty off sz hi hsz=>?_⟩
 cases hfi:fs[i]? with
 | none=>simp [hfi] at hi
 | some f =>
  simp only [hfi,Option.map_some,Option.some.injEq,Prod.mk.injEq] at hi
  obtain ⟨rfl,rfl⟩:=hi
  subst hsz
  have hi':i < xs.length:=by rw [hlen];exact (Array.getElem?_eq_some_iff.1 hfi).1
  refine ⟨xs[i],(hf i f hfi).trans (List.getElem?_eq_getElem hi'),?_⟩
  rw [hx] at hz
  simp only [Rows.uptoBulk] at hz
  have:=Uk (d:=xs[i].1) (l:=xs.map (·.1)) (List.mem_map.2 ⟨xs[i],List.getElem_mem hi',rfl⟩)
  omega
end
end Go.Proofs.YtahgkllhbggmgaaGreatDoor
namespace Go.Proofs.YtahgkllhbggmgaaGreatDoor
open Go.ChangeShapes Go.WideShapes Go.ChangeAt Go.RowKit
def Bj (c n:Int):Bool:=decide (1<=c/\0<=n/\n < 64)
theorem Wy (c n:Int) (w:World) :
  Calls Tryz.prog 93 #[.agg #[.int .i64 c,.int .i64 n]] w fun e w'=>e=.returned (.bool (Bj c n))/\Below w.heap.size w w':=by
 go_enter Tryz.func93,Tryz.ntmps93
 go_wp2
 all_goals (go_ret;refine ⟨Ak (Bool.eq_iff_iff.2 ?_),(Below.refl _ _).alloc (Nat.le_refl _) _⟩;(simp [Bj]<;>omega))
theorem Ah5 (c n:Int) (w:World) :
  Calls Tryz.prog 94 #[.agg #[.int .i64 c,.int .i64 n]] w fun e w'=>e=.returned (.bool (Bj c n))/\Below w.heap.size w w':=by
 go_enter Tryz.func94,Tryz.ntmps94
 go_wp2
 all_goals (go_ret;refine ⟨Ak (Bool.eq_iff_iff.2 ?_),(Below.refl _ _).alloc (Nat.le_refl _) _⟩;(simp [Bj]<;>omega))
end Go.Proofs.YtahgkllhbggmgaaGreatDoor
