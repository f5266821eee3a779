/- Appends, by what they are made to. No program is known here. -/
import Derived.Test.YtblfjaedaijfoaaGreatDoorQAbsIter
set_option linter.all false
set_option linter.unnecessarySimpa false
set_option linter.unusedSimpArgs false
set_option linter.unusedVariables false
namespace Go.Proofs.YtblfjaedaijfoaaGreatDoor
open Go.ChangeShapes Go.WideShapes Go.ChangeAt Go.RowKit
def E59 (G:World->Prop):Prop:=∀ w r (o':Obj),G w->(∃ o:Obj,w.heap[r]? = some o/\N6 o=true)->G (w.putObj r o')
section
variable {P : Program} {G : World -> Prop} {α : Type} {encs : α -> List AV} {Sp : List α -> Prop} {Y : YC P G encs Sp} {n : Nat} {K : Exit -> Ys α -> Ag -> Prop}
def E21 (K:Exit->Ys α->Ag->Prop) (pu:List (Nat×AV)) (I:List α->Prop):Exit->Ys α->Ag->Prop
 | .normal,.going q,_=>I q
 | .ret,.going q,_=>K .ret (.over (some q)) ⟨pu,[]⟩
 | .ret,.left,_=>K .ret (.over none) ⟨pu,[]⟩
 | .exit id,.going q,_=>K (.exit id) (.over (some q)) ⟨pu,[]⟩
 | .exit id,.left,_=>K (.exit id) (.over none) ⟨pu,[]⟩
 | _,_,_=>False
end
def Bz (x y:AV):Prop:=∀ (E:Env) (X:World) (v:Value),Bd E X v x->Bd E X v y
theorem Bz.rfl_ (x:AV):Bz x x:=fun _ _ _ h=>h
theorem Bg (k:Nat):Bz (.val (.slice none 0 0)) (.iv (.sl k [])):=C81
theorem Cc6 (x:AV):Bz x .any:=fun _ _ _ _=>.any
theorem Sm.get {xs ys:List AV} (h:xs.length=ys.length) (hs:∀ p∈xs.zip ys,Bz p.1 p.2) (j:Nat) (x y:AV) (hx:xs[j]? = some x) (hy:ys[j]? = some y):Bz x y :=
 hs (x,y) (List.mem_iff_getElem?.2 ⟨j,by rw [List.getElem?_zip_eq_some];exact ⟨hx,hy⟩⟩)
theorem Ep {xs ys:List AV} (h:xs.length=ys.length) (hs:∀ p∈xs.zip ys,Bz p.1 p.2):Bz (.tup xs) (.tup ys):=fun E X v hv=>by
 cases hv with
 | @tup vs _ h1 h2 =>
  refine .tup (h1.trans h) fun j v c a b=>?_
  have hj:=(List.getElem?_eq_some_iff.1 b).1
  rw [<-h] at hj
  exact Sm.get h hs j _ c (List.getElem?_eq_getElem hj) b _ _ _ (h2 j v _ a (List.getElem?_eq_getElem hj))
theorem Es {xs ys:List AV} (h:xs.length=ys.length) (hs:∀ p∈xs.zip ys,Bz p.1 p.2):Bz (.agg xs) (.agg ys):=fun E X v hv=>by
 cases hv with
 | @agg vs _ h1 h2 =>
  refine .agg (h1.trans h) fun j v c a b=>?_
  have hj:=(List.getElem?_eq_some_iff.1 b).1
  rw [<-h] at hj
  exact Sm.get h hs j _ c (List.getElem?_eq_getElem hj) b _ _ _ (h2 j v _ a (List.getElem?_eq_getElem hj))
theorem De {x:AV} {r:List AV} : Bz (.tup (x :: r)) (.tup (.any :: r)):=by
 refine Ep rfl fun p hp=>?_
 rw [List.zip_cons_cons] at hp
 rcases List.mem_cons.1 hp with rfl | hp
 ·exact Cc6 x
 ·obtain ⟨a,b⟩:=p
  obtain ⟨j,hj⟩:=List.mem_iff_getElem?.1 hp
  rw [List.getElem?_zip_eq_some] at hj
  obtain rfl:a=b:=Option.some.inj (hj.1.symm.trans hj.2)
  exact Bz.rfl_ a
section
variable {P : Program} {G : World -> Prop} {ro : Option Nat} {V w0 : World} {n : Nd} {σ : Ag} {K : Exit -> Ag -> Prop}
theorem A7.args_ {f:FuncId} {args args':List AV} {r:AV} {nb:List BA} (h:A7 P G f args r nb) (hs:Sbs args' args):A7 P G f args' r nb :=
 ⟨h.1,fun V w E vs hV hG ha=>h.2 V w E vs hV hG (hs _ _ _ ha)⟩
end
-- slices of none, one and two elements: rows of one's own (bs), or data (bd)
section
variable {k : Nat} {L : Operand -> AV} {K K' : List (List IV) -> Prop} {x0 x1 : Operand} {c0 c1 : List IV}
theorem bg1 (hk:0 < k/\1*k<=16777216) (h2:okC (L x0)=true) (h3:toIs (Bp (L x0))=some c0) (h1:c0.length=k) (h4:J2 (Bp (L x0))) (hK:K [c0]\/K' [c0]):bsQ L k 1 #[(0,x0)] K K' :=
 ⟨[c0],rfl,hk.1,hk.2,fun i cs h=>by
  match i,h with
  | 0,h=>simp at h;subst h;exact ⟨h1,x0,rfl,h2,.of h3 h4⟩
  | i+1,h=>simp at h,rfl,hK⟩
theorem bs1 (hk:0 < k/\1*k<=16777216) (h2:okC (L x0)=true) (h3:toIs (Bp (L x0))=some c0) (h1:c0.length=k) (h4:J2 (Bp (L x0))) (hK:K [c0]):bsQ L k 1 #[(0,x0)] K K':=bg1 hk h2 h3 h1 h4 (.inl hK)
theorem bd1 (hk:0 < k/\1*k<=16777216) (h2:okC (L x0)=true) (h3:toIs (Bp (L x0))=some c0) (h1:c0.length=k) (h4:J2 (Bp (L x0))) (hK:K' [c0]):bsQ L k 1 #[(0,x0)] K K':=bg1 hk h2 h3 h1 h4 (.inr hK)
theorem bg2 {d1:List IV} (hk:0 < k/\2*k<=16777216) (h2:okC (L x0)=true) (h3:toIs (Bp (L x0))=some c0) (h1:c0.length=k) (h4:J2 (Bp (L x0))) (g2:okC (L x1)=true) (g3:toIs (Bp (L x1))=some d1) (g1:d1.length=k) (g4:J2 (Bp (L x1))) (hK:K [c0,d1]\/K' [c0,d1]):bsQ L k 2 #[(0,x0),(1,x1)] K K' :=
 ⟨[c0,d1],rfl,hk.1,hk.2,fun i cs h=>by
  match i,h with
  | 0,h=>simp at h;subst h;exact ⟨h1,x0,rfl,h2,.of h3 h4⟩
  | 1,h=>simp at h;subst h;exact ⟨g1,x1,rfl,g2,.of g3 g4⟩
  | i+2,h=>simp at h,rfl,hK⟩
theorem bs2 {d1:List IV} (hk:0 < k/\2*k<=16777216) (h2:okC (L x0)=true) (h3:toIs (Bp (L x0))=some c0) (h1:c0.length=k) (h4:J2 (Bp (L x0))) (g2:okC (L x1)=true) (g3:toIs (Bp (L x1))=some d1) (g1:d1.length=k) (g4:J2 (Bp (L x1))) (hK:K [c0,d1]):bsQ L k 2 #[(0,x0),(1,x1)] K K':=bg2 hk h2 h3 h1 h4 g2 g3 g1 g4 (.inl hK)
theorem bd2 {d1:List IV} (hk:0 < k/\2*k<=16777216) (h2:okC (L x0)=true) (h3:toIs (Bp (L x0))=some c0) (h1:c0.length=k) (h4:J2 (Bp (L x0))) (g2:okC (L x1)=true) (g3:toIs (Bp (L x1))=some d1) (g1:d1.length=k) (g4:J2 (Bp (L x1))) (hK:K' [c0,d1]):bsQ L k 2 #[(0,x0),(1,x1)] K K':=bg2 hk h2 h3 h1 h4 g2 g3 g1 g4 (.inr hK)
end
@[go_sem] theorem Dj4 {v:Value} : toI (.val v)=some (.val v):=rfl
@[go_sem] theorem Dv0 {i:IV} : toI (.iv i)=some i:=rfl
@[go_sem] theorem Dv1 {cs:List IV} : toI (.ip cs)=some (.pt cs):=rfl
@[go_sem] theorem D35:toIs []=some []:=rfl
@[go_sem] theorem Cq5 {c:AV} {cs:List AV} : toIs (c :: cs)=(match toI c,toIs cs with
  | some i,some is=>some (i :: is)
  | _,_=>none):=rfl
-- stores, by what they are put to
theorem Ae {P:Program} {t:TypeId} {b p:Nat} {y:AV} {bk:List BA} {K:List BA->Prop} : Aq P t (.bp b p) y bk K=(match tyK P t with
  | some (_,s)=>okC y=true/\(Bp y).length=s/\match Ci b bk with
   | some (.box _ cs)=>p+s<=cs.length/\K (Cu b [.box b (F2 cs p (Bp y))] bk)
   | some (.arr _ cs)=>∃ is,toIs (Bp y)=some is/\J2 (Bp y)/\p+s<=cs.length/\Dv (K (Cu b [.arr b (F2 cs p is)] bk))
   | _=>False
  | none=>False):=by unfold Aq Dv;rfl
theorem Af {P:Program} {t:TypeId} {b k i j:Nat} {y:AV} {bk:List BA} {K:List BA->Prop} : Aq P t (.rp b k i j) y bk K=(match tyK P t with
  | some (_,s)=>okC y=true/\(Bp y).length=s/\match Ci b bk,y with
   | some (.row _ e k' l),.own c=>k'=k/\s=1/\j < k/\∃ cs,l[i]? = some cs/\Dv (K (Cu b [.rowN b e k l i j c] bk))
   | some (.row _ e k' l),y=>k'=k/\∃ is cs,toIs (Bp y)=some is/\J2 (Bp y)/\l[i]? = some cs/\j+s<=k/\Dv (K (Cu b [.row b e k (l.set i (F2 cs j is))] bk))
   | some (.rowN _ e k' l i' j' c),.own c2=>k'=k/\s=1/\j < k/\i=i'/\j=j'/\i < l.length/\Dv (K (Cu b [.rowN b e k l i j c2] bk))
   | some (.rowN _ e k' l i' j' c),y=>k'=k/\s=1/\j < k/\∃ d cs,toIs (Bp y)=some [d]/\J2 (Bp y)/\l[i]? = some cs/\((i=i'/\j=j'/\Dv (K (Cu b [.row b e k (l.set i (cs.set j d))] bk)))\/(¬ (i=i'/\j=j')/\Dv (K (Cu b [.rowN b e k (l.set i (cs.set j d)) i' j' c] bk))))
   | _,_=>False
  | none=>False):=by unfold Aq Dv;rfl
section
variable {P : Program} {t : TypeId} {e k c b : Nat} {l m : List (List IV)} {y : AV} {bk : List BA} {K : AV -> List BA -> Prop}
theorem Co (hb:Ci b bk=some (.row b e k l)) (ht:(Ez P t).map (fun q=>(q.1,q.2.1,Nat.ble q.2.2 131072))=some (e,k,true)) (hk:0 < k) (hz:(tyZ P e).map (fun z=>z.2.length)=some k)
  (hs:Bv5 bk k (nrm y)=some m) (hlen:l.length+m.length<=1073741824) (hK:K (.own c) (.row c e k (l++m) :: Cu b [] bk)):Aj P t (.own b) y c bk K:=by
 unfold Aj
 obtain ⟨⟨e',k',yb⟩,h1,h2⟩:=Option.map_eq_some_iff.1 ht
 simp only [Prod.mk.injEq] at h2
 obtain ⟨rfl,rfl,h3⟩:=h2
 rw [h1]
 refine ⟨hk,Nat.le_of_ble_eq_true h3,hz,?_⟩
 rw [show nrm (.own b)=.own b from rfl,hs]
 simp only [hb]
 exact ⟨trivial,trivial,hlen,hK⟩
theorem append_nil (ht:(Ez P t).map (fun q=>(q.1,q.2.1,Nat.ble q.2.2 131072))=some (e,k,true)) (hk:0 < k) (hz:(tyZ P e).map (fun z=>z.2.length)=some k)
  (hs:Bv5 bk k (nrm y)=some m) (hlen:m.length<=1073741824) (hK:K (.own c) (.row c e k m :: bk)):Aj P t (.val (.slice none 0 0)) y c bk K:=by
 unfold Aj
 obtain ⟨⟨e',k',yb⟩,h1,h2⟩:=Option.map_eq_some_iff.1 ht
 simp only [Prod.mk.injEq] at h2
 obtain ⟨rfl,rfl,h3⟩:=h2
 rw [h1]
 refine ⟨hk,Nat.le_of_ble_eq_true h3,hz,?_⟩
 rw [show nrm (.val (.slice none 0 0))=.val (.slice none 0 0) from rfl,hs]
 exact ⟨hlen,hK⟩
end
section
variable {P : Program} {G : World -> Prop} {α : Type} {encs : α -> List AV} {Sp : List α -> Prop} {Y : YC P G encs Sp} {n : Nat} {y : Ys α} {σ : Ag} {K : Exit -> Ys α -> Ag -> Prop} {c : Code}
end
section
variable {V w0 : World} {m : Fm} {E : Env} {a : Act} {w : World} {fr : List (Nat × AV)} {pre post : List BA} {b : Nat} {cs cs' : List AV}
theorem St.rebox (h:St V w0 m E ⟨fr,pre++.box b cs :: post⟩ a w) (hs:∀ vs:List Value,Au E (vis V w0 w (Ac E (pre++.box b cs :: post))) vs cs->Au E (vis V w0 w (Ac E (pre++.box b cs :: post))) vs cs'):St V w0 m E ⟨fr,pre++.box b cs' :: post⟩ a w:=by
 have ho:Ac E (pre++.box b cs' :: post)=Ac E (pre++.box b cs :: post):=by simp [Ar,Ac,BA.owned]
 refine ⟨h.ext,h.low,by rw [ho];exact h.apart,by rw [ho];exact h.base,fun x hx=>?_,fun i=>by rw [ho];exact h.slots i,h.size,h.defers,?_⟩
 ·rw [ho]
  rcases List.mem_append.1 hx with hx | hx
  ·exact h.holds x (List.mem_append_left _ hx)
  ·rcases List.mem_cons.1 hx with rfl | hx
   ·obtain ⟨C,t,h1,h2⟩:=h.holds (.box b cs) (by simp)
    exact ⟨C,t,h1,hs _ h2⟩
   ·exact h.holds x (List.mem_append_right _ (List.mem_cons_of_mem _ hx))
 ·have:=h.hold
  simp only [ho]
  exact this
end
section
variable {P : Program} {G : World -> Prop} {ro : Option Nat} {V w0 : World} {n : Nd} {σ : Ag} {K : Exit -> Ag -> Prop}
theorem AW.adoptB {c:Code} (b r e k:Nat) (hb:Ci b σ.bk=some (.box b [.val (.slice none 0 0)])) (hf:(Lg r (r+1) σ.fr&&Jq r (r+1) σ.bk)=true) (h:AW P G ro V w0 n c ⟨σ.fr,.row r e k [] :: Cu b [.box b [.own r]] σ.bk⟩ K):AW P G ro V w0 n c σ K:=fun hG m0 E a w hn hs=>by
 rw [Bool.and_eq_true] at hf
 have hE:Env.same r (r+1) E ⟨E.blk,fun x=>if x=r then .slice none 0 0 else E.row x⟩:=fun x hx=>by
  have:¬ x=r:=by omega
  simp [this]
 have ho:Ac ⟨E.blk,fun x=>if x=r then .slice none 0 0 else E.row x⟩ [.row r e k []]=[]:=by simp [Ac,BA.owned,Value.ownBlock]
 have hs2:=hs.add (E':=⟨E.blk,fun x=>if x=r then .slice none 0 0 else E.row x⟩) (nb:=[.row r e k []]) (Below.refl _ w) hE hf.1 hf.2 (by rw [ho];exact List.nodup_nil) (fun g hg=>by rw [ho] at hg;cases hg) (fun x hx=>by
  simp only [List.mem_singleton] at hx
  subst hx
  refine ⟨?_,fun g hg=>by simp [Value.ownBlock] at hg⟩
  simp only [if_true]
  exact Ah.nil_ _ _ _)
 obtain ⟨pre,post,e1,e2,e3⟩:=D8 hb
 obtain ⟨fr,bk⟩:=σ
 simp only at e1 e3 hs2 h
 have e4:=e3 [.box b [.own r]]
 subst e1
 rw [e4] at h
 have hs3:St V w0 m0 ⟨E.blk,fun x=>if x=r then .slice none 0 0 else E.row x⟩ ⟨fr,(.row r e k [] :: pre)++.box b [.val (.slice none 0 0)] :: post⟩ a w:=by simpa using hs2
 have hs4:=hs3.rebox (cs':=[.own r]) fun vs hv=>by
  obtain ⟨v,vs',h1,h2,h3⟩:=Au.cons_iff.1 hv
  rw [Au.nil_iff] at h3
  subst h3
  rw [h1]
  cases h2
  exact Au.cons (.own (by simp)) Au.nil
 refine h hG m0 _ a w hn (by simpa using hs4)
end
end Go.Proofs.YtblfjaedaijfoaaGreatDoor
