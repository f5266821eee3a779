/- A note is taken: the pieces' zones are the objects' zones. No program is known here. -/
import Derived.Test.YthlgnjlpakimaaaGreatDoorUPlace
import Derived.Test.YthlgnjlpakimaaaGreatDoorUByte
import Derived.Test.YthlgnjlpakimaaaGreatDoorULogAll
import Derived.Test.YthlgnjlpakimaaaGreatDoorUTouch
set_option linter.all false
set_option linter.unnecessarySimpa false
set_option linter.unusedSimpArgs false
set_option linter.unusedVariables false
namespace Go.Proofs.YthlgnjlpakimaaaGreatDoor
open Go.ChangeShapes Go.WideShapes Go.ChangeAt Go.RowKit
attribute [local irreducible] AW AWY Bw Bc vop Bj Az Bi qop By Ce Ar Ap Bo A7 Bd C5
attribute [local go_sem] Ha Hf Ff Gl Ei Dp J9 Fe Fq Eh Ai An
set_option maxRecDepth 100000 in
theorem Ab9 (l:List Aq) (x:Dc) (hf:Bp l=true):A7 Tryz.prog A8 55 [.iv (wrI l),boA x] (.val (.bool (F9 l x))) []:=by
 refine A7.of (n:=28) (rs:=[.tmp 4]) Tryz.func55 rfl (by kernel_rfl) Tryz.ntmps55 (by kernel_rfl) (by simp) (fun _ _=>A8.later) ?_
 intro hok V w0
 obtain ⟨B,hB⟩ : ∃ B,F9 l x=B:=⟨_,rfl⟩
 rw [hB]
 unfold F9 A48 at hB
 have hat:=An6 l x.object
 unfold A87 at hat
 rw [if_pos hf] at hat
 cases hg:M3 l x.object with
 | none =>
  rw [hg] at hB hat
  refine g ?_
  repeat' (first | refine st_ rfl (g ?_) | refine Aa (hat) rfl (g ?_))
  exact hB
 | some w =>
  rw [hg] at hB hat
  simp only at hat hB
  rw [Zz] at hB
  refine g ?_
  repeat' (first | refine st_ rfl (g ?_) | refine Aa (hat) rfl (g ?_))
  refine ⟨_,fun u=>Sx _ _ _ _ _ _ u,?_⟩
  refine g ?_
  repeat' (first | refine st_ rfl (g ?_) | refine Aj (g ?_) | (refine Eu rfl rfl (fun h=>?_) (fun h=>?_)<;>simp only [h]<;>refine g ?_))
  ·rw [<-hB,h];simp
  ·rw [<-hB,h];simp
set_option maxRecDepth 100000 in
theorem B39 (l:List Dc) (f:FuncId) (C:List IV) (p:Dc->Bool) (hp:∀ x,A7 Tryz.prog A8 f [boA x,.ip C] (.val (.bool (p x))) []):A7 Tryz.prog A8 53 [.iv (boI l),.fn f [.ip C]] (.val (.int .i64 (if l.any p=true then ((l.findIdx p:Nat):Int) else -1))) []:=by
 refine A7.of (n:=19) (rs:=[.tmp 4]) Tryz.func53 rfl (by kernel_rfl) Tryz.ntmps53 (by kernel_rfl) (by simp) (fun _ _=>A8.later) ?_
 intro hok V w0
 have hlen:l.length<=1073741824:=by simpa [boI] using hok.1.1
 refine g ?_
 repeat' refine st_ rfl (g ?_)
 refine AW.loop (fun m:{m:Nat // m<=l.length/\∀ x∈l.take m,p x=false}=>⟨[(0,.iv (boI l)),(1,.fn f [.ip C]),(7,.val (.int .i64 (l.length:Nat))),(8,.val (.int .i64 (m.1:Nat)))],[]⟩) (fun m=>l.length - m.1) ⟨0,Nat.zero_le _,fun x hx=>by simp at hx⟩ id ⟨⟨rfl,rfl,rfl,rfl,trivial⟩,trivial,List.nodup_nil⟩ fun ⟨m,hm,ht⟩=>?_
 refine g ?_
 repeat' (first | refine st_ rfl (g ?_) | refine Bk (fun h=>g ?_) (fun h=>g ?_) | refine Cl (fun h=>g ?_) (fun h=>g ?_) | refine ix_ (by omega) (g ?_) | refine Aa (hp _) rfl (g ?_))
 ·have hlt:m < l.length:=by omega
  rw [if_pos (List.any_eq_true.2 ⟨_,List.getElem_mem hlt,h⟩),(List.findIdx_eq hlt).2 ⟨h,fun j hj=>ht _ (List.mem_take_iff_getElem.2 ⟨j,by omega,rfl⟩)⟩]
 ·refine ⟨⟨m+1,by omega,fun x hx=>?_⟩,id,⟨⟨rfl,rfl,rfl,rfl,trivial⟩,trivial,List.nodup_nil⟩,by show l.length - (m+1) < l.length - m;omega⟩
  rw [List.take_succ_eq_append_getElem (by omega)] at hx
  rcases List.mem_append.1 hx with h1 | h1
  ·exact ht x h1
  ·rw [List.mem_singleton.1 h1];exact h
 ·obtain rfl:m=l.length:=by omega
  rw [List.take_length] at ht
  rw [if_neg]
  rw [List.any_eq_true]
  rintro ⟨x,hx,hp⟩
  rw [ht x hx] at hp
  cases hp
theorem As1 (l:List Dc) (f:FuncId) (C:List IV) (p:Dc->Bool) (hp:∀ x,A7 Tryz.prog A8 f [boA x,.ip C] (.val (.bool (p x))) []):A7 Tryz.prog A8 115 [.iv (boI l),.fn f [.ip C]] (.val (.bool (l.any p))) []:=by
 refine A7.of (n:=9) (rs:=[.tmp 4]) Tryz.func115 rfl (by kernel_rfl) Tryz.ntmps115 (by kernel_rfl) (by simp) (fun _ _=>A8.later) ?_
 intro hok V w0
 have h1:=B39 l f C p hp
 cases ha:l.any p with
 | true =>
  rw [if_pos ha] at h1
  refine g ?_
  repeat' (first | refine st_ rfl (g ?_) | refine Aa (h1) rfl (g ?_))
  exact decide_eq_true (by omega)
 | false =>
  rw [if_neg (by rw [ha];decide)] at h1
  refine g ?_
  repeat' (first | refine st_ rfl (g ?_) | refine Aa (h1) rfl (g ?_))
  rfl
theorem A88 (v:Bz) (x:Dc) (hf:Bp v.held=true):A7 Tryz.prog A8 116 [boA x,.ip [stI v.known,znI v.zones,wrI v.held,boI v.bodies,.val (.int .i64 v.room)]] (.val (.bool (!F9 v.held x))) []:=by
 refine A7.of (n:=9) (rs:=[.tmp 3]) Tryz.func116 rfl (by kernel_rfl) Tryz.ntmps116 (by kernel_rfl) (by simp) (fun _ _=>A8.later) ?_
 intro hok V w0
 refine g ?_
 repeat' (first | refine st_ rfl (g ?_) | exact trivial | refine Aa (Ab9 _ x hf) rfl (g ?_))
end Go.Proofs.YthlgnjlpakimaaaGreatDoor
namespace Go.Proofs.YthlgnjlpakimaaaGreatDoor
open Go.ChangeShapes Go.WideShapes Go.ChangeAt Go.RowKit
attribute [local irreducible] AW AWY Bw Bc vop Bj Az Bi qop By Ce Ar Ap Bo A7 Bd C5
attribute [local go_sem] Ei Dp J9 Ai An
theorem Xm (l:List Aq):A7 Tryz.prog A8 114 [.iv (wrI l)] (.fn 184 [.ip [wrI l]]) []:=by
 have h:A7 Tryz.prog A8 114 [.iv (wrI l)] (.fn 184 [.bp 0 0]) [.box 0 [.iv (wrI l)]]:=by
  refine A7.of (n:=4) (rs:=[.tmp 2]) Tryz.func114 rfl (by kernel_rfl) Tryz.ntmps114 (by kernel_rfl) (by simp) (fun _ _=>A8.later) ?_
  intro hok V w0
  refine g ?_
  repeat' refine st_ rfl (g ?_)
  exact ⟨fun b=>200+100*b,rfl,rfl,by simp⟩
 exact h.frz ⟨trivial,trivial⟩
def Bq8 (w:Aq):List AV:=[.val (.int .i64 w.object),wA w]
theorem Xl (l:List Aq) (hf:Bp l=true):Bd Tryz.prog A8 184 [.ip [wrI l]] Bq8 (fun ys=>ys=l) (fun pre=>pre <+: l):=by
 refine Bd.of (n:=21) Tryz.func184 rfl (by kernel_rfl) Tryz.ntmps184 (by kernel_rfl) (by simp) (fun _ _=>A8.later) ?_
 intro hok Y
 have hlen:l.length<=1073741824:=by simpa [wrI] using hok.1.1.1
 have h1:=Gs l
 rw [hf] at h1
 refine g ?_
 refine g ?_
 repeat' refine Kg rfl (g ?_)
 refine Aa h1 rfl ?_
 refine g ?_
 repeat' refine Kg rfl (g ?_)
 refine AWY.loop (fun i:{i:Nat // i<=l.length}=>(.going (l.take i.1),⟨[(0,.val (.func (.yield Y.l) #[] #[])),(8,.iv (wrI l)),(9,.val (.int .i64 (l.length:Nat))),(10,.val (.int .i64 (i.1:Nat)))],[]⟩)) (fun i=>l.length - i.1) ⟨0,Nat.zero_le _⟩ id ⟨rfl,⟨rfl,rfl,rfl,rfl,trivial⟩,trivial,List.nodup_nil⟩ fun ⟨i,hi⟩=>?_
 refine g ?_
 repeat' (first | refine Kg rfl (g ?_) | refine Cl (fun h=>g ?_) (fun h=>g ?_))
 ·have hlt:i < l.length:=by simpa using h
  obtain ⟨-,o1,o2,o3,o4,-⟩:=Gc (by simpa [wrI] using hok.1.1.2) (enW l[i]) (List.mem_map_of_mem (List.getElem_mem hlt))
  have hs:l.take i++[l[i]]=l.take (i+1):=(List.take_succ_eq_append_getElem hlt).symm
  refine ⟨by omega,_,Cg (List.getElem?_eq_getElem hlt),?_⟩
  refine g ?_
  repeat' (first | refine Kg rfl (g ?_) | refine Aj (g ?_))
  refine Wn (x:=l[i]) ?_ ?_ ?_ ?_
  ·rfl
  ·exact Sbs.rfl_ _
  ·rw [hs];exact List.take_prefix _ _
  simp only [go_sem]
  rw [hs]
  refine ⟨⟨o1,o2,o3,o4,trivial⟩,?_,?_⟩
  ·refine g ?_
   repeat' refine Kg rfl (g ?_)
   exact ⟨⟨i+1,hlt⟩,id,rfl,⟨⟨rfl,rfl,rfl,rfl,trivial⟩,trivial,List.nodup_nil⟩,by show l.length - (i+1) < l.length - i;omega⟩
  ·refine g ?_
   repeat' (first | refine Kg rfl (g ?_) | exact trivial)
 ·have hle:l.length<=i:=by simpa using h
  exact ⟨.inr trivial,List.take_of_length_le hle⟩
end Go.Proofs.YthlgnjlpakimaaaGreatDoor
namespace Go.Proofs.YthlgnjlpakimaaaGreatDoor
open Go.ChangeShapes Go.WideShapes Go.ChangeAt Go.RowKit
attribute [local irreducible] AW AWY Bw Bc vop Bj Az Bi qop By Ce Ar Ap Bo A7 Bd C5
attribute [local go_sem] Fe Fq Ai An
def zoA (x:B8):AV:=.agg [.val (.int .i64 x.span.lo),.val (.int .i64 x.span.hi),.iv (stI x.vec)]
def D33 (x:B8):List AV:=[zoA x]
def Cx4 (known:List Ab) (p:Option B8) (x:B8):List B8:=if Ca p+1 < x.span.lo then [⟨⟨Ca p+1,x.span.lo - 1⟩,known⟩] else []
def Bk7 (z:List B8) (known:List Ab):Nat->List B8
 | 0=>[]
 | i+1=>Bk7 z known i++(match z[i]? with
  | some x=>Cx4 known (z.take i).getLast? x++[x]
  | none=>[])
def C66 (z:List B8) (known:List Ab):List B8:=if Ca z.getLast? + 1<=255 then [⟨⟨Ca z.getLast? + 1,255⟩,known⟩] else []
def Av9 (z:List B8) (known:List Ab):List B8:=Bk7 z known z.length++C66 z known
end Go.Proofs.YthlgnjlpakimaaaGreatDoor
namespace Go.Proofs.YthlgnjlpakimaaaGreatDoor
open Go.ChangeShapes Go.WideShapes Go.ChangeAt Go.RowKit
attribute [local irreducible] AW AWY Bw Bc vop Bj Az Bi qop By Ce Ar Ap Bo A7 Bd C5
attribute [local go_sem] Ai An
def B99 (it:List Ad) (ps:List B8):List (List Ab):=(ps.filter fun x=>Gg it [x.span]).map (·.vec)
def Bo3 (z:List B8) (known:List Ab) (it:List Ad):List Ab:=if Br z=true/\Av known=true then (if (B99 it (Av9 z known)).length=0 then known else Bl1 (B99 it (Av9 z known))) else []
theorem Zo:∀ {l:List B8} {p:Option B8},Bt p l=true->Ca p<=255->(l.length:Int)<=255 - Ca p
 | [],p,_,hp=>by simp;omega
 | y :: l,p,h,hp=>by
  simp only [Bt,Do,E8,Bool.and_eq_true,decide_eq_true_eq] at h
  obtain ⟨⟨⟨h1,_⟩,⟨h2,h3⟩,_⟩,h4⟩:=h
  have h5:(l.length:Int)<=255 - y.span.hi:=Zo h4 h3
  rw [List.length_cons]
  omega
end Go.Proofs.YthlgnjlpakimaaaGreatDoor
namespace Go.Proofs.YthlgnjlpakimaaaGreatDoor
theorem Nm:∀ {l:List B8} {p:Option B8},Bt p l=true->l.Pairwise (fun x y=>x.span.hi < y.span.lo)/\∀ x∈l,Ca p < x.span.lo/\x.span.lo<=x.span.hi
 | [],_,_=>⟨.nil,fun x hx=>by simp at hx⟩
 | x :: l,p,h=>by
  simp only [Bt,Do,E8,Bool.and_eq_true,decide_eq_true_eq] at h
  obtain ⟨⟨⟨h1,_⟩,⟨h2,h3⟩,_⟩,h4⟩:=h
  obtain ⟨g1,g2⟩:=Nm h4
  have g3:∀ y∈l,x.span.hi < y.span.lo:=fun y hy=>(g2 y hy).1
  refine ⟨.cons g3 g1,fun y hy=>?_⟩
  rcases List.mem_cons.1 hy with rfl | hy
  ·exact ⟨h1,h2⟩
  ·have:=g3 y hy
   have:=(g2 y hy).2
   omega
theorem A46 {z:List B8} (hF:Br z=true) {i j:Nat} (h:i < j) (hj:j < z.length):z[i].span.hi < z[j].span.lo:=List.pairwise_iff_getElem.1 (Nm hF).1 i j (by omega) hj h
theorem A47 {z:List B8} (hF:Br z=true) {i:Nat} (hi:i < z.length):-1 < z[i].span.lo/\z[i].span.lo<=z[i].span.hi:=(Nm hF).2 z[i] (List.getElem_mem hi)
theorem A96 {l:List B8} {m:Nat} (h0:0 < m) (h:m - 1 < l.length):Ca (l.take m).getLast? = l[m - 1].span.hi:=by
 rw [Rx h0 h];rfl
theorem As8 {z:List B8} (hF:Br z=true) {i j:Nat} (hj:j < i) (hi:i<=z.length):z[j].span.hi<=Ca (z.take i).getLast? := by
 rw [A96 (l:=z) (m:=i) (by omega) (by omega)]
 rcases Nat.lt_or_ge j (i - 1) with h | h
 ·have:=A46 hF h (by omega)
  have:=A47 hF (show i - 1 < z.length by omega)
  omega
 ·obtain rfl:j=i - 1:=by omega
  exact Int.le_refl _
theorem Bb4 {z:List B8} (hF:Br z=true) {i:Nat} (hi:i<=z.length) {o:Int} (ho:Ca (z.take i).getLast? < o):∀ x∈z.take i,x.has o=false:=fun x hx=>by
 obtain ⟨j,hj,rfl⟩:=List.mem_take_iff_getElem.1 hx
 have:=As8 hF (show j < i by omega) hi
 simp [B8.has];omega
theorem Bc9 {z:List B8} (hF:Br z=true) {i:Nat} (hi:i < z.length):Ca (z.take i).getLast? < z[i].span.lo:=by
 rcases Nat.eq_zero_or_pos i with rfl | h
 ·exact (A47 hF hi).1
 ·rw [A96 h (by omega)]
  exact A46 hF (by omega) hi
theorem Te {z:List B8} (hF:Br z=true) (known:List Ab) {i:Nat} (hi:i < z.length) {o:Int} (h:z[i].span.lo<=o/\o<=z[i].span.hi):C4 z known o=z[i].vec:=by
 have:=Bc9 hF hi
 unfold C4
 rw [Pq (Bb4 hF (by omega) (by omega)) hi (by simp [B8.has];omega)]
theorem Ay8 (a b:List Ad):Gg a b=true↔∃ o:Nat,o < 256/\Ak a o=true/\Ak b o=true:=by
 rw [Gg,decide_eq_true_eq]
 constructor
 ·intro hp
  obtain ⟨x,hx⟩ : ∃ x,x∈D1 a b:=by
   cases hc:D1 a b with
   | nil=>rw [hc] at hp;simp at hp
   | cons x l=>exact ⟨x,by simp⟩
  have hf:=(Jz (Bg _) x hx).2
  obtain ⟨o,ho⟩ : ∃ o:Nat,(o:Int)=x.lo:=⟨x.lo.toNat,by omega⟩
  have ho':o < 256:=by omega
  have m3:Ak (D1 a b) o=true:=by
   rw [Ak,List.any_eq_true]
   exact ⟨x,hx,by simp;omega⟩
  unfold D1 at m3
  rw [Cc _ ho',Bool.and_eq_true] at m3
  exact ⟨o,ho',m3⟩
 ·rintro ⟨o,ho,h1,h2⟩
  have m3:Ak (D1 a b) o=true:=by
   unfold D1
   rw [Cc _ ho,h1,h2];rfl
  cases hc:D1 a b with
  | nil=>rw [hc] at m3;simp [Ak] at m3
  | cons x l=>simp
def InZ (l:List B8) (o:Int) (v:List Ab):Prop:=∃ x∈l,x.span.lo<=o/\o<=x.span.hi/\x.vec=v
def Bc2 (out:List B8) (x:B8):List B8 :=
 match out.getLast? with
 | some y=>if y.span.hi+1=x.span.lo/\y.vec=x.vec then out.dropLast++[⟨⟨y.span.lo,x.span.hi⟩,y.vec⟩] else out++[x]
 | none=>out++[x]
def Ca0 (l:List B8):List B8:=l.foldl Bc2 []
structure Cp7 (s l:List B8):Prop where
 formed:Bt none l=true
 mem:∀ o v,InZ l o v↔InZ s o v
 last:Ca l.getLast? = Ca s.getLast?
 len:l.length<=s.length
def D24 (s:List B8):Prop:=s.Pairwise (fun x y=>x.span.hi < y.span.lo)/\∀ x∈s,0<=x.span.lo/\E8 x=true
def Bm2 (f:Nat->Option (List Ab)):Nat->List B8
 | 0=>[]
 | n+1=>Bm2 f n++(match f n with | some v=>[⟨⟨(n:Nat),(n:Nat)⟩,v⟩] | none=>[])
def A45 (f:Nat->Option (List Ab)):List B8:=Ca0 (Bm2 f 256)
-- what the document says, object by object
def Ad0 (v:List Ab) (n:B7) (k:Nat):Int:=if A9 n.start k<=A9 v k then max (A9 v k) (A9 n.end_ k) else A9 v k
def B47 (v:List Ab) (n:B7):List Ab:=Hh (Ad0 v n)
def B81 (v:List Ab) (n:B7) (o:Int):List Ab:=match M3 n.writes o with
 | some w=>if Fs (B47 v n) w.stamp=true then B47 v n else v
 | none=>B47 v n
def A17 (z:List B8) (known:List Ab) (n:B7) (o:Nat):List Ab:=if Ak n.blur o=true then C4 z known o else B81 (C4 z known o) n o
def A31 (known:List Ab) (n:B7):List Ab:=Eb [known,n.end_]
def Zp (z:List B8) (known:List Ab) (n:B7) (o:Nat):Option (List Ab):=if Ba (A17 z known n o) (A31 known n)=true then none else some (A17 z known n o)
def Bn8 (z:List B8) (known:List Ab) (n:B7):Bool:=Br z&&Av known&&Al n
def Ve (z:List B8) (known:List Ab) (n:B7):List B8×List Ab×Int :=
 if Bn8 z known n=true then (if Ba known n.start=true then (A45 (Zp z known n),A31 known n,0) else ([],[],3)) else ([],[],1)
-- what the program does, piece by piece
def Jn (a b:List Ad):List Ad:=C1 fun o=>Ak a o&&!Ak b o
def B83 (far:List Ab) (s:List Ad) (w:Aq):List Ad:=if Fs far w.stamp=true then s else B9 (s++B9 (Ng [w.object]))
def B82 (n:B7) (far:List Ab):List Ad:=n.writes.foldl (B83 far) n.blur
def Cd1 (now:List Ab) (l:List Ad) (v:List Ab):List B8:=if Ba v now=true then [] else l.map fun s=>⟨s,v⟩
def Bp6 (n:B7) (now:List Ab) (x:B8):List B8:=Cd1 now (D1 [x.span] (B82 n (B47 x.vec n))) x.vec++Cd1 now (Jn [x.span] (B82 n (B47 x.vec n))) (B47 x.vec n)
def D03 (n:B7) (now:List Ab) (l:List B8):List B8:=l.flatMap (Bp6 n now)
theorem Tn {s:Ad} {o:Int} : Ak [s] o=true↔s.lo<=o/\o<=s.hi:=by simp [Ak]
theorem Tm {f:Nat->Bool} {o:Int} (h:Ak (C1 f) o=true):∃ k:Nat,k < 256/\o=k/\f k=true:=by
 obtain ⟨h0,h1⟩:=C8 (Bg f) h
 obtain ⟨k,rfl⟩ : ∃ k:Nat,o=k:=⟨o.toNat,by omega⟩
 have:=(Ld f k).1 h
 exact ⟨k,this.1,rfl,this.2⟩
def Off (x y:B8):Prop:=x.span.hi < y.span.lo\/y.span.hi < x.span.lo
end Go.Proofs.YthlgnjlpakimaaaGreatDoor
