/- Vectors, sets, notes and bodies laid behind bytes (the program's). -/
import Derived.Test.YtblfjaedaijfoaaGreatDoorQPack
import Derived.Test.YtblfjaedaijfoaaGreatDoorQViewRead
import Derived.Test.YtblfjaedaijfoaaGreatDoorQNodeSpec
set_option linter.all false
set_option linter.unnecessarySimpa false
set_option linter.unusedSimpArgs false
set_option linter.unusedVariables false
namespace Go.Proofs.YtblfjaedaijfoaaGreatDoor
open Go.ChangeShapes Go.WideShapes Go.ChangeAt Go.RowKit
section
variable {L : Operand -> AV} {K K' : List (List IV) -> Prop} {x0 x1 x2 x3 : Operand} {a b c d : Int}
theorem E07 (e0:L x0=.val (.int .i64 a)) (o0:I64 a) (e1:L x1=.val (.int .i64 b)) (o1:I64 b) (e2:L x2=.val (.int .i64 c)) (o2:I64 c) (hK:K' [[.val (.int .i64 a)],[.val (.int .i64 b)],[.val (.int .i64 c)]]):bsQ L 1 3 #[(0,x0),(1,x1),(2,x2)] K K' :=
 ⟨[[.val (.int .i64 a)],[.val (.int .i64 b)],[.val (.int .i64 c)]],rfl,by omega,by omega,fun i cs h=>by
  match i,h with
  | 0,h=>simp at h;subst h;exact ⟨rfl,x0,rfl,by rw [e0];rfl,by rw [e0];exact .of rfl ⟨o0,trivial⟩⟩
  | 1,h=>simp at h;subst h;exact ⟨rfl,x1,rfl,by rw [e1];rfl,by rw [e1];exact .of rfl ⟨o1,trivial⟩⟩
  | 2,h=>simp at h;subst h;exact ⟨rfl,x2,rfl,by rw [e2];rfl,by rw [e2];exact .of rfl ⟨o2,trivial⟩⟩
  | i+3,h=>simp at h,rfl,.inr hK⟩
theorem Dc2 (e0:L x0=.val (.int .i64 a)) (o0:I64 a) (e1:L x1=.val (.int .i64 b)) (o1:I64 b) (e2:L x2=.val (.int .i64 c)) (o2:I64 c) (e3:L x3=.val (.int .i64 d)) (o3:I64 d) (hK:K' [[.val (.int .i64 a)],[.val (.int .i64 b)],[.val (.int .i64 c)],[.val (.int .i64 d)]]):bsQ L 1 4 #[(0,x0),(1,x1),(2,x2),(3,x3)] K K' :=
 ⟨[[.val (.int .i64 a)],[.val (.int .i64 b)],[.val (.int .i64 c)],[.val (.int .i64 d)]],rfl,by omega,by omega,fun i cs h=>by
  match i,h with
  | 0,h=>simp at h;subst h;exact ⟨rfl,x0,rfl,by rw [e0];rfl,by rw [e0];exact .of rfl ⟨o0,trivial⟩⟩
  | 1,h=>simp at h;subst h;exact ⟨rfl,x1,rfl,by rw [e1];rfl,by rw [e1];exact .of rfl ⟨o1,trivial⟩⟩
  | 2,h=>simp at h;subst h;exact ⟨rfl,x2,rfl,by rw [e2];rfl,by rw [e2];exact .of rfl ⟨o2,trivial⟩⟩
  | 3,h=>simp at h;subst h;exact ⟨rfl,x3,rfl,by rw [e3];rfl,by rw [e3];exact .of rfl ⟨o3,trivial⟩⟩
  | i+4,h=>simp at h,rfl,.inr hK⟩
end
attribute [local irreducible] AW AWY Bo B4 vop Bj B7 Bf qop Bu C4 Aq Aj Bh A7 B9
attribute [local go_sem] Af8 Ax0 Eb Cm Jc G6 C9 Ae Af
theorem My (l:List Ab):stI l=.sl 2 (l.map Rj):=rfl
theorem Sw (l:List Ao):spI l=.sl 2 (l.map Nl):=rfl
theorem Am2 (s:Ao):Nl s=[.val (.int .i64 s.lo),.val (.int .i64 s.hi)]:=rfl
attribute [local go_sem] My Sw Z7 Am2
set_option maxRecDepth 100000 in
theorem Bt1 (b row:List Nat) (hb:b.length<=900000000) (hr:row.length<=1000000):A7 Tryz.prog A8 296 [.iv (byI b),.iv (byI row)] (.iv (byI (b++(Gh row.length++row)))) []:=by
 have h:A7 Tryz.prog A8 296 [.iv (byI b),.iv (byI row)] (.own 0) [.row 0 5 1 ((b++(Gh row.length++row)).map byC)]:=by
  refine A7.of (n:=17) (rs:=[.tmp 4]) Tryz.func296 rfl (by kernel_rfl) Tryz.ntmps296 (by kernel_rfl) (by simp) (fun _ _=>A8.later) ?_
  intro hok V w0
  refine g ?_
  repeat' (first | refine st_ rfl (g ?_) | refine A9 (A65 b row.length (by omega) (by omega)) rfl (g ?_))
  have hl:=Vd (k:=8) (n:=row.length)
  refine Co rfl (by kernel_rfl) (by omega) (by kernel_rfl) rfl (by simp [Gh];omega) ?_
  refine g ?_
  repeat' refine st_ rfl (g ?_)
  refine ⟨fun _=>1700,rfl,?_,by simp⟩
  rw [<-List.append_assoc,List.map_append (l₁:=b++Gh row.length)]
  rfl
 exact h.frz trivial
theorem Li (n:Nat):(Gh n).length<=9:=Vd
theorem P8 {α:Type} {f:α->List Nat} {c:Nat} (h:∀ x,(f x).length<=c):∀ l:List α,(l.flatMap f).length<=c*l.length
 | []=>Nat.zero_le _
 | x :: l=>by
  have h1:=h x
  have h2:=P8 h l
  simp only [List.flatMap_cons,List.length_append,List.length_cons,Nat.mul_add,Nat.mul_one]
  omega
theorem X9 {α:Type} {f:α->List Nat} {l:List α} {m:Nat} (h:m < l.length):(l.take (m+1)).flatMap f=(l.take m).flatMap f++f l[m]:=by
 rw [List.take_succ_eq_append_getElem h,List.flatMap_append];simp
theorem Xp:∀ {v:List Ab} {e:Int},Ee e v=true->∀ s∈v,0<=s.node/\s.node < 64/\1<=s.count
 | [],_,_,s,hs=>by cases hs
 | t :: v,e,h,s,hs=>by
  simp only [Ee,Bl,Bool.and_eq_true,decide_eq_true_eq] at h
  rcases List.mem_cons.1 hs with rfl | hs
  ·omega
  ·exact Xp h.2 s hs
theorem Aq5:∀ {l:List Ao} {e:Int},Bb e l=true->∀ s∈l,0<=s.lo/\s.lo<=255/\0<=s.hi/\s.hi<=255
 | [],_,_,s,hs=>by cases hs
 | t :: v,e,h,s,hs=>by
  simp only [Bb,Bool.and_eq_true,decide_eq_true_eq] at h
  rcases List.mem_cons.1 hs with rfl | hs
  ·omega
  ·exact Aq5 h.2 s hs
def stY (s:Ab):List Nat:=Gb [s.node,s.count]
def spY (s:Ao):List Nat:=Gb [s.lo,s.hi]
theorem Be3 (v:List Ab):Yk v=Gh v.length++v.flatMap stY:=rfl
theorem Bf4 (v:List Ao):B53 v=Gh v.length++v.flatMap spY:=rfl
theorem Bz5 (n:Nat):Gb [(n:Int)]=Gh n:=by simp [Gb]
set_option maxRecDepth 100000 in
theorem Ag2 (b:List Nat) (v:List Ab) (hv:Ak v=true) (hb:b.length<=800000000):A7 Tryz.prog A8 294 [.iv (byI b),.iv (stI v)] (.tup [.iv (byI (b++Yk v)),.val (.int .i64 0)]) []:=by
 refine A7.of (n:=32) (rs:=[.tmp 4,.tmp 5]) Tryz.func294 rfl (by kernel_rfl) Tryz.ntmps294 (by kernel_rfl) (by simp) (fun _ _=>A8.later) ?_
 intro hok V w0
 have hf:=Fh v
 have hl:=Sr hv
 have hpos:=Xp hv
 rw [hv] at hf
 have hw0:=Kw b [(v.length:Int)] (by simp) (by simp) (by omega)
 rw [Bz5] at hw0
 refine g ?_
 repeat' (first | refine st_ rfl (g ?_) | refine A9 (hf) rfl (g ?_))
 refine bd1 (by omega) rfl rfl rfl ⟨I64.of (by omega) (by omega),trivial⟩ ?_
 refine g ?_
 repeat' (first | refine st_ rfl (g ?_) | refine A9 (hw0) rfl (g ?_))
 refine AW.loop (fun m:{m:Nat // m<=v.length}=>⟨[(6,.iv (byI (b++Gh v.length++(v.take m.1).flatMap stY))),(17,.iv (stI v)),(18,.val (.int .i64 (v.length:Nat))),(19,.val (.int .i64 (m.1:Nat)))],[]⟩) (fun m=>v.length - m.1) ⟨0,Nat.zero_le _⟩ id ⟨⟨?_,rfl,rfl,rfl,trivial⟩,trivial,List.nodup_nil⟩ fun ⟨m,hm⟩=>?_
 ·show _=AV.ren id (AV.iv (byI (b++Gh v.length++([]:List Ab).flatMap stY)))
  rw [List.flatMap_nil,List.append_nil]
  rfl
 simp only
 repeat (refine AW.seq ?_)
 refine AW.reg rfl fun KK hKK=>?_
 refine g ?_
 repeat' (refine hKK _ (g ?_);clear hKK KK)
 repeat (refine AW.seq ?_)
 refine st_ rfl ?_
 refine g ?_
 refine Al (fun h=>?_) (fun h=>?_)
 ·have hlt:m < v.length:=by omega
  obtain ⟨p1,p2,p3⟩:=hpos v[m] (List.getElem_mem hlt)
  obtain ⟨-,o1,o2,-⟩:=Do (by simpa [stI] using hok.2.1.2) (Rj v[m]) (List.mem_map_of_mem (List.getElem_mem hlt))
  have hT:=X9 (f:=stY) hlt
  have hL:=P8 (f:=stY) (c:=18) (fun x=>J3 _) (v.take m)
  rw [List.length_take] at hL
  have h9:=Li v.length
  have hw:=Kw (b++Gh v.length++(v.take m).flatMap stY) [v[m].node,v[m].count] (by simp;omega) (by simp) (by rw [List.length_append,List.length_append];omega)
  refine st_ rfl (g ?_)
  refine g ?_
  repeat' (first | refine st_ rfl (g ?_) | refine ix_ (by omega) (g ?_))
  refine bd2 (by omega) rfl rfl rfl ⟨o2,trivial⟩ rfl rfl rfl ⟨o1,trivial⟩ ?_
  refine g ?_
  repeat' (first | refine st_ rfl (g ?_) | refine A9 (hw) rfl (g ?_))
  refine ⟨⟨m+1,hlt⟩,id,⟨⟨?_,rfl,rfl,rfl,trivial⟩,trivial,List.nodup_nil⟩,by show v.length - (m+1) < v.length - m;omega⟩
  rw [hT,<-List.append_assoc]
  rfl
 ·refine AW.exit ?_
  simp only [reduceIte]
  refine g ?_
  repeat' refine st_ rfl (g ?_)
  rw [List.take_of_length_le (by omega),Be3,List.append_assoc]
set_option maxRecDepth 100000 in
theorem Ag3 (b:List Nat) (v:List Ao) (hv:Br v=true) (hb:b.length<=800000000):A7 Tryz.prog A8 229 [.iv (byI b),.iv (spI v)] (.tup [.iv (byI (b++B53 v)),.val (.int .i64 0)]) []:=by
 refine A7.of (n:=32) (rs:=[.tmp 4,.tmp 5]) Tryz.func229 rfl (by kernel_rfl) Tryz.ntmps229 (by kernel_rfl) (by simp) (fun _ _=>A8.later) ?_
 intro hok V w0
 have hf:=Pu v
 have hl:=((E9 _).1 hv).1
 have hpos:=Aq5 hv
 rw [hv] at hf
 have hw0:=Kw b [(v.length:Int)] (by simp) (by simp) (by omega)
 rw [Bz5] at hw0
 refine g ?_
 repeat' (first | refine st_ rfl (g ?_) | refine A9 (hf) rfl (g ?_))
 refine bd1 (by omega) rfl rfl rfl ⟨I64.of (by omega) (by omega),trivial⟩ ?_
 refine g ?_
 repeat' (first | refine st_ rfl (g ?_) | refine A9 (hw0) rfl (g ?_))
 refine AW.loop (fun m:{m:Nat // m<=v.length}=>⟨[(6,.iv (byI (b++Gh v.length++(v.take m.1).flatMap spY))),(17,.iv (spI v)),(18,.val (.int .i64 (v.length:Nat))),(19,.val (.int .i64 (m.1:Nat)))],[]⟩) (fun m=>v.length - m.1) ⟨0,Nat.zero_le _⟩ id ⟨⟨?_,rfl,rfl,rfl,trivial⟩,trivial,List.nodup_nil⟩ fun ⟨m,hm⟩=>?_
 ·show _=AV.ren id (AV.iv (byI (b++Gh v.length++([]:List Ao).flatMap spY)))
  rw [List.flatMap_nil,List.append_nil]
  rfl
 simp only
 repeat (refine AW.seq ?_)
 refine AW.reg rfl fun KK hKK=>?_
 refine g ?_
 repeat' (refine hKK _ (g ?_);clear hKK KK)
 repeat (refine AW.seq ?_)
 refine st_ rfl ?_
 refine g ?_
 refine Al (fun h=>?_) (fun h=>?_)
 ·have hlt:m < v.length:=by omega
  obtain ⟨p1,p2,p3,p4⟩:=hpos v[m] (List.getElem_mem hlt)
  have hT:=X9 (f:=spY) hlt
  have hL:=P8 (f:=spY) (c:=18) (fun x=>J3 _) (v.take m)
  rw [List.length_take] at hL
  have h9:=Li v.length
  have hw:=Kw (b++Gh v.length++(v.take m).flatMap spY) [v[m].lo,v[m].hi] (by simp;omega) (by simp) (by rw [List.length_append,List.length_append];omega)
  refine st_ rfl (g ?_)
  refine g ?_
  repeat' (first | refine st_ rfl (g ?_) | refine ix_ (by omega) (g ?_))
  refine bd2 (by omega) rfl rfl rfl ⟨I64.of (by omega) (by omega),trivial⟩ rfl rfl rfl ⟨I64.of (by omega) (by omega),trivial⟩ ?_
  refine g ?_
  repeat' (first | refine st_ rfl (g ?_) | refine A9 (hw) rfl (g ?_))
  refine ⟨⟨m+1,hlt⟩,id,⟨⟨?_,rfl,rfl,rfl,trivial⟩,trivial,List.nodup_nil⟩,by show v.length - (m+1) < v.length - m;omega⟩
  rw [hT,<-List.append_assoc]
  rfl
 ·refine AW.exit ?_
  simp only [reduceIte]
  refine g ?_
  repeat' refine st_ rfl (g ?_)
  rw [List.take_of_length_le (by omega),Bf4,List.append_assoc]
theorem Zb {x:Bc} : ∀ {l:List Ap} {e:Int},Dj x e l=true->(∀ w∈l,(0<=w.object/\w.object<=255)/\0<=w.stamp.node/\w.stamp.node < 64/\1<=w.stamp.count)/\(-1<=e->e<=255->e+(l.length:Int)<=255)
 | [],e,_=>⟨fun w h=>(by cases h),fun _ h=>by simpa using h⟩
 | y :: l,e,h=>by
  simp only [Dj,E4,Bl,Bool.and_eq_true,decide_eq_true_eq] at h
  obtain ⟨g1,g2⟩:=Zb h.2
  refine ⟨fun w hw=>?_,fun h1 h2=>?_⟩
  ·rcases List.mem_cons.1 hw with rfl | hw
   ·omega
   ·exact g1 w hw
  ·have:=g2 (by omega) (by omega)
   simp only [List.length_cons]
   omega
theorem Zc (v:List Ap):Ag7 v=Gh v.length++v.flatMap Nc:=rfl
theorem Ui {v:List Ab} (h:Ak v=true):(Yk v).length<=1200:=by
 have:=P8 (f:=stY) (c:=18) (fun x=>J3 _) v
 have h1:=Li v.length
 have h2:=Sr h
 rw [Be3,List.length_append]
 omega
theorem Ar1 {v:List Ao} (h:Br v=true):(B53 v).length<=2400:=by
 have:=P8 (f:=spY) (c:=18) (fun x=>J3 _) v
 have h1:=Li v.length
 have h2:=((E9 _).1 h).1
 rw [Bf4,List.length_append]
 omega
theorem Zd (w:Ap):(Nc w).length<=36:=J3 _
set_option maxRecDepth 100000 in
set_option maxHeartbeats 1600000 in
theorem A66 (b:List Nat) (n:Bc) (hn:Ax n=true) (hb:b.length<=700000000):A7 Tryz.prog A8 227 [.iv (byI b),Ft n] (.tup [.iv (byI (b++A24 n)),.val (.int .i64 0)]) []:=by
 refine A7.of (n:=64) (rs:=[.tmp 4,.tmp 5]) Tryz.func227 rfl (by kernel_rfl) Tryz.ntmps227 (by kernel_rfl) (by simp) (fun _ _=>A8.later) ?_
 intro hok V w0
 have hf:=J4 n
 rw [hn] at hf
 have hn':=hn
 simp only [Ax,Bool.and_eq_true] at hn'
 obtain ⟨⟨⟨⟨n1,n2⟩,-⟩,n3⟩,n4⟩:=hn'
 obtain ⟨hpos,hl⟩:=Zb n4
 have hl:=hl (by omega) (by omega)
 have y1:=Ui n1
 have y2:=Ui n2
 have y3:=Ar1 n3
 have c1:=Ag2 b n.start n1 (by omega)
 have c2:=Ag2 (b++Yk n.start) n.end_ n2 (by rw [List.length_append];omega)
 have c3:=Ag3 (b++Yk n.start++Yk n.end_) n.blur n3 (by rw [List.length_append,List.length_append];omega)
 obtain ⟨B,hB⟩ : ∃ B,b++Yk n.start++Yk n.end_++B53 n.blur=B:=⟨_,rfl⟩
 have hBl:B.length<=701000000:=by rw [<-hB,List.length_append,List.length_append,List.length_append];omega
 rw [hB] at c3
 have hw0:=Kw B [(n.writes.length:Int)] (by simp) (by simp) (by omega)
 rw [Bz5] at hw0
 have h9:=Li n.writes.length
 refine g ?_
 refine AW.seq ?_
 refine AW.reg rfl fun KK hKK=>?_
 refine g ?_
 repeat' (refine hKK _ (g ?_);clear hKK KK)
 refine AW.freeze 400 _ rfl ⟨trivial,trivial,trivial,trivial,trivial⟩ ?_
 simp only [go_sem,reduceIte,Nat.reduceEqDiff]
 refine g ?_
 repeat' (first | refine st_ rfl (g ?_) | refine A9 (hf) rfl (g ?_) | refine A9 (c1) rfl (g ?_) | refine A9 (c2) rfl (g ?_) | refine A9 (c3) rfl (g ?_))
 refine bd1 (by omega) rfl rfl rfl ⟨I64.of (by omega) (by omega),trivial⟩ ?_
 refine g ?_
 repeat' (first | refine st_ rfl (g ?_) | refine A9 (hw0) rfl (g ?_))
 refine AW.loop (fun m:{m:Nat // m<=n.writes.length}=>⟨[(6,.iv (byI (B++Gh n.writes.length++(n.writes.take m.1).flatMap Nc))),(42,.iv (wrI n.writes)),(43,.val (.int .i64 (n.writes.length:Nat))),(44,.val (.int .i64 (m.1:Nat)))],[]⟩) (fun m=>n.writes.length - m.1) ⟨0,Nat.zero_le _⟩ id ⟨⟨?_,rfl,rfl,rfl,trivial⟩,trivial,List.nodup_nil⟩ fun ⟨m,hm⟩=>?_
 ·show _=AV.ren id (AV.iv (byI (B++Gh n.writes.length++([]:List Ap).flatMap Nc)))
  rw [List.flatMap_nil,List.append_nil]
  rfl
 simp only
 repeat (refine AW.seq ?_)
 refine AW.reg rfl fun KK hKK=>?_
 refine g ?_
 repeat' (refine hKK _ (g ?_);clear hKK KK)
 repeat (refine AW.seq ?_)
 refine st_ rfl ?_
 refine g ?_
 refine Al (fun h=>?_) (fun h=>?_)
 ·have hlt:m < n.writes.length:=by omega
  obtain ⟨⟨p1,p2⟩,p3,p4,p5⟩:=hpos n.writes[m] (List.getElem_mem hlt)
  obtain ⟨-,o1,o2,o3,-⟩:=Do (by simpa [wrI] using hok.2.1.2.2.2.1.2) (enW n.writes[m]) (List.mem_map_of_mem (List.getElem_mem hlt))
  have hT:=X9 (f:=Nc) hlt
  have hL:=P8 (f:=Nc) (c:=36) Zd (n.writes.take m)
  rw [List.length_take] at hL
  have hw:=Kw (B++Gh n.writes.length++(n.writes.take m).flatMap Nc) [n.writes[m].object,n.writes[m].stamp.node,n.writes[m].stamp.count,if n.writes[m].gone=true then 1 else 0] (by simp;refine ⟨by omega,by omega,by omega,?_⟩;split<;>omega) (by simp) (by rw [List.length_append,List.length_append];omega)
  refine st_ rfl (g ?_)
  refine g ?_
  repeat' (first | refine st_ rfl (g ?_) | refine Cy (fun h=>g ?_) (fun h=>g ?_) | refine ix_ (by omega) (g ?_))
  ·rw [if_pos (by simpa using h)] at hw
   refine Dc2 rfl o3 rfl o2 rfl o1 rfl rfl ?_
   refine g ?_
   repeat' (first | refine st_ rfl (g ?_) | refine A9 (hw) rfl (g ?_))
   refine ⟨⟨m+1,hlt⟩,id,⟨⟨?_,rfl,rfl,rfl,trivial⟩,trivial,List.nodup_nil⟩,by show n.writes.length - (m+1) < n.writes.length - m;omega⟩
   rw [hT,<-List.append_assoc,Nc,if_pos (by simpa using h)]
   rfl
  ·rw [if_neg (by simp [h])] at hw
   refine Dc2 rfl o3 rfl o2 rfl o1 rfl rfl ?_
   refine g ?_
   repeat' (first | refine st_ rfl (g ?_) | refine A9 (hw) rfl (g ?_))
   refine ⟨⟨m+1,hlt⟩,id,⟨⟨?_,rfl,rfl,rfl,trivial⟩,trivial,List.nodup_nil⟩,by show n.writes.length - (m+1) < n.writes.length - m;omega⟩
   rw [hT,<-List.append_assoc,Nc,if_neg (by simp [h])]
   rfl
 ·refine AW.exit ?_
  simp only [reduceIte]
  refine g ?_
  repeat' refine st_ rfl (g ?_)
  rw [List.take_of_length_le (by omega),A24,Zc,<-hB]
  simp only [List.append_assoc]
theorem Uf (x:C1):A7 Tryz.prog A8 113 [boA x] (.val (.bool (Ca x))) []:=by
 refine A7.of (n:=22) (rs:=[.tmp 2]) Tryz.func113 rfl (by kernel_rfl) Tryz.ntmps113 (by kernel_rfl) (by simp) (fun _ _=>A8.later) ?_
 intro hok V w0
 obtain ⟨B,hB⟩ : ∃ B,Ca x=B:=⟨_,rfl⟩
 rw [hB]
 unfold Ca at hB
 refine g ?_
 repeat' (first | refine st_ rfl (g ?_) | (refine B8 rfl rfl (fun h e=>?_) (fun h e=>?_)<;>simp only [e]<;>clear e<;>refine g ?_) | (refine Cn rfl rfl (fun h=>?_) (fun h=>?_)<;>simp only [h]<;>refine g ?_) | refine A9 (Px _ _) rfl (g ?_))
 all_goals (rw [<-hB,Bool.eq_iff_iff];simp [*];try omega)
set_option maxRecDepth 100000 in
theorem Uc (b:List Nat) (x:C1) (hx:Ca x=true) (hb:b.length<=700000000) (i1:I64 x.object) (i2:I64 x.stamp.node) (i3:I64 x.stamp.count):A7 Tryz.prog A8 228 [.iv (byI b),boA x] (.tup [.iv (byI (b++B10 x)),.val (.int .i64 0)]) []:=by
 refine A7.of (n:=23) (rs:=[.tmp 4,.tmp 5]) Tryz.func228 rfl (by kernel_rfl) Tryz.ntmps228 (by kernel_rfl) (by simp) (fun _ _=>A8.later) ?_
 intro hok V w0
 have hf:=Uf x
 rw [hx] at hf
 simp only [Ca,Bl,Bool.and_eq_true,decide_eq_true_eq] at hx
 have hw:=Kw b [x.object,x.stamp.node,x.stamp.count] (by simp;omega) (by simp) (by omega)
 have hl:=J3 [x.object,x.stamp.node,x.stamp.count]
 simp only [List.length_cons,List.length_nil] at hl
 have hr:=Bt1 (b++Gb [x.object,x.stamp.node,x.stamp.count]) x.value (by rw [List.length_append];omega) (by omega)
 refine g ?_
 refine AW.seq ?_
 refine AW.reg rfl fun KK hKK=>?_
 refine g ?_
 repeat' (refine hKK _ (g ?_);clear hKK KK)
 refine AW.freeze 400 _ rfl ⟨i1,i3,i2,trivial,trivial⟩ ?_
 simp only [go_sem,reduceIte,Nat.reduceEqDiff]
 refine g ?_
 repeat' (first | refine st_ rfl (g ?_) | refine A9 (hf) rfl (g ?_))
 refine AW.drawn (ds:=[9,10,11,12,13,14,15,16,17,18,19,20,21,22,4,5]) (fin:=[]) (bs:=[0,0,0,0,0,0,0,0,0,0,0,0,0,0,0,0]) [⟨[],[],[],[],0⟩,⟨[],[],[],[],0⟩,⟨[(10,1)],[],[],[],0⟩,⟨[],[],[],[],0⟩,⟨[(12,3)],[],[],[],0⟩,⟨[(13,4)],[],[],[],0⟩,⟨[],[],[],[],0⟩,⟨[(15,6)],[],[],[],0⟩,⟨[(16,7)],[],[],[],0⟩,⟨[(11,2),(14,5),(17,8)],[],[],[],0⟩,⟨[(9,0),(18,9)],[],[],[],0⟩,⟨[],[],[],[],0⟩,⟨[(20,11)],[],[],[],0⟩,⟨[(19,10),(21,12)],[],[],[],0⟩,⟨[(22,13)],[],[],[],0⟩,⟨[],[],[],[],0⟩] (by kernel_rfl) rfl (by kernel_rfl) rfl rfl rfl fun KD hKD=>?_
 refine g ?_
 refine E07 rfl i1 rfl i2 rfl i3 ?_
 refine g ?_
 repeat' (first | refine st_ rfl (g ?_) | (refine hKD _ _ ⟨rfl,g ?_⟩;clear hKD KD) | refine A9 (hw) rfl (g ?_) | refine A9 (hr) rfl (g ?_))
 rw [B10,List.append_assoc]
end Go.Proofs.YtblfjaedaijfoaaGreatDoor
