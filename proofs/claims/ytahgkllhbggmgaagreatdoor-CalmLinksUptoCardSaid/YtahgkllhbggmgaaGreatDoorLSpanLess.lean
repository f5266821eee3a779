/- A view that takes: which bodies stay, one told write at a time. Plain. -/
import Derived.Test.YtahgkllhbggmgaaGreatDoorLSubsCmp
import Derived.Test.YtahgkllhbggmgaaGreatDoorLRep
import Derived.Test.YtahgkllhbggmgaaGreatDoorLVec
import Derived.Test.YtahgkllhbggmgaaGreatDoorLPlace
import Derived.Test.YtahgkllhbggmgaaGreatDoorLRefThr
import Derived.Test.YtahgkllhbggmgaaGreatDoorLTouch
set_option linter.all false
set_option linter.unnecessarySimpa false
set_option linter.unusedSimpArgs false
set_option linter.unusedVariables false
namespace Go.Proofs.YtahgkllhbggmgaaGreatDoor
def InZ (l:List Bp) (o:Int) (v:List Ad):Prop:=∃ x∈l,x.span.lo<=o/\o<=x.span.hi/\x.vec=v
def Bn1 (out:List Bp) (x:Bp):List Bp :=
 match out.getLast? with
 | some y=>if y.span.hi+1=x.span.lo/\y.vec=x.vec then out.dropLast++[⟨⟨y.span.lo,x.span.hi⟩,y.vec⟩] else out++[x]
 | none=>out++[x]
def D12 (l:List Bp):List Bp:=l.foldl Bn1 []
structure Dm2 (s l:List Bp):Prop where
 formed:C4 none l=true
 mem:∀ o v,InZ l o v↔InZ s o v
 last:El l.getLast? = El s.getLast?
 len:l.length<=s.length
def E26 (s:List Bp):Prop:=s.Pairwise (fun x y=>x.span.hi < y.span.lo)/\∀ x∈s,0<=x.span.lo/\Fy x=true
def C48 (f:Nat->Option (List Ad)):Nat->List Bp
 | 0=>[]
 | n+1=>C48 f n++(match f n with | some v=>[⟨⟨(n:Nat),(n:Nat)⟩,v⟩] | none=>[])
def B01 (f:Nat->Option (List Ad)):List Bp:=D12 (C48 f 256)
-- what the document says, object by object
def Ae5 (v:List Ad) (n:Bz) (k:Nat):Int:=if A9 n.start k<=A9 v k then max (A9 v k) (A9 n.end_ k) else A9 v k
def Bc5 (v:List Ad) (n:Bz):List Ad:=Ji (Ae5 v n)
def Bh0 (v:List Ad) (n:Bz) (o:Int):List Ad:=match N8 n.writes o with
 | some w=>if H5 (Bc5 v n) w.stamp=true then Bc5 v n else v
 | none=>Bc5 v n
def A06 (z:List Bp) (known:List Ad) (n:Bz) (o:Nat):List Ad:=if Ba n.blur o=true then Jf z known o else Bh0 (Jf z known o) n o
def A18 (known:List Ad) (n:Bz):List Ad:=Dw [known,n.end_]
def Zm (z:List Bp) (known:List Ad) (n:Bz) (o:Nat):Option (List Ad):=if Bi (A06 z known n o) (A18 known n)=true then none else some (A06 z known n o)
def C78 (z:List Bp) (known:List Ad) (n:Bz):Bool:=Cw z&&B7 known&&Bt n
def Uu (z:List Bp) (known:List Ad) (n:Bz):List Bp×List Ad×Int :=
 if C78 z known n=true then (if Bi known n.start=true then (B01 (Zm z known n),A18 known n,0) else ([],[],3)) else ([],[],1)
-- what the program does, piece by piece
def U8 (a b:List Ah):List Ah:=Gb fun o=>Ba a o&&!Ba b o
def Bh6 (far:List Ad) (s:List Ah) (w:Ar):List Ah:=if H5 far w.stamp=true then s else Cb (s++Cb (D50 [w.object]))
def Bh5 (n:Bz) (far:List Ad):List Ah:=n.writes.foldl (Bh6 far) n.blur
def D51 (now:List Ad) (l:List Ah) (v:List Ad):List Bp:=if Bi v now=true then [] else l.map fun s=>⟨s,v⟩
def Ca4 (n:Bz) (now:List Ad) (x:Bp):List Bp:=D51 now (Hc [x.span] (Bh5 n (Bc5 x.vec n))) x.vec++D51 now (U8 [x.span] (Bh5 n (Bc5 x.vec n))) (Bc5 x.vec n)
def E01 (n:Bz) (now:List Ad) (l:List Bp):List Bp:=l.flatMap (Ca4 n now)
def Off (x y:Bp):Prop:=x.span.hi < y.span.lo\/y.span.hi < x.span.lo
end Go.Proofs.YtahgkllhbggmgaaGreatDoor
namespace Go.Proofs.YtahgkllhbggmgaaGreatDoor
open Go.ChangeShapes Go.WideShapes Go.ChangeAt Go.RowKit
def orI (a b:Int):Int:=if a=0 then b else a
def Dw7 (a b c d:Int):Int:=orI (Vu a c) (Vu b d)
def nxV (c n s:Int):Value :=
 if c < 0\/n < 0\/64<=n\/s < 0 then .tuple #[.agg #[.int .i64 0,.int .i64 0],.int .i64 1]
 else if 9223372036854775807 - c<=s then .tuple #[.agg #[.int .i64 0,.int .i64 0],.int .i64 2]
 else .tuple #[.agg #[.int .i64 (c+s+1),.int .i64 n],.int .i64 0]
end Go.Proofs.YtahgkllhbggmgaaGreatDoor
namespace Go.Proofs.YtahgkllhbggmgaaGreatDoor
def Bl7 (u w:Ar):Bool:=decide (Dw7 u.stamp.count u.stamp.node w.stamp.count w.stamp.node < 0)
def E32 (u:Option Ar) (w:Ar):Ar:=match u with
 | none=>w
 | some u=>if Bl7 u w=true then w else u
def Bv8 (l:List Ar) (w:Ar):List Ar:=match N8 l w.object with
 | none=>l.take (My l w.object)++w :: l.drop (My l w.object)
 | some u=>if Bl7 u w=true then l.set (My l w.object) w else l
def Ca2 (l list:List Ar):List Ar:=list.foldl Bv8 l
def E33 (l list:List Ar):List Ar×Int:=if Cd l=true/\list.all J7=true then (Ca2 l list,0) else ([],1)
-- shelves as sorted lists
def Shelf (l:List Ar):Prop:=l.Pairwise (fun a b=>a.object < b.object)/\∀ w∈l,J7 w=true
def Bu8 (f:Nat->Option Ar):Nat->List Ar
 | 0=>[]
 | n+1=>Bu8 f n++(f n).toList
-- views that take
def Pd:E8:=⟨[],[],[],[],0⟩
def C25 (z:List Bp) (k:List Ad) (n:Bz):List Ar:=n.writes.filter fun w=>Gj z k w
def Uv (v:E8) (n:Bz):E8×Int :=
  if At v=true then
    (if (Uu v.zones v.known n).2.2=0 then
      (⟨(Uu v.zones v.known n).2.1,(Uu v.zones v.known n).1,Ca2 v.held (C25 (Uu v.zones v.known n).1 (Uu v.zones v.known n).2.1 n),v.bodies.filter (fun x=>Fb (Ca2 v.held (C25 (Uu v.zones v.known n).1 (Uu v.zones v.known n).2.1 n)) x),v.room⟩,0)
     else (Pd,(Uu v.zones v.known n).2.2))
  else (Pd,1)
-- shelves
def B03 (l:List Ar) (set:List Ah):List Ar:=l.filter fun w=>Eb set w.object
def Da2 (l:List Ar) (set:List Ah):List Ar×Int:=if Cd l=true then (B03 l set,0) else ([],1)
-- caches
def isB (o:Int) (s:Ad) (x:Cr):Bool:=decide (x.object=o)&&decide (x.stamp=s)
def Bc2 (l:List Cr) (o:Int) (s:Ad):List Nat×Int:=match l.find? (isB o s) with
 | some x=>(x.value,0)
 | none=>([],10)
def B36 (l:List Cr) (o:Int):List Cr:=l.filter fun x=>!decide (x.object=o)
def Cc0 (room:Int):List Cr->List Cr
 | []=>[]
 | x :: l=>if (Ni (x :: l):Int)<=room then x :: l else Cc0 room l
def E35 (l:List Cr) (room:Int) (x:Cr):List Cr×Int:=if Dc l room=true/\Da x=true then (Cc0 room (B36 l x.object++[x]),0) else ([],1)
-- views
def Bl8 (room:Int):E8×Int:=if P0 room=true then (⟨[],[],[],[],room⟩,0) else (Pd,1)
def Br3 (v:E8) (x:Cr):E8×Int :=
 if At v=true/\Da x=true then
  (if Fb v.held x=true then (⟨v.known,v.zones,v.held,Cc0 v.room (B36 v.bodies x.object++[x]),v.room⟩,0) else (Pd,13))
 else (Pd,1)
def E07 (v:E8) (o:Int):List Nat×Ar×Int :=
 if At v=true/\Jt o=true then
  (if Eb (T9 v.zones) o=true then ([],noW,9) else
   match N8 v.held o with
   | none=>([],noW,8)
   | some w=>if w.gone=true then ([],w,0) else ((Bc2 v.bodies o w.stamp).1,w,(Bc2 v.bodies o w.stamp).2))
 else ([],noW,1)
def A79:Cr:=⟨0,⟨0,0⟩,[]⟩
def Ds3 (v:E8) (o:Int):Cr×Int :=
 if At v=true/\Jt o=true then
  (match N8 v.held o with
   | none=>(A79,8)
   | some w=>if w.gone=true then (A79,13) else (if (Bc2 v.bodies o w.stamp).2=0 then (⟨o,w.stamp,(Bc2 v.bodies o w.stamp).1⟩,0) else (A79,(Bc2 v.bodies o w.stamp).2)))
 else (A79,1)
def Ku (c n s:Int):Ad×Int :=
 if c < 0\/n < 0\/64<=n\/s < 0 then (⟨0,0⟩,1)
 else if 9223372036854775807 - c<=s then (⟨0,0⟩,2)
 else (⟨c+s+1,n⟩,0)
def Gq (l:List Ad):Int:=(Cp (Ep l) 64).foldl (fun m k=>max m (A9 l (k:Nat))) 0
def ofN (known:List Ad) (w:Ar):Bz×Int :=
 if B7 known=true/\Bj w.stamp.count w.stamp.node=true/\Jt w.object=true/\H5 known w.stamp=false then (⟨known,Dw [known,[w.stamp]],[],[w]⟩,0) else (Av9,1)
structure Cg0 where
 view:E8
 note:Bz
 err:Int
def Xv (e:Int):Cg0:=⟨Pd,Av9,e⟩
def Dm4 (v : E8) (me object skip : Int) (value : List Nat) (gone : Bool) : Cg0 :=
  if At v = true /\ Jt object = true /\ value.length <= 256 /\ (gone && decide (0 < value.length)) = false then
    (if (Ku (Gq v.known) me skip).2 = 0 then
      (if (ofN v.known ⟨(Ku (Gq v.known) me skip).1, object, gone⟩).2 = 0 then
        (if (Uv v (ofN v.known ⟨(Ku (Gq v.known) me skip).1, object, gone⟩).1).2 = 0 then
          (if gone = true then ⟨(Uv v (ofN v.known ⟨(Ku (Gq v.known) me skip).1, object, gone⟩).1).1, (ofN v.known ⟨(Ku (Gq v.known) me skip).1, object, gone⟩).1, 0⟩
           else (if (Br3 (Uv v (ofN v.known ⟨(Ku (Gq v.known) me skip).1, object, gone⟩).1).1 ⟨object, (Ku (Gq v.known) me skip).1, value⟩).2 = 0 then
              ⟨(Br3 (Uv v (ofN v.known ⟨(Ku (Gq v.known) me skip).1, object, gone⟩).1).1 ⟨object, (Ku (Gq v.known) me skip).1, value⟩).1, (ofN v.known ⟨(Ku (Gq v.known) me skip).1, object, gone⟩).1, 0⟩
            else Xv (Br3 (Uv v (ofN v.known ⟨(Ku (Gq v.known) me skip).1, object, gone⟩).1).1 ⟨object, (Ku (Gq v.known) me skip).1, value⟩).2))
         else Xv (Uv v (ofN v.known ⟨(Ku (Gq v.known) me skip).1, object, gone⟩).1).2)
       else Xv (ofN v.known ⟨(Ku (Gq v.known) me skip).1, object, gone⟩).2)
     else Xv (Ku (Gq v.known) me skip).2)
  else Xv 1
end Go.Proofs.YtahgkllhbggmgaaGreatDoor
namespace Go.Proofs.YtahgkllhbggmgaaGreatDoor
open Go.ChangeShapes Go.WideShapes Go.ChangeAt Go.RowKit
attribute [local irreducible] AW AWY Be As vop Az Aq Ax qop Bd Bv Aj Ag Ay A7 Aw
attribute [local go_sem] Ch Cf Ae Af
end Go.Proofs.YtahgkllhbggmgaaGreatDoor
namespace Go.Proofs.YtahgkllhbggmgaaGreatDoor
open Go.ChangeShapes Go.WideShapes Go.ChangeAt Go.RowKit
attribute [local irreducible] AW AWY Be As vop Az Aq Ax qop Bd Bv Aj Ag Ay A7 Aw
attribute [local go_sem] Ae Af
theorem Vo (l:List Ah):spI l=.sl 2 (l.map Po):=rfl
attribute [local go_sem] Vo B42
def Ax7 (n:Int) (s:Ah):List Ah:=if n < s.lo then [⟨n,s.lo - 1⟩] else []
def Fv (n:Int):List Ah->List Ah×Int
 | []=>([],n)
 | s :: l=>(Ax7 n s++(Fv (s.hi+1) l).1,(Fv (s.hi+1) l).2)
theorem Xd:∀ (l:List Ah) (n:Int) (s:Ah),Fv n (l++[s])=((Fv n l).1++Ax7 (Fv n l).2 s,s.hi+1)
 | [],n,s=>by simp [Fv]
 | t :: l,n,s=>by rw [List.cons_append,Fv,Xd l];simp [Fv]
def B11 (n:Int):List Ah:=if n<=255 then [⟨n,255⟩] else []
theorem A01:∀ (l:List Ah) (n:Int),P1 n l=(Fv n l).1++B11 (Fv n l).2
 | [],n=>by rw [P1,Fv,B11,List.nil_append]
 | s :: l,n=>by rw [P1,Fv,A01 l];simp [Ax7]
theorem A00:∀ (l:List Ah) (n:Int),(Fv n l).1.length<=l.length
 | [],n=>Nat.le_refl _
 | s :: l,n=>by
  have:=A00 l (s.hi+1)
  have h2:(Ax7 n s).length<=1:=by unfold Ax7;split<;>simp
  rw [Fv,List.length_append,List.length_cons]
  omega
def Zy (l:List Ah):List Ah:=Gb fun o=>!Ba l o
set_option maxRecDepth 100000 in
set_option maxHeartbeats 800000 in
theorem Ar2 (l:List Ah):A7 Tryz.prog A8 99 [.iv (spI l)] (.iv (spI (Zy l))) []:=by
 refine A7.ofS (n:=38) (rs:=[.tmp 2]) Tryz.func99 rfl (by kernel_rfl) Tryz.ntmps99 (by kernel_rfl) (by simp) (fun _ _=>A8.later) ?_
 intro hok V w0
 obtain ⟨T,hT⟩ : ∃ T,Cb l=T:=⟨_,rfl⟩
 have hin:∀ s∈T,0<=s.lo/\s.lo<=s.hi/\s.hi<=255:=fun s hs=>by
  have:=L3 (e:=-2) (by rw [<-hT];exact Ck _) s hs
  omega
 have hTl:T.length<=128:=by rw [<-hT];exact Tz _
 have hres:Zy l=(Fv 0 T).1++B11 (Fv 0 T).2:=by rw [<-A01,<-hT,At2];rfl
 have hst:=Ar0 l
 rw [hT] at hst
 rw [hres]
 refine g ?_
 repeat' (first | refine st_ rfl (g ?_) | refine Aa (hst) rfl (g ?_))
 refine AW.adopt 3 9900 89 2 rfl rfl ?_
 refine AW.loop (fun m:{m:Nat // m<=T.length/\0<=(Fv 0 (T.take m)).2/\(Fv 0 (T.take m)).2<=256}=>⟨[(3,.own 9900),(4,.val (.int .i64 (Fv 0 (T.take m.1)).2)),(8,.iv (spI T)),(9,.val (.int .i64 (T.length:Nat))),(10,.val (.int .i64 (m.1:Nat)))],[.row 9900 89 2 ((Fv 0 (T.take m.1)).1.map Po)]⟩) (fun m=>T.length - m.1) ⟨0,Nat.zero_le _,by simp [Fv],by simp [Fv]⟩ id ⟨⟨rfl,rfl,rfl,?_,rfl,trivial⟩,⟨rfl,trivial⟩,by simp [Bw,BA.id]⟩ fun ⟨m,hm,h0,h1⟩=>?_
 ·simp [AV.ren,look]
 simp only
 have hl1:=A00 (T.take m) 0
 rw [List.length_take] at hl1
 obtain ⟨fr,hfr⟩ : ∃ fr,(Fv 0 (T.take m)).2=fr:=⟨_,rfl⟩
 obtain ⟨O,hO⟩ : ∃ O,(Fv 0 (T.take m)).1=O:=⟨_,rfl⟩
 simp only [hfr,hO] at h0 h1 hl1 ⊢
 repeat (refine AW.seq ?_)
 refine AW.reg rfl fun KK hKK=>?_
 refine g ?_
 repeat' (refine hKK _ (g ?_);clear hKK KK)
 repeat (refine AW.seq ?_)
 refine st_ rfl ?_
 refine g ?_
 refine De (fun h=>?_) (fun h=>?_)
 ·have hlt:m < T.length:=by have:=of_decide_eq_true h;omega
  obtain ⟨x,hx⟩ : ∃ x,T[m]=x:=⟨_,rfl⟩
  have hi:=hin x (hx ▸ List.getElem_mem hlt)
  have hget:=Dl (f:=Po) (List.getElem?_eq_getElem hlt)
  have hs:=Xd (T.take m) 0 T[m]
  rw [<-List.take_succ_eq_append_getElem hlt,hfr,hO] at hs
  rw [hx] at hs hget
  have w1:I64 x.lo:=I64.of (by omega) (by omega)
  have w2:I64 x.hi:=I64.of (by omega) (by omega)
  have w3:I64 fr:=I64.of (by omega) (by omega)
  have w4:I64 (x.lo - 1):=I64.of (by omega) (by omega)
  refine g ?_
  repeat' refine st_ rfl (g ?_)
  refine ⟨by omega,_,hget,?_⟩
  refine g ?_
  repeat' (first | refine st_ rfl (g ?_) | refine B9 (g ?_) | refine Al (fun h=>g ?_) (fun h=>g ?_))
  ·refine bs1 (by omega) rfl rfl rfl ⟨w3,w4,trivial⟩ ?_
   refine g ?_
   refine Nf rfl (by kernel_rfl) (by omega) (by kernel_rfl) rfl (by simp;omega) ?_
   refine g ?_
   repeat' refine st_ rfl (g ?_)
   refine ⟨⟨m+1,hlt,by rw [hs];show 0<=x.hi+1;omega,by rw [hs];show x.hi+1<=256;omega⟩,fun b=>if b=9900 then 2600 else b,⟨⟨rfl,by rw [hs];rfl,rfl,rfl,rfl,trivial⟩,⟨?_,trivial⟩,by simp [Bw,BA.id]⟩,by show T.length - (m+1) < T.length - m;omega⟩
   rw [hs,Ax7,if_pos h,List.map_append]
   rfl
  ·refine ⟨⟨m+1,hlt,by rw [hs];show 0<=x.hi+1;omega,by rw [hs];show x.hi+1<=256;omega⟩,id,⟨⟨rfl,by rw [hs];rfl,rfl,rfl,rfl,trivial⟩,⟨?_,trivial⟩,by simp [Bw,BA.id]⟩,by show T.length - (m+1) < T.length - m;omega⟩
   rw [hs,Ax7,if_neg h,List.append_nil]
   rfl
 ·obtain rfl:m=T.length:=by have:=of_decide_eq_false h;omega
  rw [List.take_length] at hfr hO
  have w3:I64 fr:=I64.of (by omega) (by omega)
  refine AW.exit ?_
  simp only [reduceIte,hfr,hO]
  unfold B11
  repeat (refine AW.seq ?_)
  refine AW.reg rfl fun KK hKK=>?_
  refine g ?_
  repeat' (refine hKK _ (g ?_);clear hKK KK)
  repeat (refine AW.seq ?_)
  refine st_ rfl ?_
  refine g ?_
  refine Al (fun h=>?_) (fun h=>?_)
  ·rw [if_pos h]
   refine g ?_
   repeat' refine st_ rfl (g ?_)
   refine bs1 (by omega) rfl rfl rfl ⟨w3,rfl,trivial⟩ ?_
   refine g ?_
   refine Nf rfl (by kernel_rfl) (by omega) (by kernel_rfl) rfl (by simp;omega) ?_
   refine g ?_
   refine AW.freeze 3700 _ rfl trivial ?_
   simp only [go_sem,reduceIte,Nat.reduceEqDiff]
   refine g ?_
   repeat' refine st_ rfl (g ?_)
   rw [List.map_append]
   exact Hm.rfl_ _
  ·rw [if_neg h,List.append_nil]
   refine AW.freeze 9900 _ rfl trivial ?_
   simp only [go_sem,reduceIte,Nat.reduceEqDiff]
   refine g ?_
   repeat' refine st_ rfl (g ?_)
   exact Hm.rfl_ _
end Go.Proofs.YtahgkllhbggmgaaGreatDoor
namespace Go.Proofs.YtahgkllhbggmgaaGreatDoor
def E02 (H:List Ar) (t:List Ar) (l:List Cr):List Cr:=l.filter fun x=>Fb H x || !t.any fun w=>decide (x.object=w.object)
end Go.Proofs.YtahgkllhbggmgaaGreatDoor
