/- Clusters: what is formed, in plain words. -/
import Derived.Test.YtahgkllhbggmgaaGreatDoorLClone
import Derived.Test.YtahgkllhbggmgaaGreatDoorLCacheForm
import Derived.Test.YtahgkllhbggmgaaGreatDoorProg
import Derived.Shelf.Spec.SlicesGrow
import Derived.KernelRfl
import Derived.Test.YtahgkllhbggmgaaGreatDoorLTurnRow
import Derived.Test.YtahgkllhbggmgaaGreatDoorLNdLaid
import Derived.Test.YtahgkllhbggmgaaGreatDoorLSubsCmp
import Derived.Test.YtahgkllhbggmgaaGreatDoorLSubsForm
import Derived.Test.YtahgkllhbggmgaaGreatDoorLSpanLess
import Derived.Test.YtahgkllhbggmgaaGreatDoorLOuts
import Derived.Test.YtahgkllhbggmgaaGreatDoorLStreamArgs
import Derived.Test.YtahgkllhbggmgaaGreatDoorLPlace
import Derived.Test.YtahgkllhbggmgaaGreatDoorLSortWorld
set_option linter.all false
set_option linter.unnecessarySimpa false
set_option linter.unusedSimpArgs false
set_option linter.unusedVariables false
namespace Go.Proofs.YtahgkllhbggmgaaGreatDoor
open Go.ChangeShapes Go.WideShapes Go.ChangeAt Go.RowKit
end Go.Proofs.YtahgkllhbggmgaaGreatDoor
namespace Go.Proofs.YtahgkllhbggmgaaGreatDoor
def Pj:Go.Shelf.Ren:=⟨fun | 4=>369 | n=>n,fun | 0=>0 | 3=>3 | 4=>4 | 9=>9 | 20=>20 | 22=>44 | 25=>5 | n=>n,fun n=>n⟩
theorem A96:Go.Proofs.Lays8.n4 Tryz.prog Pj:={
 mixed:=by kernel_rfl
 f4:=⟨Tryz.f369.name,by decide,Tryz.func369.trans (congrArg some (by kernel_rfl))⟩
 t0:=Tryz.underlying0
 a0:=Tryz.isAgg0
 z0:=Tryz.sizeOf0
 v0:=Tryz.zeroValue0
 t3:=Tryz.underlying3
 a3:=Tryz.isAgg3
 z3:=Tryz.sizeOf3
 v3:=Tryz.zeroValue3
 t4:=Tryz.underlying4
 a4:=Tryz.isAgg4
 z4:=Tryz.sizeOf4
 v4:=Tryz.zeroValue4
 t9:=Tryz.underlying9
 a9:=Tryz.isAgg9
 z9:=Tryz.sizeOf9
 v9:=Tryz.zeroValue9
 t20:=Tryz.underlying20
 a20:=Tryz.isAgg20
 z20:=Tryz.sizeOf20
 v20:=Tryz.zeroValue20
 t22:=Tryz.underlying44
 a22:=Tryz.isAgg44
 z22:=Tryz.sizeOf44
 v22:=Tryz.zeroValue44 }
end Go.Proofs.YtahgkllhbggmgaaGreatDoor
namespace Go.Proofs.YtahgkllhbggmgaaGreatDoor
open Go.ChangeShapes Go.WideShapes Go.ChangeAt Go.RowKit
def byC (b:Nat):List IV:=[.val (.int .u8 (b:Int))]
theorem Bq7 (l:List Nat):byI l=.sl 1 (l.map byC):=rfl
attribute [local irreducible] AW AWY Be As vop Az Aq Ax qop Bd Bv Aj Ag Ay A7 Aw
attribute [local go_sem] Bq7 Ae Af
structure E47 (n:Nat) where
 done:List Nat
 m:Nat
 j:Nat
 h:Bw6 8 n=done++Bw6 j m
 hm:m < 128 ^ (j+1)
 hj:done.length+j=8
theorem Bn2 (l:List Int):inI l=.sl 1 (l.map fun n=>[.val (.int .i64 n)]):=rfl
attribute [local go_sem] Bn2
end Go.Proofs.YtahgkllhbggmgaaGreatDoor
namespace Go.Proofs.YtahgkllhbggmgaaGreatDoor
open Go.ChangeShapes Go.WideShapes Go.ChangeAt Go.RowKit
structure B55 where
 kind:Int
 note:Bz
 body:Cr
 from_:Int
 interest:List Ah
 view:E8
 subs:List Sub
def B50 (x:Cr):Bool:=decide (x.object=0)&&decide (x.stamp=⟨0,0⟩)&&decide (x.value=[])
def Ay4 (n:Bz):Bool:=decide (n.start=[])&&decide (n.end_=[])&&decide (n.blur=[])&&decide (n.writes=[])
def Cf3 (v:E8):Bool:=decide (v.known=[])&&decide (v.zones=[])&&decide (v.held=[])&&decide (v.bodies=[])&&decide (v.room=0)
def C85 (e:Int) (s:Sub):Bool:=decide (e < s.from_)&&decide (s.from_ < 64)&&decide (0 < s.interest.length)&&C1 s.interest&&decide (s.session=0)&&decide (s.seq=0)&&!s.live&&!s.heard&&!s.idle
def Bi2:Int->List Sub->Bool
 | _,[]=>true
 | e,s :: l=>C85 e s&&Bi2 s.from_ l
def C84 (l:List Sub):Bool:=Bi2 (-1) l&&decide (l.length<=16)
def Vf (x:B55):Bool :=
 let sub:=decide (x.from_≠0) || decide (0 < x.interest.length)
 let check:=!Cf3 x.view || decide (0 < x.subs.length)
 if x.kind=1 then Bt x.note&&B50 x.body&&!sub&&!check
 else if x.kind=2 then Ay4 x.note&&Gt x.body&&!sub&&!check
 else if x.kind=3 then (match x.note.writes with
  | [w]=>!sub&&!check&&Bt x.note&&(w.gone&&B50 x.body || !w.gone&&Gt x.body&&decide (x.body.object=w.object)&&decide (x.body.stamp=w.stamp))
  | _=>false)
 else if x.kind=4 then Ay4 x.note&&B50 x.body&&!check&&decide (0<=x.from_)&&decide (x.from_ < 64)&&C1 x.interest
 else if x.kind=5 then Ay4 x.note&&B50 x.body&&!sub&&At x.view&&C84 x.subs
 else false
def Co6 (z:Bp):List Nat:=Xr [z.span.lo,z.span.hi]++Bt9 z.vec
def Cq4 (v:E8):List Nat:=Bt9 v.known++(Vr v.zones.length++v.zones.flatMap Co6)++B02 v.held++(Vr v.bodies.length++v.bodies.flatMap Br2)++Vr v.room.toNat
def Dr2 (s:Sub):List Nat:=Vr s.from_.toNat++C91 s.interest
def Bo4 (x:B55):List Nat :=
 Vr x.kind.toNat ++
 if x.kind=1 then C32 x.note
 else if x.kind=2 then Br2 x.body
 else if x.kind=3 then C32 x.note++(if (x.note.writes.headD noW).gone=true then [] else Br2 x.body)
 else if x.kind=4 then Vr x.from_.toNat++C91 x.interest
 else if x.kind=5 then Cq4 x.view++(Vr x.subs.length++x.subs.flatMap Dr2)
 else []
def E18 (x:B55):List Nat×Int:=if Vf x=true then (Bo4 x,0) else ([],1)
structure Es where
 me:Int
 view:E8
 log:Log
 outs:List Out
 subs:List Sub
 tries:Int
 queue:List Msg
 disk:Jw
 down:Bool
def B29:Log:=⟨[],[],0⟩
def Ca8:Es:=⟨0,Pd,B29,[],[],0,[],Pe,false⟩
def ndC (n:Es):List AV:=[.val (.int .i64 n.me),.iv (stI n.view.known),.iv (znI n.view.zones),.iv (wrI n.view.held),.iv (boI n.view.bodies),.val (.int .i64 n.view.room),.iv (stI n.log.base),.iv (noI n.log.notes),.val (.int .i64 n.log.sure),.iv (ouI n.outs),.iv (J2 n.subs),.val (.int .i64 n.tries),.iv (msI n.queue),.val (.int .i64 n.disk.room),.iv (flI n.disk.files),.val (.bool n.down)]
def ndA (n:Es):AV:=.agg (ndC n)
theorem Lt (n:Es):ndC n=[.val (.int .i64 n.me),.iv (stI n.view.known),.iv (znI n.view.zones),.iv (wrI n.view.held),.iv (boI n.view.bodies),.val (.int .i64 n.view.room),.iv (stI n.log.base),.iv (noI n.log.notes),.val (.int .i64 n.log.sure),.iv (ouI n.outs),.iv (J2 n.subs),.val (.int .i64 n.tries),.iv (msI n.queue),.val (.int .i64 n.disk.room),.iv (flI n.disk.files),.val (.bool n.down)]:=rfl
theorem Pf (n:Es):ndA n=.agg (ndC n):=rfl
def B67 (n:Es):Bool:=decide (0<=n.me/\n.me < 64)&&decide (0<=n.tries/\n.tries < 1099511627776)&&C0 n.disk&&decide (n.queue.length<=4096)
def Vg (n:Es):Bool:=decide (n.view.known=[]/\n.view.zones=[]/\n.view.held=[]/\n.view.bodies=[]/\n.log.base=[]/\n.log.notes=[]/\n.outs=[]/\n.subs=[]/\n.queue=[]/\n.tries=0/\n.log.sure=0)&&P0 n.view.room
def Y2 (l:Log):List Ad:=if C6 l=true then B4 l.base l.notes else []
def Sq (me:Int) (m:Msg):Bool:=decide (m.from_=me)&&Cs m
def Ad5 (n:Es):Bool:=At n.view&&C6 n.log&&decide (Y2 n.log=n.view.known)&&Fc n.log.notes.length n.outs&&D6 n.subs&&n.outs.all (fun x=>!decide (x.to_=n.me))&&n.queue.all (Sq n.me)&&n.subs.all (fun s=>!decide (s.from_=n.me))
def Bf (n:Es):Bool:=B67 n&&if n.down=true then Vg n else Ad5 n
def upE (n:Es):Int:=if Bf n=true then (if n.down=true then 11 else 0) else 1
def E37 (me room bodies:Int):Es×Int:=if P0 bodies=true/\(0<=me/\me < 64)/\(0<=room/\room<=16777216) then (⟨me,⟨[],[],[],[],bodies⟩,B29,[],[],0,[],⟨room,[]⟩,false⟩,0) else (Ca8,1)
def Dk9 (l:Log) (n:Bz):Log×Int:=if C6 l=true/\Bt n=true then (if Bi (B4 l.base l.notes) n.start=true then (⟨l.base,l.notes++[n],l.sure⟩,0) else (B29,3)) else (B29,1)
def E34 (d:Jw) (x:B55):Jw×Int:=if Vf x=true then (match C09 d (Bo4 x) with | (d',0)=>(d',0) | (_,e)=>(d,e)) else (d,1)
attribute [local irreducible] AW AWY Be As vop Az Aq Ax qop Bd Bv Aj Ag Ay A7 Aw
attribute [local go_sem] Dp Uh N9 Na Ae Af
theorem Cb4 {i n:Nat} {K:Prop} (h:i < n) (hk:K):0<=(i:Int)/\i < n/\D0 K:=⟨by omega,h,B9 hk⟩
theorem By0 {l:List (List IV)} {i:Nat} {cs:List IV} {K:List IV->Prop} (h:l[i]? = some cs) (hk:K cs):∃ cs,l[i]? = some cs/\D0 (K cs):=⟨cs,h,B9 hk⟩
theorem C37 {l:List Hr} (h:AV.okd (.iv (flI l))) {m:Nat} (hm:m < l.length):I64 l[m].number/\I64 l[m].sure/\l[m].bytes.length<=1073741824:=by
 obtain ⟨-,o1,o2,o3,-⟩:=Q7 (by simpa [flI] using h.2) (enF l[m]) (List.mem_map_of_mem (List.getElem_mem hm))
 exact ⟨o1,o3,by simpa [byI] using o2.1⟩
set_option maxRecDepth 100000 in
set_option maxHeartbeats 1600000 in
theorem Ay9 (d:Jw) (iR:I64 d.room):A7 Tryz.prog A8 59 [dkA d] (.val (.bool (C0 d))) []:=by
 refine A7.of (n:=62) (rs:=[.tmp 2]) Tryz.func59 rfl (by kernel_rfl) Tryz.ntmps59 (by kernel_rfl) (by simp) (fun _ _=>A8.later) ?_
 intro hok V w0
 have hfl:AV.okd (.iv (flI d.files)):=hok.1.2.1
 have hlen:d.files.length<=1073741824:=by simpa [flI] using hfl.1
 obtain ⟨B,hB⟩ : ∃ B,C0 d=B:=⟨_,rfl⟩
 rw [hB]
 refine g ?_
 refine AW.seq ?_
 refine AW.reg rfl fun KK hKK=>?_
 refine g ?_
 repeat' (refine hKK _ (g ?_);clear hKK KK)
 refine AW.freeze 200 _ rfl ⟨iR,trivial,trivial⟩ ?_
 simp only [go_sem,reduceIte,Nat.reduceEqDiff]
 refine g ?_
 repeat' (first | refine st_ rfl (g ?_) | refine Al (fun h=>g ?_) (fun h=>g ?_) | (refine B8 rfl rfl (fun h e=>?_) (fun h e=>?_)<;>simp only [e]<;>clear e<;>refine g ?_))
 ·rw [<-hB];simp [C0];intros;omega
 ·rw [<-hB];simp [C0];intros;omega
 have hR:0<=d.room/\d.room<=16777216:=by omega
 have hBF:B=Er d.room 0 (-1) d.files:=by rw [<-hB];simp [C0,hR]
 clear hB
 refine AW.loop (fun m:{m:Nat // m<=d.files.length/\Er d.room 0 (-1) (d.files.take m)=true}=>⟨[(1,.ip [.val (.int .i64 d.room),flI d.files]),(3,.val (.int .i64 (K6 (d.files.take m.1):Nat))),(4,.val (.int .i64 (Gx (-1) (d.files.take m.1)))),(16,.iv (flI d.files)),(17,.val (.int .i64 (d.files.length:Nat))),(18,.val (.int .i64 (m.1:Nat)))],[]⟩) (fun m=>d.files.length - m.1) ⟨0,Nat.zero_le _,rfl⟩ id ⟨⟨rfl,rfl,rfl,rfl,rfl,rfl,trivial⟩,trivial,List.nodup_nil⟩ fun ⟨m,hm,ht⟩=>?_
 simp only
 have hsum:=Ru hR.1 (u:=0) (by omega) ht
 repeat (refine AW.seq ?_)
 refine AW.reg rfl fun KK hKK=>?_
 refine g ?_
 repeat' (refine hKK _ (g ?_);clear hKK KK)
 repeat (refine AW.seq ?_)
 refine st_ rfl ?_
 refine g ?_
 refine Al (fun h=>?_) (fun h=>?_)
 ·have hlt:m < d.files.length:=by omega
  obtain ⟨i1,i2,i3⟩:=C37 hfl hlt
  have hat:=Am6 hlt ht
  rw [<-hBF] at hat
  have hN:Ve d.room (K6 (d.files.take m)) (Gx (-1) (d.files.take m)) d.files[m]=false->false=B:=fun h=>by rw [hat,h];rfl
  refine st_ rfl (g ?_)
  refine g ?_
  repeat' (first | refine st_ rfl (g ?_) | refine Al (fun h=>g ?_) (fun h=>g ?_) | (refine B8 rfl rfl (fun h e=>?_) (fun h e=>?_)<;>simp only [e]<;>clear e<;>refine g ?_) | refine ix_ (by omega) (g ?_))
  ·exact hN (decide_eq_false (by omega))
  ·exact hN (decide_eq_false (by omega))
  ·exact hN (decide_eq_false (by omega))
  ·exact hN (decide_eq_false (by omega))
  ·exact hN (decide_eq_false (by omega))
  obtain ⟨g1,g2,g3⟩:=Yb hlt ht (decide_eq_true (by omega))
  refine AW.drawn (ds:=[54,55,56,57,58,59,60,3,4]) (fin:=[0]) (bs:=[1,1,1,1,1,1,1,1,1]) [⟨[],[3],[],[],0⟩,⟨[],[],[],[],0⟩,⟨[(55,1)],[],[0],[],0⟩,⟨[(56,2)],[],[0],[],0⟩,⟨[(54,0),(57,3)],[],[],[],0⟩,⟨[],[],[],[],0⟩,⟨[(59,5)],[],[0],[],0⟩,⟨[(58,4)],[],[],[],0⟩,⟨[(60,6)],[],[],[],0⟩] (by kernel_rfl) rfl (by kernel_rfl) rfl rfl rfl fun KD hKD=>?_
  refine g ?_
  simp only [Aw5,List.contains_cons,List.contains_nil,Nat.reduceBEq,Bool.or_false,Bool.false_eq_true,reduceIte,Ba8,List.cons_append,List.nil_append]
  refine g ?_
  repeat' (first | refine st_ rfl (g ?_) | (refine hKD _ _ ⟨rfl,g ?_⟩;clear hKD KD))
  exact ⟨⟨m+1,by omega,g1⟩,id,⟨⟨rfl,by rw [g2];rfl,by rw [g3];rfl,rfl,rfl,rfl,trivial⟩,trivial,List.nodup_nil⟩,by show d.files.length - (m+1) < d.files.length - m;omega⟩
 ·refine AW.exit ?_
  simp only [reduceIte]
  refine g ?_
  repeat' refine st_ rfl (g ?_)
  rw [List.take_of_length_le (by omega)] at ht
  rw [hBF,ht]
end Go.Proofs.YtahgkllhbggmgaaGreatDoor
namespace Go.Proofs.YtahgkllhbggmgaaGreatDoor
open Go.ChangeShapes Go.WideShapes Go.ChangeAt Go.RowKit
structure Pkt where
 from_:Int
 to_:Int
 sent:List Nat
 here:List Nat
 deriving DecidableEq
structure Clu where
 nodes:List Es
 net:List Pkt
def Bo5 (p:Pkt):List IV:=[.val (.int .i64 p.from_),.val (.int .i64 p.to_),byI p.sent,byI p.here]
def pkI (l:List Pkt):IV:=.sl 4 (l.map Bo5)
def Bc7 (n:Es):List IV:=[.val (.int .i64 n.me),stI n.view.known,znI n.view.zones,wrI n.view.held,boI n.view.bodies,.val (.int .i64 n.view.room),stI n.log.base,noI n.log.notes,.val (.int .i64 n.log.sure),ouI n.outs,J2 n.subs,.val (.int .i64 n.tries),msI n.queue,.val (.int .i64 n.disk.room),flI n.disk.files,.val (.bool n.down)]
def ndI (l:List Es):IV:=.sl 16 (l.map Bc7)
def clC (c:Clu):List AV:=[.iv (ndI c.nodes),.iv (pkI c.net)]
def clA (c:Clu):AV:=.agg (clC c)
def pkA (p:Pkt):AV:=.agg [.val (.int .i64 p.from_),.val (.int .i64 p.to_),.iv (byI p.sent),.iv (byI p.here)]
theorem Aa2 (p:Pkt):Bo5 p=[.val (.int .i64 p.from_),.val (.int .i64 p.to_),byI p.sent,byI p.here]:=rfl
theorem Xk (l:List Pkt):pkI l=.sl 4 (l.map Bo5):=rfl
theorem A83 (l:List Es):ndI l=.sl 16 (l.map Bc7):=rfl
theorem Aa9 (c:Clu):clA c=.agg (clC c):=rfl
theorem Aa8 (c:Clu):clC c=[.iv (ndI c.nodes),.iv (pkI c.net)]:=rfl
theorem Bk6 (p:Pkt):pkA p=.agg [.val (.int .i64 p.from_),.val (.int .i64 p.to_),.iv (byI p.sent),.iv (byI p.here)]:=rfl
def Pc:List Nat->List Nat->Nat
 | a :: s,b :: h=>(if a=b then 0 else 1)+Pc s h
 | _,_=>0
def Aa1 (p:Pkt):Bool:=decide (0<=p.from_/\p.from_ < 64)&&decide (0<=p.to_/\p.to_ < 64)&&decide (p.from_≠p.to_)&&decide (p.sent.length=p.here.length)
def Vq (p:Pkt):Bool:=Aa1 p&&decide (Pc p.sent p.here<=1)
def Fl (l:List Pkt):Bool:=decide (l.length<=4096)&&l.all Vq
def Fe:Int->List Es->Bool
 | _,[]=>true
 | k,n :: r=>decide (n.me=k)&&Bf n&&Fe (k+1) r
def Cc (c:Clu):Bool:=decide (1<=c.nodes.length/\c.nodes.length<=64)&&Fl c.net&&Fe 0 c.nodes&&c.net.all fun p=>decide (p.from_ < c.nodes.length)&&decide (p.to_ < c.nodes.length)
theorem A11:∀ {s h:List Nat} {a b:Nat},s.length=h.length->Pc (s++[a]) (h++[b])=Pc s h+(if a=b then 0 else 1)
 | [],[],a,b,_=>by simp [Pc]
 | x :: s,y :: h,a,b,e=>by
  simp only [List.cons_append,Pc]
  rw [A11 (by simpa using e)]
  omega
 | [],_ :: _,_,_,e=>by simp at e
 | _ :: _,[],_,_,e=>by simp at e
theorem Ls:∀ {a b:List Es} {k:Int},Fe k (a++b)=(Fe k a&&Fe (k+a.length) b)
 | [],b,k=>by simp [Fe]
 | n :: a,b,k=>by
  simp only [List.cons_append,Fe,Ls (a:=a),Bool.and_assoc,List.length_cons]
  congr 4
  omega
end Go.Proofs.YtahgkllhbggmgaaGreatDoor
