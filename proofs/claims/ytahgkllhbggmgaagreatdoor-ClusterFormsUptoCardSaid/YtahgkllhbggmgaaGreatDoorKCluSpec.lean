/- Clusters: what is formed, in plain words. -/
import Derived.Test.YtahgkllhbggmgaaGreatDoorKClone
import Derived.Test.YtahgkllhbggmgaaGreatDoorKSubEnc
import Derived.Test.YtahgkllhbggmgaaGreatDoorKViewEnc
import Derived.Test.YtahgkllhbggmgaaGreatDoorKSubsForm
import Derived.Test.YtahgkllhbggmgaaGreatDoorKViewSpec3
import Derived.Test.YtahgkllhbggmgaaGreatDoorKOuts
import Derived.Test.YtahgkllhbggmgaaGreatDoorKStreamArgs
set_option linter.all false
set_option linter.unnecessarySimpa false
set_option linter.unusedSimpArgs false
set_option linter.unusedVariables false
namespace Go.Proofs.YtahgkllhbggmgaaGreatDoor
open Go.ChangeShapes Go.WideShapes Go.ChangeAt Go.RowKit
structure Gu where
 number:Int
 bytes:List Nat
 sure:Int
 deriving DecidableEq
structure Jc where
 room:Int
 files:List Gu
 deriving DecidableEq
def Nc:Jc:=⟨0,[]⟩
def enF (f:Gu):List IV:=[.val (.int .i64 f.number),byI f.bytes,.val (.int .i64 f.sure)]
def flI (l:List Gu):IV:=.sl 3 (l.map enF)
def dkA (d:Jc):AV:=.agg [.val (.int .i64 d.room),.iv (flI d.files)]
theorem Sv (f:Gu):enF f=[.val (.int .i64 f.number),byI f.bytes,.val (.int .i64 f.sure)]:=rfl
theorem Mi (l:List Gu):flI l=.sl 3 (l.map enF):=rfl
theorem L9 (d:Jc):dkA d=.agg [.val (.int .i64 d.room),.iv (flI d.files)]:=rfl
def Jj (l:List Gu):Nat:=(l.map (·.bytes.length)).sum
def Ge:Int->List Gu->Int
 | e,[]=>e
 | _,f :: l=>Ge f.number l
def Tp (room:Int) (u:Nat) (e:Int) (f:Gu):Bool:=decide (e < f.number/\f.number<=1048576/\0<=f.sure/\f.sure<=f.bytes.length/\(f.bytes.length:Int)<=room - u)
def E4 (room:Int):Nat->Int->List Gu->Bool
 | _,_,[]=>true
 | u,e,f :: l=>Tp room u e f&&E4 room (u+f.bytes.length) f.number l
def Bp (d:Jc):Bool:=decide (0<=d.room/\d.room<=16777216)&&E4 d.room 0 (-1) d.files
theorem L8 {room:Int} : ∀ {a b:List Gu} {u:Nat} {e:Int},E4 room u e (a++b)=(E4 room u e a&&E4 room (u+Jj a) (Ge e a) b)
 | [],b,u,e=>rfl
 | f :: a,b,u,e=>by
  simp only [List.cons_append,E4,L8 (a:=a),Bool.and_assoc,Ge,Jj,List.map_cons,List.sum_cons,Nat.add_assoc]
theorem A73 (a b:List Gu):Jj (a++b)=Jj a+Jj b:=by simp [Jj]
theorem Rm:∀ (a b:List Gu) (e:Int),Ge e (a++b)=Ge (Ge e a) b
 | [],_,_=>rfl
 | f :: a,b,_=>Rm a b f.number
theorem Aw6 {l:List Gu} {m:Nat} (h:m < l.length):l.take (m+1)=l.take m++[l[m]]:=List.take_succ_eq_append_getElem h
theorem Ae4 {room:Int} {l:List Gu} {m:Nat} (h:m < l.length) (ht:E4 room 0 (-1) (l.take m)=true):E4 room 0 (-1) l=(Tp room (Jj (l.take m)) (Ge (-1) (l.take m)) l[m]&&E4 room (Jj (l.take m)+l[m].bytes.length) l[m].number (l.drop (m+1))):=by
 conv=>lhs;rw [<-List.take_append_drop m l,List.drop_eq_getElem_cons h]
 rw [L8,ht,Bool.true_and,Nat.zero_add]
 rfl
theorem Wk {room:Int} {l:List Gu} {m:Nat} (h:m < l.length) (ht:E4 room 0 (-1) (l.take m)=true) (hf:Tp room (Jj (l.take m)) (Ge (-1) (l.take m)) l[m]=true) :
  E4 room 0 (-1) (l.take (m+1))=true/\Jj (l.take (m+1))=Jj (l.take m)+l[m].bytes.length/\Ge (-1) (l.take (m+1))=l[m].number:=by
 rw [Aw6 h]
 refine ⟨by rw [L8,ht,Nat.zero_add];simp [E4,hf],by rw [A73];simp [Jj],by rw [Rm];rfl⟩
theorem Qm {room:Int} (h0:0<=room):∀ {l:List Gu} {u:Nat} {e:Int},(u:Int)<=room->E4 room u e l=true->((u+Jj l:Nat):Int)<=room
 | [],u,e,h,_=>by simpa [Jj] using h
 | f :: l,u,e,h,hf=>by
  simp only [E4,Tp,Bool.and_eq_true,decide_eq_true_eq] at hf
  have:=Qm h0 (l:=l) (u:=u+f.bytes.length) (e:=f.number) (by omega) hf.2
  simp only [Jj,List.map_cons,List.sum_cons] at this ⊢
  omega
def Dk7 (d:Jc):Int:=if Bp d=true then (Jj d.files:Nat) else 0
def De4 (l:List Gu) (n:Int):Nat:=l.findIdx fun f=>decide (n<=f.number)
def Dp2 (l:List Gu) (n:Int):Option Gu:=l.find? fun f=>decide (f.number=n)
def At8 (n:Int) (b:List Nat):List Gu->List Gu
 | []=>[⟨n,b,0⟩]
 | f :: l=>if f.number < n then f :: At8 n b l else if f.number=n then ⟨n,f.bytes++b,f.sure⟩ :: l else ⟨n,b,0⟩ :: f :: l
def Cm9 (d:Jc) (n:Int) (b:List Nat):Jc×Int :=
 if Bp d=true/\0<=n/\n<=1048576 then (if (b.length:Int) > d.room - Jj d.files then (Nc,7) else (⟨d.room,At8 n b d.files⟩,0)) else (Nc,1)
def Cj0 (f:Gu):Gu:=⟨f.number,f.bytes,(f.bytes.length:Nat)⟩
def Ci9 (d:Jc):Jc×Int:=if Bp d=true then (⟨d.room,d.files.map Cj0⟩,0) else (Nc,1)
def Bp6 (d:Jc):Int:=if Bp d=true then Ge (-1) d.files else -1
def Bw7 (d:Jc) (f:List Nat):Jc×Int :=
 if max (Bp6 d) 0+1 > 1048576 then (Nc,15) else if Bp d=true then Cm9 (Ci9 d).1 (max (Bp6 d) 0+1) f else (Nc,1)
def Dj3 (d:Jc) (f:List Nat):Jc×Int :=
 match d.files.getLast? with
 | some x=>if x.bytes=[]\/x.bytes.length+f.length<=512 then Cm9 d x.number f else Bw7 d f
 | none=>Bw7 d f
def Bj4:Nat->Nat->List Nat
 | 0,n=>[n]
 | k+1,n=>if n < 128 then [n] else (n % 128+128) :: Bj4 k (n / 128)
def U1 (n:Nat):List Nat:=Bj4 8 n
def Vu (l:List Int):List Nat:=l.flatMap fun n=>U1 n.toNat
def Bh2 (l:List Ad):List Nat:=U1 l.length++l.flatMap fun s=>Vu [s.node,s.count]
def Bu9 (l:List Ar):List Nat:=U1 l.length++l.flatMap fun s=>Vu [s.lo,s.hi]
def Bs6 (w:Aq):List Nat:=Vu [w.object,w.stamp.node,w.stamp.count,if w.gone=true then 1 else 0]
def Aq8 (l:List Aq):List Nat:=U1 l.length++l.flatMap Bs6
def Bp2 (n:Bv):List Nat:=Bh2 n.start++Bh2 n.end_++Bu9 n.blur++Aq8 n.writes
def Be7 (x:Ci):List Nat:=Vu [x.object,x.stamp.node,x.stamp.count]++(U1 x.value.length++x.value)
def B52:List Nat:=[0x00000000,0x1db71064,0x3b6e20c8,0x26d930ac,0x76dc4190,0x6b6b51f4,0x4db26158,0x5005713c,0xedb88320,0xf00f9344,0xd6d6a3e8,0xcb61b38c,0x9b64c2b0,0x86d3d2d4,0xa00ae278,0xbdbdf21c]
def Bp9 (c:Nat):Nat:=(c / 16)^^^(B52.getD (c % 16) 0)
def Cs5 (c x:Nat):Nat:=Bp9 (Bp9 (c^^^x))
def Cl8 (c:Nat) (l:List Nat):Nat:=l.foldl Cs5 c
def Bc1 (n:Nat):List Nat:=[n / 16777216 % 256,n / 65536 % 256,n / 256 % 256,n % 256]
def Dc3 (l:List Nat):Nat:=4294967295 - Cl8 4294967295 l
def Bo8 (p:List Nat):List Nat:=Bc1 p.length++Bc1 (Dc3 (Bc1 p.length++p))++p
def Bn1 (d:Jc) (p:List Nat):Jc×Int:=if p.length<=1048576/\Bp d=true then Dj3 d (Bo8 p) else (Nc,1)
def Dc5 (d:Jc) (p:List Nat):Jc×Int:=if p.length<=1048576/\Bp d=true then Bw7 d (Bo8 p) else (Nc,1)
structure Av5 where
 kind:Int
 note:Bv
 body:Ci
 from_:Int
 interest:List Ar
 view:Gb
 subs:List Sub
def Av1 (x:Ci):Bool:=decide (x.object=0)&&decide (x.stamp=⟨0,0⟩)&&decide (x.value=[])
def Ap4 (n:Bv):Bool:=decide (n.start=[])&&decide (n.end_=[])&&decide (n.blur=[])&&decide (n.writes=[])
def C11 (v:Gb):Bool:=decide (v.known=[])&&decide (v.zones=[])&&decide (v.held=[])&&decide (v.bodies=[])&&decide (v.room=0)
def Bu4 (e:Int) (s:Sub):Bool:=decide (e < s.from_)&&decide (s.from_ < 64)&&decide (0 < s.interest.length)&&C4 s.interest&&decide (s.session=0)&&decide (s.seq=0)&&!s.live&&!s.heard&&!s.idle
def B66:Int->List Sub->Bool
 | _,[]=>true
 | e,s :: l=>Bu4 e s&&B66 s.from_ l
def Bu3 (l:List Sub):Bool:=B66 (-1) l&&decide (l.length<=16)
def Tq (x:Av5):Bool :=
 let sub:=decide (x.from_≠0) || decide (0 < x.interest.length)
 let check:=!C11 x.view || decide (0 < x.subs.length)
 if x.kind=1 then Bl x.note&&Av1 x.body&&!sub&&!check
 else if x.kind=2 then Ap4 x.note&&Ga x.body&&!sub&&!check
 else if x.kind=3 then (match x.note.writes with
  | [w]=>!sub&&!check&&Bl x.note&&(w.gone&&Av1 x.body || !w.gone&&Ga x.body&&decide (x.body.object=w.object)&&decide (x.body.stamp=w.stamp))
  | _=>false)
 else if x.kind=4 then Ap4 x.note&&Av1 x.body&&!check&&decide (0<=x.from_)&&decide (x.from_ < 64)&&C4 x.interest
 else if x.kind=5 then Ap4 x.note&&Av1 x.body&&!sub&&Au x.view&&Bu3 x.subs
 else false
def Ca4 (z:Bi):List Nat:=Vu [z.span.lo,z.span.hi]++Bh2 z.vec
def Cc2 (v:Gb):List Nat:=Bh2 v.known++(U1 v.zones.length++v.zones.flatMap Ca4)++Aq8 v.held++(U1 v.bodies.length++v.bodies.flatMap Be7)++U1 v.room.toNat
def Dc4 (s:Sub):List Nat:=U1 s.from_.toNat++Bu9 s.interest
def Bc4 (x:Av5):List Nat :=
 U1 x.kind.toNat ++
 if x.kind=1 then Bp2 x.note
 else if x.kind=2 then Be7 x.body
 else if x.kind=3 then Bp2 x.note++(if (x.note.writes.headD noW).gone=true then [] else Be7 x.body)
 else if x.kind=4 then U1 x.from_.toNat++Bu9 x.interest
 else if x.kind=5 then Cc2 x.view++(U1 x.subs.length++x.subs.flatMap Dc4)
 else []
def Dn3 (x:Av5):List Nat×Int:=if Tq x=true then (Bc4 x,0) else ([],1)
structure En where
 me:Int
 view:Gb
 log:Log
 outs:List Out
 subs:List Sub
 tries:Int
 queue:List Msg
 disk:Jc
 down:Bool
def Yn:Log:=⟨[],[],0⟩
def B98:En:=⟨0,Nb,Yn,[],[],0,[],Nc,false⟩
def ndC (n:En):List AV:=[.val (.int .i64 n.me),.iv (stI n.view.known),.iv (znI n.view.zones),.iv (wrI n.view.held),.iv (boI n.view.bodies),.val (.int .i64 n.view.room),.iv (stI n.log.base),.iv (noI n.log.notes),.val (.int .i64 n.log.sure),.iv (ouI n.outs),.iv (Hu n.subs),.val (.int .i64 n.tries),.iv (msI n.queue),.val (.int .i64 n.disk.room),.iv (flI n.disk.files),.val (.bool n.down)]
def ndA (n:En):AV:=.agg (ndC n)
theorem Gm (n:En):ndC n=[.val (.int .i64 n.me),.iv (stI n.view.known),.iv (znI n.view.zones),.iv (wrI n.view.held),.iv (boI n.view.bodies),.val (.int .i64 n.view.room),.iv (stI n.log.base),.iv (noI n.log.notes),.val (.int .i64 n.log.sure),.iv (ouI n.outs),.iv (Hu n.subs),.val (.int .i64 n.tries),.iv (msI n.queue),.val (.int .i64 n.disk.room),.iv (flI n.disk.files),.val (.bool n.down)]:=rfl
theorem J9 (n:En):ndA n=.agg (ndC n):=rfl
def Aw4 (n:En):Bool:=decide (0<=n.me/\n.me < 64)&&decide (0<=n.tries/\n.tries < 1099511627776)&&Bp n.disk&&decide (n.queue.length<=4096)
def Af0 (n:En):Bool:=decide (n.view.known=[]/\n.view.zones=[]/\n.view.held=[]/\n.view.bodies=[]/\n.log.base=[]/\n.log.notes=[]/\n.outs=[]/\n.subs=[]/\n.queue=[]/\n.tries=0/\n.log.sure=0)&&Jg n.view.room
def Wb (l:Log):List Ad:=if C0 l=true then Ax l.base l.notes else []
def Rj (me:Int) (m:Msg):Bool:=decide (m.from_=me)&&Cj m
def B46 (n:En):Bool:=Au n.view&&C0 n.log&&decide (Wb n.log=n.view.known)&&Eu n.log.notes.length n.outs&&Ec n.subs&&n.outs.all (fun x=>!decide (x.to_=n.me))&&n.queue.all (Rj n.me)&&n.subs.all (fun s=>!decide (s.from_=n.me))
def C8 (n:En):Bool:=Aw4 n&&if n.down=true then Af0 n else B46 n
def upE (n:En):Int:=if C8 n=true then (if n.down=true then 11 else 0) else 1
def K1 (me room bodies:Int):En×Int:=if Jg bodies=true/\(0<=me/\me < 64)/\(0<=room/\room<=16777216) then (⟨me,⟨[],[],[],[],bodies⟩,Yn,[],[],0,[],⟨room,[]⟩,false⟩,0) else (B98,1)
def D59 (l:Log) (n:Bv):Log×Int:=if C0 l=true/\Bl n=true then (if Bo (Ax l.base l.notes) n.start=true then (⟨l.base,l.notes++[n],l.sure⟩,0) else (Yn,3)) else (Yn,1)
def Do8 (d:Jc) (x:Av5):Jc×Int:=if Tq x=true then (match Bn1 d (Bc4 x) with | (d',0)=>(d',0) | (_,e)=>(d,e)) else (d,1)
structure Pkt where
 from_:Int
 to_:Int
 sent:List Nat
 here:List Nat
 deriving DecidableEq
structure Clu where
 nodes:List En
 net:List Pkt
def Bc5 (p:Pkt):List IV:=[.val (.int .i64 p.from_),.val (.int .i64 p.to_),byI p.sent,byI p.here]
def pkI (l:List Pkt):IV:=.sl 4 (l.map Bc5)
def B16 (n:En):List IV:=[.val (.int .i64 n.me),stI n.view.known,znI n.view.zones,wrI n.view.held,boI n.view.bodies,.val (.int .i64 n.view.room),stI n.log.base,noI n.log.notes,.val (.int .i64 n.log.sure),ouI n.outs,Hu n.subs,.val (.int .i64 n.tries),msI n.queue,.val (.int .i64 n.disk.room),flI n.disk.files,.val (.bool n.down)]
def ndI (l:List En):IV:=.sl 16 (l.map B16)
def clC (c:Clu):List AV:=[.iv (ndI c.nodes),.iv (pkI c.net)]
def clA (c:Clu):AV:=.agg (clC c)
def pkA (p:Pkt):AV:=.agg [.val (.int .i64 p.from_),.val (.int .i64 p.to_),.iv (byI p.sent),.iv (byI p.here)]
theorem Ue (p:Pkt):Bc5 p=[.val (.int .i64 p.from_),.val (.int .i64 p.to_),byI p.sent,byI p.here]:=rfl
theorem A07 (l:List Pkt):pkI l=.sl 4 (l.map Bc5):=rfl
theorem An4 (l:List En):ndI l=.sl 16 (l.map B16):=rfl
theorem X2 (c:Clu):clA c=.agg (clC c):=rfl
theorem X1 (c:Clu):clC c=[.iv (ndI c.nodes),.iv (pkI c.net)]:=rfl
theorem B88 (p:Pkt):pkA p=.agg [.val (.int .i64 p.from_),.val (.int .i64 p.to_),.iv (byI p.sent),.iv (byI p.here)]:=rfl
def N9:List Nat->List Nat->Nat
 | a :: s,b :: h=>(if a=b then 0 else 1)+N9 s h
 | _,_=>0
def A36 (p:Pkt):Bool:=decide (0<=p.from_/\p.from_ < 64)&&decide (0<=p.to_/\p.to_ < 64)&&decide (p.from_≠p.to_)&&decide (p.sent.length=p.here.length)
def U0 (p:Pkt):Bool:=A36 p&&decide (N9 p.sent p.here<=1)
def F5 (l:List Pkt):Bool:=decide (l.length<=4096)&&l.all U0
def Fh:Int->List En->Bool
 | _,[]=>true
 | k,n :: r=>decide (n.me=k)&&C8 n&&Fh (k+1) r
def Fu (c:Clu):Bool:=decide (1<=c.nodes.length/\c.nodes.length<=64)&&F5 c.net&&Fh 0 c.nodes&&c.net.all fun p=>decide (p.from_ < c.nodes.length)&&decide (p.to_ < c.nodes.length)
theorem Yk:∀ {s h:List Nat} {a b:Nat},s.length=h.length->N9 (s++[a]) (h++[b])=N9 s h+(if a=b then 0 else 1)
 | [],[],a,b,_=>by simp [N9]
 | x :: s,y :: h,a,b,e=>by
  simp only [List.cons_append,N9]
  rw [Yk (by simpa using e)]
  omega
 | [],_ :: _,_,_,e=>by simp at e
 | _ :: _,[],_,_,e=>by simp at e
theorem L5:∀ {a b:List En} {k:Int},Fh k (a++b)=(Fh k a&&Fh (k+a.length) b)
 | [],b,k=>by simp [Fh]
 | n :: a,b,k=>by
  simp only [List.cons_append,Fh,L5 (a:=a),Bool.and_assoc,List.length_cons]
  congr 4
  omega
end Go.Proofs.YtahgkllhbggmgaaGreatDoor
