/- The next stamp, a note of one write, a view that writes. Plain definitions. -/
import Derived.Test.YtahgkllhbggmgaaGreatDoorKSubEnc
import Derived.Test.YtahgkllhbggmgaaGreatDoorKRep
import Derived.Test.YtahgkllhbggmgaaGreatDoorKSortSpan
import Derived.Test.YtahgkllhbggmgaaGreatDoorKPlace
set_option linter.all false
set_option linter.unnecessarySimpa false
set_option linter.unusedSimpArgs false
set_option linter.unusedVariables false
namespace Go.Proofs.YtahgkllhbggmgaaGreatDoor
def InZ (l:List Bi) (o:Int) (v:List Ad):Prop:=∃ x∈l,x.span.lo<=o/\o<=x.span.hi/\x.vec=v
def Bb3 (out:List Bi) (x:Bi):List Bi :=
 match out.getLast? with
 | some y=>if y.span.hi+1=x.span.lo/\y.vec=x.vec then out.dropLast++[⟨⟨y.span.lo,x.span.hi⟩,y.vec⟩] else out++[x]
 | none=>out++[x]
def Cn0 (l:List Bi):List Bi:=l.foldl Bb3 []
structure D72 (s l:List Bi):Prop where
 formed:By none l=true
 mem:∀ o v,InZ l o v↔InZ s o v
 last:E8 l.getLast? = E8 s.getLast?
 len:l.length<=s.length
def Do1 (s:List Bi):Prop:=s.Pairwise (fun x y=>x.span.hi < y.span.lo)/\∀ x∈s,0<=x.span.lo/\Fe x=true
def Br0 (f:Nat->Option (List Ad)):Nat->List Bi
 | 0=>[]
 | n+1=>Br0 f n++(match f n with | some v=>[⟨⟨(n:Nat),(n:Nat)⟩,v⟩] | none=>[])
def Bg5 (f:Nat->Option (List Ad)):List Bi:=Cn0 (Br0 f 256)
-- what the document says, object by object
def A75 (v:List Ad) (n:Bv) (k:Nat):Int:=if A9 n.start k<=A9 v k then max (A9 v k) (A9 n.end_ k) else A9 v k
def B14 (v:List Ad) (n:Bv):List Ad:=Hm (A75 v n)
def B54 (v:List Ad) (n:Bv) (o:Int):List Ad:=match Mh n.writes o with
 | some w=>if Gi (B14 v n) w.stamp=true then B14 v n else v
 | none=>B14 v n
def Yf (z:List Bi) (known:List Ad) (n:Bv) (o:Nat):List Ad:=if Dj n.blur o=true then Ra z known o else B54 (Ra z known o) n o
def Yr (known:List Ad) (n:Bv):List Ad:=Dl [known,n.end_]
def Av7 (z:List Bi) (known:List Ad) (n:Bv) (o:Nat):Option (List Ad):=if Bo (Yf z known n o) (Yr known n)=true then none else some (Yf z known n o)
def Bt9 (z:List Bi) (known:List Ad) (n:Bv):Bool:=D0 z&&B6 known&&Bl n
def T6 (z:List Bi) (known:List Ad) (n:Bv):List Bi×List Ad×Int :=
 if Bt9 z known n=true then (if Bo known n.start=true then (Bg5 (Av7 z known n),Yr known n,0) else ([],[],3)) else ([],[],1)
-- what the program does, piece by piece
def Bx2 (a b:List Ar):List Ar:=Rh fun o=>Dj a o&&!Dj b o
def B59 (far:List Ad) (s:List Ar) (w:Aq):List Ar:=if Gi far w.stamp=true then s else Y4 (s++Y4 (Cq8 [w.object]))
def B58 (n:Bv) (far:List Ad):List Ar:=n.writes.foldl (B59 far) n.blur
def Cq9 (now:List Ad) (l:List Ar) (v:List Ad):List Bi:=if Bo v now=true then [] else l.map fun s=>⟨s,v⟩
def Bw3 (n:Bv) (now:List Ad) (x:Bi):List Bi:=Cq9 now (A21 [x.span] (B58 n (B14 x.vec n))) x.vec++Cq9 now (Bx2 [x.span] (B58 n (B14 x.vec n))) (B14 x.vec n)
def Dl3 (n:Bv) (now:List Ad) (l:List Bi):List Bi:=l.flatMap (Bw3 n now)
def Off (x y:Bi):Prop:=x.span.hi < y.span.lo\/y.span.hi < x.span.lo
end Go.Proofs.YtahgkllhbggmgaaGreatDoor
namespace Go.Proofs.YtahgkllhbggmgaaGreatDoor
open Go.ChangeShapes Go.WideShapes Go.ChangeAt Go.RowKit
def orI (a b:Int):Int:=if a=0 then b else a
def Di0 (a b c d:Int):Int:=orI (Wz a c) (Wz b d)
def nxV (c n s:Int):Value :=
 if c < 0\/n < 0\/64<=n\/s < 0 then .tuple #[.agg #[.int .i64 0,.int .i64 0],.int .i64 1]
 else if 9223372036854775807 - c<=s then .tuple #[.agg #[.int .i64 0,.int .i64 0],.int .i64 2]
 else .tuple #[.agg #[.int .i64 (c+s+1),.int .i64 n],.int .i64 0]
end Go.Proofs.YtahgkllhbggmgaaGreatDoor
namespace Go.Proofs.YtahgkllhbggmgaaGreatDoor
def Ba0 (u w:Aq):Bool:=decide (Di0 u.stamp.count u.stamp.node w.stamp.count w.stamp.node < 0)
def Do6 (u:Option Aq) (w:Aq):Aq:=match u with
 | none=>w
 | some u=>if Ba0 u w=true then w else u
def Bi6 (l:List Aq) (w:Aq):List Aq:=match Mh l w.object with
 | none=>l.take (M5 l w.object)++w :: l.drop (M5 l w.object)
 | some u=>if Ba0 u w=true then l.set (M5 l w.object) w else l
def Bw1 (l list:List Aq):List Aq:=list.foldl Bi6 l
def Do7 (l list:List Aq):List Aq×Int:=if C7 l=true/\list.all H9=true then (Bw1 l list,0) else ([],1)
-- shelves as sorted lists
def Shelf (l:List Aq):Prop:=l.Pairwise (fun a b=>a.object < b.object)/\∀ w∈l,H9 w=true
def Bh9 (f:Nat->Option Aq):Nat->List Aq
 | 0=>[]
 | n+1=>Bh9 f n++(f n).toList
-- views that take
def Nb:Gb:=⟨[],[],[],[],0⟩
def Bo6 (z:List Bi) (k:List Ad) (n:Bv):List Aq:=n.writes.filter fun w=>G4 z k w
def Y5 (v:Gb) (n:Bv):Gb×Int :=
  if Au v=true then
    (if (T6 v.zones v.known n).2.2=0 then
      (⟨(T6 v.zones v.known n).2.1,(T6 v.zones v.known n).1,Bw1 v.held (Bo6 (T6 v.zones v.known n).1 (T6 v.zones v.known n).2.1 n),v.bodies.filter (fun x=>Fb (Bw1 v.held (Bo6 (T6 v.zones v.known n).1 (T6 v.zones v.known n).2.1 n)) x),v.room⟩,0)
     else (Nb,(T6 v.zones v.known n).2.2))
  else (Nb,1)
-- shelves
def Bg7 (l:List Aq) (set:List Ar):List Aq:=l.filter fun w=>E9 set w.object
def Cv6 (l:List Aq) (set:List Ar):List Aq×Int:=if C7 l=true then (Bg7 l set,0) else ([],1)
-- caches
def isB (o:Int) (s:Ad) (x:Ci):Bool:=decide (x.object=o)&&decide (x.stamp=s)
def Bb8 (l:List Ci) (o:Int) (s:Ad):List Nat×Int:=match l.find? (isB o s) with
 | some x=>(x.value,0)
 | none=>([],10)
def At6 (l:List Ci) (o:Int):List Ci:=l.filter fun x=>!decide (x.object=o)
def Bx9 (room:Int):List Ci->List Ci
 | []=>[]
 | x :: l=>if (Lb (x :: l):Int)<=room then x :: l else Bx9 room l
def Do9 (l:List Ci) (room:Int) (x:Ci):List Ci×Int:=if Cq l room=true/\Cz x=true then (Bx9 room (At6 l x.object++[x]),0) else ([],1)
-- views
def Xr (room:Int):Gb×Int:=if Jg room=true then (⟨[],[],[],[],room⟩,0) else (Nb,1)
def Be8 (v:Gb) (x:Ci):Gb×Int :=
 if Au v=true/\Cz x=true then
  (if Fb v.held x=true then (⟨v.known,v.zones,v.held,Bx9 v.room (At6 v.bodies x.object++[x]),v.room⟩,0) else (Nb,13))
 else (Nb,1)
def Dm2 (v:Gb) (o:Int):List Nat×Aq×Int :=
 if Au v=true/\J6 o=true then
  (if E9 (Ag3 v.zones) o=true then ([],noW,9) else
   match Mh v.held o with
   | none=>([],noW,8)
   | some w=>if w.gone=true then ([],w,0) else ((Bb8 v.bodies o w.stamp).1,w,(Bb8 v.bodies o w.stamp).2))
 else ([],noW,1)
def A15:Ci:=⟨0,⟨0,0⟩,[]⟩
def Dd5 (v:Gb) (o:Int):Ci×Int :=
 if Au v=true/\J6 o=true then
  (match Mh v.held o with
   | none=>(A15,8)
   | some w=>if w.gone=true then (A15,13) else (if (Bb8 v.bodies o w.stamp).2=0 then (⟨o,w.stamp,(Bb8 v.bodies o w.stamp).1⟩,0) else (A15,(Bb8 v.bodies o w.stamp).2)))
 else (A15,1)
def Jz (c n s:Int):Ad×Int :=
 if c < 0\/n < 0\/64<=n\/s < 0 then (⟨0,0⟩,1)
 else if 9223372036854775807 - c<=s then (⟨0,0⟩,2)
 else (⟨c+s+1,n⟩,0)
def G9 (l:List Ad):Int:=(Ch (Ed l) 64).foldl (fun m k=>max m (A9 l (k:Nat))) 0
def ofN (known:List Ad) (w:Aq):Bv×Int :=
 if B6 known=true/\Be w.stamp.count w.stamp.node=true/\J6 w.object=true/\Gi known w.stamp=false then (⟨known,Dl [known,[w.stamp]],[],[w]⟩,0) else (An1,1)
structure C17 where
 view:Gb
 note:Bv
 err:Int
def Vy (e:Int):C17:=⟨Nb,An1,e⟩
def D74 (v : Gb) (me object skip : Int) (value : List Nat) (gone : Bool) : C17 :=
  if Au v = true /\ J6 object = true /\ value.length <= 256 /\ (gone && decide (0 < value.length)) = false then
    (if (Jz (G9 v.known) me skip).2 = 0 then
      (if (ofN v.known ⟨(Jz (G9 v.known) me skip).1, object, gone⟩).2 = 0 then
        (if (Y5 v (ofN v.known ⟨(Jz (G9 v.known) me skip).1, object, gone⟩).1).2 = 0 then
          (if gone = true then ⟨(Y5 v (ofN v.known ⟨(Jz (G9 v.known) me skip).1, object, gone⟩).1).1, (ofN v.known ⟨(Jz (G9 v.known) me skip).1, object, gone⟩).1, 0⟩
           else (if (Be8 (Y5 v (ofN v.known ⟨(Jz (G9 v.known) me skip).1, object, gone⟩).1).1 ⟨object, (Jz (G9 v.known) me skip).1, value⟩).2 = 0 then
              ⟨(Be8 (Y5 v (ofN v.known ⟨(Jz (G9 v.known) me skip).1, object, gone⟩).1).1 ⟨object, (Jz (G9 v.known) me skip).1, value⟩).1, (ofN v.known ⟨(Jz (G9 v.known) me skip).1, object, gone⟩).1, 0⟩
            else Vy (Be8 (Y5 v (ofN v.known ⟨(Jz (G9 v.known) me skip).1, object, gone⟩).1).1 ⟨object, (Jz (G9 v.known) me skip).1, value⟩).2))
         else Vy (Y5 v (ofN v.known ⟨(Jz (G9 v.known) me skip).1, object, gone⟩).1).2)
       else Vy (ofN v.known ⟨(Jz (G9 v.known) me skip).1, object, gone⟩).2)
     else Vy (Jz (G9 v.known) me skip).2)
  else Vy 1
end Go.Proofs.YtahgkllhbggmgaaGreatDoor
