/- Nodes, plain: formed or not, what is written, read. -/
import Derived.Test.YtblfjaedaijfoaaGreatDoorQStretch
import Derived.Test.YtblfjaedaijfoaaGreatDoorQMarks
import Derived.Test.YtblfjaedaijfoaaGreatDoorQPutLaw
import Derived.Test.YtblfjaedaijfoaaGreatDoorQTakeLaw
import Derived.Test.YtblfjaedaijfoaaGreatDoorQCrc
import Derived.Test.YtblfjaedaijfoaaGreatDoorQOuts
import Derived.Test.YtblfjaedaijfoaaGreatDoorQLogWalk
set_option linter.all false
set_option linter.unnecessarySimpa false
set_option linter.unusedSimpArgs false
set_option linter.unusedVariables false
namespace Go.Proofs.YtblfjaedaijfoaaGreatDoor
open Go.ChangeShapes Go.WideShapes Go.ChangeAt Go.RowKit
def Ca (x:C1):Bool:=decide (0<=x.object/\x.object<=255)&&Bl x.stamp.count x.stamp.node&&decide (x.value.length<=256)
def K4 (x:C1):Bool:=decide (x.stamp.count=0/\x.stamp.node=0)&&decide (x.value.length=0)
def Ve (m:Msg):Bool:=decide (m.interest.length=0/\m.vector.length=0/\m.notes.length=0/\m.session=0/\m.seq=0)
def Fe (m:Msg):Bool :=
  Dy m.from_&&Dy m.to_ &&
  (if m.kind=1 then decide (0<=m.session/\m.seq=0/\m.notes.length=0/\m.body.object=0/\0 < m.interest.length)&&K4 m.body&&Br m.interest&&Ak m.vector
   else if m.kind=3 then decide (m.notes.length<=257/\0<=m.session/\0<=m.seq/\m.interest.length=0/\m.vector.length=0/\m.body.object=0)&&K4 m.body&&m.notes.all Ax
   else Ve m&&(if m.kind=2 then decide (m.body.object=0)&&K4 m.body else if m.kind=4 then decide (0<=m.body.object/\m.body.object<=255)&&K4 m.body else if m.kind=5 then Ca m.body else false))
theorem Nr (n:Int) (w:World):Calls Tryz.prog 111 #[.int .i64 n] w fun e w'=>e=.returned (.bool (Dy n))/\w=w':=by
 go_enter Tryz.func111,Tryz.ntmps111
 go_wp2_with fail
 all_goals (go_ret;refine ⟨Ad (Bool.eq_iff_iff.2 ?_),rfl⟩;(simp [Dy]<;>omega))
theorem Bj9 (o c n:Int) (A:Option Addr) (k cp:Nat) (w:World) (hk:k<=1073741824) :
  Calls Tryz.prog 113 #[.agg #[.int .i64 o,.int .i64 c,.int .i64 n,.slice A k cp]] w fun e w'=>e=.returned (.bool (decide (0<=o/\o<=255)&&Bl c n&&decide (k<=256)))/\Below w.heap.size w w':=by
 generalize hr:Bl c n=r
 have HR:=Lib.hid hr
 clear hr
 by_cases ho:0<=o/\o<=255
 ·rw [decide_eq_true ho]
  obtain ⟨h1,h2⟩:=ho
  have h3:o < 256:=by omega
  go_enter Tryz.func113,Tryz.ntmps113
  go_wp2_with fail
  have kB:=Ai (o:=.cells #[.int .i64 o,.int .i64 c,.int .i64 n,.slice A k cp] 79) (Below.refl _ w)
  have B:=Blk.new w 79 #[.int .i64 o,.int .i64 c,.int .i64 n,.slice A k cp]
  generalize hW:w.alloc _=W at *
  have B3:=Lib.hid (B.cell 3)
  have q3:∀ z:BW W,z.val.cell? ⟨w.heap.size,3,none⟩=some (.slice A k cp):=fun z=>z.cell B3.out
  clear hW B
  refine BW.start (w:=W) ?_
  intro z
  refine BW.callR (z:=z) (Tr _ _ _) (congrArg Value.bool HR.out) ?_
  clear z
  intro z
  cases r
  ·go_wp2_with fail
   go_ret
   exact ⟨rfl,Av kB z.below⟩
  ·go_wp2_with fail
   go_ret
   exact ⟨Ad (Bool.eq_iff_iff.2 (by simp<;>omega)),Av kB z.below⟩
 ·rw [decide_eq_false ho]
  go_enter Tryz.func113,Tryz.ntmps113
  go_wp2_with fail
  all_goals first | (go_ret;exact ⟨Ad (Bool.eq_iff_iff.2 (by simp<;>omega)),Ai (Below.refl _ _)⟩) | (exfalso;simp at *;omega)
end Go.Proofs.YtblfjaedaijfoaaGreatDoor
namespace Go.Proofs.YtblfjaedaijfoaaGreatDoor
-- shelves
def Be2 (l:List Ap) (set:List Ao):List Ap:=l.filter fun w=>Er set w.object
def Dd9 (l:List Ap) (set:List Ao):List Ap×Int:=if C6 l=true then (Be2 l set,0) else ([],1)
-- caches
def isB (o:Int) (s:Ab) (x:C1):Bool:=decide (x.object=o)&&decide (x.stamp=s)
def Al5 (l:List C1) (o:Int) (s:Ab):List Nat×Int:=match l.find? (isB o s) with
 | some x=>(x.value,0)
 | none=>([],10)
def Fk (l:List C1) (o:Int):List C1:=l.filter fun x=>!decide (x.object=o)
def Nj (room:Int):List C1->List C1
 | []=>[]
 | x :: l=>if (Gl (x :: l):Int)<=room then x :: l else Nj room l
def By0 (l:List C1) (room:Int) (x:C1):List C1×Int:=if Bw l room=true/\Cc x=true then (Nj room (Fk l x.object++[x]),0) else ([],1)
-- views
def A81 (room:Int):Cr×Int:=if Ke room=true then (⟨[],[],[],[],room⟩,0) else (Ln,1)
def Hw (v:Cr) (x:C1):Cr×Int :=
 if Am v=true/\Cc x=true then
  (if Fw v.held x=true then (⟨v.known,v.zones,v.held,Nj v.room (Fk v.bodies x.object++[x]),v.room⟩,0) else (Ln,13))
 else (Ln,1)
def V5 (v:Cr) (o:Int):List Nat×Ap×Int :=
 if Am v=true/\Dm o=true then
  (if Er (Mt v.zones) o=true then ([],noW,9) else
   match Jr v.held o with
   | none=>([],noW,8)
   | some w=>if w.gone=true then ([],w,0) else ((Al5 v.bodies o w.stamp).1,w,(Al5 v.bodies o w.stamp).2))
 else ([],noW,1)
def U0:C1:=⟨0,⟨0,0⟩,[]⟩
def Dw2 (v:Cr) (o:Int):C1×Int :=
 if Am v=true/\Dm o=true then
  (match Jr v.held o with
   | none=>(U0,8)
   | some w=>if w.gone=true then (U0,13) else (if (Al5 v.bodies o w.stamp).2=0 then (⟨o,w.stamp,(Al5 v.bodies o w.stamp).1⟩,0) else (U0,(Al5 v.bodies o w.stamp).2)))
 else (U0,1)
def Fu (c n s:Int):Ab×Int :=
 if c < 0\/n < 0\/64<=n\/s < 0 then (⟨0,0⟩,1)
 else if 9223372036854775807 - c<=s then (⟨0,0⟩,2)
 else (⟨c+s+1,n⟩,0)
def Ek (l:List Ab):Int:=(Ch (D3 l) 64).foldl (fun m k=>max m (Aa l (k:Nat))) 0
def ofN (known:List Ab) (w:Ap):Bc×Int :=
 if Ak known=true/\Bl w.stamp.count w.stamp.node=true/\Dm w.object=true/\E4 known w.stamp=false then (⟨known,Di [known,[w.stamp]],[],[w]⟩,0) else (R6,1)
structure C57 where
 view:Cr
 note:Bc
 err:Int
def R5 (e:Int):C57:=⟨Ln,R6,e⟩
def Jn (v : Cr) (me object skip : Int) (value : List Nat) (gone : Bool) : C57 :=
  if Am v = true /\ Dm object = true /\ value.length <= 256 /\ (gone && decide (0 < value.length)) = false then
    (if (Fu (Ek v.known) me skip).2 = 0 then
      (if (ofN v.known ⟨(Fu (Ek v.known) me skip).1, object, gone⟩).2 = 0 then
        (if (Et v (ofN v.known ⟨(Fu (Ek v.known) me skip).1, object, gone⟩).1).2 = 0 then
          (if gone = true then ⟨(Et v (ofN v.known ⟨(Fu (Ek v.known) me skip).1, object, gone⟩).1).1, (ofN v.known ⟨(Fu (Ek v.known) me skip).1, object, gone⟩).1, 0⟩
           else (if (Hw (Et v (ofN v.known ⟨(Fu (Ek v.known) me skip).1, object, gone⟩).1).1 ⟨object, (Fu (Ek v.known) me skip).1, value⟩).2 = 0 then
              ⟨(Hw (Et v (ofN v.known ⟨(Fu (Ek v.known) me skip).1, object, gone⟩).1).1 ⟨object, (Fu (Ek v.known) me skip).1, value⟩).1, (ofN v.known ⟨(Fu (Ek v.known) me skip).1, object, gone⟩).1, 0⟩
            else R5 (Hw (Et v (ofN v.known ⟨(Fu (Ek v.known) me skip).1, object, gone⟩).1).1 ⟨object, (Fu (Ek v.known) me skip).1, value⟩).2))
         else R5 (Et v (ofN v.known ⟨(Fu (Ek v.known) me skip).1, object, gone⟩).1).2)
       else R5 (ofN v.known ⟨(Fu (Ek v.known) me skip).1, object, gone⟩).2)
     else R5 (Fu (Ek v.known) me skip).2)
  else R5 1
theorem Zj {z:List At} {k:List Ab} {n:Bc} : ∀ w∈A98 z k n,Fp w=true:=fun w hw=>by
 have h:=(List.mem_filter.1 hw).2
 simp only [Dx,E4,Bool.and_eq_true,decide_eq_true_eq] at h
 have ho:0<=w.object/\w.object<=255:=by
  have h2:=h.2
  have h1:=h.1
  unfold Ng at h2
  by_cases hc:Az z=true/\Ak k=true/\0<=w.object/\w.object<=255
  ·exact hc.2.2
  ·rw [if_neg hc] at h2
   simp only [Aa,Bl,decide_eq_true_eq] at h1 h2
   omega
 simp only [Fp,Dm,Bool.and_eq_true,decide_eq_true_eq]
 exact ⟨ho,h.1⟩
def E28 (H:List Ap) (t:List Ap) (l:List C1):List C1:=l.filter fun x=>Fw H x || !t.any fun w=>decide (x.object=w.object)
theorem B30 {v:Cr} (h:Am v=true):v.zones.length<=256:=by
 simp only [Am,Fq,Bool.and_eq_true] at h
 have:(v.zones.length:Int)<=255 - -1:=Wb h.1.1.1.1.1.2 (by decide)
 omega
end Go.Proofs.YtblfjaedaijfoaaGreatDoor
namespace Go.Proofs.YtblfjaedaijfoaaGreatDoor
open Go.ChangeShapes Go.WideShapes Go.ChangeAt Go.RowKit
def Je:Int->List Sub->Bool
 | _,[]=>true
 | e,s :: l=>(decide (e < s.from_)&&(Dy s.from_&&Sn s.interest)&&R1 s.session&&R1 s.seq)&&Je s.from_ l
def Fo (l:List Sub):Bool:=Je (-1) l&&decide (l.length<=16)
theorem Ah3 {w:World} {B:Nat} {v:Value} {l:List Sub} (h:Sm w B v l) {m:Nat} {x:Sub} (hx:l[m]? = some x) :
  ∃ b off c vi,v=.slice (some ⟨b,off,none⟩) l.length c/\b < B/\w.cell? ⟨b,off+m*7,none⟩=some (.int .i64 x.from_)/\w.cell? ⟨b,off+m*7+1,none⟩=some vi /\
   w.cell? ⟨b,off+m*7+2,none⟩=some (.int .i64 x.session)/\w.cell? ⟨b,off+m*7+3,none⟩=some (.int .i64 x.seq)/\w.cell? ⟨b,off+m*7+4,none⟩=some (.bool x.live) /\
   w.cell? ⟨b,off+m*7+5,none⟩=some (.bool x.heard)/\w.cell? ⟨b,off+m*7+6,none⟩=some (.bool x.idle)/\Dz w B vi x.interest/\I64 x.from_/\I64 x.session/\I64 x.seq:=by
 obtain ⟨A,c,rfl,_,_,h3⟩:=h
 obtain ⟨b,off,rfl,hb,h4⟩:=h3 (by rintro rfl;simp at hx)
 obtain ⟨cs,⟨vi,rfl,i1,i2,i3,hv⟩,_,h5⟩:=h4 m x hx
 exact ⟨b,off,c,vi,rfl,hb,h5 0 _ rfl,h5 1 _ rfl,h5 2 _ rfl,h5 3 _ rfl,h5 4 _ rfl,h5 5 _ rfl,h5 6 _ rfl,hv,i1,i2,i3⟩
set_option maxHeartbeats 1600000 in
theorem Uw (l:List Sub) (v:Value) (w:World) (h:Sm w w.heap.size v l) :
  Calls Tryz.prog 38 #[v] w fun e w'=>e=.returned (.bool (Fo l))/\Below w.heap.size w w':=by
 have hle:=h.len_le
 obtain ⟨A,c,rfl,_⟩:=id h
 unfold Fo
 go_enter Tryz.func38,Tryz.ntmps38
 go_wp2_with fail
 go_loopw [3,8] (fun a i wr=>∃ (m:Nat) (e:Int),m<=l.length/\i=.int .i64 m/\a=.int .i64 e/\Je (-1) l=Je e (l.drop m)/\Below w.heap.size w wr) (fun _ i _=>l.length - (intOf i).toNat)
 case atStart=>exact ⟨0,-1,Nat.zero_le _,rfl,rfl,rfl,Below.refl _ _⟩
 case round =>
  obtain ⟨m,e,hm,rfl,rfl,hv,hb⟩:=hrel
  have hn:=h.next hb
  by_cases hlt:m < l.length
  ·obtain ⟨y,hy⟩ : ∃ y,l[m]? = some y:=⟨l[m],List.getElem?_eq_getElem hlt⟩
   obtain ⟨b,off,c',vi,hv',hbb,e0,e1,e2,e3,e4,e5,e6,hs,_,_,_⟩:=Ah3 hn hy
   injection hv' with hv1 hv2 hv3
   rw [Eh hy,Je] at hv
   obtain ⟨yf,yi,ys,yq,yl,yh,yd⟩:=y
   simp only at e0 e1 e2 e3 e4 e5 e6 hv hs
   subst hv1
   generalize hr1:Dy yf=r1 at hv
   generalize hr2:R1 ys=r2 at hv
   generalize hr3:R1 yq=r3 at hv
   generalize hr4:Sn yi=r4 at hv
   have HV:=Lib.hid hv
   have H1:=Lib.hid hr1
   have H2:=Lib.hid hr2
   have H3:=Lib.hid hr3
   have H4:=Lib.hid hr4
   obtain ⟨A4,c4,rfl,_⟩:=id hs
   have HS:=Lib.hid hs
   clear hv hv2 hv3 hy hbb hr1 hr2 hr3 hr4 hn hs
   by_cases p1:yf<=e
   ·go_wp2_with fail
    go_ret
    refine ⟨Ad ?_,Ai hb⟩
    rw [HV.out,decide_eq_false (p:=e < yf) (by omega)]
    rfl
   ·have Hp:=Lib.hid (decide_eq_true (p:=e < yf) (by omega))
    go_wp2_with fail
    have kB:=Ai (o:=.cells #[.int .i64 yf,.slice A4 yi.length c4,.int .i64 ys,.int .i64 yq,.bool yl,.bool yh,.bool yd] 118) (Below.refl _ wr)
    refine (Xs _ _).mono ?_
    rw [H1.out]
    rintro e' w' ⟨rfl,rfl⟩
    cases r1
    ·go_wp2_with fail
     go_ret
     refine ⟨Ad ?_,Ai hb⟩
     rw [HV.out]
     simp
    go_wp2_with fail
    refine (L5 _ _).mono ?_
    rw [H2.out]
    rintro e' w' ⟨rfl,rfl⟩
    cases r2
    ·go_wp2_with fail
     go_ret
     refine ⟨Ad ?_,Ai hb⟩
     rw [HV.out]
     simp
    go_wp2_with fail
    refine (L5 _ _).mono ?_
    rw [H3.out]
    rintro e' w' ⟨rfl,rfl⟩
    cases r3
    ·go_wp2_with fail
     go_ret
     refine ⟨Ad ?_,Ai hb⟩
     rw [HV.out]
     simp
    go_wp2_with fail
    refine (Sz _ _ _ (HS.out.next kB)).mono ?_
    rw [H4.out]
    rintro e' w1 ⟨rfl,hb1⟩
    have k1:=Av (Ai hb) hb1
    have d0:=As hb1 ((Blk.new wr 118 #[.int .i64 yf,.slice A4 yi.length c4,.int .i64 ys,.int .i64 yq,.bool yl,.bool yh,.bool yd]).cell 0)
    clear hb1 kB e0 e1 e2 e3 e4 e5 e6
    cases r4
    ·go_wp2_with fail
     go_ret
     refine ⟨Ad ?_,k1⟩
     rw [HV.out]
     simp
    go_wp2_with fail
    refine ⟨⟨m+1,yf,by omega,by go_num,rfl,?_,k1⟩,by simp [intOf];omega⟩
    rw [HV.out,Hp.out]
    simp
  ·obtain rfl:m=l.length:=by omega
   rw [List.drop_length] at hv
   have HV:=Lib.hid hv
   clear hv
   go_wp2_with fail
   go_ret
   refine ⟨Ad ?_,hb⟩
   rw [HV.out,Je,Bool.true_and]
   exact decide_eq_decide.2 (by omega)
structure Ll where
 kind:Int
 note:Bc
 body:C1
 from_:Int
 interest:List Ao
 view:Cr
 subs:List Sub
def Pd (x:C1):Bool:=decide (x.object=0)&&decide (x.stamp=⟨0,0⟩)&&decide (x.value=[])
def Nm (n:Bc):Bool:=decide (n.start=[])&&decide (n.end_=[])&&decide (n.blur=[])&&decide (n.writes=[])
def Ua (v:Cr):Bool:=decide (v.known=[])&&decide (v.zones=[])&&decide (v.held=[])&&decide (v.bodies=[])&&decide (v.room=0)
def Qq (e:Int) (s:Sub):Bool:=decide (e < s.from_)&&decide (s.from_ < 64)&&decide (0 < s.interest.length)&&Br s.interest&&decide (s.session=0)&&decide (s.seq=0)&&!s.live&&!s.heard&&!s.idle
def Kc:Int->List Sub->Bool
 | _,[]=>true
 | e,s :: l=>Qq e s&&Kc s.from_ l
def Wm (l:List Sub):Bool:=Kc (-1) l&&decide (l.length<=16)
def D1 (x:Ll):Bool :=
 let sub:=decide (x.from_≠0) || decide (0 < x.interest.length)
 let check:=!Ua x.view || decide (0 < x.subs.length)
 if x.kind=1 then Ax x.note&&Pd x.body&&!sub&&!check
 else if x.kind=2 then Nm x.note&&Ca x.body&&!sub&&!check
 else if x.kind=3 then (match x.note.writes with
  | [w]=>!sub&&!check&&Ax x.note&&(w.gone&&Pd x.body || !w.gone&&Ca x.body&&decide (x.body.object=w.object)&&decide (x.body.stamp=w.stamp))
  | _=>false)
 else if x.kind=4 then Nm x.note&&Pd x.body&&!check&&decide (0<=x.from_)&&decide (x.from_ < 64)&&Br x.interest
 else if x.kind=5 then Nm x.note&&Pd x.body&&!sub&&Am x.view&&Wm x.subs
 else false
def Cv9 (z:At):List Nat:=Gb [z.span.lo,z.span.hi]++Yk z.vec
def Cx3 (v:Cr):List Nat:=Yk v.known++(Gh v.zones.length++v.zones.flatMap Cv9)++Ag7 v.held++(Gh v.bodies.length++v.bodies.flatMap B10)++Gh v.room.toNat
def Dv2 (s:Sub):List Nat:=Gh s.from_.toNat++B53 s.interest
def Gv (x:Ll):List Nat :=
 Gh x.kind.toNat ++
 if x.kind=1 then A24 x.note
 else if x.kind=2 then B10 x.body
 else if x.kind=3 then A24 x.note++(if (x.note.writes.headD noW).gone=true then [] else B10 x.body)
 else if x.kind=4 then Gh x.from_.toNat++B53 x.interest
 else if x.kind=5 then Cx3 x.view++(Gh x.subs.length++x.subs.flatMap Dv2)
 else []
def Af5 (x:Ll):List Nat×Int:=if D1 x=true then (Gv x,0) else ([],1)
structure Eo where
 me:Int
 view:Cr
 log:Log
 outs:List Out
 subs:List Sub
 tries:Int
 queue:List Msg
 disk:Gw
 down:Bool
def R7:Log:=⟨[],[],0⟩
def Wz:Eo:=⟨0,Ln,R7,[],[],0,[],Q1,false⟩
def ndC (n:Eo):List AV:=[.val (.int .i64 n.me),.iv (stI n.view.known),.iv (znI n.view.zones),.iv (wrI n.view.held),.iv (boI n.view.bodies),.val (.int .i64 n.view.room),.iv (stI n.log.base),.iv (noI n.log.notes),.val (.int .i64 n.log.sure),.iv (ouI n.outs),.iv (H9 n.subs),.val (.int .i64 n.tries),.iv (msI n.queue),.val (.int .i64 n.disk.room),.iv (flI n.disk.files),.val (.bool n.down)]
def ndA (n:Eo):AV:=.agg (ndC n)
theorem G3 (n:Eo):ndC n=[.val (.int .i64 n.me),.iv (stI n.view.known),.iv (znI n.view.zones),.iv (wrI n.view.held),.iv (boI n.view.bodies),.val (.int .i64 n.view.room),.iv (stI n.log.base),.iv (noI n.log.notes),.val (.int .i64 n.log.sure),.iv (ouI n.outs),.iv (H9 n.subs),.val (.int .i64 n.tries),.iv (msI n.queue),.val (.int .i64 n.disk.room),.iv (flI n.disk.files),.val (.bool n.down)]:=rfl
theorem Gu (n:Eo):ndA n=.agg (ndC n):=rfl
def B35 (n:Eo):Bool:=decide (0<=n.me/\n.me < 64)&&decide (0<=n.tries/\n.tries < 1099511627776)&&Bs n.disk&&decide (n.queue.length<=4096)
def Ay7 (n:Eo):Bool:=decide (n.view.known=[]/\n.view.zones=[]/\n.view.held=[]/\n.view.bodies=[]/\n.log.base=[]/\n.log.notes=[]/\n.outs=[]/\n.subs=[]/\n.queue=[]/\n.tries=0/\n.log.sure=0)&&Ke n.view.room
def A34 (l:Log):List Ab:=if Cf l=true then Bk l.base l.notes else []
def Vh (me:Int) (m:Msg):Bool:=decide (m.from_=me)&&Fe m
def Bk6 (n:Eo):Bool:=Am n.view&&Cf n.log&&decide (A34 n.log=n.view.known)&&Gf n.log.notes.length n.outs&&Fo n.subs&&n.outs.all (fun x=>!decide (x.to_=n.me))&&n.queue.all (Vh n.me)&&n.subs.all (fun s=>!decide (s.from_=n.me))
def Dc (n:Eo):Bool:=B35 n&&if n.down=true then Ay7 n else Bk6 n
def upE (n:Eo):Int:=if Dc n=true then (if n.down=true then 11 else 0) else 1
def Yq (me room bodies:Int):Eo×Int:=if Ke bodies=true/\(0<=me/\me < 64)/\(0<=room/\room<=16777216) then (⟨me,⟨[],[],[],[],bodies⟩,R7,[],[],0,[],⟨room,[]⟩,false⟩,0) else (Wz,1)
def Sh (l:Log) (n:Bc):Log×Int:=if Cf l=true/\Ax n=true then (if Aw (Bk l.base l.notes) n.start=true then (⟨l.base,l.notes++[n],l.sure⟩,0) else (R7,3)) else (R7,1)
def Bx9 (d:Gw) (x:Ll):Gw×Int:=if D1 x=true then (match Ks d (Gv x) with | (d',0)=>(d',0) | (_,e)=>(d,e)) else (d,1)
end Go.Proofs.YtblfjaedaijfoaaGreatDoor
