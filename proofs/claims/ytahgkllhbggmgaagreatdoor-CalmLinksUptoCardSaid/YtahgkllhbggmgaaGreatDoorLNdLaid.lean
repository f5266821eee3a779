/- A world that holds the two tables as they are laid, and what a row's list gives of them. -/
import Derived.Test.YtahgkllhbggmgaaGreatDoorLViewEnc
import Derived.Test.YtahgkllhbggmgaaGreatDoorLVecLaw
import Derived.Laws.BitsAllLaws
import Derived.Test.YtahgkllhbggmgaaGreatDoorCards
import Derived.Test.YtahgkllhbggmgaaGreatDoorTie
import Derived.Lib.LaidTab
import Derived.Deep.DeepWitnessRowRef
import Derived.Lib.SmallJoins
set_option linter.all false
set_option linter.unnecessarySimpa false
set_option linter.unusedSimpArgs false
set_option linter.unusedVariables false
namespace Go.Proofs.YtahgkllhbggmgaaGreatDoor
open Go.ChangeShapes Go.WideShapes Go.ChangeAt Go.RowKit
structure Hr where
 number:Int
 bytes:List Nat
 sure:Int
 deriving DecidableEq
structure Jw where
 room:Int
 files:List Hr
 deriving DecidableEq
def Pe:Jw:=⟨0,[]⟩
def enF (f:Hr):List IV:=[.val (.int .i64 f.number),byI f.bytes,.val (.int .i64 f.sure)]
def flI (l:List Hr):IV:=.sl 3 (l.map enF)
def dkA (d:Jw):AV:=.agg [.val (.int .i64 d.room),.iv (flI d.files)]
theorem Uh (f:Hr):enF f=[.val (.int .i64 f.number),byI f.bytes,.val (.int .i64 f.sure)]:=rfl
theorem N9 (l:List Hr):flI l=.sl 3 (l.map enF):=rfl
theorem Na (d:Jw):dkA d=.agg [.val (.int .i64 d.room),.iv (flI d.files)]:=rfl
def K6 (l:List Hr):Nat:=(l.map (·.bytes.length)).sum
def Gx:Int->List Hr->Int
 | e,[]=>e
 | _,f :: l=>Gx f.number l
def Ve (room:Int) (u:Nat) (e:Int) (f:Hr):Bool:=decide (e < f.number/\f.number<=1048576/\0<=f.sure/\f.sure<=f.bytes.length/\(f.bytes.length:Int)<=room - u)
def Er (room:Int):Nat->Int->List Hr->Bool
 | _,_,[]=>true
 | u,e,f :: l=>Ve room u e f&&Er room (u+f.bytes.length) f.number l
def C0 (d:Jw):Bool:=decide (0<=d.room/\d.room<=16777216)&&Er d.room 0 (-1) d.files
theorem Lx {room:Int} : ∀ {a b:List Hr} {u:Nat} {e:Int},Er room u e (a++b)=(Er room u e a&&Er room (u+K6 a) (Gx e a) b)
 | [],b,u,e=>rfl
 | f :: a,b,u,e=>by
  simp only [List.cons_append,Er,Lx (a:=a),Bool.and_assoc,Gx,K6,List.map_cons,List.sum_cons,Nat.add_assoc]
theorem Ae3 (a b:List Hr):K6 (a++b)=K6 a+K6 b:=by simp [K6]
theorem Su:∀ (a b:List Hr) (e:Int),Gx e (a++b)=Gx (Gx e a) b
 | [],_,_=>rfl
 | f :: a,b,_=>Su a b f.number
theorem B68 {l:List Hr} {m:Nat} (h:m < l.length):l.take (m+1)=l.take m++[l[m]]:=List.take_succ_eq_append_getElem h
theorem Am6 {room:Int} {l:List Hr} {m:Nat} (h:m < l.length) (ht:Er room 0 (-1) (l.take m)=true):Er room 0 (-1) l=(Ve room (K6 (l.take m)) (Gx (-1) (l.take m)) l[m]&&Er room (K6 (l.take m)+l[m].bytes.length) l[m].number (l.drop (m+1))):=by
 conv=>lhs;rw [<-List.take_append_drop m l,List.drop_eq_getElem_cons h]
 rw [Lx,ht,Bool.true_and,Nat.zero_add]
 rfl
theorem Yb {room:Int} {l:List Hr} {m:Nat} (h:m < l.length) (ht:Er room 0 (-1) (l.take m)=true) (hf:Ve room (K6 (l.take m)) (Gx (-1) (l.take m)) l[m]=true) :
  Er room 0 (-1) (l.take (m+1))=true/\K6 (l.take (m+1))=K6 (l.take m)+l[m].bytes.length/\Gx (-1) (l.take (m+1))=l[m].number:=by
 rw [B68 h]
 refine ⟨by rw [Lx,ht,Nat.zero_add];simp [Er,hf],by rw [Ae3];simp [K6],by rw [Su];rfl⟩
theorem Ru {room:Int} (h0:0<=room):∀ {l:List Hr} {u:Nat} {e:Int},(u:Int)<=room->Er room u e l=true->((u+K6 l:Nat):Int)<=room
 | [],u,e,h,_=>by simpa [K6] using h
 | f :: l,u,e,h,hf=>by
  simp only [Er,Ve,Bool.and_eq_true,decide_eq_true_eq] at hf
  have:=Ru h0 (l:=l) (u:=u+f.bytes.length) (e:=f.number) (by omega) hf.2
  simp only [K6,List.map_cons,List.sum_cons] at this ⊢
  omega
def Dz3 (d:Jw):Int:=if C0 d=true then (K6 d.files:Nat) else 0
def Dt2 (l:List Hr) (n:Int):Nat:=l.findIdx fun f=>decide (n<=f.number)
def E39 (l:List Hr) (n:Int):Option Hr:=l.find? fun f=>decide (f.number=n)
def B39 (n:Int) (b:List Nat):List Hr->List Hr
 | []=>[⟨n,b,0⟩]
 | f :: l=>if f.number < n then f :: B39 n b l else if f.number=n then ⟨n,f.bytes++b,f.sure⟩ :: l else ⟨n,b,0⟩ :: f :: l
def D09 (d:Jw) (n:Int) (b:List Nat):Jw×Int :=
 if C0 d=true/\0<=n/\n<=1048576 then (if (b.length:Int) > d.room - K6 d.files then (Pe,7) else (⟨d.room,B39 n b d.files⟩,0)) else (Pe,1)
def Cx0 (f:Hr):Hr:=⟨f.number,f.bytes,(f.bytes.length:Nat)⟩
def Cw9 (d:Jw):Jw×Int:=if C0 d=true then (⟨d.room,d.files.map Cx0⟩,0) else (Pe,1)
def C36 (d:Jw):Int:=if C0 d=true then Gx (-1) d.files else -1
def Ca9 (d:Jw) (f:List Nat):Jw×Int :=
 if max (C36 d) 0+1 > 1048576 then (Pe,15) else if C0 d=true then D09 (Cw9 d).1 (max (C36 d) 0+1) f else (Pe,1)
def Dx8 (d:Jw) (f:List Nat):Jw×Int :=
 match d.files.getLast? with
 | some x=>if x.bytes=[]\/x.bytes.length+f.length<=512 then D09 d x.number f else Ca9 d f
 | none=>Ca9 d f
def Bw6:Nat->Nat->List Nat
 | 0,n=>[n]
 | k+1,n=>if n < 128 then [n] else (n % 128+128) :: Bw6 k (n / 128)
def Vr (n:Nat):List Nat:=Bw6 8 n
def Xr (l:List Int):List Nat:=l.flatMap fun n=>Vr n.toNat
def Bt9 (l:List Ad):List Nat:=Vr l.length++l.flatMap fun s=>Xr [s.node,s.count]
def C91 (l:List Ah):List Nat:=Vr l.length++l.flatMap fun s=>Xr [s.lo,s.hi]
def C65 (w:Ar):List Nat:=Xr [w.object,w.stamp.node,w.stamp.count,if w.gone=true then 1 else 0]
def B02 (l:List Ar):List Nat:=Vr l.length++l.flatMap C65
def C32 (n:Bz):List Nat:=Bt9 n.start++Bt9 n.end_++C91 n.blur++B02 n.writes
def Br2 (x:Cr):List Nat:=Xr [x.object,x.stamp.node,x.stamp.count]++(Vr x.value.length++x.value)
def Bg7:List Nat:=[0x00000000,0x1db71064,0x3b6e20c8,0x26d930ac,0x76dc4190,0x6b6b51f4,0x4db26158,0x5005713c,0xedb88320,0xf00f9344,0xd6d6a3e8,0xcb61b38c,0x9b64c2b0,0x86d3d2d4,0xa00ae278,0xbdbdf21c]
def C38 (c:Nat):Nat:=(c / 16)^^^(Bg7.getD (c % 16) 0)
def D67 (c x:Nat):Nat:=C38 (C38 (c^^^x))
def Cz8 (c:Nat) (l:List Nat):Nat:=l.foldl D67 c
def Bo1 (n:Nat):List Nat:=[n / 16777216 % 256,n / 65536 % 256,n / 256 % 256,n % 256]
def Dr1 (l:List Nat):Nat:=4294967295 - Cz8 4294967295 l
def C27 (p:List Nat):List Nat:=Bo1 p.length++Bo1 (Dr1 (Bo1 p.length++p))++p
def C09 (d:Jw) (p:List Nat):Jw×Int:=if p.length<=1048576/\C0 d=true then Dx8 d (C27 p) else (Pe,1)
def Dr3 (d:Jw) (p:List Nat):Jw×Int:=if p.length<=1048576/\C0 d=true then Ca9 d (C27 p) else (Pe,1)
def Yz (w:World):Prop:=∀ j,j < 16->w.cell? ⟨0,j,none⟩=some (.int .u32 (Bg7.getD j 0:Nat))
theorem Yz.next {w w1:World} (h:Yz w) (hb:Below w.heap.size w w1):Yz w1:=fun j hj=>Ao hb (h j hj)
def R5 (w:World):Prop:=A8 w/\Yz w
theorem R5.later {w w':World} (h:R5 w) (hb:Below w.heap.size w w'):R5 w':=⟨h.1.next hb,h.2.next hb⟩
def Bm8 (cs:Array Value):Obj->Obj
 | .cells _ t frozen=>.cells cs t frozen
 | o=>o
def Bu0:Array Value:=#[.int .u8 0,.int .u8 1,.int .u8 56,.int .u8 2,.int .u8 57,.int .u8 49,.int .u8 28,.int .u8 3,.int .u8 61,.int .u8 58,.int .u8 42,.int .u8 50,.int .u8 38,.int .u8 29,.int .u8 17,.int .u8 4,.int .u8 62,.int .u8 47,.int .u8 59,.int .u8 36,.int .u8 45,.int .u8 43,.int .u8 51,.int .u8 22,.int .u8 53,.int .u8 39,.int .u8 33,.int .u8 30,.int .u8 24,.int .u8 18,.int .u8 12,.int .u8 5,.int .u8 63,.int .u8 55,.int .u8 48,.int .u8 27,.int .u8 60,.int .u8 41,.int .u8 37,.int .u8 16,.int .u8 46,.int .u8 35,.int .u8 44,.int .u8 21,.int .u8 52,.int .u8 32,.int .u8 23,.int .u8 11,.int .u8 54,.int .u8 26,.int .u8 40,.int .u8 15,.int .u8 34,.int .u8 20,.int .u8 31,.int .u8 10,.int .u8 25,.int .u8 14,.int .u8 19,.int .u8 9,.int .u8 13,.int .u8 8,.int .u8 7,.int .u8 6]
noncomputable def B08 (os:Os):World :=
 { World.holding Tryz.prog os ⟨#[],#[],[]⟩ with heap:=(World.holding Tryz.prog os ⟨#[],#[],[]⟩).heap.modify 1 (Bm8 Bu0) }
theorem Bg1 : Tryz.prog.globalNamed "math/bits.deBruijn64tab" = some 1 := by kernel_rfl
theorem C76:(Tryz.prog.globals[1]?).map (·.type)=some 513:=by kernel_rfl
theorem Aq4 {laid : List (String × DataW Unit)} {W : World} (e : (laid.filter fun x => x.1 == "math/bits.deBruijn64tab") = [("math/bits.deBruijn64tab", Lib.tabData .u8 (Lib.deBruijn64tab.map Int.ofNat))]) (h : laidMetH Tryz.prog laid W) : A8 W := by
 have h1 := h.filter (fun x => x.1 == "math/bits.deBruijn64tab")
 rw [e] at h1
 have h2:=Lib.tabIs_of_head (rest:=[]) Bg1 C76 Tryz.underlying513 Tryz.underlying5 (by kernel_rfl) (by kernel_rfl) h1
 intro j hj
 have h3:=h2.cell Bg1 j (by simpa using hj)
 rw [h3]
 simp [List.getD,hj]
theorem Ar5 {H:Type} {l:List (DataW H)} (h:Rows.uptoSmall H l=true):∀ d,d∈l->Rows.uptoBulk d<=1048576:=by
 have h2:Rows.uptoBulkAll l<=1048576:=of_decide_eq_true h
 intro d hd
 have:=Uk hd
 omega
def Bp2:Array Value:=#[.int .u32 0,.int .u32 498536548,.int .u32 997073096,.int .u32 651767980,.int .u32 1994146192,.int .u32 1802195444,.int .u32 1303535960,.int .u32 1342533948,.int .u32 3988292384,.int .u32 4027552580,.int .u32 3604390888,.int .u32 3412177804,.int .u32 2607071920,.int .u32 2262029012,.int .u32 2685067896,.int .u32 3183342108]
noncomputable def A82 (os:Os):World:={ B08 os with heap:=(B08 os).heap.modify 0 (Bm8 Bp2) }
theorem B44 : Tryz.prog.globalNamed "telltale/frame.table" = some 0 := by kernel_rfl
theorem Bz4:(Tryz.prog.globals[0]?).map (·.type)=some 345:=by kernel_rfl
theorem An4 {laid : List (String × DataW Unit)} {W : World} (e : (laid.filter fun x => x.1 == "telltale/frame.table") = [("telltale/frame.table", Lib.tabData .u32 (Bg7.map Int.ofNat))]) (h : laidMetH Tryz.prog laid W) : Yz W := by
 have h1 := h.filter (fun x => x.1 == "telltale/frame.table")
 rw [e] at h1
 have h2:=Lib.tabIs_of_head (rest:=[]) B44 Bz4 Tryz.underlying345 Tryz.underlying228 (by kernel_rfl) (by kernel_rfl) h1
 intro j hj
 have hj':j < Bg7.length:=hj
 have h3:=h2.cell B44 j (by simpa using hj')
 rw [h3]
 simp [List.getD,hj']
end Go.Proofs.YtahgkllhbggmgaaGreatDoor
