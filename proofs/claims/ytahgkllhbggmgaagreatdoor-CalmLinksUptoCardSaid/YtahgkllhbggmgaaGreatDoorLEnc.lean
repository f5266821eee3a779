/- Stamps, spans, writes, notes as trees; contracts of the elder kind, told as data. -/
import Derived.Test.YtahgkllhbggmgaaGreatDoorLAbsSimp
import Derived.Test.YtahgkllhbggmgaaGreatDoorProg
import Derived.Test.YtahgkllhbggmgaaGreatDoorLNoteSmall
set_option linter.all false
set_option linter.unnecessarySimpa false
set_option linter.unusedSimpArgs false
set_option linter.unusedVariables false
namespace Go.Proofs.YtahgkllhbggmgaaGreatDoor
open Go.ChangeShapes Go.WideShapes Go.ChangeAt Go.RowKit
@[go_sem] theorem Dz8:tyK Tryz.prog 3=some (0,1):=by kernel_rfl
@[go_sem] theorem De3:Nu Tryz.prog 3=some .i64:=by kernel_rfl
@[go_sem] theorem Dz5:tyZ Tryz.prog 3=some (0,[.int .i64 0]):=by kernel_rfl
@[go_sem] theorem Dz7:tyK Tryz.prog 4=some (0,1):=by kernel_rfl
@[go_sem] theorem Dz4:tyZ Tryz.prog 4=some (0,[.bool false]):=by kernel_rfl
@[go_sem] theorem Dz6:tyK Tryz.prog 5=some (0,1):=by kernel_rfl
@[go_sem] theorem Dc1:Fu Tryz.prog 9=true:=by kernel_rfl
@[go_sem] theorem Dq4:tyK Tryz.prog 22=some (0,1):=by kernel_rfl
@[go_sem] theorem Dd6:Cq Tryz.prog 22=some (67,16,288):=by kernel_rfl
@[go_sem] theorem Dq3:tyK Tryz.prog 23=some (0,1):=by kernel_rfl
@[go_sem] theorem Dd5:Cq Tryz.prog 23=some (74,4,64):=by kernel_rfl
@[go_sem] theorem Dq2:tyK Tryz.prog 25=some (1,2):=by kernel_rfl
@[go_sem] theorem Cv9:tyF Tryz.prog 25 0=some (0,0,1):=by kernel_rfl
@[go_sem] theorem Cv8:tyF Tryz.prog 25 1=some (1,0,1):=by kernel_rfl
@[go_sem] theorem Dd4:Cq Tryz.prog 35=some (3,1,8):=by kernel_rfl
@[go_sem] theorem Dq1:tyK Tryz.prog 38=some (1,2):=by kernel_rfl
@[go_sem] theorem Dq8:M2 Tryz.prog 38=some ([.int .i64 0,.int .i64 0],[(0,1),(1,1)]):=by kernel_rfl
@[go_sem] theorem Dq0:tyK Tryz.prog 40=some (0,1):=by kernel_rfl
@[go_sem] theorem Dd3:Cq Tryz.prog 40=some (89,2,16):=by kernel_rfl
@[go_sem] theorem Dp9:tyK Tryz.prog 44=some (0,1):=by kernel_rfl
@[go_sem] theorem Dd2:Cq Tryz.prog 44=some (5,1,1):=by kernel_rfl
@[go_sem] theorem Cw0:Lf Tryz.prog 44=true:=by kernel_rfl
@[go_sem] theorem Dp8:tyK Tryz.prog 51=some (0,1):=by kernel_rfl
@[go_sem] theorem Dd1:Cq Tryz.prog 51=some (38,2,16):=by kernel_rfl
@[go_sem] theorem Dn9:tyZ Tryz.prog 51=some (0,[.slice none 0 0]):=by kernel_rfl
@[go_sem] theorem Dp7:tyK Tryz.prog 52=some (0,1):=by kernel_rfl
@[go_sem] theorem Dd0:Cq Tryz.prog 52=some (180,3,40):=by kernel_rfl
@[go_sem] theorem Dp6:tyK Tryz.prog 53=some (0,1):=by kernel_rfl
@[go_sem] theorem Dc9:Cq Tryz.prog 53=some (128,4,32):=by kernel_rfl
@[go_sem] theorem Dp5:tyK Tryz.prog 54=some (0,1):=by kernel_rfl
@[go_sem] theorem Dc8:Cq Tryz.prog 54=some (79,4,48):=by kernel_rfl
@[go_sem] theorem Dp4:tyK Tryz.prog 56=some (1,5):=by kernel_rfl
@[go_sem] theorem Cv7:tyF Tryz.prog 56 0=some (0,0,1):=by kernel_rfl
@[go_sem] theorem Cv6:tyF Tryz.prog 56 1=some (1,0,1):=by kernel_rfl
@[go_sem] theorem Cv5:tyF Tryz.prog 56 2=some (2,0,1):=by kernel_rfl
@[go_sem] theorem Cv4:tyF Tryz.prog 56 3=some (3,0,1):=by kernel_rfl
@[go_sem] theorem Cv3:tyF Tryz.prog 56 4=some (4,0,1):=by kernel_rfl
@[go_sem] theorem Dq7:M2 Tryz.prog 56=some ([.slice none 0 0,.slice none 0 0,.slice none 0 0,.slice none 0 0,.int .i64 0],[(0,1),(1,1),(2,1),(3,1),(4,1)]):=by kernel_rfl
@[go_sem] theorem Dn8:tyZ Tryz.prog 56=some (1,[.slice none 0 0,.slice none 0 0,.slice none 0 0,.slice none 0 0,.int .i64 0]):=by kernel_rfl
@[go_sem] theorem Dp3:tyK Tryz.prog 57=some (0,1):=by kernel_rfl
@[go_sem] theorem Dc7:Cq Tryz.prog 57=some (86,4,96):=by kernel_rfl
@[go_sem] theorem Dp2:tyK Tryz.prog 59=some (1,3):=by kernel_rfl
@[go_sem] theorem Cv2:tyF Tryz.prog 59 0=some (0,0,1):=by kernel_rfl
@[go_sem] theorem Cv1:tyF Tryz.prog 59 1=some (1,0,1):=by kernel_rfl
@[go_sem] theorem Cv0:tyF Tryz.prog 59 2=some (2,0,1):=by kernel_rfl
@[go_sem] theorem Dp1:tyK Tryz.prog 60=some (0,1):=by kernel_rfl
@[go_sem] theorem Dc6:Cq Tryz.prog 60=some (116,5,56):=by kernel_rfl
@[go_sem] theorem Dp0:tyK Tryz.prog 61=some (0,1):=by kernel_rfl
@[go_sem] theorem Dc5:Cq Tryz.prog 61=some (92,7,56):=by kernel_rfl
@[go_sem] theorem Do9:tyK Tryz.prog 62=some (0,1):=by kernel_rfl
@[go_sem] theorem Dc4:Cq Tryz.prog 62=some (81,12,160):=by kernel_rfl
@[go_sem] theorem Do8:tyK Tryz.prog 63=some (0,1):=by kernel_rfl
@[go_sem] theorem Dc3:Cq Tryz.prog 63=some (172,3,40):=by kernel_rfl
@[go_sem] theorem Do7:tyK Tryz.prog 65=some (1,2):=by kernel_rfl
@[go_sem] theorem Cu9:tyF Tryz.prog 65 0=some (0,0,1):=by kernel_rfl
@[go_sem] theorem Cu8:tyF Tryz.prog 65 1=some (1,0,1):=by kernel_rfl
@[go_sem] theorem Do6:tyK Tryz.prog 67=some (1,16):=by kernel_rfl
@[go_sem] theorem Cu7:tyF Tryz.prog 67 0=some (0,0,1):=by kernel_rfl
@[go_sem] theorem Cu6:tyF Tryz.prog 67 1=some (1,1,5):=by kernel_rfl
@[go_sem] theorem Cu5:tyF Tryz.prog 67 2=some (6,1,3):=by kernel_rfl
@[go_sem] theorem Cu4:tyF Tryz.prog 67 3=some (9,0,1):=by kernel_rfl
@[go_sem] theorem Cu3:tyF Tryz.prog 67 4=some (10,0,1):=by kernel_rfl
@[go_sem] theorem Cu2:tyF Tryz.prog 67 5=some (11,0,1):=by kernel_rfl
@[go_sem] theorem Cu1:tyF Tryz.prog 67 6=some (12,0,1):=by kernel_rfl
@[go_sem] theorem Cu0:tyF Tryz.prog 67 7=some (13,1,2):=by kernel_rfl
@[go_sem] theorem Ct9:tyF Tryz.prog 67 8=some (15,0,1):=by kernel_rfl
@[go_sem] theorem Dq6:M2 Tryz.prog 67=some ([.int .i64 0,.slice none 0 0,.slice none 0 0,.slice none 0 0,.slice none 0 0,.int .i64 0,.slice none 0 0,.slice none 0 0,.int .i64 0,.slice none 0 0,.slice none 0 0,.int .i64 0,.slice none 0 0,.int .i64 0,.slice none 0 0,.bool false],[(0,1),(1,5),(6,3),(9,1),(10,1),(11,1),(12,1),(13,2),(15,1)]):=by kernel_rfl
@[go_sem] theorem Dn7:tyZ Tryz.prog 67=some (1,[.int .i64 0,.slice none 0 0,.slice none 0 0,.slice none 0 0,.slice none 0 0,.int .i64 0,.slice none 0 0,.slice none 0 0,.int .i64 0,.slice none 0 0,.slice none 0 0,.int .i64 0,.slice none 0 0,.int .i64 0,.slice none 0 0,.bool false]):=by kernel_rfl
@[go_sem] theorem Do5:tyK Tryz.prog 74=some (1,4):=by kernel_rfl
@[go_sem] theorem Ct8:tyF Tryz.prog 74 0=some (0,0,1):=by kernel_rfl
@[go_sem] theorem Ct7:tyF Tryz.prog 74 1=some (1,0,1):=by kernel_rfl
@[go_sem] theorem Ct6:tyF Tryz.prog 74 2=some (2,0,1):=by kernel_rfl
@[go_sem] theorem Ct5:tyF Tryz.prog 74 3=some (3,0,1):=by kernel_rfl
@[go_sem] theorem Dn6:tyZ Tryz.prog 74=some (1,[.int .i64 0,.int .i64 0,.slice none 0 0,.slice none 0 0]):=by kernel_rfl
@[go_sem] theorem Do4:tyK Tryz.prog 79=some (1,4):=by kernel_rfl
@[go_sem] theorem Ct4:tyF Tryz.prog 79 0=some (0,0,1):=by kernel_rfl
@[go_sem] theorem Ct3:tyF Tryz.prog 79 1=some (1,1,2):=by kernel_rfl
@[go_sem] theorem Ct2:tyF Tryz.prog 79 2=some (3,0,1):=by kernel_rfl
@[go_sem] theorem Dn5:tyZ Tryz.prog 79=some (1,[.int .i64 0,.int .i64 0,.int .i64 0,.slice none 0 0]):=by kernel_rfl
@[go_sem] theorem Do3:tyK Tryz.prog 81=some (1,12):=by kernel_rfl
@[go_sem] theorem Ct1:tyF Tryz.prog 81 0=some (0,0,1):=by kernel_rfl
@[go_sem] theorem Ct0:tyF Tryz.prog 81 1=some (1,0,1):=by kernel_rfl
@[go_sem] theorem Cs9:tyF Tryz.prog 81 2=some (2,0,1):=by kernel_rfl
@[go_sem] theorem Cs8:tyF Tryz.prog 81 3=some (3,0,1):=by kernel_rfl
@[go_sem] theorem Cs7:tyF Tryz.prog 81 4=some (4,0,1):=by kernel_rfl
@[go_sem] theorem Cs6:tyF Tryz.prog 81 5=some (5,0,1):=by kernel_rfl
@[go_sem] theorem Cs5:tyF Tryz.prog 81 6=some (6,0,1):=by kernel_rfl
@[go_sem] theorem Cs4:tyF Tryz.prog 81 7=some (7,0,1):=by kernel_rfl
@[go_sem] theorem Cs3:tyF Tryz.prog 81 8=some (8,1,4):=by kernel_rfl
@[go_sem] theorem Dn4:tyZ Tryz.prog 81=some (1,[.int .i64 0,.int .i64 0,.int .i64 0,.int .i64 0,.int .i64 0,.slice none 0 0,.slice none 0 0,.slice none 0 0,.int .i64 0,.int .i64 0,.int .i64 0,.slice none 0 0]):=by kernel_rfl
@[go_sem] theorem Do2:tyK Tryz.prog 86=some (1,4):=by kernel_rfl
@[go_sem] theorem Cs2:tyF Tryz.prog 86 1=some (1,0,1):=by kernel_rfl
@[go_sem] theorem Dn3:tyZ Tryz.prog 86=some (1,[.slice none 0 0,.slice none 0 0,.slice none 0 0,.slice none 0 0]):=by kernel_rfl
@[go_sem] theorem Do1:tyK Tryz.prog 89=some (1,2):=by kernel_rfl
@[go_sem] theorem Cs1:tyF Tryz.prog 89 0=some (0,0,1):=by kernel_rfl
@[go_sem] theorem Cs0:tyF Tryz.prog 89 1=some (1,0,1):=by kernel_rfl
@[go_sem] theorem Dq5:M2 Tryz.prog 89=some ([.int .i64 0,.int .i64 0],[(0,1),(1,1)]):=by kernel_rfl
@[go_sem] theorem Dn2:tyZ Tryz.prog 89=some (1,[.int .i64 0,.int .i64 0]):=by kernel_rfl
@[go_sem] theorem Do0:tyK Tryz.prog 92=some (1,7):=by kernel_rfl
@[go_sem] theorem Cr9:tyF Tryz.prog 92 0=some (0,0,1):=by kernel_rfl
@[go_sem] theorem Cr8:tyF Tryz.prog 92 1=some (1,0,1):=by kernel_rfl
@[go_sem] theorem Cr7:tyF Tryz.prog 92 2=some (2,0,1):=by kernel_rfl
@[go_sem] theorem Cr6:tyF Tryz.prog 92 3=some (3,0,1):=by kernel_rfl
@[go_sem] theorem Cr5:tyF Tryz.prog 92 4=some (4,0,1):=by kernel_rfl
@[go_sem] theorem Cr4:tyF Tryz.prog 92 5=some (5,0,1):=by kernel_rfl
@[go_sem] theorem Cr3:tyF Tryz.prog 92 6=some (6,0,1):=by kernel_rfl
@[go_sem] theorem Dn1:tyZ Tryz.prog 92=some (1,[.int .i64 0,.slice none 0 0,.int .i64 0,.int .i64 0,.bool false,.bool false,.bool false]):=by kernel_rfl
@[go_sem] theorem Dc2:Cq Tryz.prog 96=none:=by kernel_rfl
@[go_sem] theorem De7:Ra Tryz.prog 96=some (64,0,1):=by kernel_rfl
@[go_sem] theorem Dn0:tyZ Tryz.prog 96=some (2,rep 64 (.bool false)):=by kernel_rfl
@[go_sem] theorem De2:tyK Tryz.prog 116=some (1,5):=by kernel_rfl
@[go_sem] theorem Ci9:tyF Tryz.prog 116 0=some (0,0,1):=by kernel_rfl
@[go_sem] theorem Ci8:tyF Tryz.prog 116 1=some (1,0,1):=by kernel_rfl
@[go_sem] theorem Ci7:tyF Tryz.prog 116 2=some (2,0,1):=by kernel_rfl
@[go_sem] theorem Ci6:tyF Tryz.prog 116 3=some (3,0,1):=by kernel_rfl
@[go_sem] theorem Ci5:tyF Tryz.prog 116 4=some (4,0,1):=by kernel_rfl
@[go_sem] theorem Dc0:tyZ Tryz.prog 116=some (1,[.int .i64 0,.int .i64 0,.slice none 0 0,.int .i64 0,.int .i64 0]):=by kernel_rfl
@[go_sem] theorem De1:tyK Tryz.prog 128=some (1,4):=by kernel_rfl
@[go_sem] theorem Ci4:tyF Tryz.prog 128 0=some (0,1,2):=by kernel_rfl
@[go_sem] theorem Ci3:tyF Tryz.prog 128 1=some (2,0,1):=by kernel_rfl
@[go_sem] theorem Ci2:tyF Tryz.prog 128 2=some (3,0,1):=by kernel_rfl
@[go_sem] theorem De6:M2 Tryz.prog 128=some ([.int .i64 0,.int .i64 0,.int .i64 0,.bool false],[(0,2),(2,1),(3,1)]):=by kernel_rfl
@[go_sem] theorem Db9:tyZ Tryz.prog 128=some (1,[.int .i64 0,.int .i64 0,.int .i64 0,.bool false]):=by kernel_rfl
@[go_sem] theorem Ch6:Nu Tryz.prog 147=some .u64:=by kernel_rfl
@[go_sem] theorem De0:tyK Tryz.prog 172=some (1,3):=by kernel_rfl
@[go_sem] theorem Ci1:tyF Tryz.prog 172 0=some (0,0,1):=by kernel_rfl
@[go_sem] theorem Ci0:tyF Tryz.prog 172 1=some (1,0,1):=by kernel_rfl
@[go_sem] theorem Ch9:tyF Tryz.prog 172 2=some (2,0,1):=by kernel_rfl
@[go_sem] theorem Db8:tyZ Tryz.prog 172=some (1,[.int .i64 0,.slice none 0 0,.int .i64 0]):=by kernel_rfl
@[go_sem] theorem Cr2:Qf Tryz.prog 173=some (.i64,.bool false):=by kernel_rfl
@[go_sem] theorem Dd9:tyK Tryz.prog 180=some (1,3):=by kernel_rfl
@[go_sem] theorem Ch8:tyF Tryz.prog 180 0=some (0,1,2):=by kernel_rfl
@[go_sem] theorem Ch7:tyF Tryz.prog 180 1=some (2,0,1):=by kernel_rfl
@[go_sem] theorem Db7:tyZ Tryz.prog 180=some (1,[.int .i64 0,.int .i64 0,.slice none 0 0]):=by kernel_rfl
@[go_sem] theorem Dd8:tyK Tryz.prog 231=some (2,256):=by kernel_rfl
@[go_sem] theorem Cr1:Cq Tryz.prog 231=none:=by kernel_rfl
@[go_sem] theorem Cw3:Ra Tryz.prog 231=some (256,0,1):=by kernel_rfl
@[go_sem] theorem Db6:tyZ Tryz.prog 231=some (2,rep 256 (.bool false)):=by kernel_rfl
@[go_sem] theorem Cr0:Cq Tryz.prog 304=none:=by kernel_rfl
@[go_sem] theorem Cw2:Ra Tryz.prog 304=some (2,0,1):=by kernel_rfl
@[go_sem] theorem De5:M2 Tryz.prog 304=some ([.int .i64 0,.int .i64 0],[(0,1),(1,1)]):=by kernel_rfl
@[go_sem] theorem Dd7:tyK Tryz.prog 305=some (2,4):=by kernel_rfl
@[go_sem] theorem Cq9:Cq Tryz.prog 305=none:=by kernel_rfl
@[go_sem] theorem Cw1:Ra Tryz.prog 305=some (2,2,2):=by kernel_rfl
@[go_sem] theorem De4:M2 Tryz.prog 305=some ([.int .i64 0,.int .i64 0,.int .i64 0,.int .i64 0],[(0,2),(2,2)]):=by kernel_rfl
@[go_sem] theorem Db5:tyZ Tryz.prog 305=some (2,[.int .i64 0,.int .i64 0,.int .i64 0,.int .i64 0]):=by kernel_rfl
@[go_sem] theorem Cq8:Cq Tryz.prog 320=some (51,1,24):=by kernel_rfl
def Yd (s:Ad):List IV:=[.val (.int .i64 s.count),.val (.int .i64 s.node)]
def Po (s:Ah):List IV:=[.val (.int .i64 s.lo),.val (.int .i64 s.hi)]
def enW (y:Ar):List IV:=[.val (.int .i64 y.stamp.count),.val (.int .i64 y.stamp.node),.val (.int .i64 y.object),.val (.bool y.gone)]
def stI (l:List Ad):IV:=.sl 2 (l.map Yd)
def spI (l:List Ah):IV:=.sl 2 (l.map Po)
def wrI (l:List Ar):IV:=.sl 4 (l.map enW)
def enN (x:Bz):List IV:=[stI x.start,stI x.end_,spI x.blur,wrI x.writes]
def noI (l:List Bz):IV:=.sl 4 (l.map enN)
def stA (l:List Ad):AV:=.iv (stI l)
def spA (l:List Ah):AV:=.iv (spI l)
def Qz (x:Bz):AV:=.agg [.iv (stI x.start),.iv (stI x.end_),.iv (spI x.blur),.iv (wrI x.writes)]
theorem By6 (s:Ad):Yd s=[.val (.int .i64 s.count),.val (.int .i64 s.node)]:=rfl
theorem B42 (s:Ah):Po s=[.val (.int .i64 s.lo),.val (.int .i64 s.hi)]:=rfl
theorem Dz (y:Ar):enW y=[.val (.int .i64 y.stamp.count),.val (.int .i64 y.stamp.node),.val (.int .i64 y.object),.val (.bool y.gone)]:=rfl
theorem L5 (x:Bz):enN x=[stI x.start,stI x.end_,spI x.blur,wrI x.writes]:=rfl
section
variable {X : World} {v : Value}
theorem X1 {cs:List Value} {s:Ad} (h:Fs cs s):Av X cs (Yd s):=by
 obtain ⟨rfl,h1,h2⟩:=h;exact ⟨.val h1,.val h2,trivial⟩
theorem C97 {cs:List Value} {s:Ad} (h:Av X cs (Yd s)):Fs cs s:=by
 match cs,h with
 | [a,b],⟨h1,h2,_⟩=>cases h1 with | val i1=>cases h2 with | val i2=>exact ⟨rfl,i1,i2⟩
theorem A50 {cs:List Value} {s:Ah} (h:Gc cs s):Av X cs (Po s):=by
 obtain ⟨rfl,h1,h2⟩:=h;exact ⟨.val h1,.val h2,trivial⟩
theorem C98 {cs:List Value} {s:Ah} (h:Av X cs (Po s)):Gc cs s:=by
 match cs,h with
 | [a,b],⟨h1,h2,_⟩=>cases h1 with | val i1=>cases h2 with | val i2=>exact ⟨rfl,i1,i2⟩
theorem Cp1 {cs:List Value} {s:Ar} (h:Ab7 cs s):Av X cs (enW s):=by
 obtain ⟨rfl,h1,h2,h3⟩:=h;exact ⟨.val h1,.val h2,.val h3,.val trivial,trivial⟩
theorem Cy3 {cs:List Value} {s:Ar} (h:Av X cs (enW s)):Ab7 cs s:=by
 match cs,h with
 | [a,b,c,d],⟨h1,h2,h3,h4,_⟩=>cases h1 with | val i1=>cases h2 with | val i2=>cases h3 with | val i3=>cases h4 with | val i4=>exact ⟨rfl,i1,i2,i3⟩
theorem C7.stamps {l:List Ad} (h:C7 X v (stI l)):Bx X X.heap.size v l:=h.to_typed fun _ _ _ h=>C97 h
theorem C7.spans {l:List Ah} (h:C7 X v (spI l)):F6 X X.heap.size v l:=h.to_typed fun _ _ _ h=>C98 h
theorem C7.writes {l:List Ar} (h:C7 X v (wrI l)):Ng X X.heap.size v l:=h.to_typed fun _ _ _ h=>Cy3 h
theorem J3 {l:List Ad} {B:Nat} (h:Bx X B v l) (hB:B<=X.heap.size):C7 X v (stI l):=C7.of_typed (fun _ _ h=>X1 h) h hB
theorem M7 {l:List Ah} {B:Nat} (h:F6 X B v l) (hB:B<=X.heap.size):C7 X v (spI l):=C7.of_typed (fun _ _ h=>A50 h) h hB
theorem Wm {l:List Ar} {B:Nat} (h:Ng X B v l) (hB:B<=X.heap.size):C7 X v (wrI l):=C7.of_typed (fun _ _ h=>Cp1 h) h hB
theorem Ma {E:Env} {w:World} (he:Ext X w) {x:Bz} (h:Au E X v (Qz x)):∃ v0 v1 v2 v3,v=.agg #[v0,v1,v2,v3]/\Pz w w.heap.size v0 v1 v2 v3 x:=by
 cases h with
 | @agg vs _ h1 h2 =>
  obtain ⟨l⟩:=vs
  match l,h1 with
  | [v0,v1,v2,v3],_ =>
   have a0:=h2 0 v0 _ rfl rfl
   have a1:=h2 1 v1 _ rfl rfl
   have a2:=h2 2 v2 _ rfl rfl
   have a3:=h2 3 v3 _ rfl rfl
   cases a0 with | iv a0=>cases a1 with | iv a1=>cases a2 with | iv a2=>cases a3 with | iv a3 =>
   exact ⟨v0,v1,v2,v3,rfl,a0.stamps.ext (fun _ _ h=>h) he,a1.stamps.ext (fun _ _ h=>h) he,a2.spans.ext (fun _ _ h=>h) he,a3.writes.ext (fun _ _ h=>h) he⟩
theorem Bh.map_ {α β:Type} {R:List Value->α->Prop} {R':List Value->β->Prop} {f:α->β} {k:Nat} (hR:∀ cs x,R cs x->R' cs (f x)):∀ {xs:List Value} {l:List α},Bh R k xs l->Bh R' k xs (l.map f)
 | _,[],h=>h
 | _,_ :: _,⟨cs,rest,e,hk,h1,h⟩=>⟨cs,rest,e,hk,hR _ _ h1,Bh.map_ hR h⟩
theorem Ai.map_ {α β:Type} {R:List Value->α->Prop} {R':List Value->β->Prop} {f:α->β} {k:Nat} {w:World} {base:Nat} {e:TypeId} {l:List α} (hR:∀ cs x,R cs x->R' cs (f x)) (h:Ai R k w base e v l):Ai R' k w base e v (l.map f):=by
 obtain ⟨xs,h1,h2,h3⟩:=h
 exact ⟨xs,by rw [List.length_map];exact h1,h2.map_ hR,by rw [List.length_map];exact h3⟩
end
section
variable {P : Program} {G : World -> Prop} {f : FuncId} {fn : Func} {c : Code}
theorem T0 (hf : P.funcs[f]? = some fn) (hb : fn.body = some c) (hname : (fn.name == "runtime.NumGoroutine") = false) (vs : Array Value) (w : World) : (callFunc f vs).run P w = .ok (.enter f vs) w := by
 have hname' : ¬ fn.name = "runtime.NumGoroutine" := by simpa using hname
 simp [callFunc,program,Sem.run,hf,hname',hb]
theorem Cf2 {args : List AV} {r : AV} (hf : P.funcs[f]? = some fn) (hb : fn.body = some c) (hname : (fn.name == "runtime.NumGoroutine") = false)
  (h:∀ (V w:World) (E:Env) (vs:Array Value),Ext V w->G w->An E V vs.toList args->Calls P f vs w fun e w'=>∃ v,e=.returned v/\Below w.heap.size w w'/\Au E (vis V w w' []) v r):A7 P G f args r [] :=
 ⟨T0 hf hb hname,fun V w E vs hV hG hr=>(h V w E vs hV hG hr).mono fun _ w' ⟨v,he,hb,hv⟩=>⟨v,E,he,hb,List.nodup_nil,fun _ h=>(by cases h),fun _ h=>(by cases h),hv⟩⟩
theorem Hu {E:Env} {V:World} {vs:Array Value} {a:AV} (h:An E V vs.toList [a]):∃ v,vs=#[v]/\Au E V v a:=by
 obtain ⟨v,vs',h1,h2,h3⟩:=An.cons_iff.1 h
 rw [An.nil_iff] at h3
 subst h3
 exact ⟨v,by rw [<-Array.toArray_toList (xs:=vs),h1],h2⟩
theorem Lo {E:Env} {V:World} {vs:Array Value} {a b:AV} (h:An E V vs.toList [a,b]):∃ v u,vs=#[v,u]/\Au E V v a/\Au E V u b:=by
 obtain ⟨v,vs',h1,h2,h3⟩:=An.cons_iff.1 h
 obtain ⟨u,vs2,rfl,h4,h5⟩:=An.cons_iff.1 h3
 rw [An.nil_iff] at h5
 subst h5
 exact ⟨v,u,by rw [<-Array.toArray_toList (xs:=vs),h1],h2,h4⟩
theorem Ct {E:Env} {V w:World} {v:Value} {l:List Ad} (hV:Ext V w) (h:Au E V v (.iv (stI l))):Bx w w.heap.size v l:=by
 cases h with | iv h=>exact h.stamps.ext (fun _ _ h=>h) hV
theorem Ky {E:Env} {V w:World} {v:Value} {l:List Ah} (hV:Ext V w) (h:Au E V v (.iv (spI l))):F6 w w.heap.size v l:=by
 cases h with | iv h=>exact h.spans.ext (fun _ _ h=>h) hV
theorem Bu {args : List AV} {v : Value} (hf : P.funcs[f]? = some fn) (hb : fn.body = some c) (hname : (fn.name == "runtime.NumGoroutine") = false)
  (h:∀ (V w:World) (E:Env) (vs:Array Value),Ext V w->G w->An E V vs.toList args->Calls P f vs w fun e w'=>e=.returned v/\Below w.heap.size w w'):A7 P G f args (.val v) [] :=
 ⟨T0 hf hb hname,fun V w E vs hV hG hr=>(h V w E vs hV hG hr).mono fun _ w' ⟨he,hb⟩=>⟨v,E,he,hb,List.nodup_nil,fun _ h=>(by cases h),fun _ h=>(by cases h),.val⟩⟩
theorem Gs {α : Type} {R : List Value -> α -> Prop} {enc : α -> List IV} {k T : Nat} {l : List α} (hR : ∀ X cs x, R cs x -> Av X cs (enc x)) {args : List AV} (hf : P.funcs[f]? = some fn) (hb : fn.body = some c) (hname : (fn.name == "runtime.NumGoroutine") = false)
  (h:∀ (V w:World) (E:Env) (vs:Array Value),Ext V w->G w->An E V vs.toList args->Calls P f vs w fun e w'=>(∃ v,e=.returned v/\Ai R k w' w.heap.size T v l)/\Below w.heap.size w w'):A7 P G f args (.own 0) [.row 0 T k (l.map enc)] :=
 ⟨T0 hf hb hname,fun V w E vs hV hG hr=>(h V w E vs hV hG hr).mono fun _ w' ⟨⟨v,he,hO⟩,hb⟩=>by
  obtain ⟨A,cc,hv⟩:=hO.form
  have ho:Ac ⟨fun _=>(v.ownBlock).getD 0,fun _=>v⟩ [.row 0 T k (l.map enc)]=v.ownBlock.toList:=by simp [Ac,BA.owned]
  refine ⟨v,⟨fun _=>(v.ownBlock).getD 0,fun _=>v⟩,he,hb,by rw [ho];cases v.ownBlock<;>simp,fun g hg=>by rw [ho,Option.mem_toList] at hg;exact (hO.lt g hg).1,fun b hb'=>?_,?_⟩
  ·simp only [List.mem_singleton] at hb'
   subst hb'
   exact ⟨hO.map_ fun cs x h=>hR _ cs x h,fun g hg=>by simp [hg]⟩
  ·rw [hv]
   exact .own rfl⟩
end
end Go.Proofs.YtahgkllhbggmgaaGreatDoor
