/- Stamps, spans, writes, notes as trees; contracts of the elder kind, told as data. -/
import Derived.Test.YtahgkllhbggmgaaGreatDoorKAbsSimp
import Derived.Test.YtahgkllhbggmgaaGreatDoorProg
import Derived.Test.YtahgkllhbggmgaaGreatDoorKNoteSmall
set_option linter.all false
set_option linter.unnecessarySimpa false
set_option linter.unusedSimpArgs false
set_option linter.unusedVariables false
namespace Go.Proofs.YtahgkllhbggmgaaGreatDoor
open Go.ChangeShapes Go.WideShapes Go.ChangeAt Go.RowKit
@[go_sem] theorem Dl1:tyK Tryz.prog 3=some (0,1):=by kernel_rfl
@[go_sem] theorem Cz4:Mw Tryz.prog 3=some .i64:=by kernel_rfl
@[go_sem] theorem Dl0:tyK Tryz.prog 4=some (0,1):=by kernel_rfl
@[go_sem] theorem Dk8:tyZ Tryz.prog 4=some (0,[.bool false]):=by kernel_rfl
@[go_sem] theorem Dk9:tyK Tryz.prog 5=some (0,1):=by kernel_rfl
@[go_sem] theorem Cx5:Fc Tryz.prog 9=true:=by kernel_rfl
@[go_sem] theorem Db5:tyK Tryz.prog 22=some (0,1):=by kernel_rfl
@[go_sem] theorem Cy8:Cl Tryz.prog 22=some (67,16,288):=by kernel_rfl
@[go_sem] theorem Db4:tyK Tryz.prog 23=some (0,1):=by kernel_rfl
@[go_sem] theorem Cy7:Cl Tryz.prog 23=some (74,4,64):=by kernel_rfl
@[go_sem] theorem Db3:tyK Tryz.prog 25=some (1,2):=by kernel_rfl
@[go_sem] theorem Ci0:tyF Tryz.prog 25 0=some (0,0,1):=by kernel_rfl
@[go_sem] theorem Ch9:tyF Tryz.prog 25 1=some (1,0,1):=by kernel_rfl
@[go_sem] theorem Dc0:Kk Tryz.prog 25=some ([.slice none 0 0,.slice none 0 0],[(0,1),(1,1)]):=by kernel_rfl
@[go_sem] theorem D89:tyZ Tryz.prog 25=some (1,[.slice none 0 0,.slice none 0 0]):=by kernel_rfl
@[go_sem] theorem Db2:tyK Tryz.prog 27=some (1,3):=by kernel_rfl
@[go_sem] theorem Ch8:tyF Tryz.prog 27 0=some (0,0,1):=by kernel_rfl
@[go_sem] theorem Ch7:tyF Tryz.prog 27 1=some (1,0,1):=by kernel_rfl
@[go_sem] theorem Ch6:tyF Tryz.prog 27 2=some (2,0,1):=by kernel_rfl
@[go_sem] theorem Db1:tyK Tryz.prog 38=some (1,2):=by kernel_rfl
@[go_sem] theorem Db9:Kk Tryz.prog 38=some ([.int .i64 0,.int .i64 0],[(0,1),(1,1)]):=by kernel_rfl
@[go_sem] theorem Db0:tyK Tryz.prog 40=some (0,1):=by kernel_rfl
@[go_sem] theorem Cy6:Cl Tryz.prog 40=some (89,2,16):=by kernel_rfl
@[go_sem] theorem Da9:tyK Tryz.prog 44=some (0,1):=by kernel_rfl
@[go_sem] theorem Cy5:Cl Tryz.prog 44=some (5,1,1):=by kernel_rfl
@[go_sem] theorem Ci1:Kj Tryz.prog 44=true:=by kernel_rfl
@[go_sem] theorem Da8:tyK Tryz.prog 51=some (0,1):=by kernel_rfl
@[go_sem] theorem Cy4:Cl Tryz.prog 51=some (38,2,16):=by kernel_rfl
@[go_sem] theorem D88:tyZ Tryz.prog 51=some (0,[.slice none 0 0]):=by kernel_rfl
@[go_sem] theorem Da7:tyK Tryz.prog 52=some (0,1):=by kernel_rfl
@[go_sem] theorem Cy3:Cl Tryz.prog 52=some (180,3,40):=by kernel_rfl
@[go_sem] theorem Da6:tyK Tryz.prog 53=some (0,1):=by kernel_rfl
@[go_sem] theorem Cy2:Cl Tryz.prog 53=some (128,4,32):=by kernel_rfl
@[go_sem] theorem Da5:tyK Tryz.prog 54=some (0,1):=by kernel_rfl
@[go_sem] theorem Cy1:Cl Tryz.prog 54=some (79,4,48):=by kernel_rfl
@[go_sem] theorem Da4:tyK Tryz.prog 56=some (1,5):=by kernel_rfl
@[go_sem] theorem Ch5:tyF Tryz.prog 56 0=some (0,0,1):=by kernel_rfl
@[go_sem] theorem Ch4:tyF Tryz.prog 56 1=some (1,0,1):=by kernel_rfl
@[go_sem] theorem Ch3:tyF Tryz.prog 56 2=some (2,0,1):=by kernel_rfl
@[go_sem] theorem Ch2:tyF Tryz.prog 56 3=some (3,0,1):=by kernel_rfl
@[go_sem] theorem Ch1:tyF Tryz.prog 56 4=some (4,0,1):=by kernel_rfl
@[go_sem] theorem Db8:Kk Tryz.prog 56=some ([.slice none 0 0,.slice none 0 0,.slice none 0 0,.slice none 0 0,.int .i64 0],[(0,1),(1,1),(2,1),(3,1),(4,1)]):=by kernel_rfl
@[go_sem] theorem D87:tyZ Tryz.prog 56=some (1,[.slice none 0 0,.slice none 0 0,.slice none 0 0,.slice none 0 0,.int .i64 0]):=by kernel_rfl
@[go_sem] theorem Da3:tyK Tryz.prog 57=some (0,1):=by kernel_rfl
@[go_sem] theorem Cy0:Cl Tryz.prog 57=some (86,4,96):=by kernel_rfl
@[go_sem] theorem Da2:tyK Tryz.prog 59=some (1,3):=by kernel_rfl
@[go_sem] theorem Ch0:tyF Tryz.prog 59 0=some (0,0,1):=by kernel_rfl
@[go_sem] theorem Cg9:tyF Tryz.prog 59 1=some (1,0,1):=by kernel_rfl
@[go_sem] theorem Cg8:tyF Tryz.prog 59 2=some (2,0,1):=by kernel_rfl
@[go_sem] theorem Da1:tyK Tryz.prog 60=some (0,1):=by kernel_rfl
@[go_sem] theorem Cx9:Cl Tryz.prog 60=some (116,5,56):=by kernel_rfl
@[go_sem] theorem Da0:tyK Tryz.prog 61=some (0,1):=by kernel_rfl
@[go_sem] theorem Cx8:Cl Tryz.prog 61=some (92,7,56):=by kernel_rfl
@[go_sem] theorem D99:tyK Tryz.prog 62=some (0,1):=by kernel_rfl
@[go_sem] theorem Cx7:Cl Tryz.prog 62=some (81,12,160):=by kernel_rfl
@[go_sem] theorem D98:tyK Tryz.prog 63=some (0,1):=by kernel_rfl
@[go_sem] theorem Cx6:Cl Tryz.prog 63=some (172,3,40):=by kernel_rfl
@[go_sem] theorem D97:tyK Tryz.prog 65=some (1,2):=by kernel_rfl
@[go_sem] theorem Cg7:tyF Tryz.prog 65 0=some (0,0,1):=by kernel_rfl
@[go_sem] theorem Cg6:tyF Tryz.prog 65 1=some (1,0,1):=by kernel_rfl
@[go_sem] theorem Db7:Kk Tryz.prog 65=some ([.int .i64 0,.slice none 0 0],[(0,1),(1,1)]):=by kernel_rfl
@[go_sem] theorem D96:tyK Tryz.prog 67=some (1,16):=by kernel_rfl
@[go_sem] theorem Cg5:tyF Tryz.prog 67 0=some (0,0,1):=by kernel_rfl
@[go_sem] theorem Cg4:tyF Tryz.prog 67 1=some (1,1,5):=by kernel_rfl
@[go_sem] theorem Cg3:tyF Tryz.prog 67 2=some (6,1,3):=by kernel_rfl
@[go_sem] theorem Cg2:tyF Tryz.prog 67 3=some (9,0,1):=by kernel_rfl
@[go_sem] theorem Cg1:tyF Tryz.prog 67 4=some (10,0,1):=by kernel_rfl
@[go_sem] theorem Cg0:tyF Tryz.prog 67 5=some (11,0,1):=by kernel_rfl
@[go_sem] theorem Cf9:tyF Tryz.prog 67 6=some (12,0,1):=by kernel_rfl
@[go_sem] theorem Cf8:tyF Tryz.prog 67 7=some (13,1,2):=by kernel_rfl
@[go_sem] theorem Cf7:tyF Tryz.prog 67 8=some (15,0,1):=by kernel_rfl
@[go_sem] theorem Db6:Kk Tryz.prog 67=some ([.int .i64 0,.slice none 0 0,.slice none 0 0,.slice none 0 0,.slice none 0 0,.int .i64 0,.slice none 0 0,.slice none 0 0,.int .i64 0,.slice none 0 0,.slice none 0 0,.int .i64 0,.slice none 0 0,.int .i64 0,.slice none 0 0,.bool false],[(0,1),(1,5),(6,3),(9,1),(10,1),(11,1),(12,1),(13,2),(15,1)]):=by kernel_rfl
@[go_sem] theorem D86:tyZ Tryz.prog 67=some (1,[.int .i64 0,.slice none 0 0,.slice none 0 0,.slice none 0 0,.slice none 0 0,.int .i64 0,.slice none 0 0,.slice none 0 0,.int .i64 0,.slice none 0 0,.slice none 0 0,.int .i64 0,.slice none 0 0,.int .i64 0,.slice none 0 0,.bool false]):=by kernel_rfl
@[go_sem] theorem D95:tyK Tryz.prog 74=some (1,4):=by kernel_rfl
@[go_sem] theorem Cf6:tyF Tryz.prog 74 0=some (0,0,1):=by kernel_rfl
@[go_sem] theorem Cf5:tyF Tryz.prog 74 1=some (1,0,1):=by kernel_rfl
@[go_sem] theorem Cf4:tyF Tryz.prog 74 2=some (2,0,1):=by kernel_rfl
@[go_sem] theorem Cf3:tyF Tryz.prog 74 3=some (3,0,1):=by kernel_rfl
@[go_sem] theorem D85:tyZ Tryz.prog 74=some (1,[.int .i64 0,.int .i64 0,.slice none 0 0,.slice none 0 0]):=by kernel_rfl
@[go_sem] theorem D94:tyK Tryz.prog 79=some (1,4):=by kernel_rfl
@[go_sem] theorem Cf2:tyF Tryz.prog 79 0=some (0,0,1):=by kernel_rfl
@[go_sem] theorem Cf1:tyF Tryz.prog 79 1=some (1,1,2):=by kernel_rfl
@[go_sem] theorem Cf0:tyF Tryz.prog 79 2=some (3,0,1):=by kernel_rfl
@[go_sem] theorem D84:tyZ Tryz.prog 79=some (1,[.int .i64 0,.int .i64 0,.int .i64 0,.slice none 0 0]):=by kernel_rfl
@[go_sem] theorem D93:tyK Tryz.prog 81=some (1,12):=by kernel_rfl
@[go_sem] theorem Ce9:tyF Tryz.prog 81 0=some (0,0,1):=by kernel_rfl
@[go_sem] theorem Ce8:tyF Tryz.prog 81 1=some (1,0,1):=by kernel_rfl
@[go_sem] theorem Ce7:tyF Tryz.prog 81 2=some (2,0,1):=by kernel_rfl
@[go_sem] theorem Ce6:tyF Tryz.prog 81 3=some (3,0,1):=by kernel_rfl
@[go_sem] theorem Ce5:tyF Tryz.prog 81 4=some (4,0,1):=by kernel_rfl
@[go_sem] theorem Ce4:tyF Tryz.prog 81 5=some (5,0,1):=by kernel_rfl
@[go_sem] theorem Ce3:tyF Tryz.prog 81 6=some (6,0,1):=by kernel_rfl
@[go_sem] theorem Ce2:tyF Tryz.prog 81 7=some (7,0,1):=by kernel_rfl
@[go_sem] theorem Ce1:tyF Tryz.prog 81 8=some (8,1,4):=by kernel_rfl
@[go_sem] theorem D83:tyZ Tryz.prog 81=some (1,[.int .i64 0,.int .i64 0,.int .i64 0,.int .i64 0,.int .i64 0,.slice none 0 0,.slice none 0 0,.slice none 0 0,.int .i64 0,.int .i64 0,.int .i64 0,.slice none 0 0]):=by kernel_rfl
@[go_sem] theorem D92:tyK Tryz.prog 86=some (1,4):=by kernel_rfl
@[go_sem] theorem Ce0:tyF Tryz.prog 86 1=some (1,0,1):=by kernel_rfl
@[go_sem] theorem D82:tyZ Tryz.prog 86=some (1,[.slice none 0 0,.slice none 0 0,.slice none 0 0,.slice none 0 0]):=by kernel_rfl
@[go_sem] theorem D91:tyK Tryz.prog 89=some (1,2):=by kernel_rfl
@[go_sem] theorem Cd9:tyF Tryz.prog 89 0=some (0,0,1):=by kernel_rfl
@[go_sem] theorem Cd8:tyF Tryz.prog 89 1=some (1,0,1):=by kernel_rfl
@[go_sem] theorem D81:tyZ Tryz.prog 89=some (1,[.int .i64 0,.int .i64 0]):=by kernel_rfl
@[go_sem] theorem D90:tyK Tryz.prog 92=some (1,7):=by kernel_rfl
@[go_sem] theorem Cd7:tyF Tryz.prog 92 0=some (0,0,1):=by kernel_rfl
@[go_sem] theorem Cd6:tyF Tryz.prog 92 1=some (1,0,1):=by kernel_rfl
@[go_sem] theorem Cd5:tyF Tryz.prog 92 2=some (2,0,1):=by kernel_rfl
@[go_sem] theorem Cd4:tyF Tryz.prog 92 3=some (3,0,1):=by kernel_rfl
@[go_sem] theorem Cd3:tyF Tryz.prog 92 4=some (4,0,1):=by kernel_rfl
@[go_sem] theorem Cd2:tyF Tryz.prog 92 5=some (5,0,1):=by kernel_rfl
@[go_sem] theorem Cd1:tyF Tryz.prog 92 6=some (6,0,1):=by kernel_rfl
@[go_sem] theorem D80:tyZ Tryz.prog 92=some (1,[.int .i64 0,.slice none 0 0,.int .i64 0,.int .i64 0,.bool false,.bool false,.bool false]):=by kernel_rfl
@[go_sem] theorem Cz3:tyK Tryz.prog 116=some (1,5):=by kernel_rfl
@[go_sem] theorem C47:tyF Tryz.prog 116 0=some (0,0,1):=by kernel_rfl
@[go_sem] theorem C46:tyF Tryz.prog 116 1=some (1,0,1):=by kernel_rfl
@[go_sem] theorem C45:tyF Tryz.prog 116 2=some (2,0,1):=by kernel_rfl
@[go_sem] theorem C44:tyF Tryz.prog 116 3=some (3,0,1):=by kernel_rfl
@[go_sem] theorem C43:tyF Tryz.prog 116 4=some (4,0,1):=by kernel_rfl
@[go_sem] theorem Cx4:tyZ Tryz.prog 116=some (1,[.int .i64 0,.int .i64 0,.slice none 0 0,.int .i64 0,.int .i64 0]):=by kernel_rfl
@[go_sem] theorem Cz2:tyK Tryz.prog 128=some (1,4):=by kernel_rfl
@[go_sem] theorem C42:tyF Tryz.prog 128 0=some (0,1,2):=by kernel_rfl
@[go_sem] theorem C41:tyF Tryz.prog 128 1=some (2,0,1):=by kernel_rfl
@[go_sem] theorem C40:tyF Tryz.prog 128 2=some (3,0,1):=by kernel_rfl
@[go_sem] theorem Cz7:Kk Tryz.prog 128=some ([.int .i64 0,.int .i64 0,.int .i64 0,.bool false],[(0,2),(2,1),(3,1)]):=by kernel_rfl
@[go_sem] theorem Cx3:tyZ Tryz.prog 128=some (1,[.int .i64 0,.int .i64 0,.int .i64 0,.bool false]):=by kernel_rfl
@[go_sem] theorem C34:Mw Tryz.prog 147=some .u64:=by kernel_rfl
@[go_sem] theorem Cz1:tyK Tryz.prog 172=some (1,3):=by kernel_rfl
@[go_sem] theorem C39:tyF Tryz.prog 172 0=some (0,0,1):=by kernel_rfl
@[go_sem] theorem C38:tyF Tryz.prog 172 1=some (1,0,1):=by kernel_rfl
@[go_sem] theorem C37:tyF Tryz.prog 172 2=some (2,0,1):=by kernel_rfl
@[go_sem] theorem Cx2:tyZ Tryz.prog 172=some (1,[.int .i64 0,.slice none 0 0,.int .i64 0]):=by kernel_rfl
@[go_sem] theorem Cd0:Pc Tryz.prog 173=some (.i64,.bool false):=by kernel_rfl
@[go_sem] theorem Cz0:tyK Tryz.prog 180=some (1,3):=by kernel_rfl
@[go_sem] theorem C36:tyF Tryz.prog 180 0=some (0,1,2):=by kernel_rfl
@[go_sem] theorem C35:tyF Tryz.prog 180 1=some (2,0,1):=by kernel_rfl
@[go_sem] theorem Cx1:tyZ Tryz.prog 180=some (1,[.int .i64 0,.int .i64 0,.slice none 0 0]):=by kernel_rfl
@[go_sem] theorem Cc9:Cl Tryz.prog 231=none:=by kernel_rfl
@[go_sem] theorem Ci4:Qu Tryz.prog 231=some (256,0,1):=by kernel_rfl
@[go_sem] theorem Cx0:tyZ Tryz.prog 231=some (2,rep 256 (.bool false)):=by kernel_rfl
@[go_sem] theorem Cc8:Cl Tryz.prog 304=none:=by kernel_rfl
@[go_sem] theorem Ci3:Qu Tryz.prog 304=some (2,0,1):=by kernel_rfl
@[go_sem] theorem Cz6:Kk Tryz.prog 304=some ([.int .i64 0,.int .i64 0],[(0,1),(1,1)]):=by kernel_rfl
@[go_sem] theorem Cy9:tyK Tryz.prog 305=some (2,4):=by kernel_rfl
@[go_sem] theorem Cc7:Cl Tryz.prog 305=none:=by kernel_rfl
@[go_sem] theorem Ci2:Qu Tryz.prog 305=some (2,2,2):=by kernel_rfl
@[go_sem] theorem Cz5:Kk Tryz.prog 305=some ([.int .i64 0,.int .i64 0,.int .i64 0,.int .i64 0],[(0,2),(2,2)]):=by kernel_rfl
@[go_sem] theorem Cw9:tyZ Tryz.prog 305=some (2,[.int .i64 0,.int .i64 0,.int .i64 0,.int .i64 0]):=by kernel_rfl
@[go_sem] theorem Cc6:Cl Tryz.prog 320=some (51,1,24):=by kernel_rfl
def Wn (s:Ad):List IV:=[.val (.int .i64 s.count),.val (.int .i64 s.node)]
def Xv (s:Ar):List IV:=[.val (.int .i64 s.lo),.val (.int .i64 s.hi)]
def enW (y:Aq):List IV:=[.val (.int .i64 y.stamp.count),.val (.int .i64 y.stamp.node),.val (.int .i64 y.object),.val (.bool y.gone)]
def stI (l:List Ad):IV:=.sl 2 (l.map Wn)
def spI (l:List Ar):IV:=.sl 2 (l.map Xv)
def wrI (l:List Aq):IV:=.sl 4 (l.map enW)
def enN (x:Bv):List IV:=[stI x.start,stI x.end_,spI x.blur,wrI x.writes]
def noI (l:List Bv):IV:=.sl 4 (l.map enN)
def stA (l:List Ad):AV:=.iv (stI l)
def spA (l:List Ar):AV:=.iv (spI l)
def Py (x:Bv):AV:=.agg [.iv (stI x.start),.iv (stI x.end_),.iv (spI x.blur),.iv (wrI x.writes)]
theorem Bl1 (s:Ad):Wn s=[.val (.int .i64 s.count),.val (.int .i64 s.node)]:=rfl
theorem Au2 (s:Ar):Xv s=[.val (.int .i64 s.lo),.val (.int .i64 s.hi)]:=rfl
theorem Ei (y:Aq):enW y=[.val (.int .i64 y.stamp.count),.val (.int .i64 y.stamp.node),.val (.int .i64 y.object),.val (.bool y.gone)]:=rfl
theorem K7 (x:Bv):enN x=[stI x.start,stI x.end_,spI x.blur,wrI x.writes]:=rfl
section
variable {X : World} {v : Value}
theorem V2 {cs:List Value} {s:Ad} (h:F9 cs s):Az X cs (Wn s):=by
 obtain ⟨rfl,h1,h2⟩:=h;exact ⟨.val h1,.val h2,trivial⟩
theorem Bv6 {cs:List Value} {s:Ad} (h:Az X cs (Wn s)):F9 cs s:=by
 match cs,h with
 | [a,b],⟨h1,h2,_⟩=>cases h1 with | val i1=>cases h2 with | val i2=>exact ⟨rfl,i1,i2⟩
theorem B63 {cs:List Value} {s:Ar} (h:J4 cs s):Az X cs (Xv s):=by
 obtain ⟨rfl,h1,h2⟩:=h;exact ⟨.val h1,.val h2,trivial⟩
theorem Bv7 {cs:List Value} {s:Ar} (h:Az X cs (Xv s)):J4 cs s:=by
 match cs,h with
 | [a,b],⟨h1,h2,_⟩=>cases h1 with | val i1=>cases h2 with | val i2=>exact ⟨rfl,i1,i2⟩
theorem Ca9 {cs:List Value} {s:Aq} (h:A50 cs s):Az X cs (enW s):=by
 obtain ⟨rfl,h1,h2,h3⟩:=h;exact ⟨.val h1,.val h2,.val h3,.val trivial,trivial⟩
theorem Ck2 {cs:List Value} {s:Aq} (h:Az X cs (enW s)):A50 cs s:=by
 match cs,h with
 | [a,b,c,d],⟨h1,h2,h3,h4,_⟩=>cases h1 with | val i1=>cases h2 with | val i2=>cases h3 with | val i3=>cases h4 with | val i4=>exact ⟨rfl,i1,i2,i3⟩
theorem C1.stamps {l:List Ad} (h:C1 X v (stI l)):Bq X X.heap.size v l:=h.to_typed fun _ _ _ h=>Bv6 h
theorem C1.spans {l:List Ar} (h:C1 X v (spI l)):F2 X X.heap.size v l:=h.to_typed fun _ _ _ h=>Bv7 h
theorem C1.writes {l:List Aq} (h:C1 X v (wrI l)):Mm X X.heap.size v l:=h.to_typed fun _ _ _ h=>Ck2 h
theorem H5 {l:List Ad} {B:Nat} (h:Bq X B v l) (hB:B<=X.heap.size):C1 X v (stI l):=C1.of_typed (fun _ _ h=>V2 h) h hB
theorem Nw {l:List Ar} {B:Nat} (h:F2 X B v l) (hB:B<=X.heap.size):C1 X v (spI l):=C1.of_typed (fun _ _ h=>B63 h) h hB
theorem Up {l:List Aq} {B:Nat} (h:Mm X B v l) (hB:B<=X.heap.size):C1 X v (wrI l):=C1.of_typed (fun _ _ h=>Ca9 h) h hB
theorem Li {E:Env} {w:World} (he:Ext X w) {x:Bv} (h:At E X v (Py x)):∃ v0 v1 v2 v3,v=.agg #[v0,v1,v2,v3]/\Nu w w.heap.size v0 v1 v2 v3 x:=by
 cases h with
 | @agg vs _ h1 h2 =>
  obtain ⟨l⟩:=vs
  match l,h1 with
  | [v0,v1,v2,v3],_ =>
   have a0:=h2 0 v0 _ rfl rfl
   have a1:=h2 1 v1 _ rfl rfl
   have a2:=h2 2 v2 _ rfl rfl
   have a3:=h2 3 v3 _ rfl rfl
   cases a0 with | iv a0=>cases a1 with | iv a1=>cases a2 with | iv a2=>cases a3 with | iv a3 =>
   exact ⟨v0,v1,v2,v3,rfl,a0.stamps.ext (fun _ _ h=>h) he,a1.stamps.ext (fun _ _ h=>h) he,a2.spans.ext (fun _ _ h=>h) he,a3.writes.ext (fun _ _ h=>h) he⟩
theorem Bu.map_ {α β:Type} {R:List Value->α->Prop} {R':List Value->β->Prop} {f:α->β} {k:Nat} (hR:∀ cs x,R cs x->R' cs (f x)):∀ {xs:List Value} {l:List α},Bu R k xs l->Bu R' k xs (l.map f)
 | _,[],h=>h
 | _,_ :: _,⟨cs,rest,e,hk,h1,h⟩=>⟨cs,rest,e,hk,hR _ _ h1,Bu.map_ hR h⟩
theorem Am.map_ {α β:Type} {R:List Value->α->Prop} {R':List Value->β->Prop} {f:α->β} {k:Nat} {w:World} {base:Nat} {e:TypeId} {l:List α} (hR:∀ cs x,R cs x->R' cs (f x)) (h:Am R k w base e v l):Am R' k w base e v (l.map f):=by
 obtain ⟨xs,h1,h2,h3⟩:=h
 exact ⟨xs,by rw [List.length_map];exact h1,h2.map_ hR,by rw [List.length_map];exact h3⟩
end
section
variable {P : Program} {G : World -> Prop} {f : FuncId} {fn : Func} {c : Code}
theorem Wl (hf : P.funcs[f]? = some fn) (hb : fn.body = some c) (hname : (fn.name == "runtime.NumGoroutine") = false) (vs : Array Value) (w : World) : (callFunc f vs).run P w = .ok (.enter f vs) w := by
 have hname' : ¬ fn.name = "runtime.NumGoroutine" := by simpa using hname
 simp [callFunc,program,Sem.run,hf,hname',hb]
theorem Kc {E:Env} {V:World} {vs:Array Value} {a:AV} (h:Ak E V vs.toList [a]):∃ v,vs=#[v]/\At E V v a:=by
 obtain ⟨v,vs',h1,h2,h3⟩:=Ak.cons_iff.1 h
 rw [Ak.nil_iff] at h3
 subst h3
 exact ⟨v,by rw [<-Array.toArray_toList (xs:=vs),h1],h2⟩
theorem Kz {E:Env} {V:World} {vs:Array Value} {a b:AV} (h:Ak E V vs.toList [a,b]):∃ v u,vs=#[v,u]/\At E V v a/\At E V u b:=by
 obtain ⟨v,vs',h1,h2,h3⟩:=Ak.cons_iff.1 h
 obtain ⟨u,vs2,rfl,h4,h5⟩:=Ak.cons_iff.1 h3
 rw [Ak.nil_iff] at h5
 subst h5
 exact ⟨v,u,by rw [<-Array.toArray_toList (xs:=vs),h1],h2,h4⟩
theorem Ck {E:Env} {V w:World} {v:Value} {l:List Ad} (hV:Ext V w) (h:At E V v (.iv (stI l))):Bq w w.heap.size v l:=by
 cases h with | iv h=>exact h.stamps.ext (fun _ _ h=>h) hV
theorem Nh {E:Env} {V w:World} {v:Value} {l:List Ar} (hV:Ext V w) (h:At E V v (.iv (spI l))):F2 w w.heap.size v l:=by
 cases h with | iv h=>exact h.spans.ext (fun _ _ h=>h) hV
theorem Bm {args : List AV} {v : Value} (hf : P.funcs[f]? = some fn) (hb : fn.body = some c) (hname : (fn.name == "runtime.NumGoroutine") = false)
  (h:∀ (V w:World) (E:Env) (vs:Array Value),Ext V w->G w->Ak E V vs.toList args->Calls P f vs w fun e w'=>e=.returned v/\Below w.heap.size w w'):A7 P G f args (.val v) [] :=
 ⟨Wl hf hb hname,fun V w E vs hV hG hr=>(h V w E vs hV hG hr).mono fun _ w' ⟨he,hb⟩=>⟨v,E,he,hb,List.nodup_nil,fun _ h=>(by cases h),fun _ h=>(by cases h),.val⟩⟩
theorem Kb {α : Type} {R : List Value -> α -> Prop} {enc : α -> List IV} {k T : Nat} {l : List α} (hR : ∀ X cs x, R cs x -> Az X cs (enc x)) {args : List AV} (hf : P.funcs[f]? = some fn) (hb : fn.body = some c) (hname : (fn.name == "runtime.NumGoroutine") = false)
  (h:∀ (V w:World) (E:Env) (vs:Array Value),Ext V w->G w->Ak E V vs.toList args->Calls P f vs w fun e w'=>(∃ v,e=.returned v/\Am R k w' w.heap.size T v l)/\Below w.heap.size w w'):A7 P G f args (.own 0) [.row 0 T k (l.map enc)] :=
 ⟨Wl hf hb hname,fun V w E vs hV hG hr=>(h V w E vs hV hG hr).mono fun _ w' ⟨⟨v,he,hO⟩,hb⟩=>by
  obtain ⟨A,cc,hv⟩:=hO.form
  have ho:Ac ⟨fun _=>(v.ownBlock).getD 0,fun _=>v⟩ [.row 0 T k (l.map enc)]=v.ownBlock.toList:=by simp [Ac,BA.owned]
  refine ⟨v,⟨fun _=>(v.ownBlock).getD 0,fun _=>v⟩,he,hb,by rw [ho];cases v.ownBlock<;>simp,fun g hg=>by rw [ho,Option.mem_toList] at hg;exact (hO.lt g hg).1,fun b hb'=>?_,?_⟩
  ·simp only [List.mem_singleton] at hb'
   subst hb'
   exact ⟨hO.map_ fun cs x h=>hR _ cs x h,fun g hg=>by simp [hg]⟩
  ·rw [hv]
   exact .own rfl⟩
end
end Go.Proofs.YtahgkllhbggmgaaGreatDoor
