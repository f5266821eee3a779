/- Stamps, spans, writes, notes as trees; contracts of the elder kind, told as data. -/
import Derived.Test.YthlgnjlpakimaaaGreatDoorQAbsSimp
import Derived.Test.YthlgnjlpakimaaaGreatDoorProg
import Derived.Test.YthlgnjlpakimaaaGreatDoorQNoteSmall
set_option linter.all false
set_option linter.unnecessarySimpa false
set_option linter.unusedSimpArgs false
set_option linter.unusedVariables false
namespace Go.Proofs.YthlgnjlpakimaaaGreatDoor
open Go.ChangeShapes Go.WideShapes Go.ChangeAt Go.RowKit
@[go_sem] theorem E51:tyK Tryz.prog 3=some (0,1):=by kernel_rfl
@[go_sem] theorem Dn0:Wt Tryz.prog 3=some .i64:=by kernel_rfl
@[go_sem] theorem E49:tyZ Tryz.prog 3=some (0,[.int .i64 0]):=by kernel_rfl
@[go_sem] theorem E50:tyK Tryz.prog 4=some (0,1):=by kernel_rfl
@[go_sem] theorem E48:tyZ Tryz.prog 4=some (0,[.bool false]):=by kernel_rfl
@[go_sem] theorem Dm9:Wt Tryz.prog 5=some .u8:=by kernel_rfl
@[go_sem] theorem E47:tyZ Tryz.prog 5=some (0,[.int .u8 0]):=by kernel_rfl
@[go_sem] theorem Dl0:Pe Tryz.prog 9=true:=by kernel_rfl
@[go_sem] theorem Dm1:Gg Tryz.prog 22=some (46,14,208):=by kernel_rfl
@[go_sem] theorem D50:Wt Tryz.prog 23=some .u16:=by kernel_rfl
@[go_sem] theorem Dx6:tyK Tryz.prog 25=some (0,1):=by kernel_rfl
@[go_sem] theorem Dm0:Gg Tryz.prog 25=some (42,2,16):=by kernel_rfl
@[go_sem] theorem Dv8:tyZ Tryz.prog 25=some (0,[.slice none 0 0]):=by kernel_rfl
@[go_sem] theorem Dx5:tyK Tryz.prog 26=some (0,1):=by kernel_rfl
@[go_sem] theorem Dl9:Gg Tryz.prog 26=some (122,3,40):=by kernel_rfl
@[go_sem] theorem Dv7:tyZ Tryz.prog 26=some (0,[.slice none 0 0]):=by kernel_rfl
@[go_sem] theorem Dx4:tyK Tryz.prog 27=some (0,1):=by kernel_rfl
@[go_sem] theorem Dl8:Gg Tryz.prog 27=some (49,4,32):=by kernel_rfl
@[go_sem] theorem Dv6:tyZ Tryz.prog 27=some (0,[.slice none 0 0]):=by kernel_rfl
@[go_sem] theorem Dx3:tyK Tryz.prog 28=some (0,1):=by kernel_rfl
@[go_sem] theorem Dl7:Gg Tryz.prog 28=some (44,4,48):=by kernel_rfl
@[go_sem] theorem Dx2:tyK Tryz.prog 30=some (1,5):=by kernel_rfl
@[go_sem] theorem D95:tyF Tryz.prog 30 0=some (0,0,1):=by kernel_rfl
@[go_sem] theorem D94:tyF Tryz.prog 30 1=some (1,0,1):=by kernel_rfl
@[go_sem] theorem D93:tyF Tryz.prog 30 2=some (2,0,1):=by kernel_rfl
@[go_sem] theorem D92:tyF Tryz.prog 30 3=some (3,0,1):=by kernel_rfl
@[go_sem] theorem D91:tyF Tryz.prog 30 4=some (4,0,1):=by kernel_rfl
@[go_sem] theorem Dy5:Pf Tryz.prog 30=some ([.slice none 0 0,.slice none 0 0,.slice none 0 0,.slice none 0 0,.int .i64 0],[(0,1),(1,1),(2,1),(3,1),(4,1)]):=by kernel_rfl
@[go_sem] theorem Dv5:tyZ Tryz.prog 30=some (1,[.slice none 0 0,.slice none 0 0,.slice none 0 0,.slice none 0 0,.int .i64 0]):=by kernel_rfl
@[go_sem] theorem D49:Wt Tryz.prog 34=some .u64:=by kernel_rfl
@[go_sem] theorem Dx1:tyK Tryz.prog 35=some (0,1):=by kernel_rfl
@[go_sem] theorem Dl6:Gg Tryz.prog 35=some (66,2,16):=by kernel_rfl
@[go_sem] theorem Dv4:tyZ Tryz.prog 35=some (0,[.slice none 0 0]):=by kernel_rfl
@[go_sem] theorem Dx0:tyK Tryz.prog 37=some (1,4):=by kernel_rfl
@[go_sem] theorem D90:tyF Tryz.prog 37 0=some (0,0,1):=by kernel_rfl
@[go_sem] theorem D89:tyF Tryz.prog 37 1=some (1,0,1):=by kernel_rfl
@[go_sem] theorem D88:tyF Tryz.prog 37 2=some (2,0,1):=by kernel_rfl
@[go_sem] theorem D87:tyF Tryz.prog 37 3=some (3,0,1):=by kernel_rfl
@[go_sem] theorem Dy4:Pf Tryz.prog 37=some ([.slice none 0 0,.slice none 0 0,.slice none 0 0,.slice none 0 0],[(0,1),(1,1),(2,1),(3,1)]):=by kernel_rfl
@[go_sem] theorem Dv3:tyZ Tryz.prog 37=some (1,[.slice none 0 0,.slice none 0 0,.slice none 0 0,.slice none 0 0]):=by kernel_rfl
@[go_sem] theorem Dw9:tyK Tryz.prog 38=some (0,1):=by kernel_rfl
@[go_sem] theorem Dl5:Gg Tryz.prog 38=some (5,1,1):=by kernel_rfl
@[go_sem] theorem D96:Z0 Tryz.prog 38=true:=by kernel_rfl
@[go_sem] theorem Dw8:tyK Tryz.prog 40=some (1,5):=by kernel_rfl
@[go_sem] theorem D86:tyF Tryz.prog 40 0=some (0,0,1):=by kernel_rfl
@[go_sem] theorem D85:tyF Tryz.prog 40 1=some (1,0,1):=by kernel_rfl
@[go_sem] theorem D84:tyF Tryz.prog 40 2=some (2,0,1):=by kernel_rfl
@[go_sem] theorem D83:tyF Tryz.prog 40 3=some (3,0,1):=by kernel_rfl
@[go_sem] theorem D82:tyF Tryz.prog 40 4=some (4,0,1):=by kernel_rfl
@[go_sem] theorem Dv2:tyZ Tryz.prog 40=some (1,[.int .i64 0,.int .i64 0,.int .i64 0,.slice none 0 0,.bool false]):=by kernel_rfl
@[go_sem] theorem Dw7:tyK Tryz.prog 42=some (1,2):=by kernel_rfl
@[go_sem] theorem Dy3:Pf Tryz.prog 42=some ([.int .i64 0,.int .i64 0],[(0,1),(1,1)]):=by kernel_rfl
@[go_sem] theorem Dv1:tyZ Tryz.prog 42=some (1,[.int .i64 0,.int .i64 0]):=by kernel_rfl
@[go_sem] theorem Dw6:tyK Tryz.prog 44=some (1,4):=by kernel_rfl
@[go_sem] theorem D81:tyF Tryz.prog 44 0=some (0,0,1):=by kernel_rfl
@[go_sem] theorem D80:tyF Tryz.prog 44 1=some (1,1,2):=by kernel_rfl
@[go_sem] theorem D79:tyF Tryz.prog 44 2=some (3,0,1):=by kernel_rfl
@[go_sem] theorem Dy2:Pf Tryz.prog 44=some ([.int .i64 0,.int .i64 0,.int .i64 0,.slice none 0 0],[(0,1),(1,2),(3,1)]):=by kernel_rfl
@[go_sem] theorem Dv0:tyZ Tryz.prog 44=some (1,[.int .i64 0,.int .i64 0,.int .i64 0,.slice none 0 0]):=by kernel_rfl
@[go_sem] theorem D78:tyF Tryz.prog 46 0=some (0,0,1):=by kernel_rfl
@[go_sem] theorem D77:tyF Tryz.prog 46 1=some (1,1,4):=by kernel_rfl
@[go_sem] theorem D76:tyF Tryz.prog 46 2=some (5,1,5):=by kernel_rfl
@[go_sem] theorem D75:tyF Tryz.prog 46 3=some (10,1,4):=by kernel_rfl
@[go_sem] theorem Dw5:tyK Tryz.prog 49=some (1,4):=by kernel_rfl
@[go_sem] theorem D74:tyF Tryz.prog 49 0=some (0,1,2):=by kernel_rfl
@[go_sem] theorem D73:tyF Tryz.prog 49 1=some (2,0,1):=by kernel_rfl
@[go_sem] theorem D72:tyF Tryz.prog 49 2=some (3,0,1):=by kernel_rfl
@[go_sem] theorem Dy1:Pf Tryz.prog 49=some ([.int .i64 0,.int .i64 0,.int .i64 0,.bool false],[(0,2),(2,1),(3,1)]):=by kernel_rfl
@[go_sem] theorem Du9:tyZ Tryz.prog 49=some (1,[.int .i64 0,.int .i64 0,.int .i64 0,.bool false]):=by kernel_rfl
@[go_sem] theorem Dw4:tyK Tryz.prog 60=some (0,1):=by kernel_rfl
@[go_sem] theorem Dl4:Gg Tryz.prog 60=some (37,4,96):=by kernel_rfl
@[go_sem] theorem Du8:tyZ Tryz.prog 60=some (0,[.slice none 0 0]):=by kernel_rfl
@[go_sem] theorem Dw3:tyK Tryz.prog 62=some (1,3):=by kernel_rfl
@[go_sem] theorem D71:tyF Tryz.prog 62 0=some (0,0,1):=by kernel_rfl
@[go_sem] theorem D70:tyF Tryz.prog 62 1=some (1,0,1):=by kernel_rfl
@[go_sem] theorem D69:tyF Tryz.prog 62 2=some (2,0,1):=by kernel_rfl
@[go_sem] theorem Dy0:Pf Tryz.prog 62=some ([.slice none 0 0,.slice none 0 0,.int .i64 0],[(0,1),(1,1),(2,1)]):=by kernel_rfl
@[go_sem] theorem Du7:tyZ Tryz.prog 62=some (1,[.slice none 0 0,.slice none 0 0,.int .i64 0]):=by kernel_rfl
@[go_sem] theorem D68:tyF Tryz.prog 64 0=some (0,0,1):=by kernel_rfl
@[go_sem] theorem D67:tyF Tryz.prog 64 1=some (1,0,1):=by kernel_rfl
@[go_sem] theorem Dw2:tyK Tryz.prog 66=some (1,2):=by kernel_rfl
@[go_sem] theorem D66:tyF Tryz.prog 66 0=some (0,0,1):=by kernel_rfl
@[go_sem] theorem D65:tyF Tryz.prog 66 1=some (1,0,1):=by kernel_rfl
@[go_sem] theorem Dx9:Pf Tryz.prog 66=some ([.int .i64 0,.int .i64 0],[(0,1),(1,1)]):=by kernel_rfl
@[go_sem] theorem Du6:tyZ Tryz.prog 66=some (1,[.int .i64 0,.int .i64 0]):=by kernel_rfl
@[go_sem] theorem Dl3:Gg Tryz.prog 80=some (94,5,56):=by kernel_rfl
@[go_sem] theorem Dl2:Gg Tryz.prog 82=some (89,12,160):=by kernel_rfl
@[go_sem] theorem Dw1:tyK Tryz.prog 89=some (1,12):=by kernel_rfl
@[go_sem] theorem D64:tyF Tryz.prog 89 0=some (0,0,1):=by kernel_rfl
@[go_sem] theorem D63:tyF Tryz.prog 89 1=some (1,0,1):=by kernel_rfl
@[go_sem] theorem D62:tyF Tryz.prog 89 2=some (2,0,1):=by kernel_rfl
@[go_sem] theorem D61:tyF Tryz.prog 89 3=some (3,0,1):=by kernel_rfl
@[go_sem] theorem D60:tyF Tryz.prog 89 4=some (4,0,1):=by kernel_rfl
@[go_sem] theorem D59:tyF Tryz.prog 89 5=some (5,0,1):=by kernel_rfl
@[go_sem] theorem D58:tyF Tryz.prog 89 6=some (6,0,1):=by kernel_rfl
@[go_sem] theorem D57:tyF Tryz.prog 89 7=some (7,0,1):=by kernel_rfl
@[go_sem] theorem D56:tyF Tryz.prog 89 8=some (8,1,4):=by kernel_rfl
@[go_sem] theorem Dx8:Pf Tryz.prog 89=some ([.int .i64 0,.int .i64 0,.int .i64 0,.int .i64 0,.int .i64 0,.slice none 0 0,.slice none 0 0,.slice none 0 0,.int .i64 0,.int .i64 0,.int .i64 0,.slice none 0 0],[(0,1),(1,1),(2,1),(3,1),(4,1),(5,1),(6,1),(7,1),(8,4)]):=by kernel_rfl
@[go_sem] theorem Du5:tyZ Tryz.prog 89=some (1,[.int .i64 0,.int .i64 0,.int .i64 0,.int .i64 0,.int .i64 0,.slice none 0 0,.slice none 0 0,.slice none 0 0,.int .i64 0,.int .i64 0,.int .i64 0,.slice none 0 0]):=by kernel_rfl
@[go_sem] theorem Dw0:tyK Tryz.prog 94=some (1,5):=by kernel_rfl
@[go_sem] theorem D55:tyF Tryz.prog 94 0=some (0,0,1):=by kernel_rfl
@[go_sem] theorem D54:tyF Tryz.prog 94 1=some (1,0,1):=by kernel_rfl
@[go_sem] theorem D53:tyF Tryz.prog 94 2=some (2,0,1):=by kernel_rfl
@[go_sem] theorem D52:tyF Tryz.prog 94 3=some (3,0,1):=by kernel_rfl
@[go_sem] theorem D51:tyF Tryz.prog 94 4=some (4,0,1):=by kernel_rfl
@[go_sem] theorem Dx7:Pf Tryz.prog 94=some ([.int .i64 0,.int .i64 0,.slice none 0 0,.int .i64 0,.int .i64 0],[(0,1),(1,1),(2,1),(3,1),(4,1)]):=by kernel_rfl
@[go_sem] theorem Du4:tyZ Tryz.prog 94=some (1,[.int .i64 0,.int .i64 0,.slice none 0 0,.int .i64 0,.int .i64 0]):=by kernel_rfl
@[go_sem] theorem Dv9:tyK Tryz.prog 99=some (2,256):=by kernel_rfl
@[go_sem] theorem Dl1:Gg Tryz.prog 99=none:=by kernel_rfl
@[go_sem] theorem Dn4:Aa3 Tryz.prog 99=some (256,0,1):=by kernel_rfl
@[go_sem] theorem Du3:tyZ Tryz.prog 99=some (2,rep 256 (.bool false)):=by kernel_rfl
@[go_sem] theorem Dm8:tyK Tryz.prog 122=some (1,3):=by kernel_rfl
@[go_sem] theorem Cw9:tyF Tryz.prog 122 0=some (0,1,2):=by kernel_rfl
@[go_sem] theorem Cw8:tyF Tryz.prog 122 1=some (2,0,1):=by kernel_rfl
@[go_sem] theorem Dn3:Pf Tryz.prog 122=some ([.int .i64 0,.int .i64 0,.slice none 0 0],[(0,2),(2,1)]):=by kernel_rfl
@[go_sem] theorem Dk9:tyZ Tryz.prog 122=some (1,[.int .i64 0,.int .i64 0,.slice none 0 0]):=by kernel_rfl
@[go_sem] theorem D47:Gg Tryz.prog 147=some (25,1,24):=by kernel_rfl
@[go_sem] theorem D48:A24 Tryz.prog 171=some (.i64,.bool false):=by kernel_rfl
@[go_sem] theorem Dm7:tyK Tryz.prog 178=some (0,1):=by kernel_rfl
@[go_sem] theorem Dk8:tyZ Tryz.prog 178=some (0,[.nilFunc]):=by kernel_rfl
@[go_sem] theorem Dm6:tyK Tryz.prog 191=some (2,64):=by kernel_rfl
@[go_sem] theorem D46:Gg Tryz.prog 191=none:=by kernel_rfl
@[go_sem] theorem D99:Aa3 Tryz.prog 191=some (64,0,1):=by kernel_rfl
@[go_sem] theorem Dk7:tyZ Tryz.prog 191=some (2,rep 64 (.int .i64 0)):=by kernel_rfl
@[go_sem] theorem Dm5:tyK Tryz.prog 211=some (0,1):=by kernel_rfl
@[go_sem] theorem D45:Gg Tryz.prog 220=none:=by kernel_rfl
@[go_sem] theorem D98:Aa3 Tryz.prog 220=some (2,0,1):=by kernel_rfl
@[go_sem] theorem Dn2:Pf Tryz.prog 220=some ([.int .i64 0,.int .i64 0],[(0,1),(1,1)]):=by kernel_rfl
@[go_sem] theorem Dm4:tyK Tryz.prog 221=some (2,4):=by kernel_rfl
@[go_sem] theorem D44:Gg Tryz.prog 221=none:=by kernel_rfl
@[go_sem] theorem D97:Aa3 Tryz.prog 221=some (2,2,2):=by kernel_rfl
@[go_sem] theorem Dn1:Pf Tryz.prog 221=some ([.int .i64 0,.int .i64 0,.int .i64 0,.int .i64 0],[(0,2),(2,2)]):=by kernel_rfl
@[go_sem] theorem Dk6:tyZ Tryz.prog 221=some (2,[.int .i64 0,.int .i64 0,.int .i64 0,.int .i64 0]):=by kernel_rfl
@[go_sem] theorem Dm3:tyK Tryz.prog 223=some (0,1):=by kernel_rfl
@[go_sem] theorem Cw7:tyF Tryz.prog 225 0=some (0,2,64):=by kernel_rfl
@[go_sem] theorem Cw6:tyF Tryz.prog 225 1=some (64,0,1):=by kernel_rfl
@[go_sem] theorem Dk5:tyZ Tryz.prog 225=some (1,rep 64 (.int .i64 0)++[.int .u64 0]):=by kernel_rfl
@[go_sem] theorem D43:Gg Tryz.prog 229=some (35,1,24):=by kernel_rfl
@[go_sem] theorem D42:Gg Tryz.prog 230=some (3,1,8):=by kernel_rfl
@[go_sem] theorem D41:Gg Tryz.prog 243=some (27,1,24):=by kernel_rfl
@[go_sem] theorem Dm2:tyK Tryz.prog 246=some (0,1):=by kernel_rfl
def Yf (s:Ab):List IV:=[.val (.int .i64 s.count),.val (.int .i64 s.node)]
def P9 (s:Ad):List IV:=[.val (.int .i64 s.lo),.val (.int .i64 s.hi)]
def enW (y:Ai):List IV:=[.val (.int .i64 y.stamp.count),.val (.int .i64 y.stamp.node),.val (.int .i64 y.object),.val (.bool y.gone)]
def stI (l:List Ab):IV:=.sl 2 (l.map Yf)
def spI (l:List Ad):IV:=.sl 2 (l.map P9)
def wrI (l:List Ai):IV:=.sl 4 (l.map enW)
def enN (x:At):List IV:=[stI x.start,stI x.end_,spI x.blur,wrI x.writes]
def noI (l:List At):IV:=.sl 4 (l.map enN)
def stA (l:List Ab):AV:=.iv (stI l)
def spA (l:List Ad):AV:=.iv (spI l)
def Ev (x:At):AV:=.agg [.iv (stI x.start),.iv (stI x.end_),.iv (spI x.blur),.iv (wrI x.writes)]
theorem Bt0 (s:Ad):P9 s=[.val (.int .i64 s.lo),.val (.int .i64 s.hi)]:=rfl
theorem Fc (y:Ai):enW y=[.val (.int .i64 y.stamp.count),.val (.int .i64 y.stamp.node),.val (.int .i64 y.object),.val (.bool y.gone)]:=rfl
theorem Mk (x:At):enN x=[stI x.start,stI x.end_,spI x.blur,wrI x.writes]:=rfl
section
variable {X : World} {v : Value}
theorem Xv {cs:List Value} {s:Ab} (h:H9 cs s):Ba X cs (Yf s):=by
 obtain ⟨rfl,h1,h2⟩:=h;exact ⟨.val h1,.val h2,trivial⟩
theorem Cr7 {cs:List Value} {s:Ab} (h:Ba X cs (Yf s)):H9 cs s:=by
 match cs,h with
 | [a,b],⟨h1,h2,_⟩=>cases h1 with | val i1=>cases h2 with | val i2=>exact ⟨rfl,i1,i2⟩
theorem Rm {cs:List Value} {s:Ad} (h:Es cs s):Ba X cs (P9 s):=by
 obtain ⟨rfl,h1,h2⟩:=h;exact ⟨.val h1,.val h2,trivial⟩
theorem Cr8 {cs:List Value} {s:Ad} (h:Ba X cs (P9 s)):Es cs s:=by
 match cs,h with
 | [a,b],⟨h1,h2,_⟩=>cases h1 with | val i1=>cases h2 with | val i2=>exact ⟨rfl,i1,i2⟩
theorem Cm8 {cs:List Value} {s:Ai} (h:Yq cs s):Ba X cs (enW s):=by
 obtain ⟨rfl,h1,h2,h3⟩:=h;exact ⟨.val h1,.val h2,.val h3,.val trivial,trivial⟩
theorem Db5 {cs:List Value} {s:Ai} (h:Ba X cs (enW s)):Yq cs s:=by
 match cs,h with
 | [a,b,c,d],⟨h1,h2,h3,h4,_⟩=>cases h1 with | val i1=>cases h2 with | val i2=>cases h3 with | val i3=>cases h4 with | val i4=>exact ⟨rfl,i1,i2,i3⟩
theorem Da.stamps {l:List Ab} (h:Da X v (stI l)):Co X X.heap.size v l:=h.to_typed fun _ _ _ h=>Cr7 h
theorem Da.spans {l:List Ad} (h:Da X v (spI l)):Dl X X.heap.size v l:=h.to_typed fun _ _ _ h=>Cr8 h
theorem Da.writes {l:List Ai} (h:Da X v (wrI l)):Qu X X.heap.size v l:=h.to_typed fun _ _ _ h=>Db5 h
theorem Li {l:List Ab} {B:Nat} (h:Co X B v l) (hB:B<=X.heap.size):Da X v (stI l):=Da.of_typed (fun _ _ h=>Xv h) h hB
theorem Mx {l:List Ad} {B:Nat} (h:Dl X B v l) (hB:B<=X.heap.size):Da X v (spI l):=Da.of_typed (fun _ _ h=>Rm h) h hB
theorem Xk {l:List Ai} {B:Nat} (h:Qu X B v l) (hB:B<=X.heap.size):Da X v (wrI l):=Da.of_typed (fun _ _ h=>Cm8 h) h hB
theorem S3 {E:Env} {w:World} (he:Ext X w) {x:At} (h:Bp E X v (Ev x)):∃ v0 v1 v2 v3,v=.agg #[v0,v1,v2,v3]/\Sq w w.heap.size v0 v1 v2 v3 x:=by
 cases h with
 | @agg vs _ h1 h2 =>
  obtain ⟨l⟩:=vs
  match l,h1 with
  | [v0,v1,v2,v3],_ =>
   have a0:=h2 0 v0 _ rfl rfl
   have a1:=h2 1 v1 _ rfl rfl
   have a2:=h2 2 v2 _ rfl rfl
   have a3:=h2 3 v3 _ rfl rfl
   cases a0 with | iv a0=>cases a1 with | iv a1=>cases a2 with | iv a2=>cases a3 with | iv a3 =>
   exact ⟨v0,v1,v2,v3,rfl,a0.stamps.ext (fun _ _ h=>h) he,a1.stamps.ext (fun _ _ h=>h) he,a2.spans.ext (fun _ _ h=>h) he,a3.writes.ext (fun _ _ h=>h) he⟩
theorem Cb1 {E:Env} {v0 v1 v2 v3:Value} {x:At} (h:Sq X X.heap.size v0 v1 v2 v3 x):Bp E X (.agg #[v0,v1,v2,v3]) (Ev x) :=
 .agg rfl fun j v c a b=>by
  match j,a,b with
  | 0,a,b=>simp at a b;subst a b;exact .iv (Li h.start (Nat.le_refl _))
  | 1,a,b=>simp at a b;subst a b;exact .iv (Li h.end_ (Nat.le_refl _))
  | 2,a,b=>simp at a b;subst a b;exact .iv (Mx h.blur (Nat.le_refl _))
  | 3,a,b=>simp at a b;subst a b;exact .iv (Xk h.writes (Nat.le_refl _))
  | j+4,a,b=>simp at a
theorem Bw.map_ {α β:Type} {R:List Value->α->Prop} {R':List Value->β->Prop} {f:α->β} {k:Nat} (hR:∀ cs x,R cs x->R' cs (f x)):∀ {xs:List Value} {l:List α},Bw R k xs l->Bw R' k xs (l.map f)
 | _,[],h=>h
 | _,_ :: _,⟨cs,rest,e,hk,h1,h⟩=>⟨cs,rest,e,hk,hR _ _ h1,Bw.map_ hR h⟩
theorem Ah.map_ {α β:Type} {R:List Value->α->Prop} {R':List Value->β->Prop} {f:α->β} {k:Nat} {w:World} {base:Nat} {e:TypeId} {l:List α} (hR:∀ cs x,R cs x->R' cs (f x)) (h:Ah R k w base e v l):Ah R' k w base e v (l.map f):=by
 obtain ⟨xs,h1,h2,h3⟩:=h
 exact ⟨xs,by rw [List.length_map];exact h1,h2.map_ hR,by rw [List.length_map];exact h3⟩
end
section
variable {P : Program} {G : World -> Prop} {f : FuncId} {fn : Func} {c : Code}
theorem Vi (hf : P.funcs[f]? = some fn) (hb : fn.body = some c) (hname : (fn.name == "runtime.NumGoroutine") = false) (vs : Array Value) (w : World) : (callFunc f vs).run P w = .ok (.enter f vs) w := by
 have hname' : ¬ fn.name = "runtime.NumGoroutine" := by simpa using hname
 simp [callFunc,program,Sem.run,hf,hname',hb]
theorem Bp9 {args : List AV} {r : AV} (hf : P.funcs[f]? = some fn) (hb : fn.body = some c) (hname : (fn.name == "runtime.NumGoroutine") = false)
  (h:∀ (V w:World) (E:Env) (vs:Array Value),Ext V w->G w->Au E V vs.toList args->Calls P f vs w fun e w'=>∃ v,e=.returned v/\Below w.heap.size w w'/\Bp E (vis V w w' []) v r):A7 P G f args r [] :=
 ⟨Vi hf hb hname,fun V w E vs hV hG hr=>(h V w E vs hV hG hr).mono fun _ w' ⟨v,he,hb,hv⟩=>⟨v,E,he,hb,List.nodup_nil,fun _ h=>(by cases h),fun _ h=>(by cases h),hv⟩⟩
theorem Jk {E:Env} {V:World} {vs:Array Value} {a:AV} (h:Au E V vs.toList [a]):∃ v,vs=#[v]/\Bp E V v a:=by
 obtain ⟨v,vs',h1,h2,h3⟩:=Au.cons_iff.1 h
 rw [Au.nil_iff] at h3
 subst h3
 exact ⟨v,by rw [<-Array.toArray_toList (xs:=vs),h1],h2⟩
theorem Js {E:Env} {V:World} {vs:Array Value} {a b:AV} (h:Au E V vs.toList [a,b]):∃ v u,vs=#[v,u]/\Bp E V v a/\Bp E V u b:=by
 obtain ⟨v,vs',h1,h2,h3⟩:=Au.cons_iff.1 h
 obtain ⟨u,vs2,rfl,h4,h5⟩:=Au.cons_iff.1 h3
 rw [Au.nil_iff] at h5
 subst h5
 exact ⟨v,u,by rw [<-Array.toArray_toList (xs:=vs),h1],h2,h4⟩
theorem D3 {E:Env} {V w:World} {v:Value} {l:List Ab} (hV:Ext V w) (h:Bp E V v (.iv (stI l))):Co w w.heap.size v l:=by
 cases h with | iv h=>exact h.stamps.ext (fun _ _ h=>h) hV
theorem Fg {E:Env} {V w:World} {v:Value} {l:List Ad} (hV:Ext V w) (h:Bp E V v (.iv (spI l))):Dl w w.heap.size v l:=by
 cases h with | iv h=>exact h.spans.ext (fun _ _ h=>h) hV
theorem C14 {E:Env} {V w:World} {v:Value} {l:List Ai} (hV:Ext V w) (h:Bp E V v (.iv (wrI l))):Qu w w.heap.size v l:=by
 cases h with | iv h=>exact h.writes.ext (fun _ _ h=>h) hV
theorem C8 {args : List AV} {v : Value} (hf : P.funcs[f]? = some fn) (hb : fn.body = some c) (hname : (fn.name == "runtime.NumGoroutine") = false)
  (h:∀ (V w:World) (E:Env) (vs:Array Value),Ext V w->G w->Au E V vs.toList args->Calls P f vs w fun e w'=>e=.returned v/\Below w.heap.size w w'):A7 P G f args (.val v) [] :=
 ⟨Vi hf hb hname,fun V w E vs hV hG hr=>(h V w E vs hV hG hr).mono fun _ w' ⟨he,hb⟩=>⟨v,E,he,hb,List.nodup_nil,fun _ h=>(by cases h),fun _ h=>(by cases h),.val⟩⟩
theorem Dt {α : Type} {R : List Value -> α -> Prop} {enc : α -> List IV} {k T : Nat} {l : List α} (hR : ∀ X cs x, R cs x -> Ba X cs (enc x)) {args : List AV} (hf : P.funcs[f]? = some fn) (hb : fn.body = some c) (hname : (fn.name == "runtime.NumGoroutine") = false)
  (h:∀ (V w:World) (E:Env) (vs:Array Value),Ext V w->G w->Au E V vs.toList args->Calls P f vs w fun e w'=>(∃ v,e=.returned v/\Ah R k w' w.heap.size T v l)/\Below w.heap.size w w'):A7 P G f args (.own 0) [.row 0 T k (l.map enc)] :=
 ⟨Vi hf hb hname,fun V w E vs hV hG hr=>(h V w E vs hV hG hr).mono fun _ w' ⟨⟨v,he,hO⟩,hb⟩=>by
  obtain ⟨A,cc,hv⟩:=hO.form
  have ho:Ac ⟨fun _=>(v.ownBlock).getD 0,fun _=>v⟩ [.row 0 T k (l.map enc)]=v.ownBlock.toList:=by simp [Ac,BA.owned]
  refine ⟨v,⟨fun _=>(v.ownBlock).getD 0,fun _=>v⟩,he,hb,by rw [ho];cases v.ownBlock<;>simp,fun g hg=>by rw [ho,Option.mem_toList] at hg;exact (hO.lt g hg).1,fun b hb'=>?_,?_⟩
  ·simp only [List.mem_singleton] at hb'
   subst hb'
   exact ⟨hO.map_ fun cs x h=>hR _ cs x h,fun g hg=>by simp [hg]⟩
  ·rw [hv]
   exact .own rfl⟩
end
end Go.Proofs.YthlgnjlpakimaaaGreatDoor
